/- What the laws on the document's plain forest share: edges, walks, errors; SameInts, CopyInts. Conditions: none. -/
import Derived.Test.YtkkobfajahmfaaaEuL
import Derived.Test.YtkkobfajahmfaaaEuS
import Derived.Test.YtkkobfajahmfaaaRdB
import Derived.Test.YtkkobfajahmfaaaMapG
namespace Go.Dn
open Go.RowKit
set_option linter.unusedVariables false
structure E where
  id : Int
  u : Int
  v : Int
  w : Int
def zE : E := ⟨0, 0, 0, 0⟩
def eC (e : E) : Array Value := #[.int .i64 e.id, .int .i64 e.u, .int .i64 e.v, .int .i64 e.w]
def oth (e : E) (m : Int) : Int := if e.u = m then e.v else e.u
inductive Wk (es : List E) : Int → List E → Int → Prop
  | nil (u : Int) : Wk es u [] u
  | cons {e : E} {m v : Int} {p : List E} (he : e ∈ es) (hm : e.u = m ∨ e.v = m) (h : Wk es (oth e m) p v) : Wk es m (e :: p) v
def NB : List E → Prop
  | [] => True
  | [_] => True
  | a :: b :: l => a.id ≠ b.id ∧ NB (b :: l)
theorem NB.tail {a : E} {l : List E} (h : NB (a :: l)) : NB l := by
  cases l with
  | nil => trivial
  | cons b l => exact h.2
theorem oth_end (e : E) (m : Int) : e.u = oth e m ∨ e.v = oth e m := by unfold oth; split <;> simp
theorem oth_only {e : E} {m n : Int} (hm : e.u = m ∨ e.v = m) (hn : e.u = n ∨ e.v = n) (h : n ≠ m) : n = oth e m := by
  unfold oth
  split
  · rename_i h1
    rcases hn with h2 | h2
    · exact absurd (h2.symm.trans h1) h
    · exact h2.symm
  · rename_i h1
    rcases hn with h2 | h2
    · exact h2.symm
    · rcases hm with h3 | h3
      · exact absurd h3 h1
      · exact absurd (h2.symm.trans h3) h
def deg : List E → Int → Int
  | [], _ => 0
  | e :: es, v => (if e.u = v then 1 else 0) + (if e.v = v then 1 else 0) + deg es v
theorem deg_nn : ∀ (es : List E) (v : Int), 0 ≤ deg es v
  | [], _ => Int.le_refl _
  | e :: es, v => by
    have := deg_nn es v
    simp only [deg]
    split <;> split <;> omega
theorem deg_zero : ∀ {es : List E} {v : Int}, deg es v = 0 ↔ ∀ e ∈ es, e.u ≠ v ∧ e.v ≠ v
  | [], _ => by simp [deg]
  | e :: es, v => by
    have h1 := deg_nn es v
    have h2 := deg_zero (es := es) (v := v)
    simp only [deg, List.mem_cons, forall_eq_or_imp, ← h2]
    split <;> split <;> simp_all <;> omega
theorem Wk.inv {es : List E} {Q : Int → Prop} (hQ : ∀ e ∈ es, Q e.u ↔ Q e.v) {u v : Int} {p : List E} (h : Wk es u p v) : Q u → Q v := by
  induction h with
  | nil => exact id
  | cons he hm h ih =>
    rename_i e m v p
    intro hq
    refine ih ?_
    unfold oth
    split
    · rename_i h1; rw [← hQ e he, h1]; exact hq
    · rename_i h1; rw [hQ e he, hm.resolve_left h1]; exact hq
def noE (es : List E) (i : Int) : List E := es.filter fun e => !(e.id == i)
theorem noE_mem {es : List E} {i : Int} {e : E} : e ∈ noE es i ↔ e ∈ es ∧ e.id ≠ i := by simp [noE]
theorem noE_ids (es : List E) (i : Int) (h : (es.map E.id).Nodup) : (noE es i).map E.id = (es.map E.id).erase i := by
  induction es with
  | nil => rfl
  | cons e es ih =>
    rw [List.map_cons, List.nodup_cons] at h
    have h2 := ih h.2
    unfold noE at h2 ⊢
    by_cases he : e.id = i
    · rw [List.filter_cons_of_neg (by simp [he]), h2, List.map_cons, he, List.erase_cons_head, List.erase_of_not_mem (he ▸ h.1)]
    · rw [List.filter_cons_of_pos (by simp [he]), List.map_cons, List.map_cons, h2, List.erase_cons_tail (by simpa using he)]
end Go.Dn
namespace Go.Proofs.Ytkkobfajahmfaaa.Rd
open Go.Dn Go.RowKit
set_option linter.unusedVariables false
set_option maxRecDepth 100000
abbrev TI : TypeId := 3
def badI (i : Int) : Prop := i < 1 ∨ i > 2147483647
theorem W64.nat {n : Nat} (h : n ≤ 1000000) : W64 (n : Int) := by unfold W64; omega
def edgeE (es : List E) (i : Int) : E := (es.find? fun e => e.id == i).getD zE
def edgeB (es : List E) (i : Int) : Bool := es.any fun e => e.id == i
theorem W64.id {i : Int} (h : ¬ badI i) : W64 i ∧ 1 ≤ i ∧ i ≤ 2147483647 := by unfold badI at h; unfold W64; omega
instance (i : Int) : Decidable (badI i) := inferInstanceAs (Decidable (_ ∨ _))
def addVC (vs : List Int) (v : Int) : Int := if badI v then 1 else if v ∈ vs then 50 else if 2048 ≤ vs.length then 55 else 0
def delVC (vs : List Int) (es : List E) (v : Int) : Int := if badI v then 1 else if v ∉ vs then 51 else if 0 < deg es v then 52 else 0
def linkC (vs : List Int) (es : List E) (e : E) (j : Bool) : Int := if badI e.id ∨ badI e.u ∨ badI e.v then 1 else if e.w < 0 ∨ 1099511627776 < e.w then 53 else if e.id ∈ es.map E.id then 50 else if ¬ (e.u ∈ vs ∧ e.v ∈ vs) then 51 else if j = true then 151 else 0
theorem linkC_zero {vs : List Int} {es : List E} {e : E} {j : Bool} (h : linkC vs es e j = 0) : ¬ badI e.id ∧ ¬ badI e.u ∧ ¬ badI e.v ∧ 0 ≤ e.w ∧ e.w ≤ 1099511627776 ∧ e.id ∉ es.map E.id ∧ e.u ∈ vs ∧ e.v ∈ vs ∧ j = false := by
  unfold linkC at h
  split at h
  · cases h
  split at h
  · cases h
  split at h
  · cases h
  split at h
  · cases h
  split at h
  · cases h
  rename_i h1 h2 h3 h4 h5
  simp only [not_or] at h1 h2
  have h4 := Classical.not_not.1 h4
  exact ⟨h1.1, h1.2.1, h1.2.2, by omega, by omega, h3, h4.1, h4.2, by simpa using h5⟩
def cutC (es : List E) (i : Int) : Int := if badI i then 1 else if i ∉ es.map E.id then 152 else 0
def Jn (es : List E) (u v : Int) : Prop := ∃ p, Wk es u p v ∧ NB p
theorem edge4 {w : World} {e : E} {Q : Nat → World → Prop} (hQ : ∀ w' b, w.heap.size ≤ b → HB w' b (eC e) 50 → Below w.heap.size w w' → Q b w') :
    alW w (.cells #[.int .i64 (0 : Int), .int .i64 (0 : Int), .int .i64 (0 : Int), .int .i64 (0 : Int)] 50) fun B w1 =>
      stW w1 (⟨B, 0, none⟩ : Addr) (.int .i64 e.id) fun w2 => stW w2 ((⟨B, 0, none⟩ : Addr).add 1) (.int .i64 e.u) fun w3 => stW w3 ((⟨B, 0, none⟩ : Addr).add 2) (.int .i64 e.v) fun w4 => stW w4 ((⟨B, 0, none⟩ : Addr).add 3) (.int .i64 e.w) fun w5 => Q B w5 := by
  refine al_new fun w1 b1 e1 s1 h1 g1 => ?_
  refine hb_st0 h1 (by simp) fun w2 h2 k2 => hb_st h2 (j := 1) (by simp) fun w3 h3 k3 => hb_st h3 (j := 2) (by simp) fun w4 h4 k4 => hb_st h4 (j := 3) (by simp) fun w5 h5 k5 => ?_
  have k := (k2.trans k3).trans (k4.trans k5)
  exact hQ w5 b1 (by omega) h5 (g1.trans ((k.below (B := w.heap.size) (by omega) fun i hi e => by omega)))
theorem TIn' : ElTy Try.prog 22 3 (.int .i64 0) 8 := ⟨by kernel_rfl, by kernel_rfl⟩

/-! ### SameInts, CopyInts -/
theorem Same_l0 {A1 A2 : Option Addr} {l1 l2 : List Int} {c1 c2 : Nat} (hlen : l1.length = l2.length) (hmax : l1.length ≤ 17592186044416) {w0 : World} (r1 : RI w0 A1 l1) (r2 : RI w0 A2 l2) {K0 : World → Prop} {Kr : Bool → World → Prop}
    (h0 : l1 = l2 → ∀ w', Below w0.heap.size w0 w' → K0 w') (h1 : l1 ≠ l2 → ∀ w', Below w0.heap.size w0 w' → Kr false w') : ∀ (m i : Nat) (w : World), l1.length - i = m → i ≤ l1.length → l1.take i = l2.take i → Below w0.heap.size w0 w →
    f_ref01_SameInts.l0 (m + 1) A1 l1.length c1 A2 l2.length c2 (i : Int) w K0 Kr := by
  intro m
  induction m with
  | zero =>
    intro i w hm hi ht hb
    have : i = l1.length := by omega
    subst this
    unfold f_ref01_SameInts.l0
    refine sel_f (by simp) (h0 ?_ w hb)
    rw [List.take_length, hlen, List.take_length] at ht; exact ht
  | succ m ih =>
    intro i w hm hi ht hb
    have hlt : i < l1.length := by omega
    have hlt2 : i < l2.length := by omega
    have hbd := hb.drew
    obtain ⟨a1, rfl, q1⟩ := (r1.below hbd (Nat.le_refl _)) i hlt
    obtain ⟨a2, rfl, q2⟩ := (r2.below hbd (Nat.le_refl _)) i hlt2
    unfold f_ref01_SameInts.l0
    refine sel_t (by simpa using hlt) (drW_intro (optB_some rfl (req_intro (by simp; omega) (ldI_intro (x := l1[i]) (by rw [Int.toNat_natCast, Nat.mul_one]; exact q1) (optB_some rfl (req_intro (by simp; omega) (ldI_intro (x := l2[i]) (by rw [Int.toNat_natCast, Nat.mul_one]; exact q2) ?_)))))))
    by_cases e : l1[i] = l2[i]
    · refine sel_f (by simp [e]) ?_
      rw [w64_in (by omega), show (i : Int) + 1 = ((i + 1 : Nat) : Int) by omega]
      exact ih (i + 1) _ (by omega) (by omega) (by rw [List.take_succ_eq_append_getElem hlt, List.take_succ_eq_append_getElem hlt2, ht, e]) hbd
    · refine sel_t (by simp [e]) (h1 ?_ _ hbd)
      intro he; subst he; exact e rfl
theorem SameInts_ok {w : World} {A1 A2 : Option Addr} {l1 l2 : List Int} {n1 n2 c1 c2 : Nat} (r1 : RI w A1 l1) (e1 : n1 = l1.length) (r2 : RI w A2 l2) (e2 : n2 = l2.length) (hmax : l1.length ≤ 17592186044416) :
    Calls Try.prog 13 #[.slice A1 n1 c1, .slice A2 n2 c2] w fun e w' => e = .returned (.bool (decide (l1 = l2))) ∧ Below w.heap.size w w' := by
  subst e1; subst e2
  apply f_ref01_SameInts.ok
  unfold f_ref01_SameInts.wp
  by_cases hl : l1.length = l2.length
  · refine sel_f (by simp [hl]) ⟨_, Same_l0 hl hmax r1 r2 ?_ ?_ l1.length 0 w rfl (by omega) (by simp) (Below.refl _ _)⟩
    · intro e w' hb _; exact ⟨by simp [e], hb⟩
    · intro e w' hb _; exact ⟨by simp [e], hb⟩
  · refine sel_t (by simp only [bne_iff_ne, ne_eq]; omega) ⟨?_, Below.refl _ _⟩
    have : l1 ≠ l2 := fun e => hl (by rw [e])
    simp [this]
theorem Copy_l0 {A1 : Option Addr} {l1 : List Int} {c1 : Nat} (hmax : l1.length ≤ 17592186044416) {w0 : World} (r1 : RI w0 A1 l1) {K0 : Option Addr → Nat → Nat → World → Prop}
    (h0 : ∀ A c w', OwnI w' w0.heap.size 3 (some A) c l1 → Below w0.heap.size w0 w' → K0 (some A) l1.length c w') : ∀ (m i : Nat) (A : Addr) (c : Nat) (w : World), l1.length - i = m → i ≤ l1.length → OwnI w w0.heap.size 3 (some A) c (l1.take i) → Below w0.heap.size w0 w →
    f_ref01_CopyInts.l0 (m + 1) A1 l1.length c1 (some A) i c (i : Int) w K0 := by
  intro m
  induction m with
  | zero =>
    intro i A c w hm hi ho hb
    have : i = l1.length := by omega
    subst this
    unfold f_ref01_CopyInts.l0
    rw [List.take_length] at ho
    exact sel_f (by simp) (h0 A c w ho hb)
  | succ m ih =>
    intro i A c w hm hi ho hb
    have hlt : i < l1.length := by omega
    obtain ⟨a1, rfl, q1⟩ := (r1.below hb (Nat.le_refl _)) i hlt
    unfold f_ref01_CopyInts.l0
    refine sel_t (by simpa using hlt) (optB_some rfl (req_intro (by simp; omega) (ldI_intro (x := l1[i]) (by rw [Int.toNat_natCast, Nat.mul_one]; exact q1) (alW_intro ?_))))
    have hb2 := hb.trans ((bal w (.cells #[.int .i64 l1[i]] 3)).mono hb.size)
    have ho2 := ho.keeps (S := fun _ => False) (.of_below (bal w (.cells #[.int .i64 l1[i]] 3))) (fun _ _ => id)
    refine appI_runs TIn ho2 (by rw [List.length_take]; omega) (RI.lit w [l1[i]] rfl _) rfl (fun h => by cases h) hb2.size (by rw [List.length_take]; simp; omega) fun A' c' w' ho' hb' _ _ => ?_
    have e : l1.take i ++ [l1[i]] = l1.take (i + 1) := (List.take_succ_eq_append_getElem hlt).symm
    rw [e] at ho' ⊢
    obtain ⟨A'', rfl⟩ : ∃ A'', A' = some A'' := by
      cases A' with
      | some A'' => exact ⟨_, rfl⟩
      | none => exact absurd (ho'.le) (by rw [ho'.nil0 rfl, List.length_take]; omega)
    rw [show (l1.take (i + 1)).length = i + 1 by rw [List.length_take]; omega, w64_in (by omega), show (i : Int) + 1 = ((i + 1 : Nat) : Int) by omega]
    exact ⟨_, _, _, rfl, ih (i + 1) A'' c' w' (by omega) (by omega) ho' (hb2.trans hb')⟩
theorem CopyInts_ok {w : World} {A1 : Option Addr} {l1 : List Int} {n1 c1 : Nat} (r1 : RI w A1 l1) (e1 : n1 = l1.length) (hmax : l1.length ≤ 17592186044416) :
    Calls Try.prog 14 #[.slice A1 n1 c1] w fun e w' => ∃ A c, e = .returned (.slice (some A) l1.length c) ∧ OwnI w' w.heap.size 3 (some A) c l1 ∧ Below w.heap.size w w' := by
  subst e1
  apply f_ref01_CopyInts.ok
  unfold f_ref01_CopyInts.wp
  refine alW_intro ?_
  have ho := OwnI.lit (w := w) (B := w.heap.size) (e := 3) [] (cs := #[]) rfl (Nat.le_refl _) (by simp)
  refine ⟨_, Copy_l0 hmax r1 (fun A c w' ho hb _ => ⟨A, c, rfl, ho, hb⟩) l1.length 0 ⟨w.heap.size, 0, none⟩ 0 _ rfl (by omega) ho (bal _ _)⟩

end Go.Proofs.Ytkkobfajahmfaaa.Rd
