/- Rows of numbers and of edges as the document's forest has them: reading, appending. Conditions: none. -/
import Derived.Test.YtkkobfajahmfaaaErA
namespace Go.Dn
open Go.RowKit
set_option linter.unusedVariables false
def eV (e : E) : List Value := [.int .i64 e.id, .int .i64 e.u, .int .i64 e.v, .int .i64 e.w]
def eVs (l : List E) : List Value := l.flatMap eV
theorem eVs_len (l : List E) : (eVs l).length = l.length * 4 := by
  induction l with
  | nil => rfl
  | cons e l ih => simp only [eVs, List.flatMap_cons, List.length_append, List.length_cons] at ih ⊢; rw [ih]; simp [eV]; omega
theorem eVs_app (l m : List E) : eVs (l ++ m) = eVs l ++ eVs m := by simp [eVs]
theorem eVs_get {l : List E} : ∀ {i j : Nat} (hi : i < l.length) (hj : j < 4), (eVs l)[i * 4 + j]? = (eV l[i])[j]? := by
  induction l with
  | nil => intro i j hi; simp at hi
  | cons e l ih =>
    intro i j hi hj
    cases i with
    | zero => simp only [eVs, List.flatMap_cons, Nat.zero_mul, Nat.zero_add, List.getElem_cons_zero]; rw [List.getElem?_append_left (by simp [eV]; omega)]
    | succ i =>
      have := ih (i := i) (j := j) (by simp at hi; omega) hj
      simp only [eVs, List.flatMap_cons, List.getElem_cons_succ] at this ⊢
      rw [List.getElem?_append_right (by simp [eV]; omega), ← this]
      congr 1
      simp [eV]; omega
/-- a row of edges, readable -/
structure REd (w : World) (a : Addr) (i : Nat) (e : E) : Prop where
  c0 : w.cell? (a.add (i * 4)) = some (.int .i64 e.id)
  c1 : w.cell? ((a.add (i * 4)).add 1) = some (.int .i64 e.u)
  c2 : w.cell? ((a.add (i * 4)).add 2) = some (.int .i64 e.v)
  c3 : w.cell? ((a.add (i * 4)).add 3) = some (.int .i64 e.w)
def RE (w : World) (A : Option Addr) (l : List E) : Prop := ∀ i (hi : i < l.length), ∃ a, A = some a ∧ REd w a i l[i]
theorem RE.keeps {S : Nat → Prop} {w w' : World} {A : Option Addr} {l : List E} (h : RE w A l) (hk : Keeps S w w') (hA : ∀ a, A = some a → ¬ S a.block) : RE w' A l := fun i hi => by
  obtain ⟨a, ha, h0, h1, h2, h3⟩ := h i hi
  have n := hA a ha
  exact ⟨a, ha, hk.cell h0 (by simpa only [add_block] using n), hk.cell h1 (by simpa only [add_block] using n), hk.cell h2 (by simpa only [add_block] using n), hk.cell h3 (by simpa only [add_block] using n)⟩
theorem RE.below {w w' : World} {A : Option Addr} {l : List E} (h : RE w A l) (hb : Below w.heap.size w w') : RE w' A l := h.keeps (S := fun _ => False) (.of_below hb) fun _ _ => id
theorem RI.belw {w w' : World} {A : Option Addr} {l : List Int} (h : RI w A l) (hb : Below w.heap.size w w') : RI w' A l := h.keeps (S := fun _ => False) (.of_below hb) fun _ _ => id
def OwnEd (w : World) (B e : Nat) (A : Option Addr) (c : Nat) (l : List E) : Prop := w.ownsRow B e 4 (.slice A l.length c) l.length (eVs l)
theorem OwnEd.none (w : World) (B e : Nat) : OwnEd w B e .none 0 [] := World.ownsRow_nil _ _ _ _
theorem OwnEd.keeps {S : Nat → Prop} {w w' : World} {B e : Nat} {A : Option Addr} {c : Nat} {l : List E} (h : OwnEd w B e A c l) (hk : Keeps S w w') (hA : ∀ a, A = some a → ¬ S a.block) : OwnEd w' B e A c l :=
  Keeps.own h hk (fun k hk' => by
    cases A with
    | none => cases hk'
    | some a => injection hk' with hk'; subst hk'; exact hA a rfl)
theorem OwnEd.block {w : World} {B e : Nat} {A : Option Addr} {c : Nat} {l : List E} (h : OwnEd w B e A c l) : ∀ a, A = some a → B ≤ a.block ∧ a.block < w.heap.size := by
  intro a ha; subst ha
  exact World.ownsRow.lt h a.block rfl
theorem OwnEd.reads {w : World} {B e : Nat} {A : Option Addr} {c : Nat} {l : List E} (h : OwnEd w B e A c l) : RE w A l := by
  intro i hi
  obtain ⟨hl, h⟩ := h
  rcases h with ⟨_, h0⟩ | ⟨g, cap, cur, hv, hg, hh, hn, hm, hs, ht⟩
  · omega
  · injection hv with hA hn' hc
    have hx := World.ownsRow.cellAt (w := w) (base := B) (e := e) (size := 4) (g := g) (n := l.length) (cap := cap) (xs := eVs l) ⟨hl, .inr ⟨g, cap, cur, rfl, hg, hh, hn, hm, hs, ht⟩⟩
    have key : ∀ j, j < 4 → w.cell? (((⟨g, 0, .none⟩ : Addr).add (i * 4)).add j) = (eV l[i])[j]? := fun j hj => by
      rw [add_add, add_mk, Nat.zero_add, hx (i * 4 + j) (by omega), eVs_get hi hj]
    refine ⟨_, hA, ?_, key 1 (by omega), key 2 (by omega), key 3 (by omega)⟩
    have := key 0 (by omega)
    rw [add_add, Nat.add_zero] at this
    exact this
end Go.Dn
namespace Go.Proofs.Ytkkobfajahmfaaa.Rd
open Go.Dn Go.RowKit
set_option linter.unusedVariables false
set_option maxRecDepth 100000
abbrev TE : TypeId := 50
theorem TEd : Try.prog.underlying 39 = some (.slice TE) := by kernel_rfl
theorem TEdI : (Try.prog.info? TE).map (fun i => (i.zero, i.size, i.bytes)) = some (some (.agg #[.int .i64 0, .int .i64 0, .int .i64 0, .int .i64 0]), 4, 32) := by kernel_rfl
theorem TEd_info : ∃ i, Try.prog.info? TE = some i ∧ (∃ z, i.zero = some z ∧ z.cells.size = 4) ∧ i.size = 4 ∧ i.bytes = 32 := by
  have := TEdI
  cases hi : Try.prog.info? TE with
  | none => rw [hi] at this; cases this
  | some i =>
    rw [hi] at this
    simp only [Option.map_some, Option.some.injEq, Prod.mk.injEq] at this
    exact ⟨i, rfl, ⟨_, this.1, rfl⟩, this.2.1, this.2.2⟩
def Ob (A : Option Addr) (k : Nat) : Prop := ∃ a, A = some a ∧ a.block = k
theorem ob_own {A : Option Addr} {n c k : Nat} (h : some k = (Value.slice A n c).ownBlock) : Ob A k := by
  cases A with
  | none => simp [Value.ownBlock] at h
  | some a => exact ⟨a, rfl, by simpa [Value.ownBlock] using h.symm⟩
/-- an edge appended to a row of one's own -/
theorem app_ed {w : World} {B : Nat} {A : Option Addr} {n c : Nat} {l : List E} (ho : OwnEd w B TE A c l) (hn : n = l.length) {b : Nat} {e : E} {t : TypeId} (hb : HB w b (eC e) t) (hB : B ≤ w.heap.size) (hl : l.length ≤ 1000000) {K : Value → World → Prop}
    (hK : ∀ A' c' w', OwnEd w' B TE (some A') c' (l ++ [e]) → Keeps (Ob A) w w' → (A = some A' ∨ w.heap.size ≤ A'.block) → K (.slice (some A') (l ++ [e]).length c') w') :
    Runs Try.prog (Builtin.append_ #[39, 39] 39 #[.slice A n c, .slice (some (⟨b, 0, none⟩ : Addr)) 1 1]) w K := by
  subst hn
  obtain ⟨i, hi, ⟨z, hz, hz1⟩, hs, hby⟩ := TEd_info
  have hnews : ∀ j u, (eV e)[j]? = some u → w.cell? ((⟨b, 0, none⟩ : Addr).add j) = some u := fun j u hj => by
    rw [hb.cell, ← Array.getElem?_toList]; exact hj
  have hone : ∀ u ∈ eV e, u.oneCell' = true := fun u hu => by simp [eV] at hu; rcases hu with rfl | rfl | rfl | rfl <;> rfl
  obtain ⟨v', w', hrun, ho', hg, _⟩ := run_append_own (P := Try.prog) w B 39 39 TE i z 4 32 TEd hi hz hs hby hz1 (by decide) (.slice A l.length c) l.length (eVs l) ho ⟨b, 0, none⟩ 1 1 (eV e) (by simp [eV]) hnews hone (by unfold maxLen; omega) (by omega) hB
  have hk : Keeps (Ob A) w w' := ⟨hg.os, hg.tape, hg.output, hg.size, fun k hk hn => hg.block k hk fun h => hn (ob_own h)⟩
  have hev : eVs l ++ eV e = eVs (l ++ [e]) := by rw [eVs_app]; simp [eVs]
  rw [hev] at ho'
  obtain ⟨A', c', rfl⟩ : ∃ A' c', v' = .slice (some A') (l.length + 1) c' := by
    obtain ⟨_, h⟩ := ho'
    rcases h with ⟨h1, h2⟩ | ⟨g, cap, cur, hv, _⟩
    · omega
    · exact ⟨_, _, hv⟩
  have hlen : (l ++ [e]).length = l.length + 1 := by simp
  refine runs_of hrun ?_
  have := hK A' c' w' (by unfold OwnEd; rw [hlen]; exact ho') hk ?_
  · rw [hlen] at this; exact this
  · rcases ho.2 with ⟨h1, h2⟩ | ⟨g, cap, cur, hv, hbg, hgg, hnc, hcm, hcs, htake⟩
    · injection h1 with h1 _ h3; subst h1; subst h3
      have hl0 : l = [] := List.length_eq_zero_iff.mp h2
      subst hl0
      have hr2 := run_append_nil (P := Try.prog) w 39 39 TE i z TEd hi hz ⟨b, 0, none⟩ 1 1 (eV e) (by rw [hs]; simp [eV]) hnews (by omega) (by omega) (by rw [hby]; omega)
      have hr2' : (Builtin.append_ #[39, 39] 39 #[Value.slice none ([] : List E).length 0, .slice (some ⟨b, 0, none⟩) 1 1]).run Try.prog w = _ := hr2
      rw [hr2'] at hrun
      injection hrun with hv hw
      injection hv with hv
      injection hv with hv
      rw [← hv]; exact .inr (Nat.le_refl _)
    · injection hv with hA hn hc
      subst hA; subst hc
      by_cases hroom : l.length + 1 ≤ c
      · obtain ⟨w2, hrun2, _⟩ := run_append_fits (P := Try.prog) w B 39 39 TE i 4 TEd hi hs g l.length c (eVs l) ho ⟨b, 0, none⟩ 1 1 (eV e) (by simp [eV]) hnews hone hroom
        rw [hrun2] at hrun
        injection hrun with hv _
        injection hv with hv; exact .inl hv
      · have hr2 := run_append_grow (P := Try.prog) w 39 39 TE i z TEd hi hz ⟨g, 0, none⟩ l.length c (eVs l) (by rw [hs, eVs_len]) (ho.cells (g := g) rfl) ⟨b, 0, none⟩ 1 1 (eV e) (by rw [hs]; simp [eV]) hnews (by omega) (by omega)
          (by rw [hby]; exact growslice_fits (by omega) (by omega))
        rw [hr2] at hrun
        injection hrun with hv hw
        injection hv with hv
        injection hv with hv
        rw [← hv]; exact .inr (Nat.le_refl _)
/-- a number appended to a row of one's own -/
theorem app_in {w : World} {B : Nat} {A : Option Addr} {n c : Nat} {l : List Int} (ho : OwnI w B TI A c l) (hn : n = l.length) {b : Nat} {x : Int} {t : TypeId} (hb : HB w b #[.int .i64 x] t) (hB : B ≤ w.heap.size) (hl : l.length ≤ 1000000) {K : Value → World → Prop}
    (hK : ∀ A' c' w', OwnI w' B TI (some A') c' (l ++ [x]) → Keeps (Ob A) w w' → (A = some A' ∨ w.heap.size ≤ A'.block) → K (.slice (some A') (l ++ [x]).length c') w') :
    Runs Try.prog (Builtin.append_ #[22, 22] 22 #[.slice A n c, .slice (some (⟨b, 0, none⟩ : Addr)) 1 1]) w K := by
  subst hn
  have ho2 : OwnW w B TI A c (l.map (.int .i64)) := by
    unfold OwnW; rw [List.length_map]; exact ho
  refine appW_runs TIn' rfl ho2 (by simp) hb rfl hB (by simp; omega) (by simp; omega) fun A' c' w' o' k' f' => ?_
  have e : (l.map (Value.int .i64) ++ [.int .i64 x]) = (l ++ [x]).map (Value.int .i64) := by simp
  rw [e] at o' ⊢
  rw [List.length_map]
  refine hK A' c' w' ?_ (k'.mono fun k _ hk => ob_own hk) f'
  unfold OwnW at o'
  unfold OwnI
  rw [List.length_map] at o'; exact o'
/-- both at once: the element's block and the append -/
theorem put_in {w : World} {B : Nat} {A : Option Addr} {n c : Nat} {l : List Int} (ho : OwnI w B TI A c l) (hn : n = l.length) {x : Int} (hB : B ≤ w.heap.size) (hl : l.length ≤ 1000000) {K : Option Addr → Nat → Nat → World → Prop}
    (hK : ∀ A' c' w', OwnI w' B TI (some A') c' (l ++ [x]) → Keeps (Ob A) w w' → (A = some A' ∨ w.heap.size ≤ A'.block) → K (some A') (l ++ [x]).length c' w') :
    alW w (.cells #[.int .i64 x] TI) fun b w2 => Runs Try.prog (Builtin.append_ #[22, 22] 22 #[.slice A n c, .slice (some (⟨b, 0, none⟩ : Addr)) 1 1]) w2 fun v w3 => ∃ (A' : Option Addr) (n' : Nat) (c' : Nat), v = (.slice A' n' c') ∧ K A' n' c' w3 := by
  refine al_new fun w2 b e2 s2 h2 g2 => ?_
  have o2 : OwnI w2 B TI A c l := ho.keeps (S := fun _ => False) (.of_below g2) fun _ _ => id
  refine app_in o2 hn h2 (by omega) hl fun A' c' w3 o3 k3 f3 => ⟨_, _, _, rfl, hK A' c' w3 o3 ((Keeps.of_below g2).trans k3) (f3.imp id fun h => by omega)⟩
theorem put_ed {w : World} {B : Nat} {A : Option Addr} {n c : Nat} {l : List E} (ho : OwnEd w B TE A c l) (hn : n = l.length) {e : E} (hB : B ≤ w.heap.size) (hl : l.length ≤ 1000000) {K : Option Addr → Nat → Nat → World → Prop}
    (hK : ∀ A' c' w', OwnEd w' B TE (some A') c' (l ++ [e]) → Keeps (Ob A) w w' → (A = some A' ∨ w.heap.size ≤ A'.block) → K (some A') (l ++ [e]).length c' w') :
    alW w (.cells #[.int .i64 e.id, .int .i64 e.u, .int .i64 e.v, .int .i64 e.w] TE) fun b w2 => Runs Try.prog (Builtin.append_ #[39, 39] 39 #[.slice A n c, .slice (some (⟨b, 0, none⟩ : Addr)) 1 1]) w2 fun v w3 => ∃ (A' : Option Addr) (n' : Nat) (c' : Nat), v = (.slice A' n' c') ∧ K A' n' c' w3 := by
  refine al_new fun w2 b e2 s2 h2 g2 => ?_
  have o2 : OwnEd w2 B TE A c l := ho.keeps (S := fun _ => False) (.of_below g2) fun _ _ => id
  refine app_ed o2 hn (e := e) h2 (by omega) hl fun A' c' w3 o3 k3 f3 => ⟨_, _, _, rfl, hK A' c' w3 o3 ((Keeps.of_below g2).trans k3) (f3.imp id fun h => by omega)⟩
/-! ### numbers -/
theorem RBad_ok (i : Int) (w : World) : Calls Try.prog 46 #[.int .i64 i] w fun e w' => (∃ b, e = .returned (.bool b) ∧ (b = true ↔ badI i)) ∧ w' = w := by
  apply f_ref05_BadId.ok
  unfold f_ref05_BadId.wp
  unfold badI
  by_cases h : i < 1
  · exact sel_t (by simpa using h) ⟨⟨true, rfl, by simp [h]⟩, rfl⟩
  · exact sel_f (by simpa using h) ⟨⟨_, rfl, by simp [h]⟩, rfl⟩
theorem Has_l0 {w : World} {A : Option Addr} {l : List Int} {c : Nat} (r : RI w A l) (hl : l.length ≤ 1000000) {x : Int} {K0 : World → Prop} {Kr : Bool → World → Prop} (h0 : x ∉ l → K0 w) (h1 : x ∈ l → Kr true w) : ∀ (m i : Nat), l.length - i = m → i ≤ l.length → (x ∈ l ↔ x ∈ l.drop i) → f_ref01_Has.l0 (m + 1) A l.length c x (i : Int) w K0 Kr := by
  intro m
  induction m with
  | zero =>
    intro i hm hi ht
    unfold f_ref01_Has.l0
    have : i = l.length := by omega
    subst this
    refine sel_f (by simp) (h0 fun h => ?_)
    rw [ht] at h; simp at h
  | succ m ih =>
    intro i hm hi ht
    have hlt : i < l.length := by omega
    obtain ⟨a, rfl, q⟩ := r i hlt
    unfold f_ref01_Has.l0
    refine sel_t (by simpa using hlt) (optB_some rfl (req_intro (by simp; omega) (ldI_intro (x := l[i]) (by rw [Int.toNat_natCast, Nat.mul_one]; exact q) ?_)))
    by_cases e : l[i] = x
    · exact sel_t (by simp [e]) (h1 (by rw [← e]; exact List.getElem_mem hlt))
    · refine sel_f (by simp [e]) ?_
      rw [w64_in (by omega), show (i : Int) + 1 = ((i + 1 : Nat) : Int) by omega]
      refine ih (i + 1) (by omega) (by omega) (ht.trans ?_)
      rw [List.drop_eq_getElem_cons hlt, List.mem_cons]
      exact ⟨fun h => h.resolve_left fun h => e h.symm, .inr⟩
theorem Has_ok {w : World} {A : Option Addr} {n c : Nat} {l : List Int} (r : RI w A l) (hn : n = l.length) (hl : l.length ≤ 1000000) (x : Int) : Calls Try.prog 15 #[.slice A n c, .int .i64 x] w fun e w' => e = .returned (.bool (decide (x ∈ l))) ∧ w' = w := by
  subst hn
  apply f_ref01_Has.ok
  unfold f_ref01_Has.wp
  refine ⟨l.length + 1, Has_l0 r hl (fun h => ?_) (fun h => ?_) l.length 0 (by omega) (by omega) (by simp)⟩
  · intro _; exact ⟨by simp [h], rfl⟩
  · intro _; exact ⟨by simp [h], rfl⟩
theorem place_l0 {w : World} {A : Option Addr} {l : List Int} {c : Nat} (r : RI w A l) (hl : l.length ≤ 1000000) {x : Int} {K0 : World → Prop} {Kr : Int → World → Prop} (hx : x ∈ l) (h1 : ∀ (j : Nat) (hj : j < l.length), l[j] = x → Kr (j : Int) w) : ∀ (m i : Nat), l.length - i = m → i ≤ l.length → x ∈ l.drop i → f_ref06_place.l0 (m + 1) A l.length c x (i : Int) w K0 Kr := by
  intro m
  induction m with
  | zero =>
    intro i hm hi ht
    have : i = l.length := by omega
    subst this
    simp at ht
  | succ m ih =>
    intro i hm hi ht
    have hlt : i < l.length := by omega
    obtain ⟨a, rfl, q⟩ := r i hlt
    unfold f_ref06_place.l0
    refine sel_t (by simpa using hlt) (optB_some rfl (req_intro (by simp; omega) (ldI_intro (x := l[i]) (by rw [Int.toNat_natCast, Nat.mul_one]; exact q) ?_)))
    by_cases e : l[i] = x
    · exact sel_t (by simp [e]) (h1 i hlt e)
    · refine sel_f (by simp [e]) ?_
      rw [w64_in (by omega), show (i : Int) + 1 = ((i + 1 : Nat) : Int) by omega]
      refine ih (i + 1) (by omega) (by omega) ?_
      rw [List.drop_eq_getElem_cons hlt, List.mem_cons] at ht
      exact ht.resolve_left fun h => e h.symm
theorem place_ok {w : World} {A : Option Addr} {n c : Nat} {l : List Int} (r : RI w A l) (hn : n = l.length) (hl : l.length ≤ 1000000) {x : Int} (hx : x ∈ l) : Calls Try.prog 82 #[.slice A n c, .int .i64 x] w fun e w' => (∃ (j : Nat) (hj : j < l.length), l[j] = x ∧ e = .returned (.int .i64 (j : Int))) ∧ w' = w := by
  subst hn
  apply f_ref06_place.ok
  unfold f_ref06_place.wp
  refine ⟨l.length + 1, place_l0 r hl hx (fun j hj e => ?_) l.length 0 (by omega) (by omega) (by simpa using hx)⟩
  intro _; exact ⟨⟨j, hj, e, rfl⟩, rfl⟩
/-- a list without a number; with one more -/
def woI (l : List Int) (x : Int) : List Int := l.filter fun y => y != x
def wiI : List Int → Int → List Int
  | [], x => [x]
  | y :: l, x => if x < y then x :: y :: l else y :: wiI l x
theorem wiI_cons (y : Int) (l : List Int) (x : Int) : wiI (y :: l) x = if x < y then x :: y :: l else y :: wiI l x := rfl
theorem wiI_perm (l : List Int) (x : Int) : (wiI l x).Perm (x :: l) := by
  induction l with
  | nil => exact .refl _
  | cons y l ih =>
    unfold wiI
    split
    · exact .refl _
    · exact (ih.cons y).trans (.swap x y l)
theorem Without_ok {w : World} {A : Option Addr} {n c : Nat} {l : List Int} (r : RI w A l) (hn : n = l.length) (hl : l.length ≤ 1000000) (x : Int) :
    Calls Try.prog 35 #[.slice A n c, .int .i64 x] w fun e w' => ∃ A' c', e = .returned (.slice A' (woI l x).length c') ∧ OwnI w' w.heap.size TI A' c' (woI l x) ∧ Below w.heap.size w w' := by
  subst hn
  apply f_ref05_Without.ok
  unfold f_ref05_Without.wp
  refine alW_intro ?_
  have o1 := OwnI.lit (w := w) (B := w.heap.size) (e := TI) [] (cs := #[]) rfl (Nat.le_refl _) (by simp)
  have b1 : Below w.heap.size w (w.alloc (.cells #[] TI)) := (Below.refl _ _).alloc (Nat.le_refl _) _
  generalize w.alloc (.cells #[] TI) = w1 at o1 b1
  refine ⟨l.length + 1, ?_⟩
  have key : ∀ (m i : Nat) (w2 : World) (A2 : Option Addr) (n2 c2 : Nat), l.length - i = m → i ≤ l.length → OwnI w2 w.heap.size TI A2 c2 (woI (l.take i) x) → n2 = (woI (l.take i) x).length → Below w.heap.size w w2 →
      f_ref05_Without.l0 (m + 1) A l.length c x A2 n2 c2 (i : Int) w2 (fun A12 n12 c12 w13 => ∀ _ : Fr, (fun e w' => ∃ A' c', e = Ending.returned (.slice A' (woI l x).length c') ∧ OwnI w' w.heap.size TI A' c' (woI l x) ∧ Below w.heap.size w w') (.returned (.slice A12 n12 c12)) w13) := by
    intro m
    induction m with
    | zero =>
      intro i w2 A2 n2 c2 hm hi ho hn hb
      have : i = l.length := by omega
      subst this
      rw [List.take_length] at ho hn
      subst hn
      unfold f_ref05_Without.l0
      exact sel_f (by simp) fun _ => ⟨A2, c2, rfl, ho, hb⟩
    | succ m ih =>
      intro i w2 A2 n2 c2 hm hi ho hn hb
      have hlt : i < l.length := by omega
      obtain ⟨a, rfl, q⟩ := (r.belw hb) i hlt
      have hlen : (woI (l.take i) x).length ≤ l.length := by
        unfold woI
        exact Nat.le_trans (List.length_filter_le _ _) (by rw [List.length_take]; omega)
      have htk : woI (l.take (i + 1)) x = if l[i] = x then woI (l.take i) x else woI (l.take i) x ++ [l[i]] := by
        unfold woI
        rw [List.take_succ_eq_append_getElem hlt, List.filter_append]
        by_cases e : l[i] = x
        · rw [if_pos e]; simp [e]
        · rw [if_neg e]; simp [e]
      unfold f_ref05_Without.l0
      refine sel_t (by simpa using hlt) (optB_some rfl (req_intro (by simp; omega) (ldI_intro (x := l[i]) (by rw [Int.toNat_natCast, Nat.mul_one]; exact q) ?_)))
      have hw : IntKind.i64.wrap ((i : Int) + 1) = ((i + 1 : Nat) : Int) := by rw [w64_in (by omega)]; omega
      by_cases e : l[i] = x
      · refine sel_f (by simp [e]) ?_
        rw [hw]
        exact ih (i + 1) w2 A2 n2 c2 (by omega) (by omega) (by rw [htk, if_pos e]; exact ho) (by rw [htk, if_pos e]; exact hn) hb
      · refine sel_t (by simp [e]) (optB_some rfl (req_intro (by simp; omega) (ldI_intro (x := l[i]) (by rw [Int.toNat_natCast, Nat.mul_one]; exact q) ?_)))
        refine put_in ho hn (x := l[i]) hb.size (by omega) fun A3 c3 w3 o3 k3 f3 => ?_
        rw [hw]
        refine ih (i + 1) w3 _ _ c3 (by omega) (by omega) (by rw [htk, if_neg e]; exact o3) (by rw [htk, if_neg e]) (hb.trans (k3.below hb.size fun k hk ⟨a', ha', hh⟩ => ?_))
        have := (ho.block a' ha').1; omega
  exact key l.length 0 w1 _ _ _ (by omega) (by omega) (by simpa [woI] using o1) (by simp [woI]) b1
theorem With_ok {w : World} {A : Option Addr} {n c : Nat} {l : List Int} (r : RI w A l) (hn : n = l.length) (hl : l.length ≤ 100000) (x : Int) :
    Calls Try.prog 16 #[.slice A n c, .int .i64 x] w fun e w' => ∃ A' c', e = .returned (.slice A' (wiI l x).length c') ∧ OwnI w' w.heap.size TI A' c' (wiI l x) ∧ Below w.heap.size w w' := by
  subst hn
  apply f_ref05_With.ok
  unfold f_ref05_With.wp
  refine alW_intro ?_
  have o1 := OwnI.lit (w := w) (B := w.heap.size) (e := TI) [] (cs := #[]) rfl (Nat.le_refl _) (by simp)
  have b1 : Below w.heap.size w (w.alloc (.cells #[] TI)) := (Below.refl _ _).alloc (Nat.le_refl _) _
  generalize w.alloc (.cells #[] TI) = w1 at o1 b1
  refine ⟨l.length + 1, ?_⟩
  -- done: what is there is wiI's beginning; not done: it is the list's beginning
  have key : ∀ (m i : Nat) (w2 : World) (A2 : Option Addr) (n2 c2 : Nat) (d : Bool) (out : List Int), l.length - i = m → i ≤ l.length → OwnI w2 w.heap.size TI A2 c2 out → n2 = out.length → out.length ≤ i + (if d = true then 1 else 0) → (if d = true then out ++ l.drop i = wiI l x else wiI l x = out ++ wiI (l.drop i) x) → Below w.heap.size w w2 →
      f_ref05_With.l0 (m + 1) A l.length c x A2 n2 c2 d (i : Int) w2 (fun (A23 : Option Addr) (n23 : Nat) (c23 : Nat) (b24 : Bool) (w25 : World) => ∀ _ : Fr,
        sel (!b24) (alW w25 (.cells #[.int .i64 x] TI) fun B26 w27 => Runs Try.prog (Builtin.append_ #[22, 22] 22 #[.slice A23 n23 c23, .slice (some (⟨B26, 0, Option.none⟩ : Addr)) 1 1]) w27 fun v29 w28 => ∃ (A30 : Option Addr) (n30 : Nat) (c30 : Nat), v29 = (.slice A30 n30 c30) ∧ (
          (fun e w' => ∃ A' c', e = Ending.returned (.slice A' (wiI l x).length c') ∧ OwnI w' w.heap.size TI A' c' (wiI l x) ∧ Below w.heap.size w w') (.returned (.slice A30 n30 c30)) w28)) (
          (fun e w' => ∃ A' c', e = Ending.returned (.slice A' (wiI l x).length c') ∧ OwnI w' w.heap.size TI A' c' (wiI l x) ∧ Below w.heap.size w w') (.returned (.slice A23 n23 c23)) w25)) := by
    intro m
    induction m with
    | zero =>
      intro i w2 A2 n2 c2 d out hm hi ho hn hlo hd hb
      have : i = l.length := by omega
      subst this
      subst hn
      unfold f_ref05_With.l0
      refine sel_f (by simp) fun _ => ?_
      rw [List.drop_length] at hd
      cases d with
      | true =>
        rw [if_pos rfl, List.append_nil] at hd
        subst hd
        exact sel_f rfl ⟨A2, c2, rfl, ho, hb⟩
      | false =>
        rw [if_neg (by decide)] at hd
        refine sel_t rfl (put_in ho rfl (x := x) hb.size (by simp at hlo; omega) fun A3 c3 w3 o3 k3 f3 => ?_)
        have e2 : wiI l x = out ++ [x] := hd
        rw [← e2] at o3
        refine ⟨_, c3, by rw [e2], o3, hb.trans (k3.below hb.size fun k hk ⟨a', ha', hh⟩ => ?_)⟩
        have := (ho.block a' ha').1; omega
    | succ m ih =>
      intro i w2 A2 n2 c2 d out hm hi ho hn hlo hd hb
      have hlt : i < l.length := by omega
      obtain ⟨a, rfl, q⟩ := (r.belw hb) i hlt
      have hw : IntKind.i64.wrap ((i : Int) + 1) = ((i + 1 : Nat) : Int) := by rw [w64_in (by omega)]; omega
      have hdr := List.drop_eq_getElem_cons hlt
      have q' : w2.cell? (a.add ((i : Int).toNat * 1)) = some (.int .i64 l[i]) := by rw [Int.toNat_natCast, Nat.mul_one]; exact q
      -- the list's own element is appended
      have j1 : ∀ (w3 : World) (A3 : Option Addr) (n3 c3 : Nat) (out3 : List Int) (d3 : Bool), OwnI w3 w.heap.size TI A3 c3 out3 → n3 = out3.length → out3.length ≤ i + (if d3 = true then 1 else 0) → Below w.heap.size w w3 → (if d3 = true then out3 ++ l.drop i = wiI l x else wiI l x = (out3 ++ [l[i]]) ++ wiI (l.drop (i + 1)) x) →
          f_ref05_With.j1 (some a) l.length c A3 n3 c3 (i : Int) w3 (fun A17 n17 c17 w18 => ∀ _ : Fr, f_ref05_With.l0 (m + 1) (some a) l.length c x A17 n17 c17 d3 (IntKind.i64.wrap ((i : Int) + 1)) w18 (fun (A23 : Option Addr) (n23 : Nat) (c23 : Nat) (b24 : Bool) (w25 : World) => ∀ _ : Fr,
            sel (!b24) (alW w25 (.cells #[.int .i64 x] TI) fun B26 w27 => Runs Try.prog (Builtin.append_ #[22, 22] 22 #[.slice A23 n23 c23, .slice (some (⟨B26, 0, Option.none⟩ : Addr)) 1 1]) w27 fun v29 w28 => ∃ (A30 : Option Addr) (n30 : Nat) (c30 : Nat), v29 = (.slice A30 n30 c30) ∧ (
              (fun e w' => ∃ A' c', e = Ending.returned (.slice A' (wiI l x).length c') ∧ OwnI w' w.heap.size TI A' c' (wiI l x) ∧ Below w.heap.size w w') (.returned (.slice A30 n30 c30)) w28)) (
              (fun e w' => ∃ A' c', e = Ending.returned (.slice A' (wiI l x).length c') ∧ OwnI w' w.heap.size TI A' c' (wiI l x) ∧ Below w.heap.size w w') (.returned (.slice A23 n23 c23)) w25))) := by
        intro w3 A3 n3 c3 out3 d3 ho3 hn3 hl3 hb3 hd3
        unfold f_ref05_With.j1
        obtain ⟨_, e1, q3⟩ := (r.belw hb3) i hlt
        injection e1 with e1; subst e1
        refine optB_some rfl (req_intro (by simp; omega) (ldI_intro (x := l[i]) (by rw [Int.toNat_natCast, Nat.mul_one]; exact q3) ?_))
        refine put_in ho3 hn3 (x := l[i]) hb3.size (by cases d3 <;> simp at hl3 <;> omega) fun A4 c4 w4 o4 k4 f4 => ?_
        intro _
        rw [hw]
        refine ih (i + 1) w4 _ _ c4 d3 (out3 ++ [l[i]]) (by omega) (by omega) o4 rfl (by rw [List.length_append]; simp only [List.length_singleton]; omega) ?_ (hb3.trans (k4.below hb3.size fun k hk ⟨a', ha', hh⟩ => ?_))
        · cases d3 with
          | true =>
            rw [if_pos rfl] at hd3 ⊢
            rw [hdr] at hd3
            rw [List.append_assoc]; exact hd3
          | false => rw [if_neg (by decide)] at hd3 ⊢; exact hd3
        · have := (ho3.block a' ha').1; omega
      unfold f_ref05_With.l0
      refine sel_t (by simpa using hlt) ?_
      cases d with
      | true => exact sel_f rfl (j1 w2 A2 n2 c2 out true ho hn hlo hb hd)
      | false =>
        rw [if_neg (by decide)] at hd
        refine sel_t rfl (optB_some rfl (req_intro (by simp; omega) (ldI_intro q' ?_)))
        rw [hdr] at hd
        rw [wiI_cons] at hd
        by_cases e : x < l[i]
        · rw [if_pos e] at hd
          refine sel_t (by simpa using e) (put_in ho hn (x := x) hb.size (by simp at hlo; omega) fun A3 c3 w3 o3 k3 f3 => ?_)
          refine j1 w3 _ _ c3 (out ++ [x]) true o3 rfl (by simp at hlo ⊢; omega) (hb.trans (k3.below hb.size fun k hk ⟨a', ha', hh⟩ => ?_)) ?_
          · have := (ho.block a' ha').1; omega
          · rw [if_pos rfl, hd, hdr]; simp
        · rw [if_neg e] at hd
          refine sel_f (by simpa using e) (j1 w2 A2 n2 c2 out false ho hn hlo hb ?_)
          rw [if_neg (by decide), List.append_assoc]; exact hd
  exact key l.length 0 w1 _ _ _ false [] (by omega) (by omega) o1 rfl (by simp) (by simp) b1
end Go.Proofs.Ytkkobfajahmfaaa.Rd
