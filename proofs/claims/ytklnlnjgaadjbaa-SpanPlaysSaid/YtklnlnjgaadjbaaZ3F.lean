/- The document's example, walked · Rows of numbers and of edges as the document's forest has them: reading, appending · The document's plain forest: Edge, AddV, DelV, Cut · The document's plain forest: Cut · Who is joined to whom, in plain words and as the document's sets tell it · The document's plain forest: Joined and Link · The document's plain forest: Link · One call of a script, on a forest and on the document's; a script's calls on a forest · A script's calls on a forest · Walks: back, shortened; floats added, compared and made whole -/
import Derived.Test.YtklnlnjgaadjbaaZ3E
import Derived.Test.YtklnlnjgaadjbaaZ3B
set_option linter.unusedSimpArgs false
set_option linter.unusedVariables false
namespace Go.Dn
open Go.RowKit
theorem Wk.inv {es : List E} {Q : Int → Prop} (hQ : ∀ e ∈ es, Q e.u ↔ Q e.v) {u v : Int} {p : List E} (h : Wk es u p v) : Q u → Q v := by
 induction h with
 | nil => exact id
 | cons he hm h ih =>
  rename_i e m v p
  intro hq
  refine ih ?_
  unfold oth
  split
  ·rename_i h1; rw [← hQ e he, h1]; exact hq
  ·rename_i h1; rw [hQ e he, hm.resolve_left h1]; exact hq
end Go.Dn
namespace Go.Proofs.Ytklnlnjgaadjbaa.Rd
open Go.Dn Go.RowKit
set_option maxRecDepth 100000
instance (n : Int) : Decidable (W64 n) := inferInstanceAs (Decidable (_ ∧ _))
def x7 : E := ⟨7, 1, 2, 5⟩
def x8 : E := ⟨8, 2, 3, 4⟩
def x9 : E := ⟨9, 1, 3, 1⟩
end Go.Proofs.Ytklnlnjgaadjbaa.Rd
namespace Go.Dn
open Go.RowKit
def eV (e : E) : List Value := [.int .i64 e.id, .int .i64 e.u, .int .i64 e.v, .int .i64 e.w]
def eVs (l : List E) : List Value := l.flatMap eV
theorem eVs_len (l : List E) : (eVs l).length = l.length * 4 := by
 induction l with
 | nil => rfl
 | cons e l ih => simp only [eVs, List.flatMap_cons, List.length_append, List.length_cons] at ih ⊢; rw [ih]; simp [eV]; omega
theorem eVs_app (l m : List E) : eVs (l ++ m) = eVs l ++ eVs m := by simp [eVs]
theorem eVs_get {l : List E} : ∀ {i j : Nat} (hi : i < l.length) (hj : j < 4), (eVs l)[i * 4 + j]? = (eV l[i])[j]? := by
 induction l with
 | nil => intro i j hi; simp at hi
 | cons e l ih =>
  intro i j hi hj
  cases i with
  | zero => simp only [eVs, List.flatMap_cons, Nat.zero_mul, Nat.zero_add, List.getElem_cons_zero]; rw [List.getElem?_append_left (by simp [eV]; omega)]
  | succ i =>
   have := ih (i := i) (j := j) (by simp at hi; omega) hj
   simp only [eVs, List.flatMap_cons, List.getElem_cons_succ] at this ⊢
   rw [List.getElem?_append_right (by simp [eV]; omega), ← this]
   congr 1
   simp [eV]; omega
structure REd (w : World) (a : Addr) (i : Nat) (e : E) : Prop where
 c0 : w.cell? (a.add (i * 4)) = some (.int .i64 e.id)
 c1 : w.cell? ((a.add (i * 4)).add 1) = some (.int .i64 e.u)
 c2 : w.cell? ((a.add (i * 4)).add 2) = some (.int .i64 e.v)
 c3 : w.cell? ((a.add (i * 4)).add 3) = some (.int .i64 e.w)
def RE (w : World) (A : Option Addr) (l : List E) : Prop := ∀ i (hi : i < l.length), ∃ a, A = some a ∧ REd w a i l[i]
theorem RE.keeps {S : Nat → Prop} {w w' : World} {A : Option Addr} {l : List E} (h : RE w A l) (hk : Keeps S w w') (hA : ∀ a, A = some a → ¬ S a.block) : RE w' A l := fun i hi => by
 obtain ⟨a, ha, h0, h1, h2, h3⟩ := h i hi
 have n := hA a ha
 exact ⟨a, ha, hk.cell h0 (by simpa only [add_block] using n), hk.cell h1 (by simpa only [add_block] using n), hk.cell h2 (by simpa only [add_block] using n), hk.cell h3 (by simpa only [add_block] using n)⟩
theorem RE.below {w w' : World} {A : Option Addr} {l : List E} (h : RE w A l) (hb : Below w.heap.size w w') : RE w' A l := h.keeps (S := fun _ => False) (.of_below hb) fun _ _ => id
theorem RI.belw {w w' : World} {A : Option Addr} {l : List Int} (h : RI w A l) (hb : Below w.heap.size w w') : RI w' A l := h.keeps (S := fun _ => False) (.of_below hb) fun _ _ => id
def OwnEd (w : World) (B e : Nat) (A : Option Addr) (c : Nat) (l : List E) : Prop := w.ownsRow B e 4 (.slice A l.length c) l.length (eVs l)
theorem OwnEd.none (w : World) (B e : Nat) : OwnEd w B e .none 0 [] := World.ownsRow_nil _ _ _ _
theorem OwnEd.keeps {S : Nat → Prop} {w w' : World} {B e : Nat} {A : Option Addr} {c : Nat} {l : List E} (h : OwnEd w B e A c l) (hk : Keeps S w w') (hA : ∀ a, A = some a → ¬ S a.block) : OwnEd w' B e A c l :=
 Keeps.own h hk (fun k hk' => by
  cases A with
  | none => cases hk'
  | some a => injection hk' with hk'; subst hk'; exact hA a rfl)
theorem OwnEd.block {w : World} {B e : Nat} {A : Option Addr} {c : Nat} {l : List E} (h : OwnEd w B e A c l) : ∀ a, A = some a → B ≤ a.block ∧ a.block < w.heap.size := by
 intro a ha; subst ha
 exact World.ownsRow.lt h a.block rfl
theorem OwnEd.reads {w : World} {B e : Nat} {A : Option Addr} {c : Nat} {l : List E} (h : OwnEd w B e A c l) : RE w A l := by
 intro i hi
 obtain ⟨hl, h⟩ := h
 rcases h with ⟨_, h0⟩ | ⟨g, cap, cur, hv, hg, hh, hn, hm, hs, ht⟩
 ·omega
 ·injection hv with hA hn' hc
  have hx := World.ownsRow.cellAt (w := w) (base := B) (e := e) (size := 4) (g := g) (n := l.length) (cap := cap) (xs := eVs l) ⟨hl, .inr ⟨g, cap, cur, rfl, hg, hh, hn, hm, hs, ht⟩⟩
  have key : ∀ j, j < 4 → w.cell? (((⟨g, 0, .none⟩ : Addr).add (i * 4)).add j) = (eV l[i])[j]? := fun j hj => by
   rw [add_add, add_mk, Nat.zero_add, hx (i * 4 + j) (by omega), eVs_get hi hj]
  refine ⟨_, hA, ?_, key 1 (by omega), key 2 (by omega), key 3 (by omega)⟩
  have := key 0 (by omega)
  rw [add_add, Nat.add_zero] at this
  exact this
end Go.Dn
namespace Go.Proofs.Ytklnlnjgaadjbaa.Rd
open Go.Dn Go.RowKit
set_option maxRecDepth 100000
abbrev TE : TypeId := 33
theorem TEd : Try.prog.underlying 27 = some (.slice TE) := by kernel_rfl
theorem TEdI : (Try.prog.info? TE).map (fun i => (i.zero, i.size, i.bytes)) = some (some (.agg #[.int .i64 0, .int .i64 0, .int .i64 0, .int .i64 0]), 4, 32) := by kernel_rfl
theorem TEd_info : ∃ i, Try.prog.info? TE = some i ∧ (∃ z, i.zero = some z ∧ z.cells.size = 4) ∧ i.size = 4 ∧ i.bytes = 32 := by
 have := TEdI
 cases hi : Try.prog.info? TE with
 | none => rw [hi] at this; cases this
 | some i =>
  rw [hi] at this
  simp only [Option.map_some, Option.some.injEq, Prod.mk.injEq] at this
  exact ⟨i, rfl, ⟨_, this.1, rfl⟩, this.2.1, this.2.2⟩
def Ob (A : Option Addr) (k : Nat) : Prop := ∃ a, A = some a ∧ a.block = k
theorem ob_own {A : Option Addr} {n c k : Nat} (h : some k = (Value.slice A n c).ownBlock) : Ob A k := by
 cases A with
 | none => simp [Value.ownBlock] at h
 | some a => exact ⟨a, rfl, by simpa [Value.ownBlock] using h.symm⟩
theorem app_ed {w : World} {B : Nat} {A : Option Addr} {n c : Nat} {l : List E} (ho : OwnEd w B TE A c l) (hn : n = l.length) {b : Nat} {e : E} {t : TypeId} (hb : HB w b (eC e) t) (hB : B ≤ w.heap.size) (hl : l.length ≤ 1000000) {K : Value → World → Prop}
  (hK : ∀ A' c' w', OwnEd w' B TE (some A') c' (l ++ [e]) → Keeps (Ob A) w w' → (A = some A' ∨ w.heap.size ≤ A'.block) → K (.slice (some A') (l ++ [e]).length c') w') :
  Runs Try.prog (Builtin.append_ #[27, 27] 27 #[.slice A n c, .slice (some (⟨b, 0, none⟩ : Addr)) 1 1]) w K := by
 subst hn
 obtain ⟨i, hi, ⟨z, hz, hz1⟩, hs, hby⟩ := TEd_info
 have hnews : ∀ j u, (eV e)[j]? = some u → w.cell? ((⟨b, 0, none⟩ : Addr).add j) = some u := fun j u hj => by
  rw [hb.cell, ← Array.getElem?_toList]; exact hj
 have hone : ∀ u ∈ eV e, u.oneCell' = true := fun u hu => by simp [eV] at hu; rcases hu with rfl | rfl | rfl | rfl <;> rfl
 obtain ⟨v', w', hrun, ho', hg, _⟩ := run_append_own (P := Try.prog) w B 27 27 TE i z 4 32 TEd hi hz hs hby hz1 (by decide) (.slice A l.length c) l.length (eVs l) ho ⟨b, 0, none⟩ 1 1 (eV e) (by simp [eV]) hnews hone (by unfold maxLen; omega) (by omega) hB
 have hk : Keeps (Ob A) w w' := ⟨hg.os, hg.tape, hg.output, hg.size, fun k hk hn => hg.block k hk fun h => hn (ob_own h)⟩
 have hev : eVs l ++ eV e = eVs (l ++ [e]) := by rw [eVs_app]; simp [eVs]
 rw [hev] at ho'
 obtain ⟨A', c', rfl⟩ : ∃ A' c', v' = .slice (some A') (l.length + 1) c' := by
  obtain ⟨_, h⟩ := ho'
  rcases h with ⟨h1, h2⟩ | ⟨g, cap, cur, hv, _⟩
  ·omega
  ·exact ⟨_, _, hv⟩
 have hlen : (l ++ [e]).length = l.length + 1 := by simp
 refine runs_of hrun ?_
 have := hK A' c' w' (by unfold OwnEd; rw [hlen]; exact ho') hk ?_
 ·rw [hlen] at this; exact this
 ·rcases ho.2 with ⟨h1, h2⟩ | ⟨g, cap, cur, hv, hbg, hgg, hnc, hcm, hcs, htake⟩
  ·injection h1 with h1 _ h3; subst h1; subst h3
   have hl0 : l = [] := List.length_eq_zero_iff.mp h2
   subst hl0
   have hr2 := run_append_nil (P := Try.prog) w 27 27 TE i z TEd hi hz ⟨b, 0, none⟩ 1 1 (eV e) (by rw [hs]; simp [eV]) hnews (by omega) (by omega) (by rw [hby]; omega)
   have hr2' : (Builtin.append_ #[27, 27] 27 #[Value.slice none ([] : List E).length 0, .slice (some ⟨b, 0, none⟩) 1 1]).run Try.prog w = _ := hr2
   rw [hr2'] at hrun
   injection hrun with hv hw
   injection hv with hv
   injection hv with hv
   rw [← hv]; exact .inr (Nat.le_refl _)
  ·injection hv with hA hn hc
   subst hA; subst hc
   by_cases hroom : l.length + 1 ≤ c
   ·obtain ⟨w2, hrun2, _⟩ := run_append_fits (P := Try.prog) w B 27 27 TE i 4 TEd hi hs g l.length c (eVs l) ho ⟨b, 0, none⟩ 1 1 (eV e) (by simp [eV]) hnews hone hroom
    rw [hrun2] at hrun
    injection hrun with hv _
    injection hv with hv; exact .inl hv
   ·have hr2 := run_append_grow (P := Try.prog) w 27 27 TE i z TEd hi hz ⟨g, 0, none⟩ l.length c (eVs l) (by rw [hs, eVs_len]) (ho.cells (g := g) rfl) ⟨b, 0, none⟩ 1 1 (eV e) (by rw [hs]; simp [eV]) hnews (by omega) (by omega)
     (by rw [hby]; exact growslice_fits (by omega) (by omega))
    rw [hr2] at hrun
    injection hrun with hv hw
    injection hv with hv
    injection hv with hv
    rw [← hv]; exact .inr (Nat.le_refl _)
theorem app_in {w : World} {B : Nat} {A : Option Addr} {n c : Nat} {l : List Int} (ho : OwnI w B TI A c l) (hn : n = l.length) {b : Nat} {x : Int} {t : TypeId} (hb : HB w b #[.int .i64 x] t) (hB : B ≤ w.heap.size) (hl : l.length ≤ 1000000) {K : Value → World → Prop}
  (hK : ∀ A' c' w', OwnI w' B TI (some A') c' (l ++ [x]) → Keeps (Ob A) w w' → (A = some A' ∨ w.heap.size ≤ A'.block) → K (.slice (some A') (l ++ [x]).length c') w') :
  Runs Try.prog (Builtin.append_ #[22, 22] 22 #[.slice A n c, .slice (some (⟨b, 0, none⟩ : Addr)) 1 1]) w K := by
 subst hn
 have ho2 : OwnW w B TI A c (l.map (.int .i64)) := by
  unfold OwnW; rw [List.length_map]; exact ho
 refine appW_runs TIn' rfl ho2 (by simp) hb rfl hB (by simp; omega) (by simp; omega) fun A' c' w' o' k' f' => ?_
 have e : (l.map (Value.int .i64) ++ [.int .i64 x]) = (l ++ [x]).map (Value.int .i64) := by simp
 rw [e] at o' ⊢
 rw [List.length_map]
 refine hK A' c' w' ?_ (k'.mono fun k _ hk => ob_own hk) f'
 unfold OwnW at o'
 unfold OwnI
 rw [List.length_map] at o'; exact o'
theorem put_in {w : World} {B : Nat} {A : Option Addr} {n c : Nat} {l : List Int} (ho : OwnI w B TI A c l) (hn : n = l.length) {x : Int} (hB : B ≤ w.heap.size) (hl : l.length ≤ 1000000) {K : Option Addr → Nat → Nat → World → Prop}
  (hK : ∀ A' c' w', OwnI w' B TI (some A') c' (l ++ [x]) → Keeps (Ob A) w w' → (A = some A' ∨ w.heap.size ≤ A'.block) → K (some A') (l ++ [x]).length c' w') :
  alW w (.cells #[.int .i64 x] TI) fun b w2 => Runs Try.prog (Builtin.append_ #[22, 22] 22 #[.slice A n c, .slice (some (⟨b, 0, none⟩ : Addr)) 1 1]) w2 fun v w3 => ∃ (A' : Option Addr) (n' : Nat) (c' : Nat), v = (.slice A' n' c') ∧ K A' n' c' w3 := by
 refine al_new fun w2 b e2 s2 h2 g2 => ?_
 have o2 : OwnI w2 B TI A c l := ho.keeps (S := fun _ => False) (.of_below g2) fun _ _ => id
 refine app_in o2 hn h2 (by omega) hl fun A' c' w3 o3 k3 f3 => ⟨_, _, _, rfl, hK A' c' w3 o3 ((Keeps.of_below g2).trans k3) (f3.imp id fun h => by omega)⟩
theorem put_ed {w : World} {B : Nat} {A : Option Addr} {n c : Nat} {l : List E} (ho : OwnEd w B TE A c l) (hn : n = l.length) {e : E} (hB : B ≤ w.heap.size) (hl : l.length ≤ 1000000) {K : Option Addr → Nat → Nat → World → Prop}
  (hK : ∀ A' c' w', OwnEd w' B TE (some A') c' (l ++ [e]) → Keeps (Ob A) w w' → (A = some A' ∨ w.heap.size ≤ A'.block) → K (some A') (l ++ [e]).length c' w') :
  alW w (.cells #[.int .i64 e.id, .int .i64 e.u, .int .i64 e.v, .int .i64 e.w] TE) fun b w2 => Runs Try.prog (Builtin.append_ #[27, 27] 27 #[.slice A n c, .slice (some (⟨b, 0, none⟩ : Addr)) 1 1]) w2 fun v w3 => ∃ (A' : Option Addr) (n' : Nat) (c' : Nat), v = (.slice A' n' c') ∧ K A' n' c' w3 := by
 refine al_new fun w2 b e2 s2 h2 g2 => ?_
 have o2 : OwnEd w2 B TE A c l := ho.keeps (S := fun _ => False) (.of_below g2) fun _ _ => id
 refine app_ed o2 hn (e := e) h2 (by omega) hl fun A' c' w3 o3 k3 f3 => ⟨_, _, _, rfl, hK A' c' w3 o3 ((Keeps.of_below g2).trans k3) (f3.imp id fun h => by omega)⟩
theorem RBad_ok (i : Int) (w : World) : Calls Try.prog 40 #[.int .i64 i] w fun e w' => (∃ b, e = .returned (.bool b) ∧ (b = true ↔ badI i)) ∧ w' = w := by
 apply f_ref05_BadId.ok
 unfold f_ref05_BadId.wp
 unfold badI
 by_cases h : i < 1
 ·exact sel_t (by simpa using h) ⟨⟨true, rfl, by simp [h]⟩, rfl⟩
 ·exact sel_f (by simpa using h) ⟨⟨_, rfl, by simp [h]⟩, rfl⟩
theorem Has_l0 {w : World} {A : Option Addr} {l : List Int} {c : Nat} (r : RI w A l) (hl : l.length ≤ 1000000) {x : Int} {K0 : World → Prop} {Kr : Bool → World → Prop} (h0 : x ∉ l → K0 w) (h1 : x ∈ l → Kr true w) : ∀ (m i : Nat), l.length - i = m → i ≤ l.length → (x ∈ l ↔ x ∈ l.drop i) → f_ref01_Has.l0 (m + 1) A l.length c x (i : Int) w K0 Kr := by
 intro m
 induction m with
 | zero =>
  intro i hm hi ht
  unfold f_ref01_Has.l0
  have : i = l.length := by omega
  subst this
  refine sel_f (by simp) (h0 fun h => ?_)
  rw [ht] at h; simp at h
 | succ m ih =>
  intro i hm hi ht
  have hlt : i < l.length := by omega
  obtain ⟨a, rfl, q⟩ := r i hlt
  unfold f_ref01_Has.l0
  refine sel_t (by simpa using hlt) (optB_some rfl (req_intro (by simp; omega) (ldI_intro (x := l[i]) (by rw [Int.toNat_natCast, Nat.mul_one]; exact q) ?_)))
  by_cases e : l[i] = x
  ·exact sel_t (by simp [e]) (h1 (by rw [← e]; exact List.getElem_mem hlt))
  ·refine sel_f (by simp [e]) ?_
   rw [w64_in (by omega), show (i : Int) + 1 = ((i + 1 : Nat) : Int) by omega]
   refine ih (i + 1) (by omega) (by omega) (ht.trans ?_)
   rw [List.drop_eq_getElem_cons hlt, List.mem_cons]
   exact ⟨fun h => h.resolve_left fun h => e h.symm, .inr⟩
theorem Has_ok {w : World} {A : Option Addr} {n c : Nat} {l : List Int} (r : RI w A l) (hn : n = l.length) (hl : l.length ≤ 1000000) (x : Int) : Calls Try.prog 27 #[.slice A n c, .int .i64 x] w fun e w' => e = .returned (.bool (decide (x ∈ l))) ∧ w' = w := by
 subst hn
 apply f_ref01_Has.ok
 unfold f_ref01_Has.wp
 refine ⟨l.length + 1, Has_l0 r hl (fun h => ?_) (fun h => ?_) l.length 0 (by omega) (by omega) (by simp)⟩
 ·intro _; exact ⟨by simp [h], rfl⟩
 ·intro _; exact ⟨by simp [h], rfl⟩
theorem place_l0 {w : World} {A : Option Addr} {l : List Int} {c : Nat} (r : RI w A l) (hl : l.length ≤ 1000000) {x : Int} {K0 : World → Prop} {Kr : Int → World → Prop} (hx : x ∈ l) (h1 : ∀ (j : Nat) (hj : j < l.length), l[j] = x → Kr (j : Int) w) : ∀ (m i : Nat), l.length - i = m → i ≤ l.length → x ∈ l.drop i → f_ref06_place.l0 (m + 1) A l.length c x (i : Int) w K0 Kr := by
 intro m
 induction m with
 | zero =>
  intro i hm hi ht
  have : i = l.length := by omega
  subst this
  simp at ht
 | succ m ih =>
  intro i hm hi ht
  have hlt : i < l.length := by omega
  obtain ⟨a, rfl, q⟩ := r i hlt
  unfold f_ref06_place.l0
  refine sel_t (by simpa using hlt) (optB_some rfl (req_intro (by simp; omega) (ldI_intro (x := l[i]) (by rw [Int.toNat_natCast, Nat.mul_one]; exact q) ?_)))
  by_cases e : l[i] = x
  ·exact sel_t (by simp [e]) (h1 i hlt e)
  ·refine sel_f (by simp [e]) ?_
   rw [w64_in (by omega), show (i : Int) + 1 = ((i + 1 : Nat) : Int) by omega]
   refine ih (i + 1) (by omega) (by omega) ?_
   rw [List.drop_eq_getElem_cons hlt, List.mem_cons] at ht
   exact ht.resolve_left fun h => e h.symm
theorem place_ok {w : World} {A : Option Addr} {n c : Nat} {l : List Int} (r : RI w A l) (hn : n = l.length) (hl : l.length ≤ 1000000) {x : Int} (hx : x ∈ l) : Calls Try.prog 72 #[.slice A n c, .int .i64 x] w fun e w' => (∃ (j : Nat) (hj : j < l.length), l[j] = x ∧ e = .returned (.int .i64 (j : Int))) ∧ w' = w := by
 subst hn
 apply f_ref06_place.ok
 unfold f_ref06_place.wp
 refine ⟨l.length + 1, place_l0 r hl hx (fun j hj e => ?_) l.length 0 (by omega) (by omega) (by simpa using hx)⟩
 intro _; exact ⟨⟨j, hj, e, rfl⟩, rfl⟩
def woI (l : List Int) (x : Int) : List Int := l.filter fun y => y != x
def wiI : List Int → Int → List Int
 | [], x => [x]
 | y :: l, x => if x < y then x :: y :: l else y :: wiI l x
theorem wiI_cons (y : Int) (l : List Int) (x : Int) : wiI (y :: l) x = if x < y then x :: y :: l else y :: wiI l x := rfl
theorem wiI_perm (l : List Int) (x : Int) : (wiI l x).Perm (x :: l) := by
 induction l with
 | nil => exact .refl _
 | cons y l ih =>
  unfold wiI
  split
  ·exact .refl _
  ·exact (ih.cons y).trans (.swap x y l)
theorem Without_ok {w : World} {A : Option Addr} {n c : Nat} {l : List Int} (r : RI w A l) (hn : n = l.length) (hl : l.length ≤ 1000000) (x : Int) :
  Calls Try.prog 42 #[.slice A n c, .int .i64 x] w fun e w' => ∃ A' c', e = .returned (.slice A' (woI l x).length c') ∧ OwnI w' w.heap.size TI A' c' (woI l x) ∧ Below w.heap.size w w' := by
 subst hn
 apply f_ref05_Without.ok
 unfold f_ref05_Without.wp
 refine alW_intro ?_
 have o1 := OwnI.lit (w := w) (B := w.heap.size) (e := TI) [] (cs := #[]) rfl (Nat.le_refl _) (by simp)
 have b1 : Below w.heap.size w (w.alloc (.cells #[] TI)) := (Below.refl _ _).alloc (Nat.le_refl _) _
 generalize w.alloc (.cells #[] TI) = w1 at o1 b1
 refine ⟨l.length + 1, ?_⟩
 have key : ∀ (m i : Nat) (w2 : World) (A2 : Option Addr) (n2 c2 : Nat), l.length - i = m → i ≤ l.length → OwnI w2 w.heap.size TI A2 c2 (woI (l.take i) x) → n2 = (woI (l.take i) x).length → Below w.heap.size w w2 →
   f_ref05_Without.l0 (m + 1) A l.length c x A2 n2 c2 (i : Int) w2 (fun A12 n12 c12 w13 => ∀ _ : Fr, (fun e w' => ∃ A' c', e = Ending.returned (.slice A' (woI l x).length c') ∧ OwnI w' w.heap.size TI A' c' (woI l x) ∧ Below w.heap.size w w') (.returned (.slice A12 n12 c12)) w13) := by
  intro m
  induction m with
  | zero =>
   intro i w2 A2 n2 c2 hm hi ho hn hb
   have : i = l.length := by omega
   subst this
   rw [List.take_length] at ho hn
   subst hn
   unfold f_ref05_Without.l0
   exact sel_f (by simp) fun _ => ⟨A2, c2, rfl, ho, hb⟩
  | succ m ih =>
   intro i w2 A2 n2 c2 hm hi ho hn hb
   have hlt : i < l.length := by omega
   obtain ⟨a, rfl, q⟩ := (r.belw hb) i hlt
   have hlen : (woI (l.take i) x).length ≤ l.length := by
    unfold woI
    exact Nat.le_trans (List.length_filter_le _ _) (by rw [List.length_take]; omega)
   have htk : woI (l.take (i + 1)) x = if l[i] = x then woI (l.take i) x else woI (l.take i) x ++ [l[i]] := by
    unfold woI
    rw [List.take_succ_eq_append_getElem hlt, List.filter_append]
    by_cases e : l[i] = x
    ·rw [if_pos e]; simp [e]
    ·rw [if_neg e]; simp [e]
   unfold f_ref05_Without.l0
   refine sel_t (by simpa using hlt) (optB_some rfl (req_intro (by simp; omega) (ldI_intro (x := l[i]) (by rw [Int.toNat_natCast, Nat.mul_one]; exact q) ?_)))
   have hw : IntKind.i64.wrap ((i : Int) + 1) = ((i + 1 : Nat) : Int) := by rw [w64_in (by omega)]; omega
   by_cases e : l[i] = x
   ·refine sel_f (by simp [e]) ?_
    rw [hw]
    exact ih (i + 1) w2 A2 n2 c2 (by omega) (by omega) (by rw [htk, if_pos e]; exact ho) (by rw [htk, if_pos e]; exact hn) hb
   ·refine sel_t (by simp [e]) (optB_some rfl (req_intro (by simp; omega) (ldI_intro (x := l[i]) (by rw [Int.toNat_natCast, Nat.mul_one]; exact q) ?_)))
    refine put_in ho hn (x := l[i]) hb.size (by omega) fun A3 c3 w3 o3 k3 f3 => ?_
    rw [hw]
    refine ih (i + 1) w3 _ _ c3 (by omega) (by omega) (by rw [htk, if_neg e]; exact o3) (by rw [htk, if_neg e]) (hb.trans (k3.below hb.size fun k hk ⟨a', ha', hh⟩ => ?_))
    have := (ho.block a' ha').1; omega
 exact key l.length 0 w1 _ _ _ (by omega) (by omega) (by simpa [woI] using o1) (by simp [woI]) b1
theorem With_ok {w : World} {A : Option Addr} {n c : Nat} {l : List Int} (r : RI w A l) (hn : n = l.length) (hl : l.length ≤ 100000) (x : Int) :
  Calls Try.prog 41 #[.slice A n c, .int .i64 x] w fun e w' => ∃ A' c', e = .returned (.slice A' (wiI l x).length c') ∧ OwnI w' w.heap.size TI A' c' (wiI l x) ∧ Below w.heap.size w w' := by
 subst hn
 apply f_ref05_With.ok
 unfold f_ref05_With.wp
 refine alW_intro ?_
 have o1 := OwnI.lit (w := w) (B := w.heap.size) (e := TI) [] (cs := #[]) rfl (Nat.le_refl _) (by simp)
 have b1 : Below w.heap.size w (w.alloc (.cells #[] TI)) := (Below.refl _ _).alloc (Nat.le_refl _) _
 generalize w.alloc (.cells #[] TI) = w1 at o1 b1
 refine ⟨l.length + 1, ?_⟩
 have key : ∀ (m i : Nat) (w2 : World) (A2 : Option Addr) (n2 c2 : Nat) (d : Bool) (out : List Int), l.length - i = m → i ≤ l.length → OwnI w2 w.heap.size TI A2 c2 out → n2 = out.length → out.length ≤ i + (if d = true then 1 else 0) → (if d = true then out ++ l.drop i = wiI l x else wiI l x = out ++ wiI (l.drop i) x) → Below w.heap.size w w2 →
   f_ref05_With.l0 (m + 1) A l.length c x A2 n2 c2 d (i : Int) w2 (fun (A23 : Option Addr) (n23 : Nat) (c23 : Nat) (b24 : Bool) (w25 : World) => ∀ _ : Fr,
    sel (!b24) (alW w25 (.cells #[.int .i64 x] TI) fun B26 w27 => Runs Try.prog (Builtin.append_ #[22, 22] 22 #[.slice A23 n23 c23, .slice (some (⟨B26, 0, Option.none⟩ : Addr)) 1 1]) w27 fun v29 w28 => ∃ (A30 : Option Addr) (n30 : Nat) (c30 : Nat), v29 = (.slice A30 n30 c30) ∧ (
     (fun e w' => ∃ A' c', e = Ending.returned (.slice A' (wiI l x).length c') ∧ OwnI w' w.heap.size TI A' c' (wiI l x) ∧ Below w.heap.size w w') (.returned (.slice A30 n30 c30)) w28)) (
     (fun e w' => ∃ A' c', e = Ending.returned (.slice A' (wiI l x).length c') ∧ OwnI w' w.heap.size TI A' c' (wiI l x) ∧ Below w.heap.size w w') (.returned (.slice A23 n23 c23)) w25)) := by
  intro m
  induction m with
  | zero =>
   intro i w2 A2 n2 c2 d out hm hi ho hn hlo hd hb
   have : i = l.length := by omega
   subst this
   subst hn
   unfold f_ref05_With.l0
   refine sel_f (by simp) fun _ => ?_
   rw [List.drop_length] at hd
   cases d with
   | true =>
    rw [if_pos rfl, List.append_nil] at hd
    subst hd
    exact sel_f rfl ⟨A2, c2, rfl, ho, hb⟩
   | false =>
    rw [if_neg (by decide)] at hd
    refine sel_t rfl (put_in ho rfl (x := x) hb.size (by simp at hlo; omega) fun A3 c3 w3 o3 k3 f3 => ?_)
    have e2 : wiI l x = out ++ [x] := hd
    rw [← e2] at o3
    refine ⟨_, c3, by rw [e2], o3, hb.trans (k3.below hb.size fun k hk ⟨a', ha', hh⟩ => ?_)⟩
    have := (ho.block a' ha').1; omega
  | succ m ih =>
   intro i w2 A2 n2 c2 d out hm hi ho hn hlo hd hb
   have hlt : i < l.length := by omega
   obtain ⟨a, rfl, q⟩ := (r.belw hb) i hlt
   have hw : IntKind.i64.wrap ((i : Int) + 1) = ((i + 1 : Nat) : Int) := by rw [w64_in (by omega)]; omega
   have hdr := List.drop_eq_getElem_cons hlt
   have q' : w2.cell? (a.add ((i : Int).toNat * 1)) = some (.int .i64 l[i]) := by rw [Int.toNat_natCast, Nat.mul_one]; exact q
   have j1 : ∀ (w3 : World) (A3 : Option Addr) (n3 c3 : Nat) (out3 : List Int) (d3 : Bool), OwnI w3 w.heap.size TI A3 c3 out3 → n3 = out3.length → out3.length ≤ i + (if d3 = true then 1 else 0) → Below w.heap.size w w3 → (if d3 = true then out3 ++ l.drop i = wiI l x else wiI l x = (out3 ++ [l[i]]) ++ wiI (l.drop (i + 1)) x) →
     f_ref05_With.j1 (some a) l.length c A3 n3 c3 (i : Int) w3 (fun A17 n17 c17 w18 => ∀ _ : Fr, f_ref05_With.l0 (m + 1) (some a) l.length c x A17 n17 c17 d3 (IntKind.i64.wrap ((i : Int) + 1)) w18 (fun (A23 : Option Addr) (n23 : Nat) (c23 : Nat) (b24 : Bool) (w25 : World) => ∀ _ : Fr,
      sel (!b24) (alW w25 (.cells #[.int .i64 x] TI) fun B26 w27 => Runs Try.prog (Builtin.append_ #[22, 22] 22 #[.slice A23 n23 c23, .slice (some (⟨B26, 0, Option.none⟩ : Addr)) 1 1]) w27 fun v29 w28 => ∃ (A30 : Option Addr) (n30 : Nat) (c30 : Nat), v29 = (.slice A30 n30 c30) ∧ (
       (fun e w' => ∃ A' c', e = Ending.returned (.slice A' (wiI l x).length c') ∧ OwnI w' w.heap.size TI A' c' (wiI l x) ∧ Below w.heap.size w w') (.returned (.slice A30 n30 c30)) w28)) (
       (fun e w' => ∃ A' c', e = Ending.returned (.slice A' (wiI l x).length c') ∧ OwnI w' w.heap.size TI A' c' (wiI l x) ∧ Below w.heap.size w w') (.returned (.slice A23 n23 c23)) w25))) := by
    intro w3 A3 n3 c3 out3 d3 ho3 hn3 hl3 hb3 hd3
    unfold f_ref05_With.j1
    obtain ⟨_, e1, q3⟩ := (r.belw hb3) i hlt
    injection e1 with e1; subst e1
    refine optB_some rfl (req_intro (by simp; omega) (ldI_intro (x := l[i]) (by rw [Int.toNat_natCast, Nat.mul_one]; exact q3) ?_))
    refine put_in ho3 hn3 (x := l[i]) hb3.size (by cases d3 <;> simp at hl3 <;> omega) fun A4 c4 w4 o4 k4 f4 => ?_
    intro _
    rw [hw]
    refine ih (i + 1) w4 _ _ c4 d3 (out3 ++ [l[i]]) (by omega) (by omega) o4 rfl (by rw [List.length_append]; simp only [List.length_singleton]; omega) ?_ (hb3.trans (k4.below hb3.size fun k hk ⟨a', ha', hh⟩ => ?_))
    ·cases d3 with
     | true =>
      rw [if_pos rfl] at hd3 ⊢
      rw [hdr] at hd3
      rw [List.append_assoc]; exact hd3
     | false => rw [if_neg (by decide)] at hd3 ⊢; exact hd3
    ·have := (ho3.block a' ha').1; omega
   unfold f_ref05_With.l0
   refine sel_t (by simpa using hlt) ?_
   cases d with
   | true => exact sel_f rfl (j1 w2 A2 n2 c2 out true ho hn hlo hb hd)
   | false =>
    rw [if_neg (by decide)] at hd
    refine sel_t rfl (optB_some rfl (req_intro (by simp; omega) (ldI_intro q' ?_)))
    rw [hdr] at hd
    rw [wiI_cons] at hd
    by_cases e : x < l[i]
    ·rw [if_pos e] at hd
     refine sel_t (by simpa using e) (put_in ho hn (x := x) hb.size (by simp at hlo; omega) fun A3 c3 w3 o3 k3 f3 => ?_)
     refine j1 w3 _ _ c3 (out ++ [x]) true o3 rfl (by simp at hlo ⊢; omega) (hb.trans (k3.below hb.size fun k hk ⟨a', ha', hh⟩ => ?_)) ?_
     ·have := (ho.block a' ha').1; omega
     ·rw [if_pos rfl, hd, hdr]; simp
    ·rw [if_neg e] at hd
     refine sel_f (by simpa using e) (j1 w2 A2 n2 c2 out false ho hn hlo hb ?_)
     rw [if_neg (by decide), List.append_assoc]; exact hd
 exact key l.length 0 w1 _ _ _ false [] (by omega) (by omega) o1 rfl (by simp) (by simp) b1
structure RS where
 A0 : Option Addr
 n0 : Nat
 c0 : Nat
 A1 : Option Addr
 n1 : Nat
 c1 : Nat
 A2 : Option Addr
 n2 : Nat
 c2 : Nat
 A3 : Option Addr
 n3 : Nat
 c3 : Nat
def rsC (s : RS) : Array Value := #[.slice s.A0 s.n0 s.c0, .slice s.A1 s.n1 s.c1, .slice s.A2 s.n2 s.c2, .slice s.A3 s.n3 s.c3]
def Rb (s : RS) (k : Nat) : Prop := Ob s.A0 k ∨ Ob s.A1 k
structure RF (w : World) (s : RS) (vr : List Int) (er : List E) : Prop where
 v : RI w s.A0 vr
 nv : s.n0 = vr.length
 e : RE w s.A1 er
 ne : s.n1 = er.length
 n2 : s.n2 = 0
 n3 : s.n3 = 0
 lt : ∀ k, Rb s k → k < w.heap.size
 vl : vr.length ≤ 2048
 el : er.length ≤ 4096
theorem RF.keeps {S : Nat → Prop} {w w' : World} {s : RS} {vr : List Int} {er : List E} (h : RF w s vr er) (k : Keeps S w w') (hS : ∀ b, Rb s b → ¬ S b) : RF w' s vr er :=
 ⟨h.v.keeps k fun a ha => hS _ (.inl ⟨a, ha, rfl⟩), h.nv, h.e.keeps k fun a ha => hS _ (.inr ⟨a, ha, rfl⟩), h.ne, h.n2, h.n3, fun b hb => Nat.lt_of_lt_of_le (h.lt b hb) k.size, h.vl, h.el⟩
theorem RF.belw {w w' : World} {s : RS} {vr : List Int} {er : List E} (h : RF w s vr er) (k : Below w.heap.size w w') : RF w' s vr er := h.keeps (S := fun _ => False) (.of_below k) fun _ _ => id
def s0 : RS := ⟨none, 0, 0, none, 0, 0, none, 0, 0, none, 0, 0⟩
theorem RF.zero (w : World) : RF w s0 [] [] := ⟨fun i h => absurd h (Nat.not_lt_zero _), rfl, fun i h => absurd h (Nat.not_lt_zero _), rfl, rfl, rfl, fun k hk => hk.elim (fun ⟨_, h, _⟩ => by cases h) (fun ⟨_, h, _⟩ => by cases h), by simp, by simp⟩
theorem HB.belK {w0 w w' : World} {b : Nat} (hb : Below w0.heap.size w0 w) (k : Keeps (fun k => k = b) w w') (h : w0.heap.size ≤ b) : Below w0.heap.size w0 w' := hb.trans (k.below hb.size fun i hi e => by omega)
theorem ret4 {w : World} {b : Nat} {cs : Array Value} {t : TypeId} (h : HB w b cs t) (hc : cs.size = 4) (s : RS) {K : Option Addr → Nat → Nat → Option Addr → Nat → Nat → Option Addr → Nat → Nat → Option Addr → Nat → Nat → World → Prop} (hk : ∀ w', HB w' b (rsC s) t → Keeps (fun k => k = b) w w' → K s.A0 s.n0 s.c0 s.A1 s.n1 s.c1 s.A2 s.n2 s.c2 s.A3 s.n3 s.c3 w') :
  stW w (⟨b, 0, none⟩ : Addr) (.slice s.A0 s.n0 s.c0) fun w1 => stW w1 ((⟨b, 0, none⟩ : Addr).add 1) (.slice s.A1 s.n1 s.c1) fun w2 => stW w2 ((⟨b, 0, none⟩ : Addr).add 2) (.slice s.A2 s.n2 s.c2) fun w3 => stW w3 ((⟨b, 0, none⟩ : Addr).add 3) (.slice s.A3 s.n3 s.c3) fun w4 =>
   ldS w4 (⟨b, 0, none⟩ : Addr) fun A0 n0 c0 => ldS w4 ((⟨b, 0, none⟩ : Addr).add 1) fun A1 n1 c1 => ldS w4 ((⟨b, 0, none⟩ : Addr).add 2) fun A2 n2 c2 => ldS w4 ((⟨b, 0, none⟩ : Addr).add 3) fun A3 n3 c3 => K A0 n0 c0 A1 n1 c1 A2 n2 c2 A3 n3 c3 w4 := by
 refine hb_st0 h (by omega) fun w1 h1 k1 => hb_st (j := 1) h1 (by simp; omega) fun w2 h2 k2 => hb_st (j := 2) h2 (by simp; omega) fun w3 h3 k3 => hb_st (j := 3) h3 (by simp; omega) fun w4 h4 k4 => ?_
 have e : (((cs.setIfInBounds 0 (.slice s.A0 s.n0 s.c0)).setIfInBounds 1 (.slice s.A1 s.n1 s.c1)).setIfInBounds 2 (.slice s.A2 s.n2 s.c2)).setIfInBounds 3 (.slice s.A3 s.n3 s.c3) = rsC s := by
  obtain ⟨l⟩ := cs
  match l, hc with
  | [_, _, _, _], _ => rfl
 rw [e] at h4
 exact hb_ldS0 h4 rfl (hb_ldS (j := 1) h4 rfl (hb_ldS (j := 2) h4 rfl (hb_ldS (j := 3) h4 rfl (hk w4 h4 ((k1.trans k2).trans (k3.trans k4))))))
theorem put4 {w : World} {b : Nat} {cs : Array Value} {t : TypeId} (h : HB w b cs t) (hc : cs.size = 4) (s : RS) {K : World → Prop} (hk : ∀ w', HB w' b (rsC s) t → Keeps (fun k => k = b) w w' → K w') :
  stW w (⟨b, 0, none⟩ : Addr) (.slice s.A0 s.n0 s.c0) fun w1 => stW w1 ((⟨b, 0, none⟩ : Addr).add 1) (.slice s.A1 s.n1 s.c1) fun w2 => stW w2 ((⟨b, 0, none⟩ : Addr).add 2) (.slice s.A2 s.n2 s.c2) fun w3 => stW w3 ((⟨b, 0, none⟩ : Addr).add 3) (.slice s.A3 s.n3 s.c3) K := by
 refine hb_st0 h (by omega) fun w1 h1 k1 => hb_st (j := 1) h1 (by simp; omega) fun w2 h2 k2 => hb_st (j := 2) h2 (by simp; omega) fun w3 h3 k3 => hb_st (j := 3) h3 (by simp; omega) fun w4 h4 k4 => ?_
 have e : (((cs.setIfInBounds 0 (.slice s.A0 s.n0 s.c0)).setIfInBounds 1 (.slice s.A1 s.n1 s.c1)).setIfInBounds 2 (.slice s.A2 s.n2 s.c2)).setIfInBounds 3 (.slice s.A3 s.n3 s.c3) = rsC s := by
  obtain ⟨l⟩ := cs
  match l, hc with
  | [_, _, _, _], _ => rfl
 rw [e] at h4
 exact hk w4 h4 ((k1.trans k2).trans (k3.trans k4))
theorem get4 {w : World} {b : Nat} {t : TypeId} {s : RS} (h : HB w b (rsC s) t) {K : Option Addr → Nat → Nat → Option Addr → Nat → Nat → Option Addr → Nat → Nat → Option Addr → Nat → Nat → Prop} (hk : K s.A0 s.n0 s.c0 s.A1 s.n1 s.c1 s.A2 s.n2 s.c2 s.A3 s.n3 s.c3) :
   ldS w (⟨b, 0, none⟩ : Addr) fun A0 n0 c0 => ldS w ((⟨b, 0, none⟩ : Addr).add 1) fun A1 n1 c1 => ldS w ((⟨b, 0, none⟩ : Addr).add 2) fun A2 n2 c2 => ldS w ((⟨b, 0, none⟩ : Addr).add 3) fun A3 n3 c3 => K A0 n0 c0 A1 n1 c1 A2 n2 c2 A3 n3 c3 :=
 hb_ldS0 h rfl (hb_ldS (j := 1) h rfl (hb_ldS (j := 2) h rfl (hb_ldS (j := 3) h rfl hk)))
theorem putE {w : World} {b : Nat} {cs : Array Value} {t : TypeId} (h : HB w b cs t) (hc : cs.size = 4) (e : E) {K : World → Prop} (hk : ∀ w', HB w' b (eC e) t → Keeps (fun k => k = b) w w' → K w') :
  stW w (⟨b, 0, none⟩ : Addr) (.int .i64 e.id) fun w1 => stW w1 ((⟨b, 0, none⟩ : Addr).add 1) (.int .i64 e.u) fun w2 => stW w2 ((⟨b, 0, none⟩ : Addr).add 2) (.int .i64 e.v) fun w3 => stW w3 ((⟨b, 0, none⟩ : Addr).add 3) (.int .i64 e.w) K := by
 refine hb_st0 h (by omega) fun w1 h1 k1 => hb_st (j := 1) h1 (by simp; omega) fun w2 h2 k2 => hb_st (j := 2) h2 (by simp; omega) fun w3 h3 k3 => hb_st (j := 3) h3 (by simp; omega) fun w4 h4 k4 => ?_
 have e : (((cs.setIfInBounds 0 (.int .i64 e.id)).setIfInBounds 1 (.int .i64 e.u)).setIfInBounds 2 (.int .i64 e.v)).setIfInBounds 3 (.int .i64 e.w) = eC e := by
  obtain ⟨l⟩ := cs
  match l, hc with
  | [_, _, _, _], _ => rfl
 rw [e] at h4
 exact hk w4 h4 ((k1.trans k2).trans (k3.trans k4))
theorem getE {w : World} {b : Nat} {t : TypeId} {e : E} (h : HB w b (eC e) t) {K : Int → Int → Int → Int → Prop} (hk : K e.id e.u e.v e.w) :
  ldI w (⟨b, 0, none⟩ : Addr) .i64 fun x0 => ldI w ((⟨b, 0, none⟩ : Addr).add 1) .i64 fun x1 => ldI w ((⟨b, 0, none⟩ : Addr).add 2) .i64 fun x2 => ldI w ((⟨b, 0, none⟩ : Addr).add 3) .i64 fun x3 => K x0 x1 x2 x3 :=
 hb_ldI0 h rfl (hb_ldI h (j := 1) rfl (hb_ldI h (j := 2) rfl (hb_ldI h (j := 3) rfl hk)))
theorem rowE {w : World} {a : Addr} {i : Nat} {e : E} (h : REd w a i e) {K : Int → Int → Int → Int → Prop} (hk : K e.id e.u e.v e.w) :
  ldI w (a.add ((i : Int).toNat * 4)) .i64 fun x0 => ldI w ((a.add ((i : Int).toNat * 4)).add 1) .i64 fun x1 => ldI w ((a.add ((i : Int).toNat * 4)).add 2) .i64 fun x2 => ldI w ((a.add ((i : Int).toNat * 4)).add 3) .i64 fun x3 => K x0 x1 x2 x3 := by
 rw [Int.toNat_natCast]
 exact ldI_intro h.c0 (ldI_intro h.c1 (ldI_intro h.c2 (ldI_intro h.c3 hk)))
theorem edgeE_cons (e : E) (es : List E) (i : Int) : edgeE (e :: es) i = (if e.id = i then e else edgeE es i) ∧ edgeB (e :: es) i = (if e.id = i then true else edgeB es i) := by
 unfold edgeE edgeB
 by_cases h : e.id = i <;> simp [h, List.find?_cons]
theorem REdge_l0 {w : World} {A : Option Addr} {l : List E} {n c : Nat} (r : RE w A l) (hn : n = l.length) (hl : l.length ≤ 100000) {x : Int} {b4 : Nat} {v0 v2 : Value} {b2 : Nat} {t2 t4 : TypeId} (h2 : HB w b2 #[v0, .slice A n c, v2] t2) (h4 : HB w b4 (eC zE) t4) {K0 : World → Prop} {Kr : Bool → World → Prop}
  (h0 : edgeB l x = false → K0 w) (h1 : edgeB l x = true → ∀ w', HB w' b4 (eC (edgeE l x)) t4 → Keeps (fun k => k = b4) w w' → Kr true w') : ∀ (m i : Nat), l.length - i = m → i ≤ l.length → (edgeB l x = edgeB (l.drop i) x ∧ edgeE l x = edgeE (l.drop i) x) →
   f_ref05_Edge.l0 (m + 1) x (⟨b2, 0, none⟩ : Addr) (⟨b4, 0, none⟩ : Addr) (i : Int) w K0 Kr := by
 subst hn
 intro m
 induction m with
 | zero =>
  intro i hm hi ht
  have : i = l.length := by omega
  subst this
  unfold f_ref05_Edge.l0
  refine hb_ldS h2 (j := 1) rfl (sel_f (by simp) (h0 ?_))
  rw [ht.1, List.drop_length]; rfl
 | succ m ih =>
  intro i hm hi ht
  have hlt : i < l.length := by omega
  obtain ⟨a, rfl, q⟩ := r i hlt
  unfold f_ref05_Edge.l0
  rw [List.drop_eq_getElem_cons hlt] at ht
  obtain ⟨k1, k2⟩ := edgeE_cons l[i] (l.drop (i + 1)) x
  rw [k1, k2] at ht
  refine hb_ldS h2 (j := 1) rfl (sel_t (by simpa using hlt) (hb_ldS h2 (j := 1) rfl (optB_some rfl (req_intro (by simp; omega) (ldI_intro (by rw [Int.toNat_natCast]; exact q.c0) ?_)))))
  by_cases e : l[i].id = x
  ·rw [if_pos e, if_pos e] at ht
   refine sel_t (by simp [e]) (hb_ldS h2 (j := 1) rfl (optB_some rfl (req_intro (by simp; omega) (rowE q (putE h4 rfl l[i] fun w' h' k' => ?_)))))
   exact h1 ht.1 w' (by rw [ht.2]; exact h') k'
  ·rw [if_neg e, if_neg e] at ht
   refine sel_f (by simp [e]) ?_
   rw [w64_in (by omega), show (i : Int) + 1 = ((i + 1 : Nat) : Int) by omega]
   exact ih (i + 1) (by omega) (by omega) ht
theorem edgeE_none {es : List E} {i : Int} (h : edgeB es i = false) : edgeE es i = zE := by
 unfold edgeB at h
 unfold edgeE
 rw [List.find?_eq_none.2 fun a ha h2 => by rw [List.any_eq_false] at h; exact h a ha h2]; rfl
theorem REdge5_ok {w : World} {A : Option Addr} {l : List E} {n c : Nat} (r : RE w A l) (hn : n = l.length) (hl : l.length ≤ 100000) (x : Int) :
  Calls Try.prog 69 #[.agg #[.slice none 0 0, .slice A n c, .slice none 0 0], .int .i64 x] w fun e w' => e = .returned (.tuple #[.agg (eC (edgeE l x)), .bool (edgeB l x)]) ∧ Below w.heap.size w w' := by
 apply f_ref05_Edge.ok
 unfold f_ref05_Edge.wp
 refine al_new fun w1 b1 e1 s1 h1 g1 => al_new fun w2 b2 e2 s2 h2 g2 => ?_
 have h1' := h1.below g2
 have hb := g1.trans (g2.mono (by omega))
 have h2 : HB w2 b2 (eC zE) 33 := h2
 refine ⟨l.length + 1, REdge_l0 (r.below hb) hn hl h1' h2 (fun h0 => ?_) (fun h0 w3 h3 k3 => ?_) l.length 0 (by omega) (by omega) (by simp)⟩
 ·intro _
  refine putE h2 rfl zE fun w3 h3 k3 => getE h3 ?_
  refine ⟨?_, HB.belK hb k3 (by omega)⟩
  rw [edgeE_none h0, h0]; rfl
 ·intro _
  refine getE h3 ⟨?_, HB.belK hb k3 (by omega)⟩
  rw [h0]; rfl
theorem REdge_ok {w : World} {s : RS} {vr : List Int} {er : List E} (h : RF w s vr er) (x : Int) :
  Calls Try.prog 44 #[.agg (rsC s), .int .i64 x] w fun e w' => e = .returned (.tuple #[.agg (eC (edgeE er x)), .bool (edgeB er x)]) ∧ Below w.heap.size w w' := by
 apply f_ref16_Edge.ok
 unfold f_ref16_Edge.wp
 refine al_new fun w1 b1 e1 s1 h1 g1 => al_new fun w2 b2 e2 s2 h2 g2 => ?_
 have hb := g1.trans (g2.mono (by omega))
 have h1 : HB w2 b1 (rsC s) 31 := h1.below g2
 have h2 : HB w2 b2 (eC zE) 33 := h2
 refine hb_ldS h1 (j := 1) rfl ((REdge5_ok (h.belw hb).e h.ne (by have := h.el; omega) x).mono ?_)
 rintro _ w3 ⟨rfl, g3⟩
 refine ⟨_, _, _, _, _, rfl, ?_⟩
 have hb3 := hb.trans (g3.mono hb.size)
 refine putE (h2.below g3) rfl (edgeE er x) fun w4 h4 k4 => getE h4 ⟨rfl, HB.belK hb3 k4 (by omega)⟩
structure Sb (w : World) (s s' : RS) : Prop where
 b : ∀ k, Rb s' k → Rb s k ∨ w.heap.size ≤ k
theorem Sb.refl (w : World) (s : RS) : Sb w s s := ⟨fun k h => .inl h⟩
def addVr (vr : List Int) (v : Int) : List Int := if addVC vr v = 0 then wiI vr v else vr
theorem RAddV_ok {w : World} {s : RS} {vr : List Int} {er : List E} (h : RF w s vr er) (v : Int) :
  Calls Try.prog 18 #[.agg (rsC s), .int .i64 v] w fun e w' => ∃ s', e = .returned (.tuple #[.agg (rsC s'), .int .i64 (addVC vr v)]) ∧ RF w' s' (addVr vr v) er ∧ Sb w s s' ∧ Below w.heap.size w w' := by
 apply f_ref16_AddV.ok
 unfold f_ref16_AddV.wp
 refine al_new fun w1 b1 e1 s1 h1 g1 => al_new fun w2 b2 e2 s2 h2 g2 => ?_
 have hb := g1.trans (g2.mono (by omega))
 have h1 : HB w2 b1 (rsC s) 31 := h1.below g2
 have hf := h.belw hb
 refine (RBad_ok v w2).mono ?_
 rintro _ w3 ⟨⟨b, rfl, hbad⟩, rfl⟩
 refine ⟨b, rfl, ?_⟩
 have same : ∀ {w'}, addVC vr v ≠ 0 → Keeps (fun k => k = b2) w3 w' → ∃ s', Ending.returned (.tuple #[.agg (rsC s), .int .i64 (addVC vr v)]) = .returned (.tuple #[.agg (rsC s'), .int .i64 (addVC vr v)]) ∧ RF w' s' (addVr vr v) er ∧ Sb w s s' ∧ Below w.heap.size w w' := fun hc hk => ⟨s, rfl, by unfold addVr; rw [if_neg hc]; exact h.belw (HB.belK hb hk (by omega)), .refl _ _, HB.belK hb hk (by omega)⟩
 by_cases hv : badI v
 ·have ec : addVC vr v = 1 := by unfold addVC; rw [if_pos hv]
  have := @same
  rw [ec] at this ⊢
  exact sel_t (hbad.2 hv) (get4 h1 (ret4 h2 rfl s fun w4 h4 k4 => this (by decide) k4))
 refine sel_f (Bool.eq_false_iff.2 fun hh => hv (hbad.1 hh)) (hb_ldS0 h1 rfl ((Has_ok hf.v h.nv (by have := h.vl; omega) v).mono ?_))
 rintro _ w4 ⟨rfl, rfl⟩
 refine ⟨_, rfl, ?_⟩
 by_cases hm : v ∈ vr
 ·have ec : addVC vr v = 50 := by unfold addVC; rw [if_neg hv, if_pos hm]
  have := @same
  rw [ec] at this ⊢
  exact sel_t (by simpa using hm) (get4 h1 (ret4 h2 rfl s fun w4 h4 k4 => this (by decide) k4))
 refine sel_f (by simpa using hm) (hb_ldS0 h1 rfl ?_)
 have hnv := h.nv
 by_cases hl : 2048 ≤ vr.length
 ·have ec : addVC vr v = 55 := by unfold addVC; rw [if_neg hv, if_neg hm, if_pos hl]
  have := @same
  rw [ec] at this ⊢
  exact sel_t (by simp; omega) (get4 h1 (ret4 h2 rfl s fun w4 h4 k4 => this (by decide) k4))
 have ec : addVC vr v = 0 := by unfold addVC; rw [if_neg hv, if_neg hm, if_neg hl]
 have er' : addVr vr v = wiI vr v := by unfold addVr; rw [if_pos ec]
 rw [ec, er']
 refine sel_f (by simp; omega) (drW_intro ?_)
 have hbd := hb.drew
 have hfd := h.belw hbd
 refine ⟨fun w' => HB w' b1 (rsC s) 31, h1, _, _, _, fun w' h => (h.cell 0).trans rfl, _, _, _, fun w' h => (h.cell 1).trans rfl, (With_ok hfd.v h.nv (by have := h.vl; omega) v).mono ?_⟩
 rintro _ w5 ⟨A', c', rfl, o5, g5⟩
 have h1d : HB w4.drew b1 (rsC s) 31 := h1
 have h2d : HB w4.drew b2 #[.slice none 0 0, .slice none 0 0, .slice none 0 0, .slice none 0 0] 31 := h2
 have h15 := h1d.below g5
 have h25 := h2d.below g5
 refine ⟨_, _, _, rfl, h15, hb_st0 h15 (by simp [rsC]) fun w6 h6 k6 => hb_st h6 (j := 1) (by simp [rsC]) fun w7 h7 k7 => ?_⟩
 have h7 : HB w7 b1 (rsC { s with A0 := A', n0 := (wiI vr v).length, c0 := c' }) 31 := h7
 have h27 := (h25.keeps k6 (by omega)).keeps k7 (by omega)
 have hb5 := hbd.trans (g5.mono hbd.size)
 have hb7 := HB.belK hb5 (k6.trans k7) (by omega)
 have lw : (wiI vr v).length = vr.length + 1 := by have := (wiI_perm vr v).length_eq; simpa using this
 have hb4s : w.heap.size ≤ w4.drew.heap.size := hbd.size
 refine get4 h7 (ret4 h27 rfl { s with A0 := A', n0 := (wiI vr v).length, c0 := c' } fun w8 h8 k8 => ⟨{ s with A0 := A', n0 := (wiI vr v).length, c0 := c' }, rfl, ?_, ?_, HB.belK hb7 k8 (by omega)⟩)
 ·have hA : ∀ a, A' = some a → b2 < a.block ∧ a.block < w5.heap.size := fun a ha => by
   have := o5.block a ha
   have h9 : w4.drew.heap.size = w4.heap.size := rfl
   have := h2.lt
   omega
  have o8 : OwnI w8 w4.drew.heap.size TI A' c' (wiI vr v) := ((o5.keeps k6 fun a ha e => by have := hA a ha; omega).keeps k7 fun a ha e => by have := hA a ha; omega).keeps k8 fun a ha e => by have := hA a ha; omega
  have hf8 := h.belw (HB.belK hb7 k8 (by omega))
  refine ⟨o8.reads, rfl, hf8.e, h.ne, h.n2, h.n3, ?_, by rw [lw]; omega, h.el⟩
  rintro k (⟨a, ha, rfl⟩ | hk)
  ·exact (o8.block a ha).2
  ·exact hf8.lt k (.inr hk)
 ·constructor
  rintro k (⟨a, ha, rfl⟩ | hk)
  ·exact .inr (by have := (o5.block a ha).1; omega)
  ·exact .inl (.inr hk)
theorem RDelV_l0 {w : World} {s : RS} {vr : List Int} {er : List E} (h : RF w s vr er) {v : Int} {b1 b2 : Nat} {cs : Array Value} (h1 : HB w b1 (rsC s) 31) (h2 : HB w b2 cs 31) (hc : cs.size = 4) {K0 : World → Prop} {Kr : Int → World → Prop}
  (k0 : deg er v = 0 → K0 w) (kr : 0 < deg er v → ∀ w', HB w' b2 (rsC s) 31 → Keeps (fun k => k = b2) w w' → Kr 52 w') : ∀ (m i : Nat), er.length - i = m → i ≤ er.length → (deg er v = deg (er.drop i) v) → f_ref16_DelV.l0 (m + 1) v (⟨b1, 0, none⟩ : Addr) (⟨b2, 0, none⟩ : Addr) (i : Int) w K0 Kr := by
 have hne := h.ne
 have hel := h.el
 intro m
 induction m with
 | zero =>
  intro i hm hi ht
  have : i = er.length := by omega
  subst this
  unfold f_ref16_DelV.l0
  refine hb_ldS h1 (j := 1) rfl (sel_f (by simp [hne]) (k0 ?_))
  rw [ht, List.drop_length]; rfl
 | succ m ih =>
  intro i hm hi ht
  have hlt : i < er.length := by omega
  obtain ⟨a, hA, q⟩ := h.e i hlt
  unfold f_ref16_DelV.l0
  rw [List.drop_eq_getElem_cons hlt] at ht
  simp only [deg] at ht
  have hnn := deg_nn (er.drop (i + 1)) v
  refine hb_ldS h1 (j := 1) rfl (sel_t (by simp; omega) (hb_ldS h1 (j := 1) rfl (optB_some hA (req_intro (by simp; omega) (ldI_intro (by rw [Int.toNat_natCast]; exact q.c1) ?_)))))
  by_cases e : er[i].u = v
  ·rw [if_pos e] at ht
   refine sel_t (by simp [e]) (get4 h1 (put4 h2 hc s fun w' h' k' => kr ?_ w' h' k'))
   split at ht <;> omega
  ·rw [if_neg e] at ht
   refine sel_f (by simp [e]) (hb_ldS h1 (j := 1) rfl (optB_some hA (req_intro (by simp; omega) (ldI_intro (by rw [Int.toNat_natCast]; exact q.c2) ?_))))
   by_cases e2 : er[i].v = v
   ·rw [if_pos e2] at ht
    exact sel_t (by simp [e2]) (get4 h1 (put4 h2 hc s fun w' h' k' => kr (by omega) w' h' k'))
   ·rw [if_neg e2] at ht
    refine sel_f (by simp [e2]) ?_
    rw [w64_in (by omega), show (i : Int) + 1 = ((i + 1 : Nat) : Int) by omega]
    exact ih (i + 1) (by omega) (by omega) (by omega)
def delVr (vr : List Int) (er : List E) (v : Int) : List Int := if delVC vr er v = 0 then woI vr v else vr
theorem RDelV_ok {w : World} {s : RS} {vr : List Int} {er : List E} (h : RF w s vr er) (v : Int) :
  Calls Try.prog 19 #[.agg (rsC s), .int .i64 v] w fun e w' => ∃ s', e = .returned (.tuple #[.agg (rsC s'), .int .i64 (delVC vr er v)]) ∧ RF w' s' (delVr vr er v) er ∧ Sb w s s' ∧ Below w.heap.size w w' := by
 apply f_ref16_DelV.ok
 unfold f_ref16_DelV.wp
 refine al_new fun w1 b1 e1 s1 h1 g1 => al_new fun w2 b2 e2 s2 h2 g2 => ?_
 have hb := g1.trans (g2.mono (by omega))
 have h1 : HB w2 b1 (rsC s) 31 := h1.below g2
 have hf := h.belw hb
 refine (RBad_ok v w2).mono ?_
 rintro _ w3 ⟨⟨b, rfl, hbad⟩, rfl⟩
 refine ⟨b, rfl, ?_⟩
 have same : ∀ {w'}, delVC vr er v ≠ 0 → Keeps (fun k => k = b2) w3 w' → ∃ s', Ending.returned (.tuple #[.agg (rsC s), .int .i64 (delVC vr er v)]) = .returned (.tuple #[.agg (rsC s'), .int .i64 (delVC vr er v)]) ∧ RF w' s' (delVr vr er v) er ∧ Sb w s s' ∧ Below w.heap.size w w' := fun hc hk => ⟨s, rfl, by unfold delVr; rw [if_neg hc]; exact h.belw (HB.belK hb hk (by omega)), .refl _ _, HB.belK hb hk (by omega)⟩
 by_cases hv : badI v
 ·have ec : delVC vr er v = 1 := by unfold delVC; rw [if_pos hv]
  have := @same
  rw [ec] at this ⊢
  exact sel_t (hbad.2 hv) (get4 h1 (ret4 h2 rfl s fun w4 h4 k4 => this (by decide) k4))
 refine sel_f (Bool.eq_false_iff.2 fun hh => hv (hbad.1 hh)) (hb_ldS0 h1 rfl ((Has_ok hf.v h.nv (by have := h.vl; omega) v).mono ?_))
 rintro _ w4 ⟨rfl, rfl⟩
 refine ⟨_, rfl, ?_⟩
 by_cases hm : ¬ v ∈ vr
 ·have ec : delVC vr er v = 51 := by unfold delVC; rw [if_neg hv, if_pos hm]
  have := @same
  rw [ec] at this ⊢
  exact sel_t (by simpa using hm) (get4 h1 (ret4 h2 rfl s fun w4 h4 k4 => this (by decide) k4))
 refine sel_f (by simpa using hm) ⟨er.length + 1, RDelV_l0 hf h1 h2 rfl (fun hd => ?_) (fun hd w5 h5 k5 => ?_) er.length 0 (by omega) (by omega) (by simp)⟩
 ·have ec : delVC vr er v = 0 := by unfold delVC; rw [if_neg hv, if_neg hm, if_neg (by omega)]
  have er' : delVr vr er v = woI vr v := by unfold delVr; rw [if_pos ec]
  rw [ec, er']
  intro _
  refine drW_intro ?_
  have hbd := hb.drew
  have hfd := h.belw hbd
  refine ⟨fun w' => HB w' b1 (rsC s) 31, h1, _, _, _, fun w' h => (h.cell 0).trans rfl, _, _, _, fun w' h => (h.cell 1).trans rfl, (Without_ok hfd.v h.nv (by have := h.vl; omega) v).mono ?_⟩
  rintro _ w5 ⟨A', c', rfl, o5, g5⟩
  have h1d : HB w4.drew b1 (rsC s) 31 := h1
  have h2d : HB w4.drew b2 #[.slice none 0 0, .slice none 0 0, .slice none 0 0, .slice none 0 0] 31 := h2
  have h15 := h1d.below g5
  have h25 := h2d.below g5
  refine ⟨_, _, _, rfl, h15, hb_st0 h15 (by simp [rsC]) fun w6 h6 k6 => hb_st h6 (j := 1) (by simp [rsC]) fun w7 h7 k7 => ?_⟩
  have h7 : HB w7 b1 (rsC { s with A0 := A', n0 := (woI vr v).length, c0 := c' }) 31 := h7
  have h27 := (h25.keeps k6 (by omega)).keeps k7 (by omega)
  have hb5 := hbd.trans (g5.mono hbd.size)
  have hb7 := HB.belK hb5 (k6.trans k7) (by omega)
  refine hb_ldS h7 (j := 2) rfl ((Without_ok (l := []) (fun i hi => absurd hi (Nat.not_lt_zero _)) h.n2 (by simp) v).mono ?_)
  rintro _ w8 ⟨A2, c2, rfl, o8, g8⟩
  have hb8 := hb7.trans (g8.mono hb7.size)
  refine ⟨_, _, _, rfl, hb_st (h7.below g8) (j := 2) (by simp [rsC]) fun w9 h9 k9 => ?_⟩
  have h9 : HB w9 b1 (rsC { s with A0 := A', n0 := (woI vr v).length, c0 := c', A2 := A2, n2 := (woI [] v).length, c2 := c2 }) 31 := h9
  have hb9 := HB.belK hb8 k9 (by omega)
  have h29 := (h27.below g8).keeps k9 (by omega)
  have lw : (woI vr v).length ≤ vr.length := List.length_filter_le _ _
  have hb4s : w.heap.size ≤ w4.drew.heap.size := hbd.size
  have hvl := h.vl
  refine get4 h9 (ret4 h29 rfl { s with A0 := A', n0 := (woI vr v).length, c0 := c', A2 := A2, n2 := (woI [] v).length, c2 := c2 } fun wA hA kA => ⟨_, rfl, ?_, ?_, HB.belK hb9 kA (by omega)⟩)
  ·have hA : ∀ a, A' = some a → b2 < a.block ∧ a.block < w5.heap.size := fun a ha => by
    have := o5.block a ha
    have h9 : w4.drew.heap.size = w4.heap.size := rfl
    have := h2.lt
    omega
   have o7 : OwnI w7 w4.drew.heap.size TI A' c' (woI vr v) := (o5.keeps k6 fun a ha e => by have := hA a ha; omega).keeps k7 fun a ha e => by have := hA a ha; omega
   have o9 : OwnI w9 w4.drew.heap.size TI A' c' (woI vr v) := (o7.keeps (S := fun _ => False) (.of_below g8) fun _ _ => id).keeps k9 fun a ha e => by have := hA a ha; omega
   have oA := o9.keeps kA fun a ha e => by have := hA a ha; omega
   have hfA := h.belw (HB.belK hb9 kA (by omega))
   refine ⟨oA.reads, rfl, hfA.e, h.ne, rfl, h.n3, ?_, by show (woI vr v).length ≤ 2048; omega, h.el⟩
   rintro k (⟨a, ha, rfl⟩ | hk)
   ·exact (oA.block a ha).2
   ·exact hfA.lt k (.inr hk)
  ·constructor
   rintro k (⟨a, ha, rfl⟩ | hk)
   ·exact .inr (by have := (o5.block a ha).1; omega)
   ·exact .inl (.inr hk)
 ·have ec : delVC vr er v = 52 := by unfold delVC; rw [if_neg hv, if_neg hm, if_pos hd]
  have := @same
  rw [ec] at this ⊢
  intro _
  exact get4 h5 (this (by decide) k5)
def nC (A0 : Option Addr) (n0 c0 : Nat) (A1 : Option Addr) (n1 c1 : Nat) : Array Value := #[.slice A0 n0 c0, .slice A1 n1 c1]
theorem noE_take {l : List E} {i : Nat} (h : i < l.length) (x : Int) : noE (l.take (i + 1)) x = if l[i].id = x then noE (l.take i) x else noE (l.take i) x ++ [l[i]] := by
 unfold noE
 rw [List.take_succ_eq_append_getElem h, List.filter_append]
 by_cases e : l[i].id = x
 ·rw [if_pos e]; simp [e]
 ·rw [if_neg e]; simp [e]
theorem RCut_l0 {w0 wS : World} {s : RS} {vr : List Int} {er : List E} (h : RF w0 s vr er) {x : Int} {b1 b8 : Nat} (hb8 : w0.heap.size ≤ b8) (l8 : b8 < wS.heap.size) (hS : Below w0.heap.size w0 wS) (h1S : HB wS b1 (rsC s) 31) (hne : b1 ≠ b8) {Av : Option Addr} {nv cv : Nat} {K0 : World → Prop}
  (k0 : ∀ w A c, HB w b8 (nC Av nv cv A (noE er x).length c) 29 → OwnEd w wS.heap.size TE A c (noE er x) → Keeps (fun k => k = b8) wS w → K0 w) : ∀ (m i : Nat) (w : World) (A : Option Addr) (c : Nat), er.length - i = m → i ≤ er.length →
   HB w b8 (nC Av nv cv A (noE (er.take i) x).length c) 29 → OwnEd w wS.heap.size TE A c (noE (er.take i) x) → Keeps (fun k => k = b8) wS w → f_ref16_Cut.l0 (m + 1) x (⟨b1, 0, none⟩ : Addr) (⟨b8, 0, none⟩ : Addr) (i : Int) w K0 := by
 have hn := h.ne
 have hel := h.el
 have hsz := hS.size
 intro m
 induction m with
 | zero =>
  intro i w A c hm hi h8 ho hk
  have : i = er.length := by omega
  subst this
  rw [List.take_length] at h8 ho
  unfold f_ref16_Cut.l0
  exact hb_ldS (h1S.keeps hk hne) (j := 1) rfl (sel_f (by simp [hn]) (k0 w A c h8 ho hk))
 | succ m ih =>
  intro i w A c hm hi h8 ho hk
  have hlt : i < er.length := by omega
  have h1 := h1S.keeps hk hne
  have hb := HB.belK hS hk hb8
  have hf := h.belw hb
  obtain ⟨a, hA, q⟩ := hf.e i hlt
  have hw : IntKind.i64.wrap ((i : Int) + 1) = ((i + 1 : Nat) : Int) := by rw [w64_in (by omega)]; omega
  have htk := noE_take hlt x
  have hlen : (noE (er.take i) x).length ≤ er.length := Nat.le_trans (List.length_filter_le _ _) (by rw [List.length_take]; omega)
  unfold f_ref16_Cut.l0
  refine hb_ldS h1 (j := 1) rfl (sel_t (by simp; omega) (hb_ldS h1 (j := 1) rfl (optB_some hA (req_intro (by simp; omega) (ldI_intro (by rw [Int.toNat_natCast]; exact q.c0) ?_)))))
  by_cases e : er[i].id = x
  ·refine sel_f (by simp [e]) ?_
   rw [if_pos e] at htk
   rw [hw]
   exact ih (i + 1) w A c (by omega) (by omega) (by rw [htk]; exact h8) (by rw [htk]; exact ho) hk
  ·rw [if_neg e] at htk
   refine sel_t (by simp [e]) (drW_intro ?_)
   have hd8 : HB w.drew b8 (nC Av nv cv A (noE (er.take i) x).length c) 29 := h8
   have hkd := hk.drew
   have qq : ∀ w', Keeps (fun k => k = b8) wS w' → REd w' a i er[i] := fun w' hk => by
    obtain ⟨a', hA', q'⟩ := (h.belw (HB.belK hS hk hb8)).e i hlt
    rw [hA] at hA'; injection hA' with hA'; subst hA'; exact q'
   refine ⟨fun w' => HB w' b8 (nC Av nv cv A (noE (er.take i) x).length c) 29 ∧ Keeps (fun k => k = b8) wS w', ⟨hd8, hkd⟩, A, _, c, fun w' h => (h.1.cell 1).trans rfl, s.A1, s.n1, s.c1, fun w' h => ((h1S.keeps h.2 hne).cell 1).trans rfl, optB_some hA (req_intro (by simp; omega) ?_)⟩
   refine ⟨_, fun w' h => by rw [Int.toNat_natCast]; exact (qq w' h.2).c0, _, fun w' h => by rw [Int.toNat_natCast]; exact (qq w' h.2).c1, _, fun w' h => by rw [Int.toNat_natCast]; exact (qq w' h.2).c2, _, fun w' h => by rw [Int.toNat_natCast]; exact (qq w' h.2).c3, ?_⟩
   refine al_new fun w2 b e2 s2 h2 g2 => ?_
   have o2 : OwnEd w2 wS.heap.size TE A c (noE (er.take i) x) := (ho.keeps (S := fun _ => False) (w' := w.drew) (Keeps.refl _ _).drew fun _ _ => id).keeps (S := fun _ => False) (.of_below g2) fun _ _ => id
   have hk2 := hkd.trans (.of_below g2)
   refine ⟨⟨hd8.below g2, hk2⟩, app_ed o2 rfl (e := er[i]) h2 hk2.size (by omega) fun A' c' w3 o3 k3 f3 => ⟨_, _, _, rfl, ?_⟩⟩
   have nA : ∀ k, k < wS.heap.size → ¬ Ob A k := fun k hk ⟨a', ha', hh⟩ => by have := (ho.block a' ha').1; omega
   have h83 := (hd8.below g2).keeps k3 (nA b8 l8)
   refine hb_st h83 (j := 1) (by simp [nC]) fun w4 h84 k4 => ?_
   rw [hw]
   refine ih (i + 1) w4 (some A') c' (by omega) (by omega) (by rw [htk]; exact h84) (by rw [htk]; exact o3.keeps k4 fun a' ha' e => by have := (o3.block a' ha').1; omega) ?_
   exact (hk2.trans' k3 fun k hk hh => absurd hh (nA k hk)).trans k4
def cutEr (er : List E) (i : Int) : List E := if cutC er i = 0 then noE er i else er
theorem edgeB_iff (es : List E) (i : Int) : edgeB es i = true ↔ i ∈ es.map E.id := by
 unfold edgeB
 rw [List.any_eq_true, List.mem_map]
 constructor
 ·rintro ⟨e, he, h⟩; exact ⟨e, he, by simpa using h⟩
 ·rintro ⟨e, he, h⟩; exact ⟨e, he, by simpa using h⟩
theorem RCut_ok {w : World} {s : RS} {vr : List Int} {er : List E} (h : RF w s vr er) (x : Int) :
  Calls Try.prog 21 #[.agg (rsC s), .int .i64 x] w fun e w' => ∃ s', e = .returned (.tuple #[.agg (rsC s'), .int .i64 (cutC er x)]) ∧ RF w' s' vr (cutEr er x) ∧ Sb w s s' ∧ Below w.heap.size w w' := by
 apply f_ref16_Cut.ok
 unfold f_ref16_Cut.wp
 refine al_new fun w1 b1 e1 s1 h1 g1 => al_new fun w2 b2 e2 s2 h2 g2 => ?_
 have hb := g1.trans (g2.mono (by omega))
 have h1 : HB w2 b1 (rsC s) 31 := h1.below g2
 have hf := h.belw hb
 refine (RBad_ok x w2).mono ?_
 rintro _ w3 ⟨⟨b, rfl, hbad⟩, rfl⟩
 refine ⟨b, rfl, ?_⟩
 have same : ∀ {w'}, cutC er x ≠ 0 → Below w.heap.size w w' → ∃ s', Ending.returned (.tuple #[.agg (rsC s), .int .i64 (cutC er x)]) = .returned (.tuple #[.agg (rsC s'), .int .i64 (cutC er x)]) ∧ RF w' s' vr (cutEr er x) ∧ Sb w s s' ∧ Below w.heap.size w w' := fun hc hk => ⟨s, rfl, by unfold cutEr; rw [if_neg hc]; exact h.belw hk, .refl _ _, hk⟩
 by_cases hv : badI x
 ·have ec : cutC er x = 1 := by unfold cutC; rw [if_pos hv]
  have := @same
  rw [ec] at this ⊢
  exact sel_t (hbad.2 hv) (get4 h1 (ret4 h2 rfl s fun w4 h4 k4 => this (by decide) (HB.belK hb k4 (by omega))))
 refine sel_f (Bool.eq_false_iff.2 fun hh => hv (hbad.1 hh)) (get4 h1 ((REdge_ok hf x).mono ?_))
 rintro _ w4 ⟨rfl, g4⟩
 refine ⟨_, _, _, _, _, rfl, ?_⟩
 have hb4 := hb.trans (g4.mono hb.size)
 have h14 := h1.below g4
 have h24 := h2.below g4
 refine edge4 (e := edgeE er x) fun w5 b5 e5 h5 g5 => ?_
 have hb5 := hb4.trans (g5.mono hb4.size)
 have h15 := h14.below g5
 have h25 := h24.below g5
 by_cases hm : x ∉ er.map E.id
 ·have ec : cutC er x = 152 := by unfold cutC; rw [if_neg hv, if_pos hm]
  have := @same
  rw [ec] at this ⊢
  refine sel_t (by rw [Bool.not_eq_true', Bool.eq_false_iff]; exact fun hh => hm ((edgeB_iff er x).1 hh)) (get4 h15 (ret4 h25 rfl s fun w4 h4 k4 => this (by decide) (HB.belK hb5 k4 (by omega))))
 have ec : cutC er x = 0 := by unfold cutC; rw [if_neg hv, if_neg hm]
 have er' : cutEr er x = noE er x := by unfold cutEr; rw [if_pos ec]
 rw [ec, er']
 refine sel_f (by rw [(edgeB_iff er x).2 (Classical.not_not.1 hm)]; rfl) (hb_ldS0 h15 rfl ?_)
 refine al_new fun w6 b8 e8 s8 h8 g8 => ?_
 have hb6 := hb5.trans (g8.mono hb5.size)
 have h16 := h15.below g8
 have h26 := h25.below g8
 refine hb_st0 h8 (by simp) fun w7 h87 k7 => hb_st h87 (j := 1) (by simp) fun w8 h88 k8 => ?_
 have h88 : HB w8 b8 (nC s.A0 s.n0 s.c0 none (noE (er.take 0) x).length 0) 29 := h88
 have l1 := h15.lt
 have l2 := h25.lt
 have h18 := (h16.keeps k7 (by omega)).keeps k8 (by omega)
 have h28 := (h26.keeps k7 (by omega)).keeps k8 (by omega)
 have hb8 := HB.belK hb6 (k7.trans k8) (by have := hb5.size; omega)
 have b8s : w.heap.size ≤ b8 := by have := hb5.size; omega
 refine ⟨er.length + 1, RCut_l0 h b8s h88.lt hb8 h18 (by omega) (fun w9 A c h89 o9 k9 => ?_) er.length 0 w8 none 0 (by omega) (by omega) h88 (OwnEd.none _ _ _) (Keeps.refl _ _)⟩
 intro _
 have h19 := h18.keeps k9 (by omega)
 have h29 := h28.keeps k9 (by omega)
 have hb9 := HB.belK hb8 k9 b8s
 have sz8 : w.heap.size ≤ w8.heap.size := hb8.size
 have l18 := h18.lt
 have l28 := h28.lt
 have oA : ∀ {w'}, OwnEd w' w8.heap.size TE A c (noE er x) → ∀ k, k < w8.heap.size → ∀ a, A = some a → ¬ (a.block = k) := fun o k hk a ha e => by have := (o.block a ha).1; omega
 refine hb_ldS0 h89 rfl (hb_ldS h89 (j := 1) rfl (hb_st0 h19 (by simp [rsC]) fun wA hA kA => hb_st hA (j := 1) (by simp [rsC]) fun wB hB kB => ?_))
 have hB : HB wB b1 (rsC { s with A1 := A, n1 := (noE er x).length, c1 := c }) 31 := hB
 have h2B := (h29.keeps kA (by omega)).keeps kB (by omega)
 have hbB := HB.belK hb9 (kA.trans kB) (by omega)
 have oB := (o9.keeps kA fun a ha => oA o9 b1 l18 a ha).keeps kB fun a ha => oA o9 b1 l18 a ha
 refine hb_ldS hB (j := 3) rfl ((Without_ok (l := []) (fun i hi => absurd hi (Nat.not_lt_zero _)) h.n3 (by simp) x).mono ?_)
 rintro _ wC ⟨A3, c3, rfl, oC, gC⟩
 have hbC := hbB.trans (gC.mono hbB.size)
 refine ⟨_, _, _, rfl, hb_st (hB.below gC) (j := 3) (by simp [rsC]) fun wD hD kD => ?_⟩
 have hD : HB wD b1 (rsC { s with A1 := A, n1 := (noE er x).length, c1 := c, A3 := A3, n3 := (woI [] x).length, c3 := c3 }) 31 := hD
 have hbD := HB.belK hbC kD (by omega)
 have h2D := (h2B.below gC).keeps kD (by omega)
 have oD : OwnEd wD w8.heap.size TE A c (noE er x) := (oB.keeps (S := fun _ => False) (.of_below gC) fun _ _ => id).keeps kD fun a ha => oA oB b1 l18 a ha
 refine get4 hD (ret4 h2D rfl { s with A1 := A, n1 := (noE er x).length, c1 := c, A3 := A3, n3 := (woI [] x).length, c3 := c3 } fun wE hE kE => ⟨_, rfl, ?_, ?_, HB.belK hbD kE (by omega)⟩)
 ·have oE := oD.keeps kE fun a ha => oA oD b2 l28 a ha
  have hfE := h.belw (HB.belK hbD kE (by omega))
  refine ⟨hfE.v, h.nv, oE.reads, rfl, h.n2, rfl, ?_, h.vl, Nat.le_trans (List.length_filter_le _ _) h.el⟩
  rintro k (hk | ⟨a, ha, rfl⟩)
  ·exact hfE.lt k (.inl hk)
  ·exact (oE.block a ha).2
 ·constructor
  rintro k (hk | ⟨a, ha, rfl⟩)
  ·exact .inl (.inl hk)
  ·exact .inr (by have := (oD.block a ha).1; omega)
end Go.Proofs.Ytklnlnjgaadjbaa.Rd
namespace Go.Dn
open Go.RowKit
theorem oth_oth {e : E} {m : Int} (h : e.u = m ∨ e.v = m) : oth e (oth e m) = m := by
 unfold oth
 by_cases h1 : e.u = m
 ·rw [if_pos h1]
  split
  ·rename_i h2; rw [← h2]; exact h1
  ·exact h1
 ·rw [if_neg h1, if_pos rfl]; exact h.resolve_left h1
theorem Wk.app {es : List E} {u m v : Int} {p q : List E} (h : Wk es u p m) (k : Wk es m q v) : Wk es u (p ++ q) v := by
 induction h with
 | nil => exact k
 | cons he hm h ih => exact .cons he hm (ih k)
theorem Wk.rev {es : List E} {u v : Int} {p : List E} (h : Wk es u p v) : Wk es v p.reverse u := by
 induction h with
 | nil => exact .nil _
 | cons he hm h ih =>
  rename_i e m v p
  rw [List.reverse_cons]
  refine ih.app (.cons he (oth_end e m) ?_)
  rw [oth_oth hm]; exact .nil _
theorem Wk.mono {es es' : List E} (hs : ∀ e ∈ es, e ∈ es') {u v : Int} {p : List E} (h : Wk es u p v) : Wk es' u p v := by
 induction h with
 | nil => exact .nil _
 | cons he hm h ih => exact .cons (hs _ he) hm ih
theorem Wk.red {es : List E} (hi : ∀ e ∈ es, ∀ e' ∈ es, e.id = e'.id → e = e') {u v : Int} {p : List E} (h : Wk es u p v) : ∃ q, Wk es u q v ∧ NB q := by
 induction h with
 | nil => exact ⟨[], .nil _, trivial⟩
 | cons he hm h ih =>
  rename_i e m v p
  obtain ⟨q, hq, nq⟩ := ih
  cases q with
  | nil => exact ⟨[e], .cons he hm hq, trivial⟩
  | cons e' q =>
   by_cases hid : e.id = e'.id
   ·have hq0 := hq
    cases hq with
    | cons he' hm' hq' =>
     have := hi e he e' he' hid
     subst this
     rw [oth_oth hm] at hq'
     exact ⟨q, hq', nq.tail⟩
   ·exact ⟨e :: e' :: q, .cons he hm hq, hid, nq⟩
def Cn (es : List E) (u v : Int) : Prop := ∃ p, Wk es u p v
theorem Cn.refl (es : List E) (u : Int) : Cn es u u := ⟨[], .nil _⟩
theorem Cn.trans {es : List E} {u v w : Int} (h : Cn es u v) (k : Cn es v w) : Cn es u w := by
 obtain ⟨p, hp⟩ := h; obtain ⟨q, hq⟩ := k; exact ⟨_, hp.app hq⟩
theorem Cn.symm {es : List E} {u v : Int} (h : Cn es u v) : Cn es v u := by
 obtain ⟨p, hp⟩ := h; exact ⟨_, hp.rev⟩
theorem Cn.mono {es es' : List E} (hs : ∀ e ∈ es, e ∈ es') {u v : Int} (h : Cn es u v) : Cn es' u v := by
 obtain ⟨p, hp⟩ := h; exact ⟨_, hp.mono hs⟩
theorem Cn.edge {es : List E} {e : E} (he : e ∈ es) : Cn es e.u e.v := ⟨[e], .cons he (.inl rfl) (by unfold oth; rw [if_pos rfl]; exact .nil _)⟩
theorem cn_add {es : List E} {e : E} {x y : Int} : Cn (es ++ [e]) x y ↔ Cn es x y ∨ (Cn es x e.u ∧ Cn es e.v y) ∨ (Cn es x e.v ∧ Cn es e.u y) := by
 have sub : ∀ a ∈ es, a ∈ es ++ [e] := fun a ha => by simp [ha]
 have ee : Cn (es ++ [e]) e.u e.v := Cn.edge (by simp)
 constructor
 ·rintro ⟨p, hp⟩
  refine hp.inv (Q := fun y => Cn es x y ∨ (Cn es x e.u ∧ Cn es e.v y) ∨ (Cn es x e.v ∧ Cn es e.u y)) (fun a ha => ?_) (.inl (Cn.refl _ _))
  rcases List.mem_append.1 ha with ha | ha
  ·have h := Cn.edge ha
   constructor
   ·rintro (h1 | ⟨h1, h2⟩ | ⟨h1, h2⟩)
    ·exact .inl (h1.trans h)
    ·exact .inr (.inl ⟨h1, h2.trans h⟩)
    ·exact .inr (.inr ⟨h1, h2.trans h⟩)
   ·rintro (h1 | ⟨h1, h2⟩ | ⟨h1, h2⟩)
    ·exact .inl (h1.trans h.symm)
    ·exact .inr (.inl ⟨h1, h2.trans h.symm⟩)
    ·exact .inr (.inr ⟨h1, h2.trans h.symm⟩)
  ·rw [List.mem_singleton] at ha
   subst ha
   constructor
   ·rintro (h1 | ⟨h1, h2⟩ | ⟨h1, h2⟩)
    ·exact .inr (.inl ⟨h1, Cn.refl _ _⟩)
    ·exact .inr (.inl ⟨h1, Cn.refl _ _⟩)
    ·exact .inl h1
   ·rintro (h1 | ⟨h1, h2⟩ | ⟨h1, h2⟩)
    ·exact .inr (.inr ⟨h1, Cn.refl _ _⟩)
    ·exact .inl h1
    ·exact .inr (.inr ⟨h1, Cn.refl _ _⟩)
 ·rintro (h | ⟨h1, h2⟩ | ⟨h1, h2⟩)
  ·exact h.mono sub
  ·exact ((h1.mono sub).trans ee).trans (h2.mono sub)
  ·exact ((h1.mono sub).trans ee.symm).trans (h2.mono sub)
theorem nodup_ix {l : List Int} (hn : l.Nodup) {j k : Nat} (hj : j < l.length) (hk : k < l.length) (h : l[j] = l[k]) : j = k := by
 rw [List.nodup_iff_pairwise_ne, List.pairwise_iff_getElem] at hn
 rcases Nat.lt_trichotomy j k with h1 | h1 | h1
 ·exact absurd h (hn j k hj hk h1)
 ·exact h1
 ·exact absurd h.symm (hn k j hk hj h1)
structure SetsOk (vr : List Int) (es : List E) (out : List Int) : Prop where
 len : out.length = vr.length
 ok : ∀ j k (hj : j < vr.length) (hk : k < vr.length), out[j]'(by omega) = out[k]'(by omega) ↔ Cn es vr[j] vr[k]
def mrg (a b : Int) (out : List Int) : List Int := out.map fun y => if y = b then a else y
theorem SetsOk.step {vr : List Int} {es : List E} {out : List Int} (h : SetsOk vr es out) {e : E} {p q : Nat} (hp : p < vr.length) (hq : q < vr.length) (ep : vr[p] = e.u) (eq : vr[q] = e.v) {a b : Int} (hab : (a = out[p]'(by have := h.len; omega) ∧ b = out[q]'(by have := h.len; omega)) ∨ (a = out[q]'(by have := h.len; omega) ∧ b = out[p]'(by have := h.len; omega))) : SetsOk vr (es ++ [e]) (mrg a b out) := by
 have hlen := h.len
 refine ⟨by simp [mrg, hlen], fun j k hj hk => ?_⟩
 have e1 : ∀ j (hj : j < vr.length), (mrg a b out)[j]'(by simp [mrg]; omega) = if out[j]'(by omega) = b then a else out[j]'(by omega) := fun j hj => by simp [mrg]
 rw [e1 j hj, e1 k hk, cn_add, ← ep, ← eq]
 have o1 := h.ok j k hj hk
 have o2 := h.ok j p hj hp
 have o3 := h.ok q k hq hk
 have o4 := h.ok j q hj hq
 have o5 := h.ok p k hp hk
 rw [← o1, ← o2, ← o3, ← o4, ← o5]
 generalize out[j]'(by omega) = oj at *
 generalize out[k]'(by omega) = ok at *
 generalize out[p]'(by omega) = op at *
 generalize out[q]'(by omega) = oq at *
 clear o1 o2 o3 o4 o5 e1
 rcases hab with ⟨rfl, rfl⟩ | ⟨rfl, rfl⟩
 ·split <;> split <;> omega
 ·split <;> split <;> omega
end Go.Dn
namespace Go.Proofs.Ytklnlnjgaadjbaa.Rd
open Go.Dn Go.RowKit
set_option maxRecDepth 100000
theorem _root_.Go.Dn.OwnI.st {w : World} {B e : Nat} {A : Option Addr} {c : Nat} {l : List Int} (h : OwnI w B e A c l) {j : Nat} (hj : j < l.length) {v : Int} {K : World → Prop} (hk : ∀ w', OwnI w' B e A c (l.set j v) → Keeps (Ob A) w w' → K w') : optB A fun a => stW w (a.add j) (.int .i64 v) K := by
 have h0 := h
 rcases h.2 with ⟨_, h1⟩ | ⟨g, cap, cur, hv, hg, hh, hn, hm, hs, ht⟩
 ·omega
 ·injection hv with hA hn' hc
  subst hA; subst hc
  obtain ⟨ho, hgr⟩ := World.ownsRow.stored h j (.int .i64 v)
  refine optB_some rfl ?_
  rw [add_mk, Nat.zero_add]
  have hjc : j < cur.size := by omega
  refine stW_intro ⟨⟨_, by rw [cell_of_row w _ _ _ _ _ hh]; exact Array.getElem?_eq_getElem hjc⟩, frozen_of_row _ _ _ _ _ hh⟩ (hk _ ?_ ⟨hgr.os, hgr.tape, hgr.output, hgr.size, fun k hk hn => hgr.block k hk fun e => hn ⟨_, rfl, by injection e with e; exact e.symm⟩⟩)
  unfold OwnI
  rw [List.length_set, List.map_set]; exact ho
theorem Sets_l3 {w0 : World} {B : Nat} (hB : B ≤ w0.heap.size) {A : Option Addr} {n c : Nat} {out : List Int} (hn : n = out.length) (hl : out.length ≤ 100000) {a b : Int} {K0 : World → Prop} (k0 : ∀ w, OwnI w B TI A c (mrg a b out) → Keeps (Ob A) w0 w → K0 w) : ∀ (m i : Nat) (w : World), out.length - i = m → i ≤ out.length → OwnI w B TI A c (mrg a b (out.take i) ++ out.drop i) → Keeps (Ob A) w0 w →
  f_ref06_Sets.l3 (m + 1) A n c a b (i : Int) w K0 := by
 subst hn
 intro m
 induction m with
 | zero =>
  intro i w hm hi ho hk
  have : i = out.length := by omega
  subst this
  rw [List.take_length, List.drop_length, List.append_nil] at ho
  unfold f_ref06_Sets.l3
  exact sel_f (by simp) (k0 w ho hk)
 | succ m ih =>
  intro i w hm hi ho hk
  have hlt : i < out.length := by omega
  have hw : IntKind.i64.wrap ((i : Int) + 1) = ((i + 1 : Nat) : Int) := by rw [w64_in (by omega)]; omega
  have hml : (mrg a b (out.take i)).length = i := by simp [mrg]; omega
  have hdr := List.drop_eq_getElem_cons hlt
  have hlen : (mrg a b (out.take i) ++ out.drop i).length = out.length := by rw [List.length_append, hml, List.length_drop]; omega
  have hget : (mrg a b (out.take i) ++ out.drop i)[i]'(by omega) = out[i] := by
   rw [List.getElem_append_right (by omega)]; simp [hml]
  have hnext : ∀ y, (mrg a b (out.take i) ++ out.drop i).set i y = (mrg a b (out.take i) ++ [y]) ++ out.drop (i + 1) := fun y => by
   rw [List.set_append_right _ _ (by omega), hml, Nat.sub_self, hdr, List.set_cons_zero, List.append_assoc]; rfl
  have hmt : mrg a b (out.take (i + 1)) = mrg a b (out.take i) ++ [if out[i] = b then a else out[i]] := by
   unfold mrg; rw [List.take_succ_eq_append_getElem hlt, List.map_append]; rfl
  unfold f_ref06_Sets.l3
  refine sel_t (by simpa using hlt) ?_
  by_cases hab : a = b
  ·refine sel_f (by simp [hab]) (k0 w ?_ hk)
   have : ∀ l, mrg a b l = l := fun l => by
    unfold mrg
    rw [hab]
    conv => rhs; rw [← List.map_id l]
    apply List.map_congr_left
    intro y _
    split
    ·rename_i h; exact h.symm
    ·rfl
   rw [this] at ho ⊢
   rw [List.take_append_drop] at ho; exact ho
  ·obtain ⟨a', rfl, q⟩ := ho.reads i (by omega)
   rw [hget] at q
   refine sel_t (by simp [hab]) (optB_some rfl (req_intro (by simp; omega) (ldI_intro (x := out[i]) (by rw [Int.toNat_natCast, Nat.mul_one]; exact q) ?_)))
   by_cases e : out[i] = b
   ·have := ho.st (j := i) (by omega) (v := a) (K := fun w' => f_ref06_Sets.l3 (m + 1) (some a') out.length c a b (IntKind.i64.wrap ((i : Int) + 1)) w' K0) (fun w' o' k' => by
     rw [hw]
     refine ih (i + 1) w' (by omega) (by omega) ?_ (hk.trans k')
     rw [hmt, if_pos e]; rw [hnext] at o'; exact o')
    refine sel_t (by simp [e]) (optB_some rfl (req_intro (by simp; omega) ?_))
    rw [Int.toNat_natCast, Nat.mul_one]
    exact this
   ·refine sel_f (by simp [e]) ?_
    rw [hw]
    refine ih (i + 1) w (by omega) (by omega) ?_ hk
    rw [hmt, if_neg e, List.append_assoc, List.singleton_append, ← hdr]; exact ho
theorem Sets_l1 {w0 wS : World} {Av Ae : Option Addr} {nv cv ne ce : Nat} {vr : List Int} {er : List E} (hS : Below w0.heap.size w0 wS) (rv : RI w0 Av vr) (hnv : nv = vr.length) (re : RE w0 Ae er) (hne : ne = er.length) (hvl : vr.length ≤ 2048) (hel : er.length ≤ 4096) (hends : ∀ e ∈ er, e.u ∈ vr ∧ e.v ∈ vr) {A : Option Addr} {n c : Nat} {K0 : World → Prop}
  (k0 : ∀ w out, OwnI w w0.heap.size TI A c out → SetsOk vr er out → Below w0.heap.size w0 w → K0 w) : ∀ (m i : Nat) (w : World) (out : List Int), er.length - i = m → i ≤ er.length → n = out.length → OwnI w w0.heap.size TI A c out → SetsOk vr (er.take i) out → Below w0.heap.size w0 w →
   f_ref06_Sets.l1 (m + 1) Av nv cv Ae ne ce A n c (i : Int) w K0 := by
 subst hnv; subst hne
 intro m
 induction m with
 | zero =>
  intro i w out hm hi hn ho hs hb
  have : i = er.length := by omega
  subst this
  rw [List.take_length] at hs
  unfold f_ref06_Sets.l1
  exact sel_f (by simp) (k0 w out ho hs hb)
 | succ m ih =>
  intro i w out hm hi hn ho hs hb
  have hlt : i < er.length := by omega
  have hw : IntKind.i64.wrap ((i : Int) + 1) = ((i + 1 : Nat) : Int) := by rw [w64_in (by omega)]; omega
  have hbd := hb.drew
  obtain ⟨a, rfl, q⟩ := (re.below hbd) i hlt
  obtain ⟨m1, m2⟩ := hends er[i] (List.getElem_mem hlt)
  have od : OwnI w.drew w0.heap.size TI A c out := ho.keeps (S := fun _ => False) (Keeps.refl _ _).drew fun _ _ => id
  have hlen := hs.len
  have tk : er.take (i + 1) = er.take i ++ [er[i]] := List.take_succ_eq_append_getElem hlt
  unfold f_ref06_Sets.l1
  refine sel_t (by simpa using hlt) (drW_intro ⟨fun w' => w' = w.drew, rfl, optB_some rfl (req_intro (by simp; omega) ⟨_, fun w' e => by rw [e, Int.toNat_natCast]; exact q.c1, optB_some rfl (req_intro (by simp; omega) ⟨_, fun w' e => by rw [e, Int.toNat_natCast]; exact q.c2, ?_⟩)⟩)⟩)
  refine (place_ok (rv.belw hbd) rfl (by omega) m1).mono ?_
  rintro _ w2 ⟨⟨p, hp, ep, rfl⟩, rfl⟩
  obtain ⟨a5, rfl, q5⟩ := od.reads p (by omega)
  refine ⟨_, rfl, rfl, optB_some rfl (req_intro (by simp; omega) ⟨_, fun w' e => by rw [e, Int.toNat_natCast, Nat.mul_one]; exact q5, ?_⟩)⟩
  refine (place_ok (rv.belw hbd) rfl (by omega) m2).mono ?_
  rintro _ w2 ⟨⟨p2, hp2, ep2, rfl⟩, rfl⟩
  obtain ⟨a6, e6, q6⟩ := od.reads p2 (by omega)
  injection e6 with e6; subst e6
  refine ⟨_, rfl, rfl, optB_some rfl (req_intro (by simp; omega) ⟨_, fun w' e => by rw [e, Int.toNat_natCast, Nat.mul_one]; exact q6, ?_⟩)⟩
  have go : ∀ x y, SetsOk vr (er.take (i + 1)) (mrg x y out) → f_ref06_Sets.j2 (some a5) n c x y w.drew (fun w32 => ∀ _ : Fr, f_ref06_Sets.l1 (m + 1) Av vr.length cv (some a) er.length ce (some a5) n c (IntKind.i64.wrap ((i : Int) + 1)) w32 K0) := by
   intro x y hxy
   unfold f_ref06_Sets.j2
   refine ⟨out.length + 1, Sets_l3 (B := w0.heap.size) hbd.size hn (by omega) (fun w3 o3 k3 => ?_) out.length 0 w.drew (by omega) (by omega) (by simpa [mrg] using od) (Keeps.refl _ _)⟩
   intro _ _
   rw [hw]
   refine ih (i + 1) w3 _ (by omega) (by omega) (by simp [mrg, hn]) o3 hxy (hbd.trans (k3.below hbd.size fun k hk ⟨a', ha', hh⟩ => by have := (od.block a' ha').1; omega))
  by_cases hgt : out[p]'(by omega) > out[p2]'(by omega)
  ·refine sel_t (by simpa using hgt) (go _ _ ?_)
   rw [tk]
   exact hs.step hp hp2 ep ep2 (.inr ⟨rfl, rfl⟩)
  ·refine sel_f (by simpa using hgt) (go _ _ ?_)
   rw [tk]
   exact hs.step hp hp2 ep ep2 (.inl ⟨rfl, rfl⟩)
theorem Sets_ok {w : World} {Av Ae : Option Addr} {nv cv ne ce : Nat} {vr : List Int} {er : List E} (rv : RI w Av vr) (hnv : nv = vr.length) (re : RE w Ae er) (hne : ne = er.length) (hvl : vr.length ≤ 2048) (hel : er.length ≤ 4096) (hnd : vr.Nodup) (hends : ∀ e ∈ er, e.u ∈ vr ∧ e.v ∈ vr) :
  Calls Try.prog 50 #[.slice Av nv cv, .slice Ae ne ce] w fun e w' => ∃ A c out, e = .returned (.slice A out.length c) ∧ OwnI w' w.heap.size TI A c out ∧ SetsOk vr er out ∧ Below w.heap.size w w' := by
 apply f_ref06_Sets.ok
 unfold f_ref06_Sets.wp
 refine alW_intro ?_
 have o1 := OwnI.lit (w := w) (B := w.heap.size) (e := TI) [] (cs := #[]) rfl (Nat.le_refl _) (by simp)
 have b1 : Below w.heap.size w (w.alloc (.cells #[] TI)) := (Below.refl _ _).alloc (Nat.le_refl _) _
 generalize w.alloc (.cells #[] TI) = w1 at o1 b1
 let rg : Nat → List Int := fun i => (List.range i).map fun (j : Nat) => (j : Int)
 have rgl : ∀ i, (rg i).length = i := fun i => by simp [rg]
 have rgs : ∀ i, rg (i + 1) = rg i ++ [(i : Int)] := fun i => by simp [rg, List.range_succ]
 refine ⟨vr.length + 1, ?_⟩
 suffices key : ∀ (m i : Nat) (w2 : World) (A2 : Option Addr) (n2 c2 : Nat), vr.length - i = m → i ≤ vr.length → OwnI w2 w.heap.size TI A2 c2 (rg i) → n2 = i → Below w.heap.size w w2 →
   f_ref06_Sets.l0 (m + 1) Av nv cv A2 n2 c2 (i : Int) w2 (fun (A8 : Option Addr) (n8 : Nat) (c8 : Nat) (w9 : World) => ∀ _ : Fr, ∃ k35 : Nat, f_ref06_Sets.l1 k35 Av nv cv Ae ne ce A8 n8 c8 (0 : Int) w9 (fun (w34 : World) => ∀ _ : Fr,
    (fun e w' => ∃ A c out, e = Ending.returned (.slice A out.length c) ∧ OwnI w' w.heap.size TI A c out ∧ SetsOk vr er out ∧ Below w.heap.size w w') (.returned (.slice A8 n8 c8)) w34)) by
  exact key vr.length 0 w1 _ _ _ (by omega) (by omega) (by simpa [rg] using o1) rfl b1
 subst hnv
 intro m
 induction m with
 | zero =>
  intro i w2 A2 n2 c2 hm hi ho hn hb
  have : i = vr.length := by omega
  subst this
  unfold f_ref06_Sets.l0
  refine sel_f (by simp) fun _ => ⟨er.length + 1, Sets_l1 hb rv rfl re hne hvl hel hends (fun w3 out o3 h3 b3 => ?_) er.length 0 w2 (rg vr.length) (by omega) (by omega) (by rw [rgl]; exact hn) ho ?_ hb⟩
  ·intro _
   exact ⟨A2, c2, out, by rw [hn, h3.len], o3, h3, b3⟩
  ·refine ⟨rgl _, fun j k hj hk => ?_⟩
   have ej : (rg vr.length)[j]'(by rw [rgl]; exact hj) = (j : Int) := by simp [rg]
   have ek : (rg vr.length)[k]'(by rw [rgl]; exact hk) = (k : Int) := by simp [rg]
   rw [ej, ek]
   constructor
   ·intro h
    have : j = k := by omega
    subst this; exact Cn.refl _ _
   ·rintro ⟨p, hp⟩
    have hv : vr[j] = vr[k] := by
     generalize vr[j] = x at hp
     generalize vr[k] = y at hp
     cases hp with
     | nil => rfl
     | cons he _ _ => simp at he
    have := nodup_ix hnd hj hk hv
    omega
 | succ m ih =>
  intro i w2 A2 n2 c2 hm hi ho hn hb
  have hw : IntKind.i64.wrap ((i : Int) + 1) = ((i + 1 : Nat) : Int) := by rw [w64_in (by omega)]; omega
  unfold f_ref06_Sets.l0
  refine sel_t (by simp; omega) (put_in ho (by rw [rgl]; exact hn) (x := (i : Int)) hb.size (by rw [rgl]; omega) fun A3 c3 w3 o3 k3 f3 => ?_)
  rw [hw]
  rw [← rgs] at o3
  refine ih (i + 1) w3 _ _ c3 (by omega) (by omega) o3 (by rw [← rgs, rgl]) (hb.trans (k3.below hb.size fun k hk ⟨a', ha', hh⟩ => by have := (ho.block a' ha').1; omega))
structure RG (vr : List Int) (er : List E) : Prop where
 nd : vr.Nodup
 ends : ∀ e ∈ er, e.u ∈ vr ∧ e.v ∈ vr
 ids : (er.map E.id).Nodup
theorem Verts_l0 {w : World} {s : RS} {vr : List Int} {b1 : Nat} (h1 : HB w b1 (rsC s) 31) (rv : RI w s.A0 vr) (hn : s.n0 = vr.length) (hl : vr.length ≤ 100000) {u : Int} (hu : u ∈ vr) {K0 : Int → World → Prop} (k0 : ∀ (j : Nat) (hj : j < vr.length), vr[j] = u → K0 (j : Int) w) : ∀ (m i : Nat) (x : Int), vr.length - i = m → i ≤ vr.length →
   ((∃ (j : Nat) (hj : j < vr.length), vr[j] = u ∧ x = (j : Int)) ∨ u ∈ vr.drop i) → f_ref16_Verts.l0 (m + 1) u (⟨b1, 0, none⟩ : Addr) x (i : Int) w K0 := by
 intro m
 induction m with
 | zero =>
  intro i x hm hi hx
  have : i = vr.length := by omega
  subst this
  unfold f_ref16_Verts.l0
  refine hb_ldS0 h1 rfl (sel_f (by simp [hn]) ?_)
  rcases hx with ⟨j, hj, h2, rfl⟩ | hx
  ·exact k0 j hj h2
  ·simp at hx
 | succ m ih =>
  intro i x hm hi hx
  have hlt : i < vr.length := by omega
  obtain ⟨a, hA, q⟩ := rv i hlt
  have hw : IntKind.i64.wrap ((i : Int) + 1) = ((i + 1 : Nat) : Int) := by rw [w64_in (by omega)]; omega
  unfold f_ref16_Verts.l0
  refine hb_ldS0 h1 rfl (sel_t (by simp; omega) (hb_ldS0 h1 rfl (optB_some hA (req_intro (by simp; omega) (ldI_intro (x := vr[i]) (by rw [Int.toNat_natCast, Nat.mul_one]; exact q) ?_)))))
  rw [hw]
  have hm2 : vr.length - (i + 1) = m := by clear hx; omega
  by_cases e : vr[i] = u
  ·exact sel_t (by simp [e]) (ih (i + 1) _ hm2 hlt (.inl ⟨i, hlt, e, rfl⟩))
  ·refine sel_f (by simp [e]) (ih (i + 1) _ hm2 hlt (hx.imp id fun hx => ?_))
   rw [List.drop_eq_getElem_cons hlt, List.mem_cons] at hx
   exact hx.resolve_left fun h => e h.symm
theorem Verts_l1 {w0 : World} {s : RS} {vr : List Int} {b1 : Nat} {st : List Int} {As : Option Addr} {ns cs : Nat} {wS : World} (hS : Below w0.heap.size w0 wS) (h1 : HB wS b1 (rsC s) 31) (rv : RI w0 s.A0 vr) (hn : s.n0 = vr.length) (hl : vr.length ≤ 100000) (rs : RI wS As st) (hst : st.length = vr.length) (hns : ns = st.length) {at_ : Nat} (hat : at_ < vr.length) {K2 : Option Addr → Nat → Nat → World → Prop}
  (k2 : ∀ w A c (out : List Int), OwnI w wS.heap.size TI A c out → out.length ≤ vr.length → (∀ v, v ∈ out ↔ ∃ (j : Nat) (hj : j < vr.length), vr[j] = v ∧ st[j]'(by omega) = st[at_]'(by omega)) → Below wS.heap.size wS w → K2 A out.length c w) : ∀ (m i : Nat) (w : World) (A : Option Addr) (n c : Nat) (out : List Int), vr.length - i = m → i ≤ vr.length → OwnI w wS.heap.size TI A c out → n = out.length → out.length ≤ i →
   (∀ v, v ∈ out ↔ ∃ (j : Nat) (hj : j < vr.length), j < i ∧ vr[j] = v ∧ st[j]'(by omega) = st[at_]'(by omega)) → Below wS.heap.size wS w → f_ref16_Verts.l1 (m + 1) (⟨b1, 0, none⟩ : Addr) As ns cs (at_ : Int) A n c (i : Int) w K2 := by
 intro m
 induction m with
 | zero =>
  intro i w A n c out hm hi ho hn2 hlo hv hb
  have : i = vr.length := by omega
  subst this
  subst hn2
  unfold f_ref16_Verts.l1
  refine hb_ldS0 (h1.below hb) rfl (sel_f (by simp [hn]) (k2 w A c out ho hlo (fun v => ?_) hb))
  rw [hv]
  exact ⟨fun ⟨j, hj, _, h⟩ => ⟨j, hj, h⟩, fun ⟨j, hj, h⟩ => ⟨j, hj, hj, h⟩⟩
 | succ m ih =>
  intro i w A n c out hm hi ho hn2 hlo hv hb
  have hlt : i < vr.length := by omega
  have hbd : Below wS.heap.size wS w.drew := hb.drew
  have h1d := h1.below hbd
  obtain ⟨a, hA, q⟩ := (rv.belw (hS.trans (hbd.mono hS.size))) i hlt
  obtain ⟨a2, rfl, q2⟩ := (rs.belw hbd) i (by omega)
  obtain ⟨a3, e3, q3⟩ := (rs.belw hbd) at_ (by omega)
  injection e3 with e3; subst e3
  have hw : IntKind.i64.wrap ((i : Int) + 1) = ((i + 1 : Nat) : Int) := by rw [w64_in (by omega)]; omega
  unfold f_ref16_Verts.l1
  refine hb_ldS0 (h1.below hb) rfl (sel_t (by simp; omega) (drW_intro (sel_t (by simp) (optB_some rfl (req_intro (by simp; omega) (ldI_intro (by rw [Int.toNat_natCast, Nat.mul_one]; exact q2) (optB_some rfl (req_intro (by simp; omega) (ldI_intro (by rw [Int.toNat_natCast, Nat.mul_one]; exact q3) ?_)))))))))
  have od : OwnI w.drew wS.heap.size TI A c out := ho.keeps (S := fun _ => False) (Keeps.refl _ _).drew fun _ _ => id
  by_cases e : st[i]'(by omega) = st[at_]'(by omega)
  ·refine sel_t (by simpa using e) (hb_ldS0 h1d rfl (optB_some hA (req_intro (by simp; omega) (ldI_intro (x := vr[i]) (by rw [Int.toNat_natCast, Nat.mul_one]; exact q) ?_))))
   refine put_in od hn2 (x := vr[i]) hbd.size (by omega) fun A3 c3 w3 o3 k3 f3 => ?_
   rw [hw]
   refine ih (i + 1) w3 _ _ c3 (out ++ [vr[i]]) (by omega) (by omega) o3 rfl (by simp; omega) (fun v => ?_) (hbd.trans (k3.below hbd.size fun k hk ⟨a', ha', hh⟩ => by have := (ho.block a' ha').1; omega))
   rw [List.mem_append, hv, List.mem_singleton]
   constructor
   ·rintro (⟨j, hj, hji, h⟩ | rfl)
    ·exact ⟨j, hj, by omega, h⟩
    ·exact ⟨i, hlt, by omega, rfl, e⟩
   ·rintro ⟨j, hj, hji, h, h'⟩
    by_cases hj2 : j < i
    ·exact .inl ⟨j, hj, hj2, h, h'⟩
    ·have : j = i := by omega
     subst this; exact .inr h.symm
  ·refine sel_f (by simpa using e) ?_
   rw [hw]
   refine ih (i + 1) _ A n c out (by omega) (by omega) od hn2 (by omega) (fun v => ?_) hbd
   rw [hv]
   constructor
   ·rintro ⟨j, hj, hji, h⟩; exact ⟨j, hj, by omega, h⟩
   ·rintro ⟨j, hj, hji, h, h'⟩
    refine ⟨j, hj, ?_, h, h'⟩
    have : j ≠ i := fun e2 => by subst e2; exact e h'
    omega
theorem Verts_ok {w : World} {s : RS} {vr : List Int} {er : List E} (h : RF w s vr er) (g : RG vr er) {u : Int} (hu : u ∈ vr) :
  Calls Try.prog 28 #[.agg (rsC s), .int .i64 u] w fun e w' => ∃ A c out, e = .returned (.slice A out.length c) ∧ RI w' A out ∧ out.length ≤ 2048 ∧ (∀ v, v ∈ out ↔ v ∈ vr ∧ Cn er u v) ∧ Below w.heap.size w w' := by
 apply f_ref16_Verts.ok
 unfold f_ref16_Verts.wp
 refine al_new fun w1 b1 e1 s1 h1 g1 => ?_
 have h1 : HB w1 b1 (rsC s) 31 := h1
 have hf := h.belw g1
 refine hb_ldS0 h1 rfl (hb_ldS h1 (j := 1) rfl ((Sets_ok hf.v h.nv hf.e h.ne h.vl h.el g.nd g.ends).mono ?_))
 rintro _ w2 ⟨As, cs, st, rfl, o2, hst, g2⟩
 have hb2 := g1.trans (g2.mono (by omega))
 have h12 := h1.below g2
 have hf2 := h.belw hb2
 have hvl := h.vl
 refine ⟨_, _, _, rfl, vr.length + 1, Verts_l0 h12 hf2.v h.nv (by omega) hu (fun j hj ej => ?_) vr.length 0 _ (by omega) (by omega) (.inr (by simpa using hu))⟩
 intro _
 refine alW_intro ?_
 have o3 := OwnI.lit (w := w2) (B := w2.heap.size) (e := TI) [] (cs := #[]) rfl (Nat.le_refl _) (by simp)
 have b3 : Below w2.heap.size w2 (w2.alloc (.cells #[] TI)) := (Below.refl _ _).alloc (Nat.le_refl _) _
 generalize w2.alloc (.cells #[] TI) = w3 at o3 b3
 refine ⟨vr.length + 1, Verts_l1 (w0 := w) (wS := w2) hb2 h12 h.v h.nv (by omega) o2.reads hst.len rfl hj (fun w4 A c out o4 l4 hv b4 => ?_) vr.length 0 w3 _ _ _ [] (by omega) (by omega) o3 rfl (by simp) (fun v => by simp) b3⟩
 intro _
 refine ⟨A, c, out, rfl, o4.reads, by omega, fun v => ?_, hb2.trans (b4.mono hb2.size)⟩
 rw [hv]
 constructor
 ·rintro ⟨k, hk, rfl, e⟩
  have := (hst.ok k j hk hj).1 e
  rw [ej] at this
  exact ⟨List.getElem_mem hk, this.symm⟩
 ·rintro ⟨hm, hc⟩
  obtain ⟨k, hk, rfl⟩ := List.getElem_of_mem hm
  exact ⟨k, hk, rfl, (hst.ok k j hk hj).2 (by rw [ej]; exact hc.symm)⟩
theorem RJoined_ok {w : World} {s : RS} {vr : List Int} {er : List E} (h : RF w s vr er) (g : RG vr er) {u v : Int} (hu : u ∈ vr) (hv : v ∈ vr) :
  Calls Try.prog 68 #[.agg (rsC s), .int .i64 u, .int .i64 v] w fun e w' => (∃ b, e = .returned (.bool b) ∧ (b = true ↔ Jn er u v)) ∧ Below w.heap.size w w' := by
 apply f_ref16_Joined.ok
 unfold f_ref16_Joined.wp
 refine al_new fun w1 b1 e1 s1 h1 g1 => ?_
 have h1 : HB w1 b1 (rsC s) 31 := h1
 have hf := h.belw g1
 refine get4 h1 ((Verts_ok hf g hu).mono ?_)
 rintro _ w2 ⟨A, c, out, rfl, r2, l2, hm, g2⟩
 refine ⟨_, _, _, rfl, (Has_ok r2 rfl (by omega) v).mono ?_⟩
 rintro _ w3 ⟨rfl, rfl⟩
 refine ⟨_, rfl, ⟨_, rfl, ?_⟩, g1.trans (g2.mono (by omega))⟩
 rw [decide_eq_true_iff, hm]
 constructor
 ·rintro ⟨_, p, hp⟩
  exact hp.red fun e he e' he' hid => by
   have key : ∀ {p : List E}, (p.map E.id).Nodup → e ∈ p → e' ∈ p → e = e' := by
    intro p
    induction p with
    | nil => intro _ h; cases h
    | cons c p ih =>
     intro nd h1 h2
     rw [List.map_cons, List.nodup_cons] at nd
     rcases List.mem_cons.1 h1 with e1 | h1 <;> rcases List.mem_cons.1 h2 with e2 | h2
     ·rw [e1, e2]
     ·exact absurd (by rw [← e1, hid]; exact List.mem_map_of_mem h2) nd.1
     ·exact absurd (by rw [← e2, ← hid]; exact List.mem_map_of_mem h1) nd.1
     ·exact ih nd.2 h1 h2
   exact key g.ids he he'
 ·rintro ⟨p, hp, _⟩; exact ⟨hv, p, hp⟩
def insE : List E → E → List E
 | [], e => [e]
 | y :: l, e => if e.id < y.id then e :: y :: l else y :: insE l e
theorem insE_cons (y : E) (l : List E) (e : E) : insE (y :: l) e = if e.id < y.id then e :: y :: l else y :: insE l e := rfl
theorem insE_perm (l : List E) (e : E) : (insE l e).Perm (e :: l) := by
 induction l with
 | nil => exact .refl _
 | cons y l ih =>
  rw [insE_cons]
  split
  ·exact .refl _
  ·exact (ih.cons y).trans (.swap e y l)
section
variable {w0 wS : World} {s : RS} {vr : List Int} {er : List E} {e : E} {b1 b3 b8 : Nat} {Av : Option Addr} {nv cv : Nat}
theorem RLink_j1 (h : RF w0 s vr er) (hb8 : w0.heap.size ≤ b8) (l8 : b8 < wS.heap.size) (hS : Below w0.heap.size w0 wS) (h1S : HB wS b1 (rsC s) 31) (n1 : b1 ≠ b8) {i : Nat} (hlt : i < er.length) {w : World} {A : Option Addr} {c : Nat} {out : List E} (h8 : HB w b8 (nC Av nv cv A out.length c) 29) (ho : OwnEd w wS.heap.size TE A c out) (hlo : out.length ≤ 100000) (hk : Keeps (fun k => k = b8) wS w) {Kn : World → Prop}
  (kn : ∀ w' A' c', HB w' b8 (nC Av nv cv (some A') (out ++ [er[i]]).length c') 29 → OwnEd w' wS.heap.size TE (some A') c' (out ++ [er[i]]) → Keeps (fun k => k = b8) wS w' → Kn w') : f_ref16_Link.j1 (⟨b1, 0, none⟩ : Addr) (⟨b8, 0, none⟩ : Addr) (i : Int) w Kn := by
 have hn := h.ne
 have hel := h.el
 have hsz := hS.size
 have hd8 : HB w.drew b8 (nC Av nv cv A out.length c) 29 := h8
 have hkd := hk.drew
 obtain ⟨a, hA, _⟩ := (h.belw (HB.belK hS hk hb8)).e i hlt
 have qq : ∀ w', Keeps (fun k => k = b8) wS w' → REd w' a i er[i] := fun w' hk => by
  obtain ⟨a', hA', q'⟩ := (h.belw (HB.belK hS hk hb8)).e i hlt
  rw [hA] at hA'; injection hA' with hA'; subst hA'; exact q'
 unfold f_ref16_Link.j1
 refine drW_intro ⟨fun w' => HB w' b8 (nC Av nv cv A out.length c) 29 ∧ Keeps (fun k => k = b8) wS w', ⟨hd8, hkd⟩, A, _, c, fun w' h => (h.1.cell 1).trans rfl, s.A1, s.n1, s.c1, fun w' h => ((h1S.keeps h.2 n1).cell 1).trans rfl, optB_some hA (req_intro (by simp; omega) ?_)⟩
 refine ⟨_, fun w' h => by rw [Int.toNat_natCast]; exact (qq w' h.2).c0, _, fun w' h => by rw [Int.toNat_natCast]; exact (qq w' h.2).c1, _, fun w' h => by rw [Int.toNat_natCast]; exact (qq w' h.2).c2, _, fun w' h => by rw [Int.toNat_natCast]; exact (qq w' h.2).c3, ?_⟩
 refine al_new fun w2 b e2 s2 h2 g2 => ?_
 have o2 : OwnEd w2 wS.heap.size TE A c out := (ho.keeps (S := fun _ => False) (w' := w.drew) (Keeps.refl _ _).drew fun _ _ => id).keeps (S := fun _ => False) (.of_below g2) fun _ _ => id
 have hk2 := hkd.trans (.of_below g2)
 refine ⟨⟨hd8.below g2, hk2⟩, app_ed o2 rfl (e := er[i]) h2 hk2.size (by omega) fun A' c' w3 o3 k3 f3 => ⟨_, _, _, rfl, ?_⟩⟩
 have nA : ∀ k, k < wS.heap.size → ¬ Ob A k := fun k hk ⟨a', ha', hh⟩ => by have := (ho.block a' ha').1; omega
 have h83 := (hd8.below g2).keeps k3 (nA b8 l8)
 refine hb_st h83 (j := 1) (by simp [nC]) fun w4 h84 k4 => ?_
 refine kn w4 A' c' h84 (o3.keeps k4 fun a' ha' e => by have := (o3.block a' ha').1; omega) ?_
 exact (hk2.trans' k3 fun k hk hh => absurd hh (nA k hk)).trans k4
theorem RLink_l0 (h : RF w0 s vr er) (hb8 : w0.heap.size ≤ b8) (l8 : b8 < wS.heap.size) (hS : Below w0.heap.size w0 wS) (h1S : HB wS b1 (rsC s) 31) (n1 : b1 ≠ b8) (h3S : HB wS b3 (eC e) 33) (n3 : b3 ≠ b8) {K0 : Bool → World → Prop}
  (k0 : ∀ w A c d out, HB w b8 (nC Av nv cv A out.length c) 29 → OwnEd w wS.heap.size TE A c out → Keeps (fun k => k = b8) wS w → out.length ≤ er.length + 1 → (if d = true then out = insE er e else insE er e = out ++ [e]) → K0 d w) : ∀ (m i : Nat) (w : World) (A : Option Addr) (c : Nat) (d : Bool) (out : List E), er.length - i = m → i ≤ er.length →
   HB w b8 (nC Av nv cv A out.length c) 29 → OwnEd w wS.heap.size TE A c out → Keeps (fun k => k = b8) wS w → out.length ≤ i + (if d = true then 1 else 0) → (if d = true then out ++ er.drop i = insE er e else insE er e = out ++ insE (er.drop i) e) → f_ref16_Link.l0 (m + 1) (⟨b1, 0, none⟩ : Addr) (⟨b3, 0, none⟩ : Addr) (⟨b8, 0, none⟩ : Addr) d (i : Int) w K0 := by
 have hn := h.ne
 have hel := h.el
 have hsz := hS.size
 intro m
 induction m with
 | zero =>
  intro i w A c d out hm hi h8 ho hk hlo hd
  have : i = er.length := by omega
  subst this
  rw [List.drop_length] at hd
  unfold f_ref16_Link.l0
  refine hb_ldS (h1S.keeps hk n1) (j := 1) rfl (sel_f (by simp [hn]) (k0 w A c d out h8 ho hk (by cases d <;> simp at hlo <;> omega) ?_))
  cases d with
  | true => simpa using hd
  | false => exact hd
 | succ m ih =>
  intro i w A c d out hm hi h8 ho hk hlo hd
  have hlt : i < er.length := by omega
  have hw : IntKind.i64.wrap ((i : Int) + 1) = ((i + 1 : Nat) : Int) := by rw [w64_in (by omega)]; omega
  have hdr := List.drop_eq_getElem_cons hlt
  have hkd := hk.drew
  have od : OwnEd w.drew wS.heap.size TE A c out := ho.keeps (S := fun _ => False) (Keeps.refl _ _).drew fun _ _ => id
  have hd8 : HB w.drew b8 (nC Av nv cv A out.length c) 29 := h8
  have go : ∀ (w3 : World) (A3 : Option Addr) (c3 : Nat) (out3 : List E) (d3 : Bool), HB w3 b8 (nC Av nv cv A3 out3.length c3) 29 → OwnEd w3 wS.heap.size TE A3 c3 out3 → Keeps (fun k => k = b8) wS w3 → out3.length ≤ i + (if d3 = true then 1 else 0) → (if d3 = true then out3 ++ er.drop i = insE er e else insE er e = (out3 ++ [er[i]]) ++ insE (er.drop (i + 1)) e) →
    f_ref16_Link.j1 (⟨b1, 0, none⟩ : Addr) (⟨b8, 0, none⟩ : Addr) (i : Int) w3 (fun w174 => ∀ _ : Fr, f_ref16_Link.l0 (m + 1) (⟨b1, 0, none⟩ : Addr) (⟨b3, 0, none⟩ : Addr) (⟨b8, 0, none⟩ : Addr) d3 (IntKind.i64.wrap ((i : Int) + 1)) w174 K0) := by
   intro w3 A3 c3 out3 d3 h83 o3 k3 hl3 hd3
   refine RLink_j1 h hb8 l8 hS h1S n1 hlt h83 o3 (by cases d3 <;> simp at hl3 <;> omega) k3 fun w4 A4 c4 h84 o4 k4 => ?_
   intro _
   rw [hw]
   refine ih (i + 1) w4 _ c4 d3 (out3 ++ [er[i]]) (by omega) (by omega) h84 o4 k4 (by rw [List.length_append]; simp only [List.length_singleton]; omega) ?_
   cases d3 with
   | true =>
    rw [if_pos rfl] at hd3 ⊢
    rw [hdr] at hd3
    rw [List.append_assoc]; exact hd3
   | false => rw [if_neg (by decide)] at hd3 ⊢; exact hd3
  have h1d := h1S.keeps hkd n1
  have h3d := h3S.keeps hkd n3
  obtain ⟨a, hA, q⟩ := (h.belw (HB.belK hS hkd hb8)).e i hlt
  unfold f_ref16_Link.l0
  refine hb_ldS (h1S.keeps hk n1) (j := 1) rfl (sel_t (by simp; omega) (drW_intro ?_))
  cases d with
  | true => exact sel_f rfl (go w.drew A c out true hd8 od hkd hlo hd)
  | false =>
   rw [if_neg (by decide), hdr, insE_cons] at hd
   have hlo' : out.length ≤ i := by simpa using hlo
   refine sel_t rfl (hb_ldI0 h3d rfl (hb_ldS h1d (j := 1) rfl (optB_some hA (req_intro (by simp; omega) (ldI_intro (by rw [Int.toNat_natCast]; exact q.c0) ?_)))))
   by_cases hlt2 : e.id < er[i].id
   ·rw [if_pos hlt2] at hd
    refine sel_t (by simpa using hlt2) (hb_ldS hd8 (j := 1) rfl (getE h3d (put_ed od rfl (e := e) hkd.size (by omega) fun A3 c3 w3 o3 k3 f3 => ?_)))
    have nA : ∀ k, k < wS.heap.size → ¬ Ob A k := fun k hk ⟨a', ha', hh⟩ => by have := (ho.block a' ha').1; omega
    have h83 := hd8.keeps k3 (nA b8 l8)
    refine hb_st h83 (j := 1) (by simp [nC]) fun w4 h84 k4 => ?_
    refine go w4 (some A3) c3 (out ++ [e]) true h84 (o3.keeps k4 fun a' ha' e => by have := (o3.block a' ha').1; omega) ((hkd.trans' k3 fun k hk hh => absurd hh (nA k hk)).trans k4) (by simp; omega) ?_
    rw [if_pos rfl, hd, hdr]; simp
   ·rw [if_neg hlt2] at hd
    refine sel_f (by simpa using hlt2) (go w.drew A c out false hd8 od hkd hlo ?_)
    rw [if_neg (by decide), List.append_assoc]; exact hd
end
def linkEr (vr : List Int) (er : List E) (e : E) (j : Bool) : List E := if linkC vr er e j = 0 then insE er e else er
theorem RLink16_ok {w : World} {s : RS} {vr : List Int} {er : List E} (h : RF w s vr er) (g : RG vr er) (hel : er.length ≤ 4095) {e : E} (hw : ¬ (e.w < 0 ∨ 1099511627776 < e.w)) :
  Calls Try.prog 43 #[.agg (rsC s), .agg (eC e)] w fun en w' => ∃ s' j, (e.u ∈ vr → e.v ∈ vr → (j = true ↔ Jn er e.u e.v)) ∧ en = .returned (.tuple #[.agg (rsC s'), .int .i64 (linkC vr er e j)]) ∧ RF w' s' vr (linkEr vr er e j) ∧ Sb w s s' ∧ Below w.heap.size w w' := by
 apply f_ref16_Link.ok
 unfold f_ref16_Link.wp
 refine al_new fun w1 b1 e1 s1 h1 g1 => al_new fun w2 b3 e3 s3 h3 g2 => al_new fun w3 b5 e5 s5 h5 g3 => ?_
 have hb := (g1.trans (g2.mono (by omega))).trans (g3.mono (by omega))
 have h1 : HB w3 b1 (rsC s) 31 := (h1.below g2).below g3
 have h3 : HB w3 b3 (eC e) 33 := h3.below g3
 have hf := h.belw hb
 have hvl := h.vl
 obtain ⟨jn, hjn⟩ : ∃ j : Bool, j = true ↔ Jn er e.u e.v := ⟨@decide (Jn er e.u e.v) (Classical.propDecidable _), by simp⟩
 have same : ∀ {w' code} (j : Bool), (e.u ∈ vr → e.v ∈ vr → (j = true ↔ Jn er e.u e.v)) → linkC vr er e j = code → code ≠ 0 → Below w.heap.size w w' → ∃ s' j, (e.u ∈ vr → e.v ∈ vr → (j = true ↔ Jn er e.u e.v)) ∧ Ending.returned (.tuple #[.agg (rsC s), .int .i64 code]) = .returned (.tuple #[.agg (rsC s'), .int .i64 (linkC vr er e j)]) ∧ RF w' s' vr (linkEr vr er e j) ∧ Sb w s s' ∧ Below w.heap.size w w' := fun j hj hc h0 hk => ⟨s, j, hj, by rw [hc], by unfold linkEr; rw [hc, if_neg h0]; exact h.belw hk, .refl _ _, hk⟩
 refine hb_ldI0 h3 rfl ((RBad_ok _ _).mono ?_)
 rintro _ _ ⟨⟨b, rfl, hb1⟩, rfl⟩
 refine ⟨b, rfl, ?_⟩
 by_cases hbad1 : badI e.id
 ·have ec : linkC vr er e jn = 1 := by unfold linkC; rw [if_pos (.inl hbad1)]
  exact sel_t (hb1.2 hbad1) (get4 h1 (ret4 h5 rfl s fun w4 h4 k4 => same jn (fun _ _ => hjn) ec (by decide) (HB.belK hb k4 (by omega))))
 refine sel_f (Bool.eq_false_iff.2 fun hh => hbad1 (hb1.1 hh)) (hb_ldI h3 (j := 1) rfl ((RBad_ok _ _).mono ?_))
 rintro _ _ ⟨⟨b, rfl, hb1⟩, rfl⟩
 refine ⟨b, rfl, ?_⟩
 by_cases hbad2 : badI e.u
 ·have ec : linkC vr er e jn = 1 := by unfold linkC; rw [if_pos (.inr (.inl hbad2))]
  exact sel_t (hb1.2 hbad2) (get4 h1 (ret4 h5 rfl s fun w4 h4 k4 => same jn (fun _ _ => hjn) ec (by decide) (HB.belK hb k4 (by omega))))
 refine sel_f (Bool.eq_false_iff.2 fun hh => hbad2 (hb1.1 hh)) (hb_ldI h3 (j := 2) rfl ((RBad_ok _ _).mono ?_))
 rintro _ _ ⟨⟨b, rfl, hb1⟩, rfl⟩
 refine ⟨b, rfl, ?_⟩
 by_cases hbad3 : badI e.v
 ·have ec : linkC vr er e jn = 1 := by unfold linkC; rw [if_pos (.inr (.inr hbad3))]
  exact sel_t (hb1.2 hbad3) (get4 h1 (ret4 h5 rfl s fun w4 h4 k4 => same jn (fun _ _ => hjn) ec (by decide) (HB.belK hb k4 (by omega))))
 have nb3 : ¬ (badI e.id ∨ badI e.u ∨ badI e.v) := by simp [hbad1, hbad2, hbad3]
 refine sel_f (Bool.eq_false_iff.2 fun hh => hbad3 (hb1.1 hh)) (get4 h1 (hb_ldI0 h3 rfl ((REdge_ok hf e.id).mono ?_)))
 rintro _ w4 ⟨rfl, g4⟩
 refine ⟨_, _, _, _, _, rfl, ?_⟩
 have hb4 := hb.trans (g4.mono hb.size)
 refine edge4 (e := edgeE er e.id) fun w5 b6 e6 h6 g5 => ?_
 have hb5 := hb4.trans (g5.mono hb4.size)
 have h15 := (h1.below g4).below g5
 have h35 := (h3.below g4).below g5
 have h55 := (h5.below g4).below g5
 have hf5 := h.belw hb5
 by_cases hid : e.id ∈ er.map E.id
 ·have ec : linkC vr er e jn = 50 := by unfold linkC; rw [if_neg nb3, if_neg hw, if_pos hid]
  exact sel_t ((edgeB_iff er e.id).2 hid) (get4 h15 (ret4 h55 rfl s fun w4 h4 k4 => same jn (fun _ _ => hjn) ec (by decide) (HB.belK hb5 k4 (by omega))))
 refine sel_f (Bool.eq_false_iff.2 fun hh => hid ((edgeB_iff er e.id).1 hh)) (hb_ldS0 h15 rfl (hb_ldI h35 (j := 1) rfl ((Has_ok hf5.v h.nv (by omega) e.u).mono ?_)))
 rintro _ _ ⟨rfl, rfl⟩
 refine ⟨_, rfl, ?_⟩
 by_cases hu : ¬ e.u ∈ vr
 ·have ec : linkC vr er e jn = 51 := by unfold linkC; rw [if_neg nb3, if_neg hw, if_neg hid, if_pos (fun hh => hu hh.1)]
  exact sel_t (by simpa using hu) (get4 h15 (ret4 h55 rfl s fun w4 h4 k4 => same jn (fun _ _ => hjn) ec (by decide) (HB.belK hb5 k4 (by omega))))
 refine sel_f (by simpa using hu) (hb_ldS0 h15 rfl (hb_ldI h35 (j := 2) rfl ((Has_ok hf5.v h.nv (by omega) e.v).mono ?_)))
 rintro _ _ ⟨rfl, rfl⟩
 refine ⟨_, rfl, ?_⟩
 by_cases hv : ¬ e.v ∈ vr
 ·have ec : linkC vr er e jn = 51 := by unfold linkC; rw [if_neg nb3, if_neg hw, if_neg hid, if_pos (fun hh => hv hh.2)]
  exact sel_t (by simpa using hv) (get4 h15 (ret4 h55 rfl s fun w4 h4 k4 => same jn (fun _ _ => hjn) ec (by decide) (HB.belK hb5 k4 (by omega))))
 have hu : e.u ∈ vr := Classical.not_not.1 hu
 have hv : e.v ∈ vr := Classical.not_not.1 hv
 refine sel_f (by simpa using hv) (get4 h15 (hb_ldI h35 (j := 1) rfl (hb_ldI h35 (j := 2) rfl ((RJoined_ok hf5 g hu hv).mono ?_))))
 rintro _ w7 ⟨⟨j, rfl, hj⟩, g7⟩
 refine ⟨j, rfl, ?_⟩
 have hb7 := hb5.trans (g7.mono hb5.size)
 have h17 := h15.below g7
 have h37 := h35.below g7
 have h57 := h55.below g7
 cases j with
 | true =>
  have ec : linkC vr er e true = 151 := by unfold linkC; rw [if_neg nb3, if_neg hw, if_neg hid, if_neg (fun h => h ⟨hu, hv⟩), if_pos rfl]
  exact sel_t rfl (get4 h17 (ret4 h57 rfl s fun w4 h4 k4 => same true (fun _ _ => hj) ec (by decide) (HB.belK hb7 k4 (by omega))))
 | false =>
 have ec : linkC vr er e false = 0 := by unfold linkC; rw [if_neg nb3, if_neg hw, if_neg hid, if_neg (fun h => h ⟨hu, hv⟩), if_neg (by decide)]
 have ee : linkEr vr er e false = insE er e := by unfold linkEr; rw [if_pos ec]
 refine sel_f rfl (hb_ldS0 h17 rfl (al_new fun w8 b8 e8 s8 h8 g8 => ?_))
 have hb8' := hb7.trans (g8.mono hb7.size)
 have h18 := h17.below g8
 have h38 := h37.below g8
 have h58 := h57.below g8
 have l1' := h17.lt
 have l3' := h37.lt
 have l5' := h57.lt
 have b8s : w.heap.size ≤ b8 := by have := hb7.size; omega
 refine hb_st0 h8 (by simp) fun w9 h89 k9 => hb_st h89 (j := 1) (by simp) fun wS h8S kS => ?_
 have h8S : HB wS b8 (nC s.A0 s.n0 s.c0 none ([] : List E).length 0) 29 := h8S
 have h1S := (h18.keeps k9 (by omega)).keeps kS (by omega)
 have h3S := (h38.keeps k9 (by omega)).keeps kS (by omega)
 have h5S := (h58.keeps k9 (by omega)).keeps kS (by omega)
 have hbS := HB.belK hb8' (k9.trans kS) b8s
 have l1 := h1S.lt
 have l5 := h5S.lt
 have sS : w.heap.size ≤ wS.heap.size := hbS.size
 refine ⟨er.length + 1, RLink_l0 h b8s h8S.lt hbS h1S (by omega) h3S (by omega) (fun wX A c d out hX oX kX hlo hd => ?_) er.length 0 wS none 0 false [] (by omega) (by omega) h8S (OwnEd.none _ _ _) (Keeps.refl _ _) (by simp) (by simp)⟩
 intro _
 cases d with
 | true =>
  rw [if_pos rfl] at hd
  subst hd
  refine sel_f rfl ?_
  have nA : ∀ k, k < wS.heap.size → ¬ Ob A k := fun k hk ⟨a', ha', hh⟩ => by have := (oX.block a' ha').1; omega
  have h1X := h1S.keeps kX (by omega)
  have h5X := h5S.keeps kX (by omega)
  have hbX := HB.belK hbS kX b8s
  refine hb_ldS0 hX rfl (hb_ldS hX (j := 1) rfl (hb_st0 h1X (by simp [rsC]) fun wA hA kA => hb_st hA (j := 1) (by simp [rsC]) fun wB hB kB => ?_))
  have hB : HB wB b1 (rsC { s with A1 := A, n1 := (insE er e).length, c1 := c }) 31 := hB
  have h5B := (h5X.keeps kA (by omega)).keeps kB (by omega)
  have hbB := HB.belK hbX (kA.trans kB) (by omega)
  have oB := (oX.keeps kA fun a ha hh => nA b1 l1 ⟨a, ha, hh⟩).keeps kB fun a ha hh => nA b1 l1 ⟨a, ha, hh⟩
  refine get4 hB (ret4 h5B rfl { s with A1 := A, n1 := (insE er e).length, c1 := c } fun wE hE kE => ⟨{ s with A1 := A, n1 := (insE er e).length, c1 := c }, false, fun _ _ => hj, by rw [ec]; rfl, ?_, ?_, HB.belK hbB kE (by omega)⟩)
  ·have oE := oB.keeps kE fun a ha hh => nA b5 l5 ⟨a, ha, hh⟩
   have hfE := h.belw (HB.belK hbB kE (by omega))
   rw [ee]
   refine ⟨hfE.v, h.nv, oE.reads, rfl, h.n2, h.n3, ?_, h.vl, by have := (insE_perm er e).length_eq; simp at this; omega⟩
   rintro k (hk | ⟨a, ha, rfl⟩)
   ·exact hfE.lt k (.inl hk)
   ·exact (oE.block a ha).2
  ·constructor
   rintro k (hk | ⟨a, ha, rfl⟩)
   ·exact .inl (.inl hk)
   ·exact .inr (by have := (oB.block a ha).1; omega)
 | false =>
  rw [if_neg (by decide)] at hd
  have h3X := h3S.keeps kX (by omega)
  refine sel_t rfl (hb_ldS hX (j := 1) rfl (getE h3X (put_ed oX rfl (e := e) kX.size (by omega) fun A2 c2 wY oY kY fY => ?_)))
  have nA0 : ∀ k, k < wS.heap.size → ¬ Ob A k := fun k hk ⟨a', ha', hh⟩ => by have := (oX.block a' ha').1; omega
  have h8Y := hX.keeps kY (nA0 b8 h8S.lt)
  refine hb_st h8Y (j := 1) (by simp [nC]) fun wZ h8Z kZ => ?_
  rw [← hd] at oY
  have hX : HB wZ b8 (nC s.A0 s.n0 s.c0 (some A2) (insE er e).length c2) 29 := by rw [hd]; exact h8Z
  have kX : Keeps (fun k => k = b8) wS wZ := (kX.trans' kY fun k hk hh => absurd hh (nA0 k hk)).trans kZ
  have l8S := h8S.lt
  have oX : OwnEd wZ wS.heap.size TE (some A2) c2 (insE er e) := oY.keeps kZ fun a' ha' e => by have := (oY.block a' ha').1; omega
  clear nA0
  generalize (some A2 : Option Addr) = A at *
  generalize c2 = c at *
  have nA : ∀ k, k < wS.heap.size → ¬ Ob A k := fun k hk ⟨a', ha', hh⟩ => by have := (oX.block a' ha').1; omega
  have h1X := h1S.keeps kX (by omega)
  have h5X := h5S.keeps kX (by omega)
  have hbX := HB.belK hbS kX b8s
  refine hb_ldS0 hX rfl (hb_ldS hX (j := 1) rfl (hb_st0 h1X (by simp [rsC]) fun wA hA kA => hb_st hA (j := 1) (by simp [rsC]) fun wB hB kB => ?_))
  have hB : HB wB b1 (rsC { s with A1 := A, n1 := (insE er e).length, c1 := c }) 31 := hB
  have h5B := (h5X.keeps kA (by omega)).keeps kB (by omega)
  have hbB := HB.belK hbX (kA.trans kB) (by omega)
  have oB := (oX.keeps kA fun a ha hh => nA b1 l1 ⟨a, ha, hh⟩).keeps kB fun a ha hh => nA b1 l1 ⟨a, ha, hh⟩
  refine get4 hB (ret4 h5B rfl { s with A1 := A, n1 := (insE er e).length, c1 := c } fun wE hE kE => ⟨{ s with A1 := A, n1 := (insE er e).length, c1 := c }, false, fun _ _ => hj, by rw [ec]; rfl, ?_, ?_, HB.belK hbB kE (by omega)⟩)
  ·have oE := oB.keeps kE fun a ha hh => nA b5 l5 ⟨a, ha, hh⟩
   have hfE := h.belw (HB.belK hbB kE (by omega))
   rw [ee]
   refine ⟨hfE.v, h.nv, oE.reads, rfl, h.n2, h.n3, ?_, h.vl, by have := (insE_perm er e).length_eq; simp at this; omega⟩
   rintro k (hk | ⟨a, ha, rfl⟩)
   ·exact hfE.lt k (.inl hk)
   ·exact (oE.block a ha).2
  ·constructor
   rintro k (hk | ⟨a, ha, rfl⟩)
   ·exact .inl (.inl hk)
   ·exact .inr (by have := (oB.block a ha).1; omega)
theorem RLink_ok {w : World} {s : RS} {vr : List Int} {er : List E} (h : RF w s vr er) (g : RG vr er) (hel : er.length ≤ 4095) (e : E) :
  Calls Try.prog 20 #[.agg (rsC s), .agg (eC e)] w fun en w' => ∃ s' j, (e.u ∈ vr → e.v ∈ vr → (j = true ↔ Jn er e.u e.v)) ∧ en = .returned (.tuple #[.agg (rsC s'), .int .i64 (linkC vr er e j)]) ∧ RF w' s' vr (linkEr vr er e j) ∧ Sb w s s' ∧ Below w.heap.size w w' := by
 apply f_ref17_Link.ok
 unfold f_ref17_Link.wp
 refine al_new fun w1 b1 e1 s1 h1 g1 => al_new fun w2 b3 e3 s3 h3 g2 => al_new fun w3 b5 e5 s5 h5 g3 => ?_
 have hb := (g1.trans (g2.mono (by omega))).trans (g3.mono (by omega))
 have h1 : HB w3 b1 (rsC s) 31 := (h1.below g2).below g3
 have h3 : HB w3 b3 (eC e) 33 := h3.below g3
 have hf := h.belw hb
 obtain ⟨jn, hjn⟩ : ∃ j : Bool, j = true ↔ Jn er e.u e.v := ⟨@decide (Jn er e.u e.v) (Classical.propDecidable _), by simp⟩
 have same : ∀ {w' code} (j : Bool), (e.u ∈ vr → e.v ∈ vr → (j = true ↔ Jn er e.u e.v)) → linkC vr er e j = code → code ≠ 0 → Below w.heap.size w w' → ∃ s' j, (e.u ∈ vr → e.v ∈ vr → (j = true ↔ Jn er e.u e.v)) ∧ Ending.returned (.tuple #[.agg (rsC s), .int .i64 code]) = .returned (.tuple #[.agg (rsC s'), .int .i64 (linkC vr er e j)]) ∧ RF w' s' vr (linkEr vr er e j) ∧ Sb w s s' ∧ Below w.heap.size w w' := fun j hj hc h0 hk => ⟨s, j, hj, by rw [hc], by unfold linkEr; rw [hc, if_neg h0]; exact h.belw hk, .refl _ _, hk⟩
 refine hb_ldI0 h3 rfl ((RBad_ok _ _).mono ?_)
 rintro _ _ ⟨⟨b, rfl, hb1⟩, rfl⟩
 refine ⟨b, rfl, ?_⟩
 by_cases hbad1 : badI e.id
 ·have ec : linkC vr er e jn = 1 := by unfold linkC; rw [if_pos (.inl hbad1)]
  exact sel_t (hb1.2 hbad1) (get4 h1 (ret4 h5 rfl s fun w4 h4 k4 => same jn (fun _ _ => hjn) ec (by decide) (HB.belK hb k4 (by omega))))
 refine sel_f (Bool.eq_false_iff.2 fun hh => hbad1 (hb1.1 hh)) (hb_ldI h3 (j := 1) rfl ((RBad_ok _ _).mono ?_))
 rintro _ _ ⟨⟨b, rfl, hb1⟩, rfl⟩
 refine ⟨b, rfl, ?_⟩
 by_cases hbad2 : badI e.u
 ·have ec : linkC vr er e jn = 1 := by unfold linkC; rw [if_pos (.inr (.inl hbad2))]
  exact sel_t (hb1.2 hbad2) (get4 h1 (ret4 h5 rfl s fun w4 h4 k4 => same jn (fun _ _ => hjn) ec (by decide) (HB.belK hb k4 (by omega))))
 refine sel_f (Bool.eq_false_iff.2 fun hh => hbad2 (hb1.1 hh)) (hb_ldI h3 (j := 2) rfl ((RBad_ok _ _).mono ?_))
 rintro _ _ ⟨⟨b, rfl, hb1⟩, rfl⟩
 refine ⟨b, rfl, ?_⟩
 by_cases hbad3 : badI e.v
 ·have ec : linkC vr er e jn = 1 := by unfold linkC; rw [if_pos (.inr (.inr hbad3))]
  exact sel_t (hb1.2 hbad3) (get4 h1 (ret4 h5 rfl s fun w4 h4 k4 => same jn (fun _ _ => hjn) ec (by decide) (HB.belK hb k4 (by omega))))
 have nb3 : ¬ (badI e.id ∨ badI e.u ∨ badI e.v) := by simp [hbad1, hbad2, hbad3]
 refine sel_f (Bool.eq_false_iff.2 fun hh => hbad3 (hb1.1 hh)) (hb_ldI h3 (j := 3) rfl ?_)
 by_cases hw1 : e.w < 0
 ·have ec : linkC vr er e jn = 53 := by unfold linkC; rw [if_neg nb3, if_pos (.inl hw1)]
  exact sel_t (by simpa using hw1) (get4 h1 (ret4 h5 rfl s fun w4 h4 k4 => same jn (fun _ _ => hjn) ec (by decide) (HB.belK hb k4 (by omega))))
 refine sel_f (by simpa using hw1) (hb_ldI h3 (j := 3) rfl ?_)
 by_cases hw2 : 1099511627776 < e.w
 ·have ec : linkC vr er e jn = 53 := by unfold linkC; rw [if_neg nb3, if_pos (.inr hw2)]
  exact sel_t (by simpa using hw2) (get4 h1 (ret4 h5 rfl s fun w4 h4 k4 => same jn (fun _ _ => hjn) ec (by decide) (HB.belK hb k4 (by omega))))
 refine sel_f (by simpa using hw2) (get4 h1 (getE h3 ((RLink16_ok hf g hel (e := e) (by simp [hw1, hw2])).mono ?_)))
 rintro _ w4 ⟨s', j, hj, rfl, hf4, hs4, g4⟩
 have hb4 := hb.trans (g4.mono hb.size)
 refine ⟨s'.A0, s'.n0, s'.c0, s'.A1, s'.n1, s'.c1, s'.A2, s'.n2, s'.c2, s'.A3, s'.n3, s'.c3, _, rfl, ret4 (h5.below g4) rfl s' fun w5 h5' k5 => ⟨s', j, hj, rfl, ?_, ⟨fun k hk => (hs4.b k hk).imp id fun h => Nat.le_trans hb.size h⟩, HB.belK hb4 k5 (by omega)⟩⟩
 refine hf4.keeps k5 fun k hk e => ?_
 rcases hs4.b k hk with h6 | h6
 ·have := h.lt k h6; omega
 ·have := h5.lt; omega
end Go.Proofs.Ytklnlnjgaadjbaa.Rd
namespace Go.Dn
open Go.RowKit
theorem OM.perm {P : Program} {w : World} {k : TypeId} {b : Nat} {ks ks' : List Int} {f : Int → Int} (h : OM P w k b ks f) (p : ks.Perm ks') : OM P w k b ks' f := by
 obtain ⟨D, h1, h2, h3, h4⟩ := h.dat
 exact ⟨p.nodup_iff.1 h.nd, fun i hi => h.kw i (p.mem_iff.2 hi), fun i hi => h.z i fun hm => hi (p.mem_iff.1 hm), D, by rw [← p.length_eq]; exact h1, by rw [← p.length_eq]; exact h2, h3, fun i hi => (h4 i hi).trans p.mem_iff⟩
theorem deg_perm {es es' : List E} (p : es.Perm es') (v : Int) : deg es v = deg es' v := by
 induction p with
 | nil => rfl
 | cons x _ ih => simp only [deg, ih]
 | swap x y l => simp only [deg]; omega
 | trans _ _ h1 h2 => exact h1.trans h2
theorem Gr.perm {vs vs' : List Int} {es es' : List E} {vn en : Int → Nat} {own : Nat → E} {S : Nat → Prop} (g : Gr vs es vn en own S) (p : vs.Perm vs') (q : es.Perm es') : Gr vs' es' vn en own S where
 vnd := p.nodup_iff.1 g.vnd
 vr := fun v hv => g.vr v (p.mem_iff.2 hv)
 vl := by rw [← p.length_eq]; exact g.vl
 eid := (q.map E.id).nodup_iff.1 g.eid
 er := fun e he => by
  obtain ⟨h1, h2, h3, h4, h5⟩ := g.er e (q.mem_iff.2 he)
  exact ⟨h1, h2, p.mem_iff.1 h3, p.mem_iff.1 h4, h5⟩
 vz := fun v hv => g.vz v fun h => hv (p.mem_iff.1 h)
 ez := fun i hi => g.ez i fun h => hi ((q.map E.id).mem_iff.1 h)
 vS := fun v hv => g.vS v (p.mem_iff.2 hv)
 eS := fun e he => g.eS e (q.mem_iff.2 he)
 vi := fun u hu v hv => g.vi u (p.mem_iff.2 hu) v (p.mem_iff.2 hv)
 Sx := fun y hy => (g.Sx y hy).imp (fun ⟨v, hv, h⟩ => ⟨v, p.mem_iff.1 hv, h⟩) (fun ⟨e, he, h⟩ => ⟨e, q.mem_iff.1 he, h⟩)
end Go.Dn
namespace Go.Proofs.Ytklnlnjgaadjbaa.Rd
open Go.Dn Go.RowKit
set_option maxRecDepth 100000
theorem Rep.perm {w : World} {F : Nat → Prop} {R : Nat} {vs vs' : List Int} {es es' : List E} (h : Rep w F R vs es) (p : vs.Perm vs') (q : es.Perm es') : Rep w F R vs' es' := by
 obtain ⟨r, N, own, S, par, Fo, vn, en, nf, nk, A, c, sp, h1, h2, h3⟩ := h
 refine ⟨r, N, own, S, par, Fo, vn, en, nf, nk, A, c, sp, h1, h2, ⟨h3.env, h3.gr.perm p q, fun y z => (h3.adj y z).trans ?_, h3.own0, h3.ov.perm p, h3.oe.perm (q.map E.id), h3.on, fun v hv => (h3.nfd v (p.mem_iff.2 hv)).trans (deg_perm q v), fun v hv => p.mem_iff.1 (h3.nkv v hv), h3.spr, h3.spd, h3.spn, ?_, h3.nb, h3.dv, h3.de, h3.dn, h3.da⟩⟩
 ·unfold Gn
  constructor
  ·rintro ⟨e, he, h⟩; exact ⟨e, q.mem_iff.1 he, h⟩
  ·rintro ⟨e, he, h⟩; exact ⟨e, q.mem_iff.2 he, h⟩
 ·rw [h3.cnt, p.length_eq, q.length_eq]
theorem LF.perm {w0 w : World} {F : Nat → Prop} {R : Nat} {vs vs' : List Int} {es es' : List E} (h : LF w0 w F R vs es) (p : vs.Perm vs') (q : es.Perm es') : LF w0 w F R vs' es' := ⟨h.rep.perm p q, h.lo, h.bel⟩
theorem VE.rg {vs : List Int} {es : List E} (h : VE vs es) : RG vs es := ⟨h.vnd, fun e he => ⟨(h.er e he).2.2.1, (h.er e he).2.2.2.1⟩, h.eid⟩
noncomputable def jnB (es : List E) (u v : Int) : Bool := @decide (Jn es u v) (Classical.propDecidable _)
theorem jnB_iff (es : List E) (u v : Int) : jnB es u v = true ↔ Jn es u v := by unfold jnB; rw [@decide_eq_true_iff _ (Classical.propDecidable _)]
theorem linkC_j {vs : List Int} {es : List E} {e : E} {j : Bool} (h : e.u ∈ vs → e.v ∈ vs → (j = true ↔ Jn es e.u e.v)) : linkC vs es e j = linkC vs es e (jnB es e.u e.v) := by
 by_cases hm : e.u ∈ vs ∧ e.v ∈ vs
 ·have : j = jnB es e.u e.v := by
   have h1 := h hm.1 hm.2
   rw [← jnB_iff] at h1
   exact Bool.eq_iff_iff.2 h1
  rw [this]
 ·unfold linkC
  rw [if_pos hm, if_pos hm]
noncomputable def stp (st : List Int × List E) (o : Int × E) : List Int × List E :=
 if o.1 = 1 then (addVr st.1 o.2.u, st.2) else if o.1 = 2 then (delVr st.1 st.2 o.2.u, st.2) else if o.1 = 3 then (st.1, linkEr st.1 st.2 o.2 (jnB st.2 o.2.u o.2.v)) else if o.1 = 4 then (st.1, cutEr st.2 o.2.id) else st
noncomputable def cdO (st : List Int × List E) (o : Int × E) : Int :=
 if o.1 = 1 then addVC st.1 o.2.u else if o.1 = 2 then delVC st.1 st.2 o.2.u else if o.1 = 3 then linkC st.1 st.2 o.2 (jnB st.2 o.2.u o.2.v) else if o.1 = 4 then cutC st.2 o.2.id else 0
theorem addV_perm (vs : List Int) (v : Int) : (addVs vs v).Perm (addVr vs v) := by
 unfold addVs addVr
 split
 ·exact (wiI_perm vs v).symm
 ·exact .refl _
theorem erase_woI : ∀ {l : List Int}, l.Nodup → ∀ x, l.erase x = woI l x
 | [], _, _ => rfl
 | a :: l, h, x => by
  rw [List.nodup_cons] at h
  have ih := erase_woI h.2 x
  unfold woI at ih ⊢
  by_cases e : a = x
  ·subst e
   rw [List.erase_cons_head, List.filter_cons_of_neg (by simp), ← ih, List.erase_of_not_mem h.1]
  ·rw [List.erase_cons_tail (by simpa using e), List.filter_cons_of_pos (by simpa using e), ih]
theorem delV_perm {vs : List Int} (h : vs.Nodup) (es : List E) (v : Int) : delVs vs es v = delVr vs es v := by
 unfold delVs delVr
 split
 ·exact erase_woI h v
 ·rfl
theorem linkE_perm {vs : List Int} {es : List E} {e : E} {j : Bool} (h : e.u ∈ vs → e.v ∈ vs → (j = true ↔ Jn es e.u e.v)) : (linkE vs es e j).Perm (linkEr vs es e (jnB es e.u e.v)) := by
 unfold linkE linkEr
 rw [linkC_j h]
 split
 ·exact (insE_perm es e).symm
 ·exact .refl _
structure OpW (o : Int × E) : Prop where
 i : W64 o.2.id
 u : W64 o.2.u
 v : W64 o.2.v
 w : W64 o.2.w
def oC (o : Int × E) : Array Value := #[.int .i64 o.1, .int .i64 o.2.id, .int .i64 o.2.u, .int .i64 o.2.v, .int .i64 o.2.w]
theorem hb_ldI2 {w : World} {b : Nat} {cs : Array Value} {t : TypeId} (h : HB w b cs t) {i j : Nat} {x : Int} (hj : cs[i + j]? = some (.int .i64 x)) {K : Int → Prop} (hk : K x) : ldI w (((⟨b, 0, none⟩ : Addr).add i).add j) .i64 K := by
 rw [add_add]; exact hb_ldI h hj hk
theorem pass4 {w : World} (s : RS) {K : Option Addr → Nat → Nat → Option Addr → Nat → Nat → Option Addr → Nat → Nat → Option Addr → Nat → Nat → World → Prop} (hk : ∀ w', Below w.heap.size w w' → K s.A0 s.n0 s.c0 s.A1 s.n1 s.c1 s.A2 s.n2 s.c2 s.A3 s.n3 s.c3 w') :
  alW w (.cells #[.slice none 0 0, .slice none 0 0, .slice none 0 0, .slice none 0 0] 31) fun b w0 => stW w0 (⟨b, 0, none⟩ : Addr) (.slice s.A0 s.n0 s.c0) fun w1 => stW w1 ((⟨b, 0, none⟩ : Addr).add 1) (.slice s.A1 s.n1 s.c1) fun w2 => stW w2 ((⟨b, 0, none⟩ : Addr).add 2) (.slice s.A2 s.n2 s.c2) fun w3 => stW w3 ((⟨b, 0, none⟩ : Addr).add 3) (.slice s.A3 s.n3 s.c3) fun w4 =>
   ldS w4 (⟨b, 0, none⟩ : Addr) fun A0 n0 c0 => ldS w4 ((⟨b, 0, none⟩ : Addr).add 1) fun A1 n1 c1 => ldS w4 ((⟨b, 0, none⟩ : Addr).add 2) fun A2 n2 c2 => ldS w4 ((⟨b, 0, none⟩ : Addr).add 3) fun A3 n3 c3 => K A0 n0 c0 A1 n1 c1 A2 n2 c2 A3 n3 c3 w4 := by
 refine al_new fun w1 b e1 s1 h1 g1 => ?_
 exact ret4 h1 rfl s fun w2 h2 k2 => hk w2 (HB.belK g1 k2 (by omega))
structure L2 (w0 w : World) (F : Nat → Prop) (R : Nat) (st : List Int × List E) (s : RS) (sr : List Int × List E) : Prop where
 f : LF w0 w F R st.1 st.2
 r : RF w s sr.1 sr.2
 d : ∀ k, Rb s k → ¬ F k
section
variable {w0 w w' : World} {F F' : Nat → Prop} {R : Nat} {st st' sr sr' : List Int × List E} {s s' : RS}
theorem L2.below (h : L2 w0 w F R st s sr) (hb : Below w.heap.size w w') : L2 w0 w' F R st s sr := ⟨h.f.below hb, h.r.belw hb, h.d⟩
theorem L2.ref (h : L2 w0 w F R st s sr) (hr : RF w' s' sr'.1 sr'.2) (hs : Sb w s s') (hb : Below w.heap.size w w') : L2 w0 w' F R st s' sr' :=
 ⟨h.f.below hb, hr, fun k hk hf => by
  rcases hs.b k hk with h1 | h1
  ·exact h.d k h1 hf
  ·have := h.f.rep.lt k hf; omega⟩
theorem L2.call (h : L2 w0 w F R st s sr) {vs : List Int} {es : List E} (hf : LF w0 w' F' R vs es) (hk : ∀ b cs t, Lo w0 w F b cs t → Lo w0 w' F' b cs t) (u : Upd F w w' F') (p : vs.Perm st'.1) (q : es.Perm st'.2) : L2 w0 w' F' R st' s sr :=
 ⟨hf.perm p q, h.r.keeps u.kp h.d, fun k hk hf' => by
  rcases u.fr k hf' with h1 | h1
  ·exact h.d k hk h1
  ·have := h.r.lt k hk; omega⟩
end
structure DoesR (w0 w : World) (F : Nat → Prop) (R : Nat) (st sr : List Int × List E) (s : RS) (o : Int × E) (en : Ending) (w' : World) : Prop where
 ex : ∃ F' s', en = .returned (.tuple #[.agg (rsC s'), .bool (cdO st o == cdO sr o)]) ∧ L2 w0 w' F' R (stp st o) s' (stp sr o) ∧ (∀ b cs t, Lo w0 w F b cs t → Lo w0 w' F' b cs t) ∧ Sb w s s'
structure RO1 (w : World) (a : Addr) (i : Nat) (o : Int × E) : Prop where
 c0 : w.cell? (a.add (i * 5)) = some (.int .i64 o.1)
 c1 : w.cell? ((a.add (i * 5)).add 1) = some (.int .i64 o.2.id)
 c2 : w.cell? ((a.add (i * 5)).add 2) = some (.int .i64 o.2.u)
 c3 : w.cell? ((a.add (i * 5)).add 3) = some (.int .i64 o.2.v)
 c4 : w.cell? ((a.add (i * 5)).add 4) = some (.int .i64 o.2.w)
def RO (w : World) (A : Option Addr) (l : List (Int × E)) : Prop := ∀ i (hi : i < l.length), ∃ a, A = some a ∧ RO1 w a i l[i]
theorem RO.belw {w w' : World} {A : Option Addr} {l : List (Int × E)} (h : RO w A l) (hb : Below w.heap.size w w') : RO w' A l := fun i hi => by
 obtain ⟨a, ha, h0, h1, h2, h3, h4⟩ := h i hi
 have k := Keeps.of_below (S := fun _ => False) hb
 exact ⟨a, ha, k.cell h0 id, k.cell h1 id, k.cell h2 id, k.cell h3 id, k.cell h4 id⟩
theorem rowO {w : World} {a : Addr} {i : Nat} {o : Int × E} (h : RO1 w a i o) {K : Int → Int → Int → Int → Int → Prop} (hk : K o.1 o.2.id o.2.u o.2.v o.2.w) :
  ldI w (a.add ((i : Int).toNat * 5)) .i64 fun x0 => ldI w ((a.add ((i : Int).toNat * 5)).add 1) .i64 fun x1 => ldI w ((a.add ((i : Int).toNat * 5)).add 2) .i64 fun x2 => ldI w ((a.add ((i : Int).toNat * 5)).add 3) .i64 fun x3 => ldI w ((a.add ((i : Int).toNat * 5)).add 4) .i64 fun x4 => K x0 x1 x2 x3 x4 := by
 rw [Int.toNat_natCast]
 exact ldI_intro h.c0 (ldI_intro h.c1 (ldI_intro h.c2 (ldI_intro h.c3 (ldI_intro h.c4 hk))))
noncomputable def run (l : List (Int × E)) : List Int × List E := l.foldl stp ([], [])
structure Scr (w : World) (A : Option Addr) (n : Nat) (l : List (Int × E)) : Prop where
 r : RO w A l
 n : n = l.length
 le : l.length ≤ 9223372036854775807
 ok : ∀ o ∈ l, OpW o
end Go.Proofs.Ytklnlnjgaadjbaa.Rd
namespace Go.Dn
open Go.RowKit Ieee
set_option maxRecDepth 20000
theorem NB.app : ∀ {p q : List E}, NB (p ++ q) ↔ NB p ∧ NB q ∧ (∀ a ∈ p.getLast?, ∀ b ∈ q.head?, a.id ≠ b.id)
 | [], q => by simp [NB]
 | [a], [] => by simp [NB]
 | [a], b :: q => by simp [NB, and_comm]
 | a :: b :: p, q => by
  have := NB.app (p := b :: p) (q := q)
  simp only [List.cons_append] at this ⊢
  simp only [NB, this, List.getLast?_cons_cons, and_assoc]
theorem NB.rev : ∀ {p : List E}, NB p → NB p.reverse
 | [], _ => trivial
 | a :: p, h => by
  rw [List.reverse_cons, NB.app]
  refine ⟨NB.rev h.tail, trivial, fun x hx b hb => ?_⟩
  simp only [List.head?_cons, Option.mem_def, Option.some.injEq] at hb
  subst hb
  rw [List.getLast?_reverse] at hx
  cases p with
  | nil => simp at hx
  | cons c p =>
   simp only [List.head?_cons, Option.mem_def, Option.some.injEq] at hx
   subst hx
   exact fun e => h.1 e.symm
theorem sumW_app (p q : List E) : sumW (p ++ q) = sumW p + sumW q := by simp [sumW]
theorem sumW_rev (p : List E) : sumW p.reverse = sumW p := by
 induction p with
 | nil => rfl
 | cons a p ih => rw [List.reverse_cons, sumW_app, ih]; simp [sumW]; omega
theorem MxP.congr {p q : List E} {a : E} (h : MxP p a) (hm : ∀ e, e ∈ q ↔ e ∈ p) : MxP q a := by
 refine ⟨fun hq => h.z ?_, fun hq => ?_⟩
 ·cases p with
  | nil => rfl
  | cons c p => have := (hm c).2 (by simp); rw [hq] at this; cases this
 ·have hp : p ≠ [] := fun hp => by
   obtain ⟨c, hc⟩ := List.exists_mem_of_ne_nil q hq
   have := (hm c).1 hc
   rw [hp] at this; cases this
  obtain ⟨h1, h2⟩ := h.s hp
  exact ⟨(hm a).2 h1, fun e he => h2 e ((hm e).1 he)⟩
theorem AlongR.symm {vs : List Int} {es : List E} {u v : Int} {mx : E} {W K c : Int} (h : AlongR vs es u v mx W K c) : AlongR vs es v u mx W K c := by
 rcases h with ⟨h, r⟩ | ⟨hu, hv, h, r⟩ | ⟨hu, hv, p, hp, np, hm, rfl, rfl, rfl⟩
 ·exact .inl ⟨fun k => h ⟨k.2, k.1⟩, r⟩
 ·exact .inr (.inl ⟨hv, hu, fun ⟨p, hp, np⟩ => h ⟨_, hp.rev, np.rev⟩, r⟩)
 ·exact .inr (.inr ⟨hv, hu, _, hp.rev, np.rev, hm.congr (by simp), (sumW_rev p).symm, by simp, rfl⟩)
theorem Wk.red2 {es : List E} (hi : ∀ e ∈ es, ∀ e' ∈ es, e.id = e'.id → e = e') (hw : ∀ e ∈ es, 0 ≤ e.w) {u v : Int} {p : List E} (h : Wk es u p v) : ∃ q, Wk es u q v ∧ NB q ∧ sumW q ≤ sumW p ∧ ∃ k : Nat, p.length = q.length + 2 * k := by
 induction h with
 | nil => exact ⟨[], .nil _, trivial, Int.le_refl _, 0, rfl⟩
 | cons he hm h ih =>
  rename_i e m v p
  obtain ⟨q, hq, nq, hs, k, hk⟩ := ih
  have he0 := hw e he
  cases q with
  | nil => exact ⟨[e], .cons he hm hq, trivial, by simp [sumW] at hs ⊢; omega, k, by simp at hk ⊢; omega⟩
  | cons e' q =>
   by_cases hid : e.id = e'.id
   ·cases hq with
    | cons he' hm' hq' =>
     have := hi e he e' he' hid
     subst this
     rw [oth_oth hm] at hq'
     exact ⟨q, hq', nq.tail, by simp [sumW] at hs ⊢; omega, k + 1, by simp at hk ⊢; omega⟩
   ·exact ⟨e :: e' :: q, .cons he hm hq, ⟨hid, nq⟩, by simp [sumW] at hs ⊢; omega, k, by simp at hk ⊢; omega⟩
theorem ids_inj {es : List E} (h : (es.map E.id).Nodup) : ∀ e ∈ es, ∀ e' ∈ es, e.id = e'.id → e = e' := by
 induction es with
 | nil => intro e h; cases h
 | cons c es ih =>
  rw [List.map_cons, List.nodup_cons] at h
  intro e h1 e' h2 hid
  rcases List.mem_cons.1 h1 with e1 | h1 <;> rcases List.mem_cons.1 h2 with e2 | h2
  ·rw [e1, e2]
  ·exact absurd (by rw [← e1, hid]; exact List.mem_map_of_mem h2) h.1
  ·exact absurd (by rw [← e2, ← hid]; exact List.mem_map_of_mem h1) h.1
  ·exact ih h.2 e h1 e' h2 hid
theorem cut_exact0 (neg : Bool) (k drop : Nat) (h : drop ≤ (k * 2 ^ drop).log2 + 2) : Toward.zero.cut neg (k * 2 ^ drop) drop = k := by
 unfold Toward.cut
 simp only [Nat.min_eq_left h, Nat.one_shiftLeft, Nat.mul_mod_left, Nat.mul_div_cancel _ (Nat.two_pow_pos drop)]
 simp
theorem fb_toInt {n : Int} (h : In53 n) : floatToIntVal .f64 (fb n) .i64 = some n := by
 have hd : (FloatKind.f64.decode (fb n)).toInt .zero = some n := by
  show (Ieee.double.read (fb n)).toInt .zero = some n
  by_cases h0 : n = 0
  ·subst h0; rw [fb_zero]; decide
  ·obtain ⟨t, et⟩ := fb_read h
   rw [et]
   have hp : 0 < n.natAbs := by omega
   have hlog : t ≤ (n.natAbs * 2 ^ t).log2 := by
    rw [Nat.le_log2 (Nat.ne_of_gt (Nat.mul_pos hp (Nat.two_pow_pos t)))]
    exact Nat.le_mul_of_pos_left _ hp
   unfold Datum.toInt Datum.integral
   have e1 : (-(t : Int)).toNat = 0 := by omega
   have e2 : (- -(t : Int)).toNat = t := by omega
   simp only [e1, e2, Nat.shiftLeft_zero]
   rw [cut_exact0 _ _ _ (by omega)]
   have := signed_val n 0
   simp only [Nat.pow_zero] at this
   rw [this]; simp
 unfold floatToIntVal
 rw [hd]
 have := h.1; have := h.2
 have e1 : IntKind.i64.min = -9223372036854775808 := by decide
 have e2 : IntKind.i64.max = 9223372036854775807 := by decide
 simp only [e1, e2]
 rw [if_pos (by omega)]
end Go.Dn
namespace Go.Proofs.Ytklnlnjgaadjbaa.Rd
open Go.Dn Go.RowKit
set_option maxRecDepth 100000
theorem fl_int {n : Int} {w : World} {K : Value → World → Prop} (h : In53 n) (hk : K (.int .i64 n) w) : Runs Try.prog (Go.convert 72 2 (.float .f64 (fb n))) w K :=
 runs_of (run_convert_float_int w _ _ .f64 .i64 _ n (by rfl) (by rfl) (fb_toInt h)) hk
theorem int_fl {n : Int} {w : World} {K : Value → World → Prop} (hk : K (.float .f64 (fb n)) w) : Runs Try.prog (Go.convert 2 72 (.int .i64 n)) w K :=
 runs_of (run_convert_int_float w _ _ .i64 .f64 _ (by rfl) (by rfl)) hk
end Go.Proofs.Ytklnlnjgaadjbaa.Rd
