/- Rows of records of k cells each, whatever they hold: reading, appending one. Conditions: none. -/
import Derived.Test.YtakgoekfnhkgaaaDoorHBw
namespace Go.Dn
open Go.RowKit
set_option linter.unusedVariables false
section
variable {α : Type}
/-- how a record lies in cells -/
structure Enc (enc : α → List Value) (k : Nat) : Prop where
  len : ∀ x, (enc x).length = k
  one : ∀ x, ∀ u ∈ enc x, u.oneCell' = true
  pos : 0 < k
def encs (enc : α → List Value) (l : List α) : List Value := l.flatMap enc
theorem encs_len {enc : α → List Value} {k : Nat} (E : Enc enc k) (l : List α) : (encs enc l).length = l.length * k := by
  induction l with
  | nil => simp [encs]
  | cons e l ih =>
    simp only [encs, List.flatMap_cons, List.length_append, List.length_cons] at ih ⊢
    rw [ih, E.len, Nat.succ_mul]; omega
theorem encs_app (enc : α → List Value) (l m : List α) : encs enc (l ++ m) = encs enc l ++ encs enc m := by simp [encs]
theorem encs_get {enc : α → List Value} {k : Nat} (E : Enc enc k) {l : List α} : ∀ {i j : Nat} (hi : i < l.length) (hj : j < k), (encs enc l)[i * k + j]? = (enc l[i])[j]? := by
  induction l with
  | nil => intro i j hi; simp at hi
  | cons e l ih =>
    intro i j hi hj
    have hl := E.len e
    cases i with
    | zero => simp only [encs, List.flatMap_cons, Nat.zero_mul, Nat.zero_add, List.getElem_cons_zero]; rw [List.getElem?_append_left (by omega)]
    | succ i =>
      have := ih (i := i) (j := j) (by simp at hi; omega) hj
      simp only [encs, List.flatMap_cons, List.getElem_cons_succ] at this ⊢
      rw [Nat.succ_mul, List.getElem?_append_right (by omega), ← this]
      congr 1
      omega
/-- a slice at A reads these records -/
def RowE (enc : α → List Value) (k : Nat) (w : World) (A : Option Addr) (l : List α) : Prop := ∀ i (hi : i < l.length), ∃ a, A = some a ∧ ∀ j, j < k → w.cell? ((a.add (i * k)).add j) = (enc l[i])[j]?
theorem RowE.nil (enc : α → List Value) (k : Nat) (w : World) (A : Option Addr) : RowE enc k w A [] := fun i h => absurd h (Nat.not_lt_zero _)
theorem RowE.keeps {enc : α → List Value} {k : Nat} (E : Enc enc k) {S : Nat → Prop} {w w' : World} {A : Option Addr} {l : List α} (h : RowE enc k w A l) (hk : Keeps S w w') (hA : ∀ a, A = some a → ¬ S a.block) : RowE enc k w' A l := fun i hi => by
  obtain ⟨a, ha, h1⟩ := h i hi
  refine ⟨a, ha, fun j hj => ?_⟩
  have h2 := h1 j hj
  have hlt : j < (enc l[i]).length := by rw [E.len]; exact hj
  rw [List.getElem?_eq_getElem hlt] at h2 ⊢
  exact hk.cell h2 (by rw [add_block, add_block]; exact hA a ha)
theorem RowE.below {enc : α → List Value} {k : Nat} (E : Enc enc k) {w w' : World} {A : Option Addr} {l : List α} (h : RowE enc k w A l) (hb : Below w.heap.size w w') : RowE enc k w' A l := h.keeps E (S := fun _ => False) (.of_below hb) fun _ _ => id
/-- the first cell -/
theorem RowE.c0 {enc : α → List Value} {k : Nat} (E : Enc enc k) {w : World} {a : Addr} {l : List α} (h : RowE enc k w (some a) l) {i : Nat} (hi : i < l.length) : w.cell? (a.add (i * k)) = (enc l[i])[0]? := by
  obtain ⟨a', ha, h1⟩ := h i hi
  injection ha with ha; subst ha
  exact h1 0 E.pos
theorem RowE.cj {enc : α → List Value} {k : Nat} {w : World} {a : Addr} {l : List α} (h : RowE enc k w (some a) l) {i : Nat} (hi : i < l.length) {j : Nat} (hj : j < k) : w.cell? ((a.add (i * k)).add j) = (enc l[i])[j]? := by
  obtain ⟨a', ha, h1⟩ := h i hi
  injection ha with ha; subst ha
  exact h1 j hj
theorem RowE.lt {enc : α → List Value} {k : Nat} (E : Enc enc k) {w : World} {a : Addr} {l : List α} (h : RowE enc k w (some a) l) (hl : 0 < l.length) : a.block < w.heap.size := by
  have := h.c0 E hl
  rw [List.getElem?_eq_getElem (by rw [E.len]; exact E.pos)] at this
  have := World.block_lt_of_cell? w _ this
  rw [add_block] at this; exact this
/-- one's own -/
def OwnE (enc : α → List Value) (k : Nat) (w : World) (B e : Nat) (A : Option Addr) (c : Nat) (l : List α) : Prop := w.ownsRow B e k (.slice A l.length c) l.length (encs enc l)
theorem OwnE.none (enc : α → List Value) (k : Nat) (w : World) (B e : Nat) : OwnE enc k w B e .none 0 [] := World.ownsRow_nil _ _ _ _
theorem OwnE.keeps {enc : α → List Value} {k : Nat} {S : Nat → Prop} {w w' : World} {B e : Nat} {A : Option Addr} {c : Nat} {l : List α} (h : OwnE enc k w B e A c l) (hk : Keeps S w w') (hA : ∀ a, A = some a → ¬ S a.block) : OwnE enc k w' B e A c l :=
  Keeps.own h hk (fun k hk' => by
    cases A with
    | none => cases hk'
    | some a => injection hk' with hk'; subst hk'; exact hA a rfl)
theorem OwnE.below {enc : α → List Value} {k : Nat} {w w' : World} {B e : Nat} {A : Option Addr} {c : Nat} {l : List α} (h : OwnE enc k w B e A c l) (hb : Below w.heap.size w w') : OwnE enc k w' B e A c l := h.keeps (S := fun _ => False) (.of_below hb) fun _ _ => id
theorem OwnE.block {enc : α → List Value} {k : Nat} {w : World} {B e : Nat} {A : Option Addr} {c : Nat} {l : List α} (h : OwnE enc k w B e A c l) : ∀ a, A = some a → B ≤ a.block ∧ a.block < w.heap.size := by
  intro a ha; subst ha
  exact World.ownsRow.lt h a.block rfl
theorem OwnE.nil0 {enc : α → List Value} {k : Nat} {w : World} {B e : Nat} {A : Option Addr} {c : Nat} {l : List α} (h : OwnE enc k w B e A c l) : A = .none → c = 0 ∧ l = [] := by
  intro hA; subst hA
  obtain ⟨_, h⟩ := h
  rcases h with ⟨h, h2⟩ | ⟨g, cap, cur, hv, _⟩
  · injection h with _ _ h; exact ⟨h, List.length_eq_zero_iff.1 h2⟩
  · injection hv with hv; cases hv
theorem OwnE.reads {enc : α → List Value} {k : Nat} (E : Enc enc k) {w : World} {B e : Nat} {A : Option Addr} {c : Nat} {l : List α} (h : OwnE enc k w B e A c l) : RowE enc k w A l := by
  intro i hi
  obtain ⟨hl, h⟩ := h
  rcases h with ⟨_, h0⟩ | ⟨g, cap, cur, hv, hg, hh, hn, hm, hs, ht⟩
  · omega
  · injection hv with hA hn' hc
    have hx := World.ownsRow.cellAt (w := w) (base := B) (e := e) (size := k) (g := g) (n := l.length) (cap := cap) (xs := encs enc l) ⟨hl, .inr ⟨g, cap, cur, rfl, hg, hh, hn, hm, hs, ht⟩⟩
    refine ⟨_, hA, fun j hj => ?_⟩
    have hlt : i * k + j < l.length * k := by
      have : (i + 1) * k ≤ l.length * k := Nat.mul_le_mul_right k (by omega)
      rw [Nat.succ_mul] at this; omega
    rw [add_add, add_mk, Nat.zero_add, hx (i * k + j) hlt, encs_get E hi hj]
/-- the empty row that a literal makes -/
theorem OwnE.empty {enc : α → List Value} {k : Nat} {w : World} {B e : Nat} (hB : B ≤ w.heap.size) : OwnE enc k (w.alloc (.cells #[] e)) B e (some ⟨w.heap.size, 0, Option.none⟩) 0 [] := by
  have h := World.ownsRow_lit (base := B) (e := e) (size := k) w #[] 0 hB (by unfold maxLen; omega) (by simp)
  exact h
/-- the types of a row of records -/
structure RecTy (P : Program) (t e : TypeId) (k by_ : Nat) : Prop where
  und : P.underlying t = some (.slice e)
  row : (P.info? e).bind (fun i => i.zero.map fun z => (z.cells.size, i.size, i.bytes)) = some (k, k, by_)
theorem RecTy.info {P : Program} {t e : TypeId} {k by_ : Nat} (h : RecTy P t e k by_) : ∃ i z, P.info? e = some i ∧ i.zero = some z ∧ z.cells.size = k ∧ i.size = k ∧ i.bytes = by_ := by
  have := h.row
  rw [Option.bind_eq_some_iff] at this
  obtain ⟨i, hi, h2⟩ := this
  rw [Option.map_eq_some_iff] at h2
  obtain ⟨z, hz, h3⟩ := h2
  simp only [Prod.mk.injEq] at h3
  exact ⟨i, z, hi, hz, h3.1, h3.2.1, h3.2.2⟩
def Ob (A : Option Addr) (k : Nat) : Prop := ∃ a, A = some a ∧ a.block = k
theorem ob_own {A : Option Addr} {n c k : Nat} (h : some k = (Value.slice A n c).ownBlock) : Ob A k := by
  cases A with
  | none => simp [Value.ownBlock] at h
  | some a => exact ⟨a, rfl, by simpa [Value.ownBlock] using h.symm⟩
/-- one appended to a row of one's own -/
theorem app_e {P : Program} {t te : TypeId} {k by_ : Nat} (T : RecTy P t te k by_) {enc : α → List Value} (E : Enc enc k) (hby : 0 < by_) {w : World} {B : Nat} {A : Option Addr} {n c : Nat} {l : List α} (ho : OwnE enc k w B te A c l) (hn : n = l.length) {b : Nat} {x : α} {cs : Array Value} {tb : TypeId} (hb : HB w b cs tb) (hcs : cs.toList = enc x)
    (hB : B ≤ w.heap.size) (hlen : (l.length + 1) * by_ ≤ 140737488355328) {ty : TypeId} {K : Value → World → Prop}
    (hK : ∀ A' c' w', OwnE enc k w' B te (some A') c' (l ++ [x]) → Keeps (Ob A) w w' → (A = some A' ∨ w.heap.size ≤ A'.block) → K (.slice (some A') (l ++ [x]).length c') w') :
    Runs P (Builtin.append_ #[t, t] ty #[.slice A n c, .slice (some (⟨b, 0, none⟩ : Addr)) 1 1]) w K := by
  subst hn
  obtain ⟨i, z, hi, hz, hz1, hs, hbyt⟩ := T.info
  have hlen2 : l.length + 1 ≤ 140737488355328 := Nat.le_trans (Nat.le_mul_of_pos_right _ hby) hlen
  have hnews : ∀ j u, (enc x)[j]? = some u → w.cell? ((⟨b, 0, none⟩ : Addr).add j) = some u := fun j u hj => by
    rw [hb.cell, ← Array.getElem?_toList, hcs]; exact hj
  obtain ⟨v', w', hrun, ho', hg, _⟩ := run_append_own (P := P) w B t ty te i z k by_ T.und hi hz hs hbyt hz1 E.pos (.slice A l.length c) l.length (encs enc l) ho ⟨b, 0, none⟩ 1 1 (enc x) (by rw [E.len, Nat.one_mul]) hnews (E.one x) (by unfold maxLen; omega) hlen hB
  have hk : Keeps (Ob A) w w' := ⟨hg.os, hg.tape, hg.output, hg.size, fun k hk hn => hg.block k hk fun h => hn (ob_own h)⟩
  have hev : encs enc l ++ enc x = encs enc (l ++ [x]) := by rw [encs_app]; simp [encs]
  rw [hev] at ho'
  obtain ⟨A', c', rfl⟩ : ∃ A' c', v' = .slice (some A') (l.length + 1) c' := by
    obtain ⟨_, h⟩ := ho'
    rcases h with ⟨h1, h2⟩ | ⟨g, cap, cur, hv, _⟩
    · omega
    · exact ⟨_, _, hv⟩
  have hlen3 : (l ++ [x]).length = l.length + 1 := by simp
  refine runs_of hrun ?_
  have := hK A' c' w' (by unfold OwnE; rw [hlen3]; exact ho') hk ?_
  · rw [hlen3] at this; exact this
  · rcases ho.2 with ⟨h1, h2⟩ | ⟨g, cap, cur, hv, hbg, hgg, hnc, hcm, hcs', htake⟩
    · injection h1 with h1 _ h3; subst h1; subst h3
      have hl0 : l = [] := List.length_eq_zero_iff.mp h2
      subst hl0
      have hr2 := run_append_nil (P := P) w t ty te i z T.und hi hz ⟨b, 0, none⟩ 1 1 (enc x) (by rw [hs, E.len, Nat.one_mul]) hnews (by omega) (by omega) (by rw [hbyt]; simp at hlen; omega)
      have hr2' : (Builtin.append_ #[t, t] ty #[Value.slice none ([] : List α).length 0, .slice (some ⟨b, 0, none⟩) 1 1]).run P w = _ := hr2
      rw [hr2'] at hrun
      injection hrun with hv hw
      injection hv with hv
      injection hv with hv
      rw [← hv]; exact .inr (Nat.le_refl _)
    · injection hv with hA hn hc
      subst hA; subst hc
      by_cases hroom : l.length + 1 ≤ c
      · obtain ⟨w2, hrun2, _⟩ := run_append_fits (P := P) w B t ty te i k T.und hi hs g l.length c (encs enc l) ho ⟨b, 0, none⟩ 1 1 (enc x) (by rw [E.len, Nat.one_mul]) hnews (E.one x) hroom
        rw [hrun2] at hrun
        injection hrun with hv _
        injection hv with hv; exact .inl hv
      · have hr2 := run_append_grow (P := P) w t ty te i z T.und hi hz ⟨g, 0, none⟩ l.length c (encs enc l) (by rw [hs, encs_len E]) (ho.cells (g := g) rfl) ⟨b, 0, none⟩ 1 1 (enc x) (by rw [hs, E.len, Nat.one_mul]) hnews (by omega) (by omega)
          (by rw [hbyt]; exact growslice_fits (by omega) hlen)
        rw [hr2] at hrun
        injection hrun with hv hw
        injection hv with hv
        injection hv with hv
        rw [← hv]; exact .inr (Nat.le_refl _)
/-- the element's block and the append at once -/
theorem put_e {P : Program} {t te : TypeId} {k by_ : Nat} (T : RecTy P t te k by_) {enc : α → List Value} (E : Enc enc k) (hby : 0 < by_) {w : World} {B : Nat} {A : Option Addr} {n c : Nat} {l : List α} (ho : OwnE enc k w B te A c l) (hn : n = l.length) (x : α) {cs : Array Value} {tb : TypeId} (hcs : cs.toList = enc x)
    (hB : B ≤ w.heap.size) (hlen : (l.length + 1) * by_ ≤ 140737488355328) {ty : TypeId} {K : Option Addr → Nat → Nat → World → Prop}
    (hK : ∀ A' c' w', OwnE enc k w' B te (some A') c' (l ++ [x]) → Keeps (Ob A) w w' → (A = some A' ∨ w.heap.size ≤ A'.block) → K (some A') (l ++ [x]).length c' w') :
    alW w (.cells cs tb) fun b w2 => Runs P (Builtin.append_ #[t, t] ty #[.slice A n c, .slice (some (⟨b, 0, none⟩ : Addr)) 1 1]) w2 fun v w3 => ∃ (A' : Option Addr) (n' : Nat) (c' : Nat), v = (.slice A' n' c') ∧ K A' n' c' w3 := by
  refine al_new fun w2 b e2 s2 h2 g2 => ?_
  have o2 := ho.below g2
  refine app_e T E hby o2 hn h2 hcs (by omega) hlen fun A' c' w3 o3 k3 f3 => ⟨_, _, _, rfl, hK A' c' w3 o3 ((Keeps.of_below g2).trans k3) (f3.imp id fun h => by omega)⟩
end
end Go.Dn
