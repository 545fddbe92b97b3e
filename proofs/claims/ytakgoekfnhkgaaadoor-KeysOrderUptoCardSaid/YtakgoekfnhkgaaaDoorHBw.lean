/- Blocks by their cells, rows of elements of one cell each, appending one element. Conditions: none. -/
import Derived.Test.YtakgoekfnhkgaaaDoorTrA
namespace Go.Dn
open Go.RowKit
set_option linter.unusedVariables false
/-- a block by its cells -/
def HB (w : World) (b : Nat) (cs : Array Value) (t : TypeId) : Prop := w.heap[b]? = some (Obj.cells cs t)
theorem HB.new (w : World) (cs : Array Value) (t : TypeId) : HB (w.alloc (.cells cs t)) w.heap.size cs t := heap_alloc_new w _
theorem HB.lt {w : World} {b : Nat} {cs : Array Value} {t : TypeId} (h : HB w b cs t) : b < w.heap.size := (Array.getElem?_eq_some_iff.1 h).1
theorem HB.keeps {S : Nat → Prop} {w w' : World} {b : Nat} {cs : Array Value} {t : TypeId} (h : HB w b cs t) (k : Keeps S w w') (hb : ¬ S b) : HB w' b cs t := (k.block b h.lt hb).trans h
theorem HB.below {w w' : World} {b : Nat} {cs : Array Value} {t : TypeId} (h : HB w b cs t) (k : Below w.heap.size w w') : HB w' b cs t := (k.block b h.lt).trans h
theorem HB.cell {w : World} {b : Nat} {cs : Array Value} {t : TypeId} (h : HB w b cs t) (j : Nat) : w.cell? ((⟨b, 0, none⟩ : Addr).add j) = cs[j]? := by
  rw [add_mk, Nat.zero_add, cell_of_row w _ _ _ _ _ h]
theorem hb_ldI {w : World} {b : Nat} {cs : Array Value} {t : TypeId} (h : HB w b cs t) {j : Nat} {k : IntKind} {x : Int} (hj : cs[j]? = some (.int k x)) {K : Int → Prop} (hk : K x) : ldI w ((⟨b, 0, none⟩ : Addr).add j) k K := ldI_intro ((h.cell j).trans hj) hk
theorem hb_ldI0 {w : World} {b : Nat} {cs : Array Value} {t : TypeId} (h : HB w b cs t) {k : IntKind} {x : Int} (hj : cs[0]? = some (.int k x)) {K : Int → Prop} (hk : K x) : ldI w (⟨b, 0, none⟩ : Addr) k K := ldI_intro ((h.cell 0).trans hj) hk
theorem hb_ldS {w : World} {b : Nat} {cs : Array Value} {t : TypeId} (h : HB w b cs t) {j : Nat} {A : Option Addr} {n c : Nat} (hj : cs[j]? = some (.slice A n c)) {K : Option Addr → Nat → Nat → Prop} (hk : K A n c) : ldS w ((⟨b, 0, none⟩ : Addr).add j) K := ldS_intro ((h.cell j).trans hj) hk
theorem hb_ldS0 {w : World} {b : Nat} {cs : Array Value} {t : TypeId} (h : HB w b cs t) {A : Option Addr} {n c : Nat} (hj : cs[0]? = some (.slice A n c)) {K : Option Addr → Nat → Nat → Prop} (hk : K A n c) : ldS w (⟨b, 0, none⟩ : Addr) K := ldS_intro ((h.cell 0).trans hj) hk
theorem hb_st {w : World} {b : Nat} {cs : Array Value} {t : TypeId} (h : HB w b cs t) {j : Nat} (hj : j < cs.size) {v : Value} {K : World → Prop} (hk : ∀ w', HB w' b (cs.setIfInBounds j v) t → Keeps (fun k => k = b) w w' → K w') : stW w ((⟨b, 0, none⟩ : Addr).add j) v K := by
  have hc := h.cell j
  rw [Array.getElem?_eq_getElem hj] at hc
  rw [add_mk, Nat.zero_add] at hc ⊢
  exact stW_intro ⟨⟨_, hc⟩, frozen_of_row _ _ _ _ _ h⟩ (hk _ (heap_setCell_same w b j cs t _ h) ((Keeps.refl (fun k => k = b) _).setCell (p := ⟨b, j, none⟩) (.inl rfl) _))
theorem hb_st0 {w : World} {b : Nat} {cs : Array Value} {t : TypeId} (h : HB w b cs t) (hj : 0 < cs.size) {v : Value} {K : World → Prop} (hk : ∀ w', HB w' b (cs.setIfInBounds 0 v) t → Keeps (fun k => k = b) w w' → K w') : stW w (⟨b, 0, none⟩ : Addr) v K := hb_st (j := 0) h hj hk
theorem al_new {w : World} {cs : Array Value} {t : TypeId} {K : Nat → World → Prop} (h : ∀ w' b, b = w.heap.size → w'.heap.size = b + 1 → HB w' b cs t → Below w.heap.size w w' → K b w') : alW w (.cells cs t) K :=
  h _ _ rfl (by simp) (HB.new w cs t) ((Below.refl _ _).alloc (Nat.le_refl _) _)
/-- a row's elements of one cell each, appended to a nil row -/
structure ElTy (P : Program) (t e : TypeId) (z : Value) (by_ : Nat) : Prop where
  und : P.underlying t = some (.slice e)
  row : (P.info? e).map (fun i => (i.zero, i.size, i.bytes)) = some (some z, 1, by_)
theorem ElTy.info {P : Program} {t e : TypeId} {z : Value} {b : Nat} (h : ElTy P t e z b) : ∃ i, P.info? e = some i ∧ i.zero = some z ∧ i.size = 1 ∧ i.bytes = b := by
  have := h.row
  cases hi : P.info? e with
  | none => rw [hi] at this; cases this
  | some i =>
    rw [hi] at this
    simp only [Option.map_some, Option.some.injEq, Prod.mk.injEq] at this
    exact ⟨i, rfl, this.1, this.2.1, this.2.2⟩
/-- one's own row of elements of one cell each -/
def OwnW (w : World) (B : Nat) (e : TypeId) (A : Option Addr) (c : Nat) (xs : List Value) : Prop := w.ownsRow B e 1 (.slice A xs.length c) xs.length xs
theorem OwnW.none (w : World) (B e : Nat) : OwnW w B e .none 0 [] := World.ownsRow_nil _ _ _ _
theorem OwnW.keeps {S : Nat → Prop} {w w' : World} {B e : Nat} {A : Option Addr} {c : Nat} {l : List Value} (h : OwnW w B e A c l) (hk : Keeps S w w') (hA : ∀ a, A = some a → ¬ S a.block) : OwnW w' B e A c l :=
  Keeps.own h hk (fun k hk' => by
    cases A with
    | none => cases hk'
    | some a => injection hk' with hk'; subst hk'; exact hA a rfl)
theorem OwnW.below {w w' : World} {B e : Nat} {A : Option Addr} {c : Nat} {l : List Value} (h : OwnW w B e A c l) (hk : Below w.heap.size w w') : OwnW w' B e A c l := h.keeps (S := fun _ => False) (.of_below hk) (fun _ _ => id)
theorem OwnW.cellAt {w : World} {B e : Nat} {A : Option Addr} {c : Nat} {l : List Value} (h : OwnW w B e A c l) {i : Nat} (hi : i < l.length) : ∃ a, A = some a ∧ w.cell? (a.add i) = some l[i] := by
  obtain ⟨hl, h⟩ := h
  rcases h with ⟨_, h0⟩ | ⟨g, cap, cur, hv, hg, hh, hn, hm, hs, ht⟩
  · omega
  · injection hv with hA hn' hc
    refine ⟨_, hA, ?_⟩
    have hx := World.ownsRow.cellAt (w := w) (base := B) (e := e) (size := 1) (g := g) (n := l.length) (cap := cap) (xs := l) ⟨hl, .inr ⟨g, cap, cur, rfl, hg, hh, hn, hm, hs, ht⟩⟩ i (by omega)
    rw [add_mk, Nat.zero_add, hx]
    simp [hi]
theorem OwnW.block {w : World} {B e : Nat} {A : Option Addr} {c : Nat} {l : List Value} (h : OwnW w B e A c l) : ∀ a, A = some a → B ≤ a.block ∧ a.block < w.heap.size := by
  intro a ha; subst ha
  exact World.ownsRow.lt h a.block rfl
/-- one element appended -/
theorem appW_runs {P : Program} {t e : TypeId} {z : Value} {by_ : Nat} (hT : ElTy P t e z by_) (hz1 : z.cells.size = 1) {w : World} {B : Nat} {A : Option Addr} {n c : Nat} {l : List Value} {b : Nat} {x : Value} {tb : TypeId} {ty : TypeId}
    {K : Value → World → Prop} (ho : OwnW w B e A c l) (hn : n = l.length) (hb : HB w b #[x] tb) (hx : x.oneCell' = true) (hB : B ≤ w.heap.size) (hlen : (l.length + 1) * by_ ≤ 140737488355328) (hlen2 : l.length + 1 ≤ 140737488355328)
    (hK : ∀ A' c' w', OwnW w' B e (some A') c' (l ++ [x]) → Keeps (fun k => some k = (Value.slice A n c).ownBlock) w w' → (A = some A' ∨ w.heap.size ≤ A'.block) → K (.slice (some A') (l ++ [x]).length c') w') :
    Runs P (Builtin.append_ #[t, t] ty #[.slice A n c, .slice (some (⟨b, 0, none⟩ : Addr)) 1 1]) w K := by
  obtain ⟨i, hi, hz, hs, hby⟩ := hT.info
  subst hn
  have hnews : ∀ j u, [x][j]? = some u → w.cell? ((⟨b, 0, none⟩ : Addr).add j) = some u := fun j u hj => by
    rw [hb.cell]; cases j with
    | zero => simpa using hj
    | succ j => simp at hj
  have hone : ∀ u ∈ [x], u.oneCell' = true := fun u hu => by simp at hu; subst hu; exact hx
  have hwrap : ∀ (A' : Option Addr) (c' : Nat) (w' : World), w'.ownsRow B e 1 (.slice A' (l.length + 1) c') (l.length + 1) (l ++ [x]) → OwnW w' B e A' c' (l ++ [x]) := by
    intro A' c' w' h
    unfold OwnW
    rw [List.length_append]; exact h
  obtain ⟨v', w', hrun, ho', hg, _⟩ := run_append_own (P := P) w B t ty e i z 1 by_ hT.und hi hz hs hby hz1 (by decide) (.slice A l.length c) l.length l ho ⟨b, 0, none⟩ 1 1 [x] (by simp) hnews hone (by unfold maxLen; omega) hlen hB
  have hk : Keeps (fun k => some k = (Value.slice A l.length c).ownBlock) w w' := ⟨hg.os, hg.tape, hg.output, hg.size, fun k hk hn => hg.block k hk hn⟩
  obtain ⟨A', c', rfl⟩ : ∃ A' c', v' = .slice (some A') (l.length + 1) c' := by
    obtain ⟨_, h⟩ := ho'
    rcases h with ⟨h1, h2⟩ | ⟨g, cap, cur, hv, _⟩
    · omega
    · exact ⟨_, _, hv⟩
  refine runs_of hrun ?_
  have := hK A' c' w' (hwrap _ _ _ ho') hk ?_
  · rw [List.length_append] at this; exact this
  · rcases ho.2 with ⟨h1, h2⟩ | ⟨g, cap, cur, hv, hbg, hgg, hnc, hcm, hcs, htake⟩
    · injection h1 with h1 _ h3; subst h1; subst h3
      have hl : l = [] := List.length_eq_zero_iff.mp h2
      subst hl
      have hr2 := run_append_nil (P := P) w t ty e i z hT.und hi hz ⟨b, 0, none⟩ 1 1 [x] (by rw [hs]; simp) hnews (by omega) (by omega) (by simp at hlen; rw [hby]; omega)
      have hr2' : (Builtin.append_ #[t, t] ty #[Value.slice none ([] : List Value).length 0, .slice (some ⟨b, 0, none⟩) 1 1]).run P w = _ := hr2
      rw [hr2'] at hrun
      injection hrun with hv hw
      injection hv with hv
      injection hv with hv
      rw [← hv]; exact .inr (Nat.le_refl _)
    · injection hv with hA hn hc
      subst hA; subst hc
      by_cases hroom : l.length + 1 ≤ c
      · obtain ⟨w2, hrun2, _⟩ := run_append_fits (P := P) w B t ty e i 1 hT.und hi hs g l.length c l ho ⟨b, 0, none⟩ 1 1 [x] (by simp) hnews hone hroom
        rw [hrun2] at hrun
        injection hrun with hv _
        injection hv with hv; exact .inl hv
      · have hr2 := run_append_grow (P := P) w t ty e i z hT.und hi hz ⟨g, 0, none⟩ l.length c l (by rw [hs]; simp) (ho.cells (g := g) rfl) ⟨b, 0, none⟩ 1 1 [x] (by rw [hs]; simp) hnews (by omega) (by omega)
          (by rw [hby]; exact growslice_fits (by omega) hlen)
        rw [hr2] at hrun
        injection hrun with hv hw
        injection hv with hv
        injection hv with hv
        rw [← hv]; exact .inr (Nat.le_refl _)
end Go.Dn
