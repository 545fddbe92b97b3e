/- Cells of a block over which a row is laid; rows of slices. Conditions: none. -/
import Derived.Test.YtifambgaekjilaaDoorAppN
import Derived.Laws.IdiomCopy
import Derived.Lib.SliceRun
import Derived.Lib.Overlaps
import Derived.Laws.Externs
import Derived.Lib.AppendZerosOnto
namespace Go.Dn
open Go.RowKit
set_option linter.unusedVariables false
def ovw (cs : Array Value) : Nat → List Value → Array Value
  | _, [] => cs
  | o, v :: r => ovw (cs.setIfInBounds o v) (o + 1) r
theorem ovw_size : ∀ (vs : List Value) (cs : Array Value) (o : Nat), (ovw cs o vs).size = cs.size
  | [], _, _ => rfl
  | v :: r, cs, o => by rw [ovw, ovw_size r]; simp
theorem ovw_get : ∀ (vs : List Value) (cs : Array Value) (o j : Nat), o + vs.length ≤ cs.size → (ovw cs o vs)[j]? = if o ≤ j ∧ j < o + vs.length then vs[j - o]? else cs[j]?
  | [], cs, o, j, h => by rw [ovw, if_neg (by rintro ⟨a, b⟩; rw [List.length_nil] at b; omega)]
  | v :: r, cs, o, j, h => by
    rw [List.length_cons] at h
    rw [ovw, ovw_get r _ (o + 1) j (by simp; omega), List.length_cons]
    by_cases h1 : j = o
    · subst h1
      rw [if_neg (by omega), if_pos (by omega), Array.getElem?_setIfInBounds_self, if_pos (by omega), Nat.sub_self]; rfl
    · by_cases h2 : o + 1 ≤ j ∧ j < o + 1 + r.length
      · rw [if_pos h2, if_pos (by omega), show j - o = (j - (o + 1)) + 1 by omega]; rfl
      · rw [if_neg h2, if_neg (by omega), Array.getElem?_setIfInBounds_ne (by omega)]
theorem hb_cells {g : Nat} {t : TypeId} : ∀ (vs : List Value) (cs : Array Value) (o : Nat) (w : World), HB w g cs t → o + vs.length ≤ cs.size → HB (w.setCells g o vs) g (ovw cs o vs) t ∧ Keeps (fun k => k = g) w (w.setCells g o vs)
  | [], cs, o, w, h, _ => ⟨h, .refl _ _⟩
  | v :: r, cs, o, w, h, hl => by
    rw [List.length_cons] at hl
    have h1 := heap_setCell_same w g o cs t v h
    have k1 := (Keeps.refl (fun k => k = g) w).setCell (p := ⟨g, o, none⟩) (.inl rfl) v
    obtain ⟨a, b⟩ := hb_cells r (cs.setIfInBounds o v) (o + 1) _ h1 (by simp; omega)
    exact ⟨a, k1.trans b⟩
/-! ### slices as elements -/
abbrev SM := Option Addr × Nat × Nat
def eS (m : SM) : List Value := [.slice m.1 m.2.1 m.2.2]
theorem ES : Enc eS 1 := ⟨fun _ => rfl, fun x u hu => by simp only [eS, List.mem_singleton] at hu; subst hu; rfl, by decide⟩
def vS (m : SM) : Value := .slice m.1 m.2.1 m.2.2
theorem encs_eS (l : List SM) : encs eS l = l.map vS := by
  induction l with
  | nil => rfl
  | cons b l ih => unfold encs at ih ⊢; rw [List.flatMap_cons, ih]; rfl
section
variable {w : World} {B e c : Nat} {l : List SM}
theorem OwnE.open1 {A : Option Addr} (h : OwnE eS 1 w B e A c l) {a : Addr} (ha : A = some a) : ∃ cur, a = ⟨a.block, 0, Option.none⟩ ∧ B ≤ a.block ∧ HB w a.block cur e ∧ cur.size = c ∧ l.length ≤ c ∧ c ≤ maxLen ∧ ∀ j (hj : j < l.length), cur[j]? = some (vS l[j]) := by
  subst ha
  obtain ⟨_, h⟩ := h
  rcases h with ⟨h, _⟩ | ⟨g, cap, cur, hv, hbg, hg, hnc, hcm, hcs, ht⟩
  · cases h
  · injection hv with hv hn hc
    injection hv with hv
    subst hv; subst hc
    refine ⟨cur, rfl, hbg, hg, by omega, hnc, hcm, fun j hj => ?_⟩
    have h1 : (cur.toList.take (l.length * 1))[j]? = (l.map vS)[j]? := by rw [ht, encs_eS]
    rw [List.getElem?_take, if_pos (by omega), List.getElem?_map, List.getElem?_eq_getElem hj] at h1
    simpa using h1
theorem OwnE.make1 {g : Nat} {cur : Array Value} (hb : HB w g cur e) (hB : B ≤ g) (hs : cur.size = c) (hl : l.length ≤ c) (hm : c ≤ maxLen) (hc : ∀ j (hj : j < l.length), cur[j]? = some (vS l[j])) : OwnE eS 1 w B e (some ⟨g, 0, Option.none⟩) c l := by
  refine ⟨by rw [encs_eS, List.length_map, Nat.mul_one], .inr ⟨g, c, cur, rfl, hB, hb, hl, hm, by omega, ?_⟩⟩
  rw [encs_eS, Nat.mul_one]
  apply List.ext_getElem?
  intro j
  by_cases hj : j < l.length
  · rw [List.getElem?_take, if_pos hj, List.getElem?_map, List.getElem?_eq_getElem hj]
    simpa using hc j hj
  · rw [List.getElem?_take, if_neg hj, List.getElem?_map, List.getElem?_eq_none (by omega)]; rfl
end
theorem own_hb {α : Type} {enc : α → List Value} {w : World} {B k e c : Nat} {A : Option Addr} {l : List α} (h : OwnE enc k w B e A c l) {a : Addr} (ha : A = some a) : ∃ cs, HB w a.block cs e := by
  obtain ⟨_, h⟩ := h
  rcases h with ⟨h1, _⟩ | ⟨g, cap, cur, hv, _, hh, _⟩
  · subst ha; injection h1 with h1; cases h1
  · injection hv with hv
    subst ha; injection hv with hv; subst hv
    exact ⟨cur, hh⟩
theorem HB.ty {w : World} {b : Nat} {cs cs' : Array Value} {t t' : TypeId} (h : HB w b cs t) (k : HB w b cs' t') : t = t' := by
  have := h.symm.trans k
  injection this with this; injection this
end Go.Dn
