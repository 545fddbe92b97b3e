/- A slice among the arguments, opened: its elements by a code of one's own. Conditions: none. -/
import Derived.Test.YtakgoekfnhkgaaaDoorRecR
import Derived.ChangeArms
import Derived.DataReads
import Derived.SizedLaws
namespace Go.Dn
open Go.RowKit
set_option linter.unusedVariables false
theorem list_of {α : Type} {P : Nat → α → Prop} : ∀ {n : Nat}, (∀ i, i < n → ∃ x, P i x) → ∃ l : List α, l.length = n ∧ ∀ i (h : i < l.length), P i l[i]
  | 0, _ => ⟨[], rfl, fun i h => absurd h (Nat.not_lt_zero _)⟩
  | n + 1, key => by
    obtain ⟨l, hl, h⟩ := list_of (n := n) fun i hi => key i (by omega)
    obtain ⟨x, hx⟩ := key n (by omega)
    refine ⟨l ++ [x], by simp [hl], fun i hi => ?_⟩
    by_cases hn : i < l.length
    · rw [List.getElem_append_left hn]; exact h i hn
    · have : i = n := by rw [List.length_append] at hi; simp at hi; omega
      subst this
      rw [List.getElem_append_right (by omega)]
      simp only [hl, Nat.sub_self, List.getElem_cons_zero]
      exact hx
section
variable {H : Type} {enc : TypeId × Value → H} {P : Program} {w : World} {base : Nat} {spare : Nat → Bool} {held : Bool} {fuel : Nat} {t : TypeId}
theorem one_of' {n : Nat} {t : TypeId} {cs : List Value} {j : Nat} {x : DataW H × List MemPlace} (hj : j < cs.length) (h : DataW.trod enc P w base spare held n t ((cs.drop j).take 1) = some x) : DataW.trod enc P w base spare held n t [cs[j]] = some x := by
  rw [List.drop_eq_getElem_cons hj, List.take_succ_cons, List.take_zero] at h
  exact h
theorem wt_in {e : TypeId} {d : DataW H} {v : Nat} : ∀ {l : List (DataW H)}, d ∈ l → v ∈ d.weights P e → v ∈ DataW.weightsAll P e l
  | [], h, _ => by cases h
  | y :: l, h, hv => by
    unfold DataW.weightsAll
    rcases List.mem_cons.1 h with rfl | h
    · exact List.mem_append_left _ hv
    · exact List.mem_append_right _ (wt_in h hv)
theorem open_gen {α : Type} {enc' : α → List Value} {k by_ : Nat} (E : Enc enc' k) {r : TypeId} (ht : P.underlying t = some (.slice r)) (hc : P.cellsOf r = k) (hby : P.bytesOf r = by_) {Q : α → DataW H → Prop}
    (hq : ∀ n cs y, cs.length = k → DataW.trod enc P w base spare held n r cs = some y → ∃ x : α, cs = enc' x ∧ Q x y.1) {A : Option Addr} {len cap : Nat} {x : DataW H × List MemPlace} (h : DataW.trod enc P w base spare held fuel t [.slice A len cap] = some x) :
    ∃ l : List α, l.length = len ∧ RowE enc' k w A l ∧ (A = none → cap = 0 ∧ l.length = 0) ∧ (l ≠ [] → ∀ a, A = some a → a.block < w.heap.size) ∧ l.length ≤ cap ∧
      ((x.1 = .nil ∧ l = []) ∨ ∃ el rs, x.1 = .slice el rs ∧ el.length = l.length ∧ ∀ i (hi : i < l.length), ∃ d, el[i]? = some d ∧ Q l[i] d) ∧ ((∀ v ∈ x.1.weights P t, v ≤ reachBytes) → l.length * by_ ≤ 140737488351232) := by
  rcases DataW.trod_slice ht h with ⟨h0, hx⟩ | ⟨a, len', cap', elems, rest, n, _, h1, hx, hbs, hl, hm, hlen, hel, hsp, hns⟩
  · injection h0 with h0; injection h0 with h0 h1 h2; subst h0; subst h1; subst h2
    exact ⟨[], rfl, RowE.nil _ _ _ _, fun _ => ⟨rfl, rfl⟩, by simp, by simp, .inl ⟨by rw [hx], rfl⟩, by simp⟩
  · injection h1 with h1; injection h1 with h0 h1 h2; subst h0; subst h1; subst h2
    have key : ∀ i, i < len → ∃ z : α, (∀ j, j < k → w.cell? ((a.add (i * k)).add j) = (enc' z)[j]?) ∧ ∃ d, (elems.map (·.1))[i]? = some d ∧ Q z d := by
      intro i hi
      have h2 := hel i hi
      rw [List.getElem?_eq_getElem (by omega), Option.bind_eq_some_iff] at h2
      obtain ⟨cs, hcs, hy⟩ := h2
      obtain ⟨_, hl3, hcell⟩ := World.cells?_some hcs
      rw [hc] at hcell hl3
      obtain ⟨z, e, q⟩ := hq _ _ _ hl3 hy
      refine ⟨z, fun j hj => ?_, _, ?_, q⟩
      · have := hcell j hj
        rw [← e]
        exact this
      · rw [List.getElem?_map, List.getElem?_eq_getElem (by omega)]; rfl
    obtain ⟨l, el, hP⟩ := list_of key
    refine ⟨l, el, fun i hi => ⟨a, rfl, (hP i hi).1⟩, (fun e => by cases e), fun hne a' ha => ?_, by omega, .inr ⟨elems.map (·.1), rest.map (·.1), by rw [hx], by simp [hlen, el], fun i hi => (hP i hi).2⟩, fun hw => ?_⟩
    · injection ha with ha; subst ha
      have h0 : 0 < l.length := List.length_pos_iff.2 hne
      have h1 := (hP 0 h0).1 0 E.pos
      obtain ⟨u, h2⟩ : ∃ u, (enc' (l[0]'h0))[0]? = some u := ⟨_, List.getElem?_eq_getElem (by rw [E.len]; exact E.pos)⟩
      have := World.block_lt_of_cell? w _ (h1.trans h2)
      rw [add_block, add_block] at this; exact this
    · rw [hx] at hw
      have := hw ((elems.map (·.1)).length * by_ + (rest.map (·.1)).length * by_) (by
        simp only [DataW.weights, ht, hby]
        rw [← Nat.add_mul]; exact List.mem_cons_self)
      unfold reachBytes at this
      simp only [List.length_map] at this
      rw [el, ← hlen]
      omega
/-- rows of numbers of one kind -/
theorem open_num {κ : IntKind} {by_ : Nat} {r : TypeId} (ht : P.underlying t = some (.slice r)) (hr : P.underlying r = some (.int κ)) (hc : P.cellsOf r = 1) (hby : P.bytesOf r = by_) {A : Option Addr} {len cap : Nat} {x : DataW H × List MemPlace} (h : DataW.trod enc P w base spare held fuel t [.slice A len cap] = some x) :
    ∃ l : List Int, l.length = len ∧ RowE (fun z => [.int κ z]) 1 w A l ∧ (A = none → cap = 0 ∧ l.length = 0) ∧ (l ≠ [] → ∀ a, A = some a → a.block < w.heap.size) ∧ l.length ≤ cap ∧ ((∀ v ∈ x.1.weights P t, v ≤ reachBytes) → l.length * by_ ≤ 140737488351232) := by
  obtain ⟨l, h1, h2, h3, h4, h5, _, h7⟩ := open_gen (enc' := fun z : Int => [.int κ z]) (k := 1) ⟨fun _ => rfl, fun x u hu => by simp only [List.mem_singleton] at hu; subst hu; rfl, by decide⟩ ht hc hby (Q := fun _ _ => True) (fun n cs y hl hy => by
    obtain ⟨u, rfl⟩ : ∃ u, cs = [u] := by match cs, hl with | [u], _ => exact ⟨_, rfl⟩
    obtain ⟨z, e, _⟩ := DataW.trod_int hr hy
    injection e with e
    exact ⟨z, by rw [show u = _ from e], trivial⟩) h
  exact ⟨l, h1, h2, h3, h4, h5, h7⟩
end
end Go.Dn
