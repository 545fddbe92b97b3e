/- What a row tells of a slice of calls (a number and an edge each), and of an edge. Conditions: none. -/
import Derived.Test.YtfknppccgojhdaaRecs
import Derived.WalkKit
namespace Go.Dn
open Go.RowKit
set_option linter.unusedVariables false
def ks5 : List IntKind := [.i64, .i64, .i64, .i64, .i64]
theorem one_int {H : Type} {enc : TypeId × Value → H} {P : Program} {w : World} {base : Nat} {spare : Nat → Bool} {held : Bool} {n : Nat} {t : TypeId} {k : IntKind} {cs : List Value} {j : Nat} {x : DataW H × List MemPlace} (hu : P.underlying t = some (.int k)) (hj : j < cs.length) (h : DataW.trod enc P w base spare held n t ((cs.drop j).take 1) = some x) : ∃ z, cs[j] = .int k z ∧ (Lit.int k z).wf = true := by
  obtain ⟨z, e1, _, e2⟩ := DataW.trod_int hu h
  refine ⟨z, ?_, e2⟩
  rw [List.drop_eq_getElem_cons hj, List.take_succ_cons, List.take_zero] at e1
  injection e1 with e1
/-- cells of a struct of numbers -/
theorem ints_of {H : Type} {enc : TypeId × Value → H} {P : Program} {w : World} {base : Nat} {spare : Nat → Bool} {held : Bool} {n m : Nat} {t : TypeId} {gs : Array Field} {cs : List Value} {x : DataW H × List MemPlace} (hu : P.underlying t = some (.struct gs)) (hgs : gs.toList.map (fun f => (f.offset, P.cellsOf f.type, P.underlying f.type)) = (List.range m).map fun j => (j, 1, some (.int .i64))) (hl : cs.length = m) (h : DataW.trod enc P w base spare held n t cs = some x) : ∀ j (hj : j < m), ∃ z, cs[j]'(by omega) = .int .i64 z ∧ (Lit.int .i64 z).wf = true := by
  intro j hj
  obtain ⟨xs, k, _, _, _, hxl, hf⟩ := DataW.trod_struct hu h
  have hsz : gs.size = m := by
    have := congrArg List.length hgs
    simpa using this
  have hfj : gs[j]? = some (gs[j]'(by omega)) := Array.getElem?_eq_getElem (by omega)
  have hrow := congrArg (fun l => l[j]?) hgs
  simp only [List.getElem?_map, Array.getElem?_toList, hfj, Option.map_some, List.getElem?_range hj] at hrow
  injection hrow with hrow
  simp only [Prod.mk.injEq] at hrow
  obtain ⟨ho, hco, hu⟩ := hrow
  have h3 := hf j _ hfj
  rw [ho, hco, List.getElem?_eq_getElem (by omega)] at h3
  exact one_int hu (by omega) h3
theorem open_ops {H : Type} {enc : TypeId × Value → H} {P : Program} {w : World} {base : Nat} {spare : Nat → Bool} {held : Bool} {fuel : Nat} {t e : TypeId} {fs gs : Array Field} {f0 f1 : Field} {A : Option Addr} {len cap : Nat} {x : DataW H × List MemPlace}
    (ht : P.underlying t = some (.slice e)) (he : P.underlying e = some (.struct fs)) (hc : P.cellsOf e = 5) (h0 : fs[0]? = some f0) (h1 : fs[1]? = some f1) (hsz : fs.size = 2) (o0 : f0.offset = 0) (o1 : f1.offset = 1) (c0 : P.cellsOf f0.type = 1) (c1 : P.cellsOf f1.type = 4) (u0 : P.underlying f0.type = some (.int .i64)) (u1 : P.underlying f1.type = some (.struct gs)) (hgs : gs.toList.map (fun f => (f.offset, P.cellsOf f.type, P.underlying f.type)) = (List.range 4).map fun j => (j, 1, some (.int .i64)))
    (h : DataW.trod enc P w base spare held fuel t [.slice A len cap] = some x) : ∃ f, IsRecs ks5 w A len cap f := by
  rcases DataW.trod_slice ht h with ⟨h0, _⟩ | ⟨a, len', cap', elems, rest, n, _, h1', rfl, hb, hl, hm, hlen, hel, hsp, hns⟩
  · injection h0 with h0; injection h0 with h0 h1 h2; subst h0; subst h1; subst h2
    exact ⟨fun _ _ => 0, .inl ⟨rfl, rfl, rfl⟩⟩
  · injection h1' with h1'; injection h1' with h0' h1' h2'; subst h0'; subst h1'; subst h2'
    have hk5 : ∀ j (hj : j < ks5.length), ks5[j] = IntKind.i64 := fun j hj => by
      match j, hj with
      | 0, _ => rfl | 1, _ => rfl | 2, _ => rfl | 3, _ => rfl | 4, _ => rfl
    have key : ∀ i, i < len → ∀ j (hj : j < 5), ∃ z, w.cell? (a.add (i * 5 + j)) = some (.int .i64 z) ∧ (Lit.int .i64 z).wf = true := by
      intro i hi j hj
      have h2 := hel i hi
      rw [List.getElem?_eq_getElem (by omega), Option.bind_eq_some_iff] at h2
      obtain ⟨cs', hcs, hy⟩ := h2
      obtain ⟨xs, m, _, _, hl2, hxl, hf⟩ := DataW.trod_struct he hy
      obtain ⟨hb', hl3, hcell⟩ := World.cells?_some hcs
      have hj2 : j < cs'.length := by rw [hl2, hc]; exact hj
      have h4 := hcell j (by rw [hc]; exact hj)
      rw [add_add, hc] at h4
      have hz : ∃ z, cs'[j] = .int .i64 z ∧ (Lit.int .i64 z).wf = true := by
        by_cases hj0 : j = 0
        · subst hj0
          have h3 := hf 0 f0 h0
          rw [o0, c0, List.getElem?_eq_getElem (by omega)] at h3
          exact one_int u0 hj2 h3
        · have h3 := hf 1 f1 h1
          rw [o1, c1, List.getElem?_eq_getElem (by omega)] at h3
          have hlen4 : ((cs'.drop 1).take 4).length = 4 := by rw [List.length_take, List.length_drop, hl2, hc]; rfl
          obtain ⟨z, e1, e2⟩ := ints_of u1 hgs hlen4 h3 (j - 1) (by omega)
          refine ⟨z, ?_, e2⟩
          rw [List.getElem_take, List.getElem_drop] at e1
          rw [← e1]
          congr 1; omega
      obtain ⟨z, e1, e2⟩ := hz
      refine ⟨z, ?_, e2⟩
      rw [h4, List.getElem?_eq_getElem hj2, e1]
    refine ⟨fun i j => if h : i < len ∧ j < 5 then Classical.choose (key i h.1 j h.2) else 0, .inr ⟨a, rfl, hl, hm, fun i hi j hj => ?_⟩⟩
    have hj5 : j < 5 := hj
    have := Classical.choose_spec (key i hi j hj5)
    rw [hk5 j hj]
    simpa [hi, hj5, ks5] using this
/-- an argument that is an edge -/
theorem open_edge {H : Type} {enc : TypeId × Value → H} {P : Program} {w : World} {base b0 : Nat} {spare : Nat → Bool} {held : Bool} {r : Reach} {t : TypeId} {gs : Array Field} {v : Value} {d : DataW H} {ps : List MemPlace}
    (hu : P.underlying t = some (.struct gs)) (hc : P.cellsOf t = 4) (hgs : gs.toList.map (fun f => (f.offset, P.cellsOf f.type, P.underlying f.type)) = (List.range 4).map fun j => (j, 1, some (.int .i64))) (hv : Value.okWide P w r b0 t v) (h : DataW.Trod enc P w base spare held t v d ps) :
    ∃ x0 x1 x2 x3 : Int, v = .agg #[.int .i64 x0, .int .i64 x1, .int .i64 x2, .int .i64 x3] ∧ (Lit.int .i64 x0).wf = true ∧ (Lit.int .i64 x1).wf = true ∧ (Lit.int .i64 x2).wf = true ∧ (Lit.int .i64 x3).wf = true := by
  simp only [Value.okWide, hu] at hv
  obtain ⟨cs, h1, h2, _⟩ := hv
  subst h1
  obtain ⟨fuel, hf⟩ := h
  have hl : (Value.agg cs).cells.toList.length = 4 := by
    obtain ⟨xs, m, _, _, hl2, _⟩ := DataW.trod_struct hu hf
    rw [hl2, hc]
  have hl' : cs.toList.length = 4 := hl
  have key := ints_of hu hgs hl hf
  obtain ⟨l⟩ := cs
  match l, hl' with
  | [a, b, c, e], _ =>
    obtain ⟨x0, e0, f0⟩ := key 0 (by omega)
    obtain ⟨x1, e1, f1⟩ := key 1 (by omega)
    obtain ⟨x2, e2, f2⟩ := key 2 (by omega)
    obtain ⟨x3, e3, f3⟩ := key 3 (by omega)
    have e0 : a = _ := e0
    have e1 : b = _ := e1
    have e2 : c = _ := e2
    have e3 : e = _ := e3
    subst e0; subst e1; subst e2; subst e3
    exact ⟨x0, x1, x2, x3, rfl, f0, f1, f2, f3⟩
end Go.Dn
