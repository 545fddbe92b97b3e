/- What a row tells of a slice of records of whole numbers. Conditions: none. -/
import Derived.Test.YtfknppccgojhdaaBase
import Derived.ChangeArms
import Derived.DataReads
namespace Go.Dn
open Go.RowKit
set_option linter.unusedVariables false
/-- a slice of records: f i j is the j-th number of record i -/
def IsRecs (ks : List IntKind) (w : World) (A : Option Addr) (len cap : Nat) (f : Nat → Nat → Int) : Prop :=
  (A = none ∧ len = 0 ∧ cap = 0) ∨
  ∃ a, A = some a ∧ len ≤ cap ∧ cap ≤ maxLen ∧ ∀ i, i < len → ∀ j (hj : j < ks.length), w.cell? (a.add (i * ks.length + j)) = some (.int ks[j] (f i j)) ∧ (Lit.int ks[j] (f i j)).wf = true
theorem open_recs {H : Type} {enc : TypeId × Value → H} {P : Program} {w : World} {base : Nat} {spare : Nat → Bool} {held : Bool} {fuel : Nat} {t e : TypeId} {fs : Array Field} {ks : List IntKind} {A : Option Addr} {len cap : Nat} {x : DataW H × List MemPlace}
    (ht : P.underlying t = some (.slice e)) (he : P.underlying e = some (.struct fs)) (hc : P.cellsOf e = ks.length) (hfs : fs.toList.map (fun f => (f.offset, P.cellsOf f.type, P.underlying f.type)) = (List.range ks.length).map fun j => (j, 1, (ks[j]?).map TypeDesc.int))
    (h : DataW.trod enc P w base spare held fuel t [.slice A len cap] = some x) : ∃ f, IsRecs ks w A len cap f := by
  rcases DataW.trod_slice ht h with ⟨h0, _⟩ | ⟨a, len', cap', elems, rest, n, _, h1, rfl, hb, hl, hm, hlen, hel, hsp, hns⟩
  · injection h0 with h0; injection h0 with h0 h1 h2; subst h0; subst h1; subst h2
    exact ⟨fun _ _ => 0, .inl ⟨rfl, rfl, rfl⟩⟩
  · injection h1 with h1; injection h1 with h0 h1 h2; subst h0; subst h1; subst h2
    have key : ∀ i, i < len → ∀ j (hj : j < ks.length), ∃ z, w.cell? (a.add (i * ks.length + j)) = some (.int ks[j] z) ∧ (Lit.int ks[j] z).wf = true := by
      intro i hi j hj
      have h2 := hel i hi
      rw [List.getElem?_eq_getElem (by omega), Option.bind_eq_some_iff] at h2
      obtain ⟨cs', hcs, hy⟩ := h2
      obtain ⟨xs, m, _, _, hl2, hxl, hf⟩ := DataW.trod_struct he hy
      have hsz : fs.size = ks.length := by
        have := congrArg List.length hfs
        simpa using this
      have hfj : fs[j]? = some (fs[j]'(by omega)) := Array.getElem?_eq_getElem (by omega)
      have hrow := congrArg (fun l => l[j]?) hfs
      simp only [List.getElem?_map, Array.getElem?_toList, hfj, Option.map_some, List.getElem?_range hj] at hrow
      injection hrow with hrow
      simp only [Prod.mk.injEq, List.getElem?_eq_getElem hj, Option.map_some] at hrow
      obtain ⟨ho, hco, hu⟩ := hrow
      have h3 := hf j _ hfj
      rw [ho, hco, List.getElem?_eq_getElem (by omega)] at h3
      obtain ⟨hb', hl3, hcell⟩ := World.cells?_some hcs
      obtain ⟨z, e1, _, e2⟩ := DataW.trod_int hu h3
      refine ⟨z, ?_, e2⟩
      have hj2 : j < cs'.length := by rw [hl2, hc]; exact hj
      have h4 := hcell j (by rw [hc]; exact hj)
      rw [add_add, hc] at h4
      rw [h4]
      rw [List.drop_eq_getElem_cons hj2, List.take_succ_cons, List.take_zero] at e1
      injection e1 with e1
      rw [List.getElem?_eq_getElem hj2, e1]
    refine ⟨fun i j => if h : i < len ∧ j < ks.length then Classical.choose (key i h.1 j h.2) else 0, .inr ⟨a, rfl, hl, hm, fun i hi j hj => ?_⟩⟩
    have := Classical.choose_spec (key i hi j hj)
    simpa [hi, hj] using this
theorem IsRecs.below {ks : List IntKind} {w w' : World} {A : Option Addr} {len cap : Nat} {f : Nat → Nat → Int} (h : IsRecs ks w A len cap f) (hb : Below w.heap.size w w') : IsRecs ks w' A len cap f := by
  rcases h with h | ⟨a, rfl, h1, h2, h3⟩
  · exact .inl h
  · refine .inr ⟨a, rfl, h1, h2, fun i hi j hj => ?_⟩
    obtain ⟨hc, hw⟩ := h3 i hi j hj
    exact ⟨by rw [hb.cell (World.block_lt_of_cell? w _ hc)]; exact hc, hw⟩
theorem wf_i64 {n : Int} (h : (Lit.int .i64 n).wf = true) : -9223372036854775808 ≤ n ∧ n ≤ 9223372036854775807 := by
  simp [Lit.wf, IntKind.min, IntKind.max, IntKind.signed, IntKind.bits] at h
  omega
end Go.Dn
