/- What a row tells of a slice of records of four 64-bit numbers and a bool. Conditions: none. -/
import Derived.Test.YtkkobfajahmfaaaBase
import Derived.ChangeArms
import Derived.DataReads
namespace Go.Dn
open Go.RowKit
set_option linter.unusedVariables false
theorem wf_i64 {n : Int} (h : (Lit.int .i64 n).wf = true) : -9223372036854775808 ≤ n ∧ n ≤ 9223372036854775807 := by
  simp [Lit.wf, IntKind.min, IntKind.max, IntKind.signed, IntKind.bits] at h
  omega
/-- a slice of records: f i j is the j-th number of record i, g i its bool -/
def IsRecB (m : Nat) (w : World) (A : Option Addr) (len cap : Nat) (f : Nat → Nat → Int) (g : Nat → Bool) : Prop :=
  (A = none ∧ len = 0 ∧ cap = 0) ∨
  ∃ a, A = some a ∧ len ≤ cap ∧ cap ≤ maxLen ∧ ∀ i, i < len → (∀ j, j < m → w.cell? (a.add (i * (m + 1) + j)) = some (.int .i64 (f i j)) ∧ (Lit.int .i64 (f i j)).wf = true) ∧ w.cell? (a.add (i * (m + 1) + m)) = some (.bool (g i))
theorem open_recb {H : Type} {enc : TypeId × Value → H} {P : Program} {w : World} {base : Nat} {spare : Nat → Bool} {held : Bool} {fuel : Nat} {t e : TypeId} {fs : Array Field} {m : Nat} {A : Option Addr} {len cap : Nat} {x : DataW H × List MemPlace}
    (ht : P.underlying t = some (.slice e)) (he : P.underlying e = some (.struct fs)) (hc : P.cellsOf e = m + 1) (hfs : fs.toList.map (fun f => (f.offset, P.cellsOf f.type, P.underlying f.type)) = (List.range m).map (fun j => (j, 1, some (TypeDesc.int .i64))) ++ [(m, 1, some TypeDesc.bool)])
    (h : DataW.trod enc P w base spare held fuel t [.slice A len cap] = some x) : ∃ f g, IsRecB m w A len cap f g := by
  rcases DataW.trod_slice ht h with ⟨h0, _⟩ | ⟨a, len', cap', elems, rest, n, _, h1, rfl, hb, hl, hm, hlen, hel, hsp, hns⟩
  · injection h0 with h0; injection h0 with h0 h1 h2; subst h0; subst h1; subst h2
    exact ⟨fun _ _ => 0, fun _ => false, .inl ⟨rfl, rfl, rfl⟩⟩
  · injection h1 with h1; injection h1 with h0 h1 h2; subst h0; subst h1; subst h2
    have hsz : fs.size = m + 1 := by
      have := congrArg List.length hfs
      simpa using this
    have key : ∀ i, i < len → (∀ j, j < m → ∃ z, w.cell? (a.add (i * (m + 1) + j)) = some (.int .i64 z) ∧ (Lit.int .i64 z).wf = true) ∧ ∃ b, w.cell? (a.add (i * (m + 1) + m)) = some (.bool b) := by
      intro i hi
      have h2 := hel i hi
      rw [List.getElem?_eq_getElem (by omega), Option.bind_eq_some_iff] at h2
      obtain ⟨cs', hcs, hy⟩ := h2
      obtain ⟨xs, mm, _, _, hl2, hxl, hf⟩ := DataW.trod_struct he hy
      obtain ⟨hb', hl3, hcell⟩ := World.cells?_some hcs
      have cellj : ∀ j (hj : j < m + 1), w.cell? (a.add (i * (m + 1) + j)) = some (cs'[j]'(by omega)) := fun j hj => by
        have h4 := hcell j (by rw [hc]; exact hj)
        rw [add_add, hc] at h4
        rw [h4, List.getElem?_eq_getElem (by omega)]
      refine ⟨fun j hj => ?_, ?_⟩
      · have hfj : fs[j]? = some (fs[j]'(by omega)) := Array.getElem?_eq_getElem (by omega)
        have hrow := congrArg (fun l => l[j]?) hfs
        simp only [List.getElem?_map, Array.getElem?_toList, hfj, Option.map_some] at hrow
        rw [List.getElem?_append_left (by simpa using hj), List.getElem?_map, List.getElem?_range hj] at hrow
        injection hrow with hrow
        simp only [Prod.mk.injEq] at hrow
        obtain ⟨ho, hco, hu⟩ := hrow
        have h3 := hf j _ hfj
        rw [ho, hco, List.getElem?_eq_getElem (by omega)] at h3
        obtain ⟨z, e1, _, e2⟩ := DataW.trod_int hu h3
        refine ⟨z, ?_, e2⟩
        rw [List.drop_eq_getElem_cons (by omega), List.take_succ_cons, List.take_zero] at e1
        injection e1 with e1
        rw [cellj j (by omega), e1]
      · have hfj : fs[m]? = some (fs[m]'(by omega)) := Array.getElem?_eq_getElem (by omega)
        have hrow := congrArg (fun l => l[m]?) hfs
        simp only [List.getElem?_map, Array.getElem?_toList, hfj, Option.map_some] at hrow
        rw [List.getElem?_append_right (by simp)] at hrow
        simp only [List.length_map, List.length_range, Nat.sub_self, List.getElem?_cons_zero] at hrow
        injection hrow with hrow
        simp only [Prod.mk.injEq] at hrow
        obtain ⟨ho, hco, hu⟩ := hrow
        have h3 := hf m _ hfj
        rw [ho, hco, List.getElem?_eq_getElem (by omega)] at h3
        obtain ⟨z, e1, _⟩ := DataW.trod_bool hu h3
        refine ⟨z, ?_⟩
        rw [List.drop_eq_getElem_cons (by omega), List.take_succ_cons, List.take_zero] at e1
        injection e1 with e1
        rw [cellj m (by omega), e1]
    refine ⟨fun i j => if h : i < len ∧ j < m then Classical.choose ((key i h.1).1 j h.2) else 0, fun i => if h : i < len then Classical.choose (key i h).2 else false, .inr ⟨a, rfl, hl, hm, fun i hi => ⟨fun j hj => ?_, ?_⟩⟩⟩
    · have := Classical.choose_spec ((key i hi).1 j hj)
      simpa [hi, hj] using this
    · have := Classical.choose_spec (key i hi).2
      simpa [hi] using this
end Go.Dn
