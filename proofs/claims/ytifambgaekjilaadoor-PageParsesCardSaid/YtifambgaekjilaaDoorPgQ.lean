/- A script of page calls among the arguments, opened. Conditions: none. -/
import Derived.Test.YtifambgaekjilaaDoorOpG
import Derived.Test.YtifambgaekjilaaDoorPgL
import Derived.WalkKit
import Derived.ProofKit
import Derived.OpenShut
namespace Go.Proofs.YtifambgaekjilaaDoor.Rd
open Go.Dn Go.RowKit Go.ChangeShapes Go.WideShapes Go.ChangeAt
set_option linter.unusedVariables false
set_option linter.unusedSimpArgs false
set_option maxRecDepth 100000
section
variable {H : Type} {enc : TypeId × Value → H} {w : World} {base : Nat} {held : Bool} {fuel : Nat}
theorem open_u8 {A : Option Addr} {len cap : Nat} {x : DataW H × List MemPlace} (h : DataW.trod enc Tryd.prog w base (fun _ => true) held fuel 22 [.slice A len cap] = some x) :
    ∃ l : List UInt8, l.length = len ∧ Go.Dn.RB w A l ∧ (A = none → cap = 0) ∧ l.length ≤ cap ∧ ((∀ v ∈ x.1.weights Tryd.prog 22, v ≤ reachBytes) → l.length * 1 ≤ 140737488351232) := by
  obtain ⟨l0, h1, _, _, _, _, h6⟩ := open_num (κ := .u8) (by_ := 1) (r := 5) (by kernel_rfl) (by kernel_rfl) (by kernel_rfl) (by kernel_rfl) h
  have hI : ∃ zs, IsRow .u8 w A len cap zs := by
    rcases open_ints (P := Tryd.prog) (t := 22) (e := 5) (by kernel_rfl) (by kernel_rfl) (by kernel_rfl) h with ⟨hcs, _⟩ | ⟨x, l, c, zs, hcs, _, hl, hm, hz, _, hcell, hwz⟩
    · simp [Value.cells] at hcs
      obtain ⟨rfl, rfl, rfl⟩ := hcs
      exact ⟨[], .inl ⟨rfl, rfl, rfl, rfl⟩⟩
    · simp [Value.cells] at hcs
      obtain ⟨rfl, rfl, rfl⟩ := hcs
      exact ⟨zs, .inr ⟨_, rfl, hl, hm, by simpa using hz, hcell, hwz⟩⟩
  obtain ⟨zs, hI⟩ := hI
  obtain ⟨l, r1, r2, r3, r4⟩ := rb_of_row hI
  exact ⟨l, r2.symm, r1, r3, r4, fun hw => by have := h6 hw; omega⟩
end
/-! ### scripts -/
theorem und_wop : ∃ f0 f1 f2, Tryd.prog.underlying TWo = some (.struct ⟨[f0, f1, f2]⟩) ∧ (f0.offset = 0 ∧ f1.offset = 1 ∧ f2.offset = 2) ∧ f0.type = 3 ∧ f1.type = 3 ∧ f2.type = 22 := by
  have h : (match Tryd.prog.underlying TWo with | some (.struct ⟨[f0, f1, f2]⟩) => (Nat.beq f0.offset 0 && Nat.beq f1.offset 1 && Nat.beq f2.offset 2) && (Nat.beq f0.type 3 && Nat.beq f1.type 3 && Nat.beq f2.type 22) | _ => false) = true := by kernel_rfl
  split at h
  · rename_i f0 f1 f2 hu
    simp only [Bool.and_eq_true] at h
    obtain ⟨⟨⟨a0, a1⟩, a2⟩, ⟨⟨b0, b1⟩, b2⟩⟩ := h
    exact ⟨f0, f1, f2, hu, ⟨Nat.eq_of_beq_eq_true a0, Nat.eq_of_beq_eq_true a1, Nat.eq_of_beq_eq_true a2⟩, Nat.eq_of_beq_eq_true b0, Nat.eq_of_beq_eq_true b1, Nat.eq_of_beq_eq_true b2⟩
  · cases h
theorem Kint : Tryd.prog.underlying 3 = some (.int .i64) := by kernel_rfl
theorem wf_i64 {n : Int} (h : (Lit.int .i64 n).wf = true) : -9223372036854775808 ≤ n ∧ n ≤ 9223372036854775807 := by
  have e : (Lit.int .i64 n).wf = (decide (IntKind.i64.min ≤ n) && decide (n ≤ IntKind.i64.max)) := rfl
  rw [e, Bool.and_eq_true, decide_eq_true_eq, decide_eq_true_eq] at h
  exact h
section
variable {H : Type} {enc : TypeId × Value → H} {w : World} {base : Nat} {held : Bool} {fuel : Nat}
theorem open_wops {A : Option Addr} {len cap : Nat} {x : DataW H × List MemPlace} (h : DataW.trod enc Tryd.prog w base (fun _ => true) held fuel 40 [.slice A len cap] = some x) (hcap : ∀ v ∈ x.1.weights Tryd.prog 40, v ≤ reachBytes) :
    ∃ ops : List WOp, ops.length = len ∧ RWo w A ops ∧ (A = none → cap = 0) ∧ ((x.1 = .nil ∧ ops = []) ∨ ∃ el rs, x.1 = .slice el rs ∧ el.length = ops.length) := by
  obtain ⟨f0, f1, f2, hu, ⟨o0, o1, o2⟩, t0, t1, t2⟩ := und_wop
  have hT : Tryd.prog.underlying 40 = some (.slice TWo) := by kernel_rfl
  obtain ⟨l, h1, h2, h3, h4, h5, h6, h7⟩ := open_gen (enc' := wopE) (k := 3) (by_ := 40) (r := TWo) Ewop hT (by kernel_rfl) (by kernel_rfl)
    (Q := fun o d => (∀ v ∈ d.weights Tryd.prog TWo, v ≤ reachBytes) → OkW w o) (fun n cs y hl hy => by
    obtain ⟨xs, m, _, hya, hl2, hxl, hf⟩ := DataW.trod_struct hu hy
    obtain ⟨q0, q1, q2, rfl⟩ : ∃ u v z, cs = [u, v, z] := by match cs, hl with | [u, v, z], _ => exact ⟨_, _, _, rfl⟩
    have hx5 : xs.length = 3 := hxl
    obtain ⟨y0, y1, y2, rfl⟩ : ∃ u v z, xs = [u, v, z] := by match xs, hx5 with | [u, v, z], _ => exact ⟨_, _, _, rfl⟩
    have c1 : Tryd.prog.cellsOf 3 = 1 := by kernel_rfl
    have c2 : Tryd.prog.cellsOf 22 = 1 := by kernel_rfl
    have a0 := hf 0 f0 rfl
    have a1 := hf 1 f1 rfl
    have a2 := hf 2 f2 rfl
    rw [o0, t0, c1, List.getElem?_eq_getElem (by simp)] at a0
    rw [o1, t1, c1, List.getElem?_eq_getElem (by simp)] at a1
    rw [o2, t2, c2, List.getElem?_eq_getElem (by simp)] at a2
    obtain ⟨z0, e0, _, _⟩ := DataW.trod_int Kint (one_of' (by simp) a0)
    obtain ⟨z1, e1, _, wf1⟩ := DataW.trod_int Kint (one_of' (by simp) a1)
    have a2 := one_of' (j := 2) (by simp) a2
    have sl : ∀ {t r : TypeId} {q : Value} {n : Nat} {y : DataW H × List MemPlace}, Tryd.prog.underlying t = some (.slice r) → DataW.trod enc Tryd.prog w base (fun _ => true) held n t [q] = some y → ∃ A l c, q = .slice A l c := fun ht h => by
      rcases DataW.trod_slice ht h with ⟨q, _⟩ | ⟨a', l', c', _, _, _, _, q, _⟩
      · injection q with q; exact ⟨_, _, _, q⟩
      · injection q with q; exact ⟨_, _, _, q⟩
    obtain ⟨A2, len2, cap2, e2⟩ := sl (r := 5) (by kernel_rfl) a2
    injection e0 with e0
    injection e1 with e1
    have e0 : q0 = _ := e0
    have e1 : q1 = _ := e1
    have e2 : q2 = _ := e2
    subst e0; subst e1; subst e2
    obtain ⟨l2, p1, p2, p3, p4, p5⟩ := open_u8 a2
    subst p1
    refine ⟨⟨z0, z1, A2, cap2, l2⟩, rfl, fun hw => ?_⟩
    rw [hya] at hw
    simp only [DataW.weights, hu, List.map_cons, List.map_nil, DataW.weightsEach, t0, t1, t2] at hw
    have w2 := p5 fun v hv => hw v (by simp only [List.mem_append]; exact .inr (.inr (.inl hv)))
    exact ⟨p2, by show l2.length ≤ _; omega, wf_i64 wf1⟩) h
  refine ⟨l, h1, ⟨h2, fun o ho => ?_, h7 hcap⟩, fun e => (h3 e).1, h6.imp id fun ⟨el, rs, q1, q2, _⟩ => ⟨el, rs, q1, q2⟩⟩
  obtain ⟨i, hi, rfl⟩ := List.getElem_of_mem ho
  rcases h6 with ⟨_, h6⟩ | ⟨el, rs, hx, hel, h6⟩
  · subst h6; cases hi
  · obtain ⟨d, hd, hq⟩ := h6 i hi
    refine hq fun v hv => hcap v ?_
    rw [hx]
    simp only [DataW.weights, hT]
    exact List.mem_cons_of_mem _ (List.mem_append_left _ (wt_in (List.mem_of_getElem? hd) hv))
end
end Go.Proofs.YtifambgaekjilaaDoor.Rd
