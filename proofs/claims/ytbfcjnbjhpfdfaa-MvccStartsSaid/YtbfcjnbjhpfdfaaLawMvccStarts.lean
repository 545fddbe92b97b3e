/- The row of the statement MvccStarts, out of its walk. Conditions: none. -/
import Derived.Test.YtbfcjnbjhpfdfaaRows
import Derived.Test.YtbfcjnbjhpfdfaaMvT
import Derived.WalkKit
import Derived.ProofKit
import Derived.OpenShut
import Derived.ShutString
import Derived.ChangeOld
import Derived.Below
import Derived.SizedLaws
import Derived.Test.YtbfcjnbjhpfdfaaWSized
namespace Go.Proofs.Ytbfcjnbjhpfdfaa.mvccStarts
open Go.ChangeShapes Go.WideShapes Go.ChangeAt Go.RowKit Go.Dn
open Go.ChangeMaps (open_string shut_string)
set_option linter.unusedVariables false
theorem own : ownKnob Try.prog.godebug = none := by kernel_rfl
theorem laidOut : laidOutB Try.prog = true := by kernel_rfl
set_option maxRecDepth 100000 in
theorem lifted (os : Os) (started : os.Started) (H : Type) (enc : TypeId × Value → H) :
    ReturnsInHanded {} Try.checked os 6 .any (Rows.mvccStartsSpec.pre6 enc Try.prog Try.f6 Rows.mvccStartsRow.domain false) (Rows.mvccStartsSpec.post enc Try.prog Try.f6 false true false false) := by
  refine returnsInHanded_of_change_sized (C := Try.checked) own started (by kernel_rfl) Try.func6
    (ChangeSpec.witness6 (enc := enc) (C := Try.checked) false ⟨#[], #[.int .i64 0, .slice none 0 0], []⟩ 8 (by kernel_rfl) (by kernel_rfl) (by kernel_rfl) (by kernel_rfl)) ?_
  intro W base args ds gs before hval0 hW hcnd hsz0 _
  have hsz : (DataW.weightsEach Try.prog (Try.f6.params.toList ++ Rows.mvccStartsSpec.plain.varTypes Try.prog) (ds ++ gs)).all (· ≤ reachBytes) = true := hsz0
  have hval : ∀ (j : Nat) t v, Try.f6.params[j]? = some t → args[j]? = some v → Value.okWide Try.prog W .any base t v := hval0
  have hW' := hW
  obtain ⟨p, q, hA0, hV, rfl, hfz, hnd⟩ := hW
  have hA : DataW.TrodAll enc Try.prog W 0 (fun _ => true) true Try.f6.params.toList args.toList ds p := hA0
  rw [Try.params6] at hA hval hsz
  obtain ⟨v0, vs0, d0, ds0, p0, q0, hargs, rfl, rfl, h0, r0⟩ := trodAll_cons hA
  obtain ⟨v1, vs1, d1, ds1, p1, q1, rfl, rfl, rfl, h1, r1⟩ := trodAll_cons r0
  obtain ⟨rfl, rfl, rfl⟩ := trodAll_nil r1
  obtain rfl : args = #[v0, v1] := by cases args; simp_all
  obtain ⟨rfl, rfl⟩ := trodVars_none hV
  obtain ⟨a0, rfl, rfl, rfl, w0⟩ := open_int Try.underlying2 (hval 0 2 v0 rfl rfl) h0
  obtain ⟨a1, len1, cap1, rfl⟩ := okWide_slice Try.underlying22 (hval 1 22 v1 rfl rfl)
  have k1 := h1
  have lt1 : ∀ x ∈ p1, x.block < W.heap.size := by obtain ⟨m, hm⟩ := k1; exact DataW.trod_lt m _ _ _ hm
  have wt1 : ∀ v ∈ d1.weights Try.prog 22, v ≤ reachBytes := fun v hv => by simpa using List.all_eq_true.1 hsz _ (DataW.weights_mem_each (j := 1) (t := 22) rfl rfl v hv)
  obtain ⟨l1, e1, w1, D1, y1⟩ : ∃ ops : List MOp, ops.length = len1 ∧ ROps W a1 ops ∧ DMop d1 ops ∧ ((∀ v ∈ d1.weights Try.prog 22, v ≤ reachBytes) → ops.length ≤ 17592186044416) := by
    obtain ⟨fuel, hf⟩ := h1
    exact open_mops (by kernel_rfl) hf (.inl wt1)
  subst e1
  clear hA0 hval0 hsz0 hsz
  refine (Go.Proofs.Ytbfcjnbjhpfdfaa.Rd.MvccStarts_row w0 w1 (y1 wt1)).mono fun e W' ⟨he, bel⟩ => ?_
  subst he
  exact ⟨_, rfl, _, _, _, [], _, [], hW', trodAll_mk1 (shut_bool Try.underlying4 _), (trodAll_cons_mk (shut_int Try.underlying2 w0) (trodAll_cons_mk (Below.trod laidOut (by kernel_rfl) (of_decide_eq_true (by kernel_rfl)) k1 bel lt1) trodAll_mk0)), rfl, bel.frame _, fun h => by cases h⟩
theorem over : Rows.mvccStartsRow.holds Try.pinned (OpenSpec.ofChange Rows.mvccStartsSpec) :=
  OpenClaim.holds_of_wide 6 Try.f6 rfl rfl rfl rfl rfl rfl rfl ⟨rfl, rfl, rfl, rfl, rfl⟩ rfl rfl rfl rfl rfl (by kernel_rfl) Try.func6 (by kernel_rfl)
    (of_decide_eq_true (by kernel_rfl)) (by unfold Func.isWrapper; first | (rw [if_pos (by decide +kernel)]; kernel_rfl) | (rw [if_neg (by decide +kernel)]; exact ⟨rfl, rfl⟩))
    (fun os started H enc _ => lifted os started H enc)
theorem proved : Rows.MvccStartsSaid := over
#print axioms proved
end Go.Proofs.Ytbfcjnbjhpfdfaa.mvccStarts
namespace Go.Proofs.Ytbfcjnbjhpfdfaa
/-- The row, under a short name, for the claim. -/
theorem mvccStarts_holds : Rows.MvccStartsSaid := mvccStarts.proved
end Go.Proofs.Ytbfcjnbjhpfdfaa

