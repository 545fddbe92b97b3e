/- The row and the card of the statement WalNoise, out of its walk. Conditions: none. -/
import Derived.Test.YtpokaafedpnbdaaDoorRows
import Derived.Test.YtpokaafedpnbdaaDoorTie
import Derived.Test.YtpokaafedpnbdaaDoorCards
import Derived.Test.YtpokaafedpnbdaaDoorWy5
import Derived.WalkKit
import Derived.ProofKit
import Derived.OpenShut
import Derived.ChangeOld
import Derived.Below
import Derived.SizedLaws
import Derived.Lay
import Derived.LaidOnce
import Derived.SevenTiedAt
import Derived.Handed
namespace Go.Proofs.YtpokaafedpnbdaaDoor.walNoise
open Go.ChangeShapes Go.WideShapes Go.ChangeAt Go.RowKit Go.Dn Go.Lib
set_option linter.unusedVariables false
theorem own : ownKnob Tryd.prog.godebug = none := by kernel_rfl
theorem laidOut : laidOutB Tryd.prog = true := by kernel_rfl
set_option maxRecDepth 100000 in
theorem lifted (os : Os) (started : os.Started) (H : Type) (enc : TypeId × Value → H) :
    ReturnsInHanded {} Tryd.checked os 5 .any (fun w args => (Rows.walNoiseSpec.pre enc Tryd.prog Tryd.f5 Rows.walNoiseRow.domain false w args ∧ laidMetH Tryd.prog Rows.walNoiseRow.laid w) ∧ sizedMet enc Tryd.prog Tryd.f5 (OpenSpec.ofChange Rows.walNoiseSpec) false w args) (Rows.walNoiseSpec.post enc Tryd.prog Tryd.f5 false true false false) := by
  refine returnsInHanded_of_change_and (C := Tryd.checked) (X := fun w _ => laidMetH Tryd.prog Rows.walNoiseRow.laid w) (fun _ _ _ hh h => h.of_heap hh) own started (by kernel_rfl) Tryd.func5
    (ChangeSpec.witness_shaped (enc := enc) (C := Tryd.checked) (os := os) (X := fun w _ => laidMetH Tryd.prog Rows.walNoiseRow.laid w) false (World.laidAll Tryd.prog os Rows.walNoiseRow.laid) #[.slice none 0 0, .slice none 0 0, .int .i64 0] 8 (World.laidAll_os _ _ _)
      (World.shaped_of_ZipB (by kernel_rfl) (by kernel_rfl)) (by kernel_rfl) (by kernel_rfl) (by kernel_rfl)
      (by rw [MakeChecks.laidMetH_plain _ _ _ (by kernel_rfl)]; exact laidMet_laidAll _ (by kernel_rfl) (by kernel_rfl))) ?_
  intro W base args ds gs before hval0 hW hcnd hsz0 hL _
  have hsz : (DataW.weightsEach Tryd.prog (Tryd.f5.params.toList ++ Rows.walNoiseSpec.plain.varTypes Tryd.prog) (ds ++ gs)).all (· ≤ reachBytes) = true := hsz0
  have hval : ∀ (j : Nat) t v, Tryd.f5.params[j]? = some t → args[j]? = some v → Value.okWide Tryd.prog W .any base t v := hval0
  have hW' := hW
  obtain ⟨p, q, hA0, hV, rfl, hfz, hnd⟩ := hW
  have hA : DataW.TrodAll enc Tryd.prog W 0 (fun _ => true) true Tryd.f5.params.toList args.toList ds p := hA0
  rw [Tryd.params5] at hA hval hsz
  obtain ⟨v0, vs0, d0, ds0, p0, q0, hargs, rfl, rfl, h0, r0⟩ := trodAll_cons hA
  obtain ⟨v1, vs1, d1, ds1, p1, q1, rfl, rfl, rfl, h1, r1⟩ := trodAll_cons r0
  obtain ⟨v2, vs2, d2, ds2, p2, q2, rfl, rfl, rfl, h2, r2⟩ := trodAll_cons r1
  obtain ⟨rfl, rfl, rfl⟩ := trodAll_nil r2
  obtain rfl : args = #[v0, v1, v2] := by cases args; simp_all
  obtain ⟨rfl, rfl⟩ := trodVars_none hV
  obtain ⟨a0, len0, cap0, rfl⟩ := okWide_slice Tryd.underlying49 (hval 0 49 v0 rfl rfl)
  have k0 := h0
  have lt0 : ∀ x ∈ p0, x.block < W.heap.size := by obtain ⟨m, hm⟩ := k0; exact DataW.trod_lt m _ _ _ hm
  have wt0 : ∀ v ∈ d0.weights Tryd.prog 49, v ≤ reachBytes := fun v hv => by simpa using List.all_eq_true.1 hsz _ (DataW.weights_mem_each (j := 0) (t := 49) rfl rfl v hv)
  obtain ⟨l0, e0, w0, y0⟩ : ∃ L : List (List UInt8), L.length = len0 ∧ Go.Proofs.YtpokaafedpnbdaaDoor.Rd.RPr W a0 L ∧ L.length ≤ 17592186044416 := by
    obtain ⟨fuel, hf⟩ := h0
    exact Go.Proofs.YtpokaafedpnbdaaDoor.Rd.open_bss hf wt0
  subst e0
  obtain ⟨a1, len1, cap1, rfl⟩ := okWide_slice Tryd.underlying29 (hval 1 29 v1 rfl rfl)
  have k1 := h1
  have lt1 : ∀ x ∈ p1, x.block < W.heap.size := by obtain ⟨m, hm⟩ := k1; exact DataW.trod_lt m _ _ _ hm
  have wt1 : ∀ v ∈ d1.weights Tryd.prog 29, v ≤ reachBytes := fun v hv => by simpa using List.all_eq_true.1 hsz _ (DataW.weights_mem_each (j := 1) (t := 29) rfl rfl v hv)
  obtain ⟨l1, e1, w1, x1, z1, y1⟩ : ∃ l : List UInt8, l.length = len1 ∧ Go.Dn.RB W a1 l ∧ (a1 = none → cap1 = 0) ∧ l.length ≤ cap1 ∧ l.length ≤ 140737488355000 := by
    obtain ⟨fuel, hf⟩ := h1
    obtain ⟨l, q1, q2, q3, q4, q5⟩ := Go.Proofs.YtpokaafedpnbdaaDoor.Rd.open_u8 hf
    exact ⟨l, q1, q2, q3, q4, by have := q5 wt1; omega⟩
  subst e1
  obtain ⟨a2, rfl, rfl, rfl, w2⟩ := open_int Tryd.underlying3 (hval 2 3 v2 rfl rfl) h2
  clear hA0 hval0 hsz0 hsz
  refine (Go.Proofs.YtpokaafedpnbdaaDoor.Rd.WalNoise_row w0 y0 w1 x1 z1 y1 w2).mono fun e W' ⟨he, bel⟩ => ?_
  subst he
  exact ⟨_, rfl, _, _, _, [], _, [], hW', trodAll_mk1 (shut_bool Tryd.underlying4 _), (trodAll_cons_mk (Below.trod laidOut (by kernel_rfl) (of_decide_eq_true (by kernel_rfl)) k0 bel lt0) (trodAll_cons_mk (Below.trod laidOut (by kernel_rfl) (of_decide_eq_true (by kernel_rfl)) k1 bel lt1) (trodAll_cons_mk (shut_int Tryd.underlying3 w2) trodAll_mk0))), rfl, bel.frame _, fun h => by cases h⟩
theorem over : Rows.walNoiseRow.holds Tryd.pinned (OpenSpec.ofChange Rows.walNoiseSpec) :=
  OpenClaim.holds_of_wide 5 Tryd.f5 rfl rfl rfl rfl rfl rfl rfl ⟨rfl, rfl, rfl, rfl, rfl⟩ rfl rfl rfl rfl rfl (by kernel_rfl) Tryd.func5 (by kernel_rfl)
    (of_decide_eq_true (by kernel_rfl)) (by unfold Func.isWrapper; first | (rw [if_pos (by decide +kernel)]; kernel_rfl) | (rw [if_neg (by decide +kernel)]; exact ⟨rfl, rfl⟩))
    (fun os started H enc _ => lifted os started H enc)
theorem proved : Rows.WalNoiseCardSaid :=
  Claim7.holds_tied_plain_at .later [] _ _ _ _ over (fun _ h => by cases h) (by kernel_rfl) (fun _ h => by cases h) Go.Proofs.YtpokaafedpnbdaaDoor.walNoise_row_tie rfl ⟨rfl, rfl⟩ (by kernel_rfl) rfl
    (fun f fn hf hfn => by
      obtain rfl : f = 5 := Option.some.inj ((show Tryd.prog.funcNamed "skein/skeinlaw09.WalNoise" = some 5 by kernel_rfl).symm.trans hf) |>.symm
      obtain rfl : fn = Tryd.f5 := (Option.some.inj (Tryd.func5.symm.trans hfn)).symm
      exact ⟨by kernel_rfl, fun j t ht => by
        rw [Tryd.params5] at ht
        have hm : t ∈ [49, 29, 3] := by simpa using Array.mem_of_getElem? ht
        have hall : ([49, 29, 3].all fun u => !Tryd.prog.wantsStandIn u) = true := by kernel_rfl
        exact (show Tryd.prog.wantsStandIn t = false by simpa using List.all_eq_true.1 hall t hm)⟩)
    (by kernel_rfl)
#print axioms proved
end Go.Proofs.YtpokaafedpnbdaaDoor.walNoise
namespace Go.Proofs.YtpokaafedpnbdaaDoor
/-- The card, under a short name, for the claim. -/
theorem walNoiseCard_holds : Rows.WalNoiseCardSaid := walNoise.proved
end Go.Proofs.YtpokaafedpnbdaaDoor

