/- The row and the card of the statement KeysVersions, out of its walk. Conditions: none. -/
import Derived.Test.YtakgoekfnhkgaaaDoorRows
import Derived.Test.YtakgoekfnhkgaaaDoorTie
import Derived.Test.YtakgoekfnhkgaaaDoorCards
import Derived.Test.YtakgoekfnhkgaaaDoorKeN
import Derived.WalkKit
import Derived.ProofKit
import Derived.OpenShut
import Derived.ChangeOld
import Derived.Below
import Derived.SizedLaws
import Derived.Lay
import Derived.LaidOnce
import Derived.SevenTiedAt
import Derived.Handed
import Derived.JoinedCond
import Derived.Deep.DeepHandedRow
import Derived.Lib.LaidTab
namespace Go.Proofs.YtakgoekfnhkgaaaDoor.keysVersions
open Go.ChangeShapes Go.WideShapes Go.ChangeAt Go.RowKit Go.Dn Go.Lib
set_option linter.unusedVariables false
theorem own : ownKnob Tryd.prog.godebug = none := by kernel_rfl
theorem laidOut : laidOutB Tryd.prog = true := by kernel_rfl
theorem bulk_pos {H : Type} (d : DataW H) : 1 ≤ Rows.uptoBulk d := by
  cases d with
  | lit l => cases l <;> simp [Rows.uptoBulk]
  | nil => simp [Rows.uptoBulk]
  | ptr d => simp [Rows.uptoBulk]
  | slice a b => simp [Rows.uptoBulk]
  | agg a => simp [Rows.uptoBulk]
  | iface a b => simp [Rows.uptoBulk]
  | map a => simp [Rows.uptoBulk]
  | held a => simp [Rows.uptoBulk]
theorem bulk_len {H : Type} : ∀ l : List (DataW H), l.length ≤ Rows.uptoBulkAll l
  | [] => Nat.zero_le _
  | d :: r => by
    have h1 := bulk_pos d
    have h2 := bulk_len r
    simp only [Rows.uptoBulkAll, List.length_cons]
    omega
theorem bulk_sl {H : Type} {α : Type} {d : DataW H} {l : List α} (h : (d = .nil ∧ l = []) ∨ ∃ el rs, d = .slice el rs ∧ el.length = l.length) : l.length ≤ Rows.uptoBulk d := by
  rcases h with ⟨rfl, rfl⟩ | ⟨el, rs, rfl, h⟩
  · exact Nat.zero_le _
  · have := bulk_len el
    simp only [Rows.uptoBulk]
    omega
theorem laid_met (os : Os) : laidMet Tryd.prog Rows.keysVersionsUptoRow.laid ((World.laidAll Tryd.prog os Rows.keysVersionsUptoRow.laid).forCall (fun _ _ => 0) ⟨#[], #[.slice none 0 0, .int .i64 0, .slice none 0 0], []⟩).memory := laidMet_laidAll _ (by kernel_rfl) (by kernel_rfl)
theorem reads (os : Os) {H : Type} (enc : TypeId × Value → H) : ∃ places, DataW.whole enc Tryd.prog ((World.laidAll Tryd.prog os Rows.keysVersionsUptoRow.laid).forCall (fun _ _ => 0) ⟨#[], #[.slice none 0 0, .int .i64 0, .slice none 0 0], []⟩).memory Tryd.f4.params.toList Rows.keysVersionsSpec.vars false (#[.slice none 0 0, .int .i64 0, .slice none 0 0] : Array Value).toList 8 = some ([.nil, .lit (.int .i64 0), .nil], [], places) := ⟨[], by kernel_rfl⟩
set_option maxRecDepth 100000 in
theorem lifted (os : Os) (started : os.Started) (H : Type) (enc : TypeId × Value → H) (F : Stop.Interp) :
    ReturnsInHanded {} Tryd.checked os 4 .any ((Rows.OpenSpec.upto Rows.keysVersionsSpec).preRow enc Tryd.prog Tryd.f4 Rows.keysVersionsUptoRow.domain false Rows.keysVersionsUptoRow.laid) (((Rows.OpenSpec.upto Rows.keysVersionsSpec).at F).post enc Tryd.prog Tryd.f4 false true false false) := by
  obtain ⟨places, hx⟩ := reads os enc
  refine returnsInHanded_of_row (C := Tryd.checked) (s := Rows.OpenSpec.upto Rows.keysVersionsSpec) own started (by kernel_rfl) Tryd.func4
    (witness_row_at (enc := enc) (C := Tryd.checked) false (World.laidAll Tryd.prog os Rows.keysVersionsUptoRow.laid) #[.slice none 0 0, .int .i64 0, .slice none 0 0] (World.laidAll_os _ _ _) (by kernel_rfl) (by kernel_rfl) (by kernel_rfl)
      (OpenSpec.preRow_of_cond 8 hx (by kernel_rfl) (fun k hk => by cases hk; kernel_rfl) (by kernel_rfl) (laid_met os))) ?_
  intro W base args ds gs before hval0 hW hcnd hsm hsz0 hL hShaped _
  have hsz : (DataW.weightsEach Tryd.prog (Tryd.f4.params.toList ++ Rows.keysVersionsSpec.plain.varTypes Tryd.prog) (ds ++ gs)).all (· ≤ reachBytes) = true := hsz0
  have hval : ∀ (j : Nat) t v, Tryd.f4.params[j]? = some t → args[j]? = some v → Value.okWide Tryd.prog W .any base t v := hval0
  have hW' := hW
  obtain ⟨p, q, hA0, hV, rfl, hfz, hnd⟩ := hW
  have hA : DataW.TrodAll enc Tryd.prog W 0 (fun _ => true) true Tryd.f4.params.toList args.toList ds p := hA0
  rw [Tryd.params4] at hA hval hsz
  obtain ⟨v0, vs0, d0, ds0, p0, q0, hargs, rfl, rfl, h0, r0⟩ := trodAll_cons hA
  obtain ⟨v1, vs1, d1, ds1, p1, q1, rfl, rfl, rfl, h1, r1⟩ := trodAll_cons r0
  obtain ⟨v2, vs2, d2, ds2, p2, q2, rfl, rfl, rfl, h2, r2⟩ := trodAll_cons r1
  obtain ⟨rfl, rfl, rfl⟩ := trodAll_nil r2
  obtain rfl : args = #[v0, v1, v2] := by cases args; simp_all
  obtain ⟨rfl, rfl⟩ := trodVars_none hV
  obtain ⟨a0, len0, cap0, rfl⟩ := okWide_slice Tryd.underlying24 (hval 0 24 v0 rfl rfl)
  have k0 := h0
  have lt0 : ∀ x ∈ p0, x.block < W.heap.size := by obtain ⟨m, hm⟩ := k0; exact DataW.trod_lt m _ _ _ hm
  have wt0 : ∀ v ∈ d0.weights Tryd.prog 24, v ≤ reachBytes := fun v hv => by simpa using List.all_eq_true.1 hsz _ (DataW.weights_mem_each (j := 0) (t := 24) rfl rfl v hv)
  obtain ⟨l0, e0, w0, x0, z0, b0, y0⟩ : ∃ l : List UInt8, l.length = len0 ∧ Go.Dn.RB W a0 l ∧ (a0 = none → cap0 = 0) ∧ l.length ≤ cap0 ∧ ((d0 = .nil ∧ l = []) ∨ ∃ el rs, d0 = .slice el rs ∧ el.length = l.length) ∧ l.length ≤ 140737488355000 := by
    obtain ⟨fuel, hf⟩ := h0
    obtain ⟨l, q1, q2, q3, q4, q5, q6⟩ := Go.Proofs.YtakgoekfnhkgaaaDoor.Rd.open_u8b hf
    exact ⟨l, q1, q2, q3, q4, q5, by have := q6 wt0; omega⟩
  subst e0
  obtain ⟨a1, rfl, rfl, rfl, w1⟩ := open_int Tryd.underlying2 (hval 1 2 v1 rfl rfl) h1
  obtain ⟨a2, len2, cap2, rfl⟩ := okWide_slice Tryd.underlying24 (hval 2 24 v2 rfl rfl)
  have k2 := h2
  have lt2 : ∀ x ∈ p2, x.block < W.heap.size := by obtain ⟨m, hm⟩ := k2; exact DataW.trod_lt m _ _ _ hm
  have wt2 : ∀ v ∈ d2.weights Tryd.prog 24, v ≤ reachBytes := fun v hv => by simpa using List.all_eq_true.1 hsz _ (DataW.weights_mem_each (j := 2) (t := 24) rfl rfl v hv)
  obtain ⟨l2, e2, w2, x2, z2, b2, y2⟩ : ∃ l : List UInt8, l.length = len2 ∧ Go.Dn.RB W a2 l ∧ (a2 = none → cap2 = 0) ∧ l.length ≤ cap2 ∧ ((d2 = .nil ∧ l = []) ∨ ∃ el rs, d2 = .slice el rs ∧ el.length = l.length) ∧ l.length ≤ 140737488355000 := by
    obtain ⟨fuel, hf⟩ := h2
    obtain ⟨l, q1, q2, q3, q4, q5, q6⟩ := Go.Proofs.YtakgoekfnhkgaaaDoor.Rd.open_u8b hf
    exact ⟨l, q1, q2, q3, q4, q5, by have := q6 wt2; omega⟩
  subst e2
  have hks : Rows.uptoBulkAll ([d0, _, d2] ++ []) ≤ 1048576 := of_decide_eq_true (hsm _ rfl)
  simp only [List.cons_append, List.nil_append, Rows.uptoBulkAll] at hks
  clear hA0 hval0 hsz0 hsz
  refine (Go.Proofs.YtakgoekfnhkgaaaDoor.Rd.KeysVersionsUpto_row hShaped w0 x0 z0 (by have := bulk_sl b0; omega) w1 w2 x2 z2 (by have := bulk_sl b2; omega)).mono fun e W' ⟨he, bel⟩ => ?_
  subst he
  exact ⟨_, rfl, _, _, _, [], _, [], hW', trodAll_mk1 (shut_bool Tryd.underlying4 _), (trodAll_cons_mk (Below.trod laidOut (by kernel_rfl) (of_decide_eq_true (by kernel_rfl)) k0 bel lt0) (trodAll_cons_mk (shut_int Tryd.underlying2 w1) (trodAll_cons_mk (Below.trod laidOut (by kernel_rfl) (of_decide_eq_true (by kernel_rfl)) k2 bel lt2) trodAll_mk0))), rfl, bel.frame _, fun h => by cases h⟩
theorem over : Rows.keysVersionsUptoRow.holds Tryd.pinned (Rows.OpenSpec.upto Rows.keysVersionsSpec) :=
  OpenClaim.holds_of_cond 4 Tryd.f4 rfl rfl rfl rfl rfl rfl rfl ⟨rfl, rfl, rfl, rfl, rfl⟩ rfl rfl rfl rfl rfl (by kernel_rfl) Tryd.func4 (by kernel_rfl)
    (of_decide_eq_true (by kernel_rfl)) (by unfold Func.isWrapper; first | (rw [if_pos (by decide +kernel)]; kernel_rfl) | (rw [if_neg (by decide +kernel)]; exact ⟨rfl, rfl⟩))
    (fun os started H enc _ F => by rw [OpenClaim.pre_eq_preRow]; exact lifted os started H enc F)
theorem proved : Rows.KeysVersionsUptoCardSaid :=
  Claim7.holds_tied_plain_at .later [] _ _ _ _ over (fun _ h => by cases h) (by kernel_rfl) (fun _ h => by cases h) Go.Proofs.YtakgoekfnhkgaaaDoor.keysVersionsUpto_row_tie rfl ⟨rfl, rfl⟩ (by kernel_rfl) rfl
    (fun f fn hf hfn => by
      obtain rfl : f = 4 := Option.some.inj ((show Tryd.prog.funcNamed "skein/skeinlaw04.KeysVersions" = some 4 by kernel_rfl).symm.trans hf) |>.symm
      obtain rfl : fn = Tryd.f4 := (Option.some.inj (Tryd.func4.symm.trans hfn)).symm
      exact ⟨by kernel_rfl, fun j t ht => by
        rw [Tryd.params4] at ht
        have hm : t ∈ [24, 2, 24] := by simpa using Array.mem_of_getElem? ht
        have hall : ([24, 2, 24].all fun u => !Tryd.prog.wantsStandIn u) = true := by kernel_rfl
        exact (show Tryd.prog.wantsStandIn t = false by simpa using List.all_eq_true.1 hall t hm)⟩)
    (by kernel_rfl)
#print axioms proved
end Go.Proofs.YtakgoekfnhkgaaaDoor.keysVersions
namespace Go.Proofs.YtakgoekfnhkgaaaDoor
/-- The card, under a short name, for the claim. -/
theorem keysVersionsUptoCard_holds : Rows.KeysVersionsUptoCardSaid := keysVersions.proved
end Go.Proofs.YtakgoekfnhkgaaaDoor

