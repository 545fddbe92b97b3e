/- The row of the statement MvccFirst, out of its walk. Conditions: none. -/
import Derived.Test.YtbfcjnbjhpfdfaaRows
import Derived.Test.YtbfcjnbjhpfdfaaMvZ
import Derived.WalkKit
import Derived.ProofKit
import Derived.OpenShut
import Derived.ShutString
import Derived.ChangeOld
import Derived.Below
import Derived.SizedLaws
import Derived.JoinedCond
import Derived.Test.YtbfcjnbjhpfdfaaWSized
namespace Go.Proofs.Ytbfcjnbjhpfdfaa.mvccFirst
open Go.ChangeShapes Go.WideShapes Go.ChangeAt Go.RowKit Go.Dn
open Go.ChangeMaps (open_string shut_string)
set_option linter.unusedVariables false
theorem own : ownKnob Try.prog.godebug = none := by kernel_rfl
theorem laidOut : laidOutB Try.prog = true := by kernel_rfl
theorem bulk_lits {H : Type} (k : IntKind) : ∀ zs : List Int, Rows.uptoBulkAll (H := H) (lits k zs) = zs.length
  | [] => rfl
  | z :: r => by
    have := bulk_lits (H := H) k r
    simp only [lits, List.map_cons, Rows.uptoBulkAll, Rows.uptoBulk, List.length_cons] at this ⊢
    omega
theorem bulk_pos {H : Type} (d : DataW H) : 1 ≤ Rows.uptoBulk d := by
  cases d with
  | lit l => cases l <;> simp [Rows.uptoBulk]
  | nil => simp [Rows.uptoBulk]
  | ptr d => simp [Rows.uptoBulk]
  | slice a b => simp [Rows.uptoBulk]
  | agg a => simp [Rows.uptoBulk]
  | iface a b => simp [Rows.uptoBulk]
  | map a => simp [Rows.uptoBulk]
  | held a => simp [Rows.uptoBulk]
theorem bulk_len {H : Type} : ∀ l : List (DataW H), l.length ≤ Rows.uptoBulkAll l
  | [] => Nat.zero_le _
  | d :: r => by
    have h1 := bulk_pos d
    have h2 := bulk_len r
    simp only [Rows.uptoBulkAll, List.length_cons]
    omega
theorem bulk_rf {H : Type} {d : DataW H} {n : Nat} (h : DRf d n) : n + 1 ≤ Rows.uptoBulk d := by
  rcases h with ⟨rfl, rfl⟩ | ⟨el, rs, rfl, rfl⟩
  · simp [Rows.uptoBulk]
  · have := bulk_len el
    simp only [Rows.uptoBulk]
    omega
theorem bulk_mo {H : Type} : ∀ (el : List (DataW H)) (ops : List MOp), el.length = ops.length → (∀ i (hi : i < ops.length), ∃ d0 d1 d2, el[i]? = some (.agg [d0, d1, d2]) ∧ DRf d2 ops[i].refs.length) → ops.length + sumR ops ≤ Rows.uptoBulkAll el
  | [], [], _, _ => by simp [sumR, Rows.uptoBulkAll]
  | [], _ :: _, h, _ => by simp at h
  | _ :: _, [], h, _ => by simp at h
  | e :: el, o :: ops, h, hi => by
    obtain ⟨d0, d1, d2, h1, h2⟩ := hi 0 (by simp)
    have ih := bulk_mo el ops (by simpa using h) fun i hi2 => by
      obtain ⟨q0, q1, q2, h3, h4⟩ := hi (i + 1) (by simpa using hi2)
      exact ⟨q0, q1, q2, by simpa using h3, by simpa using h4⟩
    have e1 : e = .agg [d0, d1, d2] := by simpa using h1
    subst e1
    have h5 := bulk_rf h2
    have h6 := bulk_pos d0
    simp only [List.getElem_cons_zero] at h5
    have e2 : sumR (o :: ops) = o.refs.length + sumR ops := by simp [sumR]
    rw [e2]
    simp only [Rows.uptoBulkAll, Rows.uptoBulk, List.length_cons]
    omega
theorem sum_mops {H : Type} {d : DataW H} {ops : List MOp} (h : DMop d ops) (hb : Rows.uptoBulk d ≤ 1048576) : ops.length + sumR ops ≤ 1048575 := by
  rcases h with ⟨rfl, rfl⟩ | ⟨el, rs, rfl, h1, h2⟩
  · simp [sumR]
  · have := bulk_mo el ops h1 h2
    simp only [Rows.uptoBulk] at hb
    omega
theorem small_mops {H : Type} {d : DataW H} {ops : List MOp} (h : DMop d ops) (hb : Rows.uptoBulk d ≤ 1048576) {o : MOp} (ho : o ∈ ops) : o.refs.length * 16 ≤ 140737488355328 := by
  have h1 := sum_mops h hb
  have h2 : o.refs.length ≤ sumR ops := by
    have gen : ∀ (l : List MOp), o ∈ l → o.refs.length ≤ sumR l := by
      intro l
      induction l with
      | nil => intro h; cases h
      | cons p l ih =>
        intro h
        have e2 : sumR (p :: l) = p.refs.length + sumR l := by simp [sumR]
        rw [e2]
        rcases List.mem_cons.1 h with rfl | h
        · omega
        · have := ih h; omega
    exact gen ops ho
  omega
theorem len_rfs {H : Type} {d : DataW H} {n : Nat} (h : DRf d n) (hb : Rows.uptoBulk d ≤ 1048576) : n ≤ 1048576 := by
  have := bulk_rf h
  omega
set_option maxRecDepth 100000 in
theorem lifted (os : Os) (started : os.Started) (H : Type) (enc : TypeId × Value → H) (F0 : Stop.Interp) :
    ReturnsInHanded {} Try.checked os 4 .any ((Rows.OpenSpec.upto Rows.mvccFirstSpec).pre6 enc Try.prog Try.f4 Rows.mvccFirstUptoRow.domain false) (((Rows.OpenSpec.upto Rows.mvccFirstSpec).at F0).post enc Try.prog Try.f4 false true false false) := by
  refine returnsInHanded_of_cond (C := Try.checked) (s := Rows.OpenSpec.upto Rows.mvccFirstSpec) (k := Rows.uptoSmall) rfl own started (by kernel_rfl) Try.func4
    (OpenSpec.witness (enc := enc) (C := Try.checked) (s := Rows.OpenSpec.upto Rows.mvccFirstSpec) (k := Rows.uptoSmall) rfl false ⟨#[], #[.int .i64 0, .slice none 0 0], []⟩ 8 (by kernel_rfl) (by kernel_rfl) (by kernel_rfl)
      (x := ([.lit (.int .i64 0), .nil], [], [])) (by kernel_rfl) (by kernel_rfl) (by kernel_rfl)) ?_
  intro W base args ds gs before hval0 hW hcnd hsz0 _
  have hval : ∀ (j : Nat) t v, Try.f4.params[j]? = some t → args[j]? = some v → Value.okWide Try.prog W .any base t v := hval0
  have hW' := hW
  obtain ⟨p, q, hA0, hV, rfl, hfz, hnd⟩ := hW
  have hA : DataW.TrodAll enc Try.prog W 0 (fun _ => true) true Try.f4.params.toList args.toList ds p := hA0
  rw [Try.params4] at hA hval
  obtain ⟨v0, vs0, d0, ds0, p0, q0, hargs, rfl, rfl, h0, r0⟩ := trodAll_cons hA
  obtain ⟨v1, vs1, d1, ds1, p1, q1, rfl, rfl, rfl, h1, r1⟩ := trodAll_cons r0
  obtain ⟨rfl, rfl, rfl⟩ := trodAll_nil r1
  obtain rfl : args = #[v0, v1] := by cases args; simp_all
  obtain ⟨rfl, rfl⟩ := trodVars_none hV
  have hks0 : Rows.uptoBulkAll ([d0, d1] ++ []) ≤ 1048576 := of_decide_eq_true hsz0
  simp only [List.cons_append, List.nil_append, Rows.uptoBulkAll] at hks0
  have bk1 : Rows.uptoBulk d1 ≤ 1048576 := by omega
  obtain ⟨a0, rfl, rfl, rfl, w0⟩ := open_int Try.underlying2 (hval 0 2 v0 rfl rfl) h0
  obtain ⟨a1, len1, cap1, rfl⟩ := okWide_slice Try.underlying22 (hval 1 22 v1 rfl rfl)
  have k1 := h1
  have lt1 : ∀ x ∈ p1, x.block < W.heap.size := by obtain ⟨m, hm⟩ := k1; exact DataW.trod_lt m _ _ _ hm
  obtain ⟨l1, e1, w1, D1, y1⟩ : ∃ ops : List MOp, ops.length = len1 ∧ ROps W a1 ops ∧ DMop d1 ops ∧ ((∀ v ∈ d1.weights Try.prog 22, v ≤ reachBytes) → ops.length ≤ 17592186044416) := by
    obtain ⟨fuel, hf⟩ := h1
    exact open_mops (by kernel_rfl) hf (.inr fun o hD x hx => small_mops hD bk1 hx)
  subst e1
  clear hA0 hval0 hsz0 hks0
  refine (Go.Proofs.Ytbfcjnbjhpfdfaa.Rd.MvccFirst_row w0 w1 (sum_mops D1 bk1)).mono fun e W' ⟨he, bel⟩ => ?_
  subst he
  exact ⟨_, rfl, _, _, _, [], _, [], hW', trodAll_mk1 (shut_bool Try.underlying4 _), (trodAll_cons_mk (shut_int Try.underlying2 w0) (trodAll_cons_mk (Below.trod laidOut (by kernel_rfl) (of_decide_eq_true (by kernel_rfl)) k1 bel lt1) trodAll_mk0)), rfl, bel.frame _, fun h => by cases h⟩
theorem over : Rows.mvccFirstUptoRow.holds Try.pinned (Rows.OpenSpec.upto Rows.mvccFirstSpec) :=
  OpenClaim.holds_of_cond 4 Try.f4 rfl rfl rfl rfl rfl rfl rfl ⟨rfl, rfl, rfl, rfl, rfl⟩ rfl rfl rfl rfl rfl (by kernel_rfl) Try.func4 (by kernel_rfl)
    (of_decide_eq_true (by kernel_rfl)) (by unfold Func.isWrapper; first | (rw [if_pos (by decide +kernel)]; kernel_rfl) | (rw [if_neg (by decide +kernel)]; exact ⟨rfl, rfl⟩))
    (fun os started H enc _ F0 => lifted os started H enc F0)
theorem proved : Rows.MvccFirstUptoSaid := over
#print axioms proved
end Go.Proofs.Ytbfcjnbjhpfdfaa.mvccFirst
namespace Go.Proofs.Ytbfcjnbjhpfdfaa
/-- The row, under a short name, for the claim. -/
theorem mvccFirstUpto_holds : Rows.MvccFirstUptoSaid := mvccFirst.proved
end Go.Proofs.Ytbfcjnbjhpfdfaa

