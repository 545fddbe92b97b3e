/- The printed readings of some functions: each function's code reckoned by the kernel to its predicate transformer. -/
import Derived.Test.YtpokaafedpnbdaaDoorHint
namespace Go.Proofs.YtpokaafedpnbdaaDoor.Rd
open Go.Dn
set_option maxRecDepth 100000
set_option linter.unusedVariables false
namespace f_wal_parse_Post
/-! skein/wal.parse: function 66 -/
noncomputable def body : Code := (Tryd.f66.body).getD .skip
def j0 (At5 : Option Addr) (nt5 : Nat) (ct5 : Nat) (at6 : Addr) (w : World) (Kr : Int → (Option Addr) → Nat → Nat → Bool → World → Prop) : Prop :=
  drW w fun w9 =>
  optB At5 fun a11 =>
  req (decide (0 ≤ (8 : Int) ∧ (8 : Int) < (nt5 : Int))) <|
  ldI w9 (a11.add ((8 : Int).toNat * 1)) .u8 fun x12 =>
  optB At5 fun a13 =>
  req (decide (0 ≤ (9 : Int) ∧ (9 : Int) < (nt5 : Int))) <|
  ldI w9 (a13.add ((9 : Int).toNat * 1)) .u8 fun x14 =>
  ldI w9 at6 .u64 fun x15 =>
  sel (decide (x15 < (1 : Int))) (
  Kr (0 : Int) none 0 0 false w9) (
  ldI w9 at6 .u64 fun x16 =>
  sel (decide (x16 > (274877906944 : Int))) (
  Kr (0 : Int) none 0 0 false w9) (
  sel (decide ((bor .i64 (IntKind.i64.wrap x12) (IntKind.i64.wrap ((IntKind.i64.wrap x14) * 2 ^ 8))) > (498 : Int))) (
  Kr (0 : Int) none 0 0 false w9) (
  req (decide (0 ≤ (IntKind.i64.wrap ((10 : Int) + (bor .i64 (IntKind.i64.wrap x12) (IntKind.i64.wrap ((IntKind.i64.wrap x14) * 2 ^ 8))))) ∧ (IntKind.i64.wrap ((10 : Int) + (bor .i64 (IntKind.i64.wrap x12) (IntKind.i64.wrap ((IntKind.i64.wrap x14) * 2 ^ 8))))) ≤ (ct5 : Int))) <|
  req (decide (0 ≤ (10 : Int) ∧ (10 : Int) ≤ ((IntKind.i64.wrap ((10 : Int) + (bor .i64 (IntKind.i64.wrap x12) (IntKind.i64.wrap ((IntKind.i64.wrap x14) * 2 ^ 8))))).toNat : Int))) <|
  drW w9 fun w17 =>
  ∃ S18 : World → Prop, S18 w17 ∧ (
  hdI S18 at6 .u64 fun x19 =>
  req (decide (0 ≤ (IntKind.i64.wrap ((10 : Int) + (bor .i64 (IntKind.i64.wrap x12) (IntKind.i64.wrap ((IntKind.i64.wrap x14) * 2 ^ 8))))) ∧ (IntKind.i64.wrap ((10 : Int) + (bor .i64 (IntKind.i64.wrap x12) (IntKind.i64.wrap ((IntKind.i64.wrap x14) * 2 ^ 8))))) ≤ (nt5 : Int))) <|
  Calls Tryd.prog 83 #[.slice (slA At5 ((IntKind.i64.wrap ((10 : Int) + (bor .i64 (IntKind.i64.wrap x12) (IntKind.i64.wrap ((IntKind.i64.wrap x14) * 2 ^ 8))))).toNat) ct5 1) (nt5 - (IntKind.i64.wrap ((10 : Int) + (bor .i64 (IntKind.i64.wrap x12) (IntKind.i64.wrap ((IntKind.i64.wrap x14) * 2 ^ 8))))).toNat) (ct5 - (IntKind.i64.wrap ((10 : Int) + (bor .i64 (IntKind.i64.wrap x12) (IntKind.i64.wrap ((IntKind.i64.wrap x14) * 2 ^ 8))))).toNat), .string (⟨#[0]⟩ : ByteArray)] w17 fun e20 w21 => ∃ (A22 : Option Addr) (n22 : Nat) (c22 : Nat), e20 = .returned (.slice A22 n22 c22) ∧ (
  S18 w21 ∧ (
  Kr (IntKind.i64.wrap x19) (slA At5 10 ct5 1) ((IntKind.i64.wrap ((10 : Int) + (bor .i64 (IntKind.i64.wrap x12) (IntKind.i64.wrap ((IntKind.i64.wrap x14) * 2 ^ 8))))).toNat - 10) (ct5 - 10) ((n22 : Int) == (0 : Int)) w21))))))
def D : Nat → Option DH := dtab [(8, .simple [.fst 0, .fst 1, .fst 2, .fst 3, .fst 4, .fst 5, .fst 6, .fst 7, .fst 8] [.fst 9, .fst 10]), (12, .held [.fst 0, .fst 1, .fst 2, .fst 3, .fst 4, .fst 5, .fst 6, .eff 7, .fst 8, .fst 9, .fst 10, .fst 11] [.fst 12])]
def j0LO : LO := ⟨[], [2, 3, 4], [], []⟩
def j0T : Spec := fun Q σ w =>
  gSlice (σ 5) fun At5 nt5 ct5 =>
  gAd (σ 6) fun at6 =>
  j0 At5 nt5 ct5 at6 w (fun (xq2 : Int) (Aq3 : Option Addr) (nq3 : Nat) (cq3 : Nat) (bq4 : Bool) (w : World) => ∀ d : Fr, Q .ret (ov d [(2, .int .i64 xq2), (3, .slice Aq3 nq3 cq3), (4, .bool bq4)]) w)
def j0tb : List (List Nat × Spec) := []
noncomputable def j0b : Code := (subC [1, 1, 1, 1, 1] body).getD .skip
theorem j0_eq (At5 : Option Addr) (nt5 : Nat) (ct5 : Nat) (at6 : Addr) (Q : PQ) (σ : Fr) (w : World) :
    j0 At5 nt5 ct5 at6 w (fun (xq2 : Int) (Aq3 : Option Addr) (nq3 : Nat) (cq3 : Nat) (bq4 : Bool) (w : World) => ∀ d : Fr, Q .ret (ov d [(2, .int .i64 xq2), (3, .slice Aq3 nq3 cq3), (4, .bool bq4)]) w) = codeW Tryd.prog hT 61 D (tab j0tb) [1, 1, 1, 1, 1] j0b (widen j0LO Q) (ov σ [(5, .slice At5 nt5 ct5), (6, .pointer (some at6))]) w := by kernel_rfl
theorem j0_snd : ∀ c, subC [1, 1, 1, 1, 1] body = some c → Snd Tryd.prog 61 c j0T := by
  refine cut_of (hT := hT) (D := D) (l := j0tb) (b := j0b) (lo := j0LO) (by kernel_rfl) (by
    intro x hx
    simp only [j0tb, List.not_mem_nil] at hx
    ) (by kernel_rfl) (by kernel_rfl) ?_
  intro Q σ w h
  unfold j0T at h
  obtain ⟨At5, nt5, ct5, h5, hn⟩ := gSlice_elim h
  clear h
  have h := hn
  clear hn
  obtain ⟨at6, h6, hn⟩ := gAd_elim h
  clear h
  have h := hn
  clear hn
  rw [j0_eq (σ := σ)] at h
  have e : (ov σ [(5, .slice At5 nt5 ct5), (6, .pointer (some at6))]) = σ := ov_self (by simp [h5, h6])
  rw [e] at h
  exact h
end f_wal_parse_Post
end Go.Proofs.YtpokaafedpnbdaaDoor.Rd
