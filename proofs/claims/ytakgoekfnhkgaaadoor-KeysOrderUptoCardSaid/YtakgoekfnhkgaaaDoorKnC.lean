/- Signed numbers are read. Conditions: lengths at most 2^46. -/
import Derived.Test.YtakgoekfnhkgaaaDoorKnB
namespace Go.Proofs.YtakgoekfnhkgaaaDoor.Rd
open Go.Dn Go.RowKit
set_option linter.unusedVariables false
set_option linter.unusedSimpArgs false

/-- a sign unfolded -/
def unf (u : Nat) : Int := if u % 2 = 0 then ((u / 2 : Nat) : Int) else -((u / 2 : Nat) : Int) - 1
theorem band64_1 (n : Nat) (h : n < 18446744073709551616) : band .u64 (n : Int) 1 = ((n % 2 : Nat) : Int) := by
  unfold band
  show IntKind.u64.wrap (((BitVec.ofInt 64 (n : Int)) &&& BitVec.ofInt 64 ((1 : Nat) : Int)).toNat : Int) = _
  rw [BitVec.toNat_and, bv64 n h, bv64 1 (by decide), Nat.and_one_is_mod, u64w]; omega
theorem bxor_i64_0 (n : Nat) (h : n < 9223372036854775808) : bxor .i64 (n : Int) 0 = (n : Int) := by
  unfold bxor
  show IntKind.i64.wrap (((BitVec.ofInt 64 (n : Int)) ^^^ BitVec.ofInt 64 ((0 : Nat) : Int)).toNat : Int) = _
  rw [BitVec.toNat_xor, bv64 n (by omega), bv64 0 (by decide), Nat.xor_zero, i64w]; omega
theorem bxor_i64_m1 (n : Nat) (h : n < 9223372036854775808) : bxor .i64 (n : Int) (-1) = -(n : Int) - 1 := by
  unfold bxor
  show IntKind.i64.wrap (((BitVec.ofInt 64 (n : Int)) ^^^ BitVec.ofInt 64 (-1)).toNat : Int) = _
  rw [BitVec.toNat_xor, bv64 n (by omega), show (BitVec.ofInt 64 (-1)).toNat = 18446744073709551615 by decide, xor_ones _ (by omega), i64w]; omega
theorem unf_ok (u : Nat) (h : u < 18446744073709551616) : bxor .i64 (IntKind.i64.wrap ((u : Int).fdiv (2 ^ 1))) (IntKind.i64.wrap (0 - (IntKind.i64.wrap (band .u64 (u : Int) (1 : Int))))) = unf u := by
  rw [band64_1 u h, Int.fdiv_eq_ediv_of_nonneg _ (by decide), show IntKind.i64.wrap ((u : Int) / 2 ^ 1) = ((u / 2 : Nat) : Int) by rw [i64w]; omega]
  unfold unf
  rcases Nat.mod_two_eq_zero_or_one u with h2 | h2
  · rw [h2, if_pos rfl, show IntKind.i64.wrap (0 - IntKind.i64.wrap ((0 : Nat) : Int)) = 0 by decide, bxor_i64_0 _ (by omega)]
  · rw [h2, if_neg (by decide), show IntKind.i64.wrap (0 - IntKind.i64.wrap ((1 : Nat) : Int)) = -1 by decide, bxor_i64_m1 _ (by omega)]
theorem GetS_ok {w : World} {A : Option Addr} {n c : Nat} {l : List UInt8} {a : Int} (hr : RB w A l) (hn : n = l.length) (hlen : l.length ≤ 140737488355328) :
    Calls Tryd.prog 52 #[.slice A n c, .int .i64 a] w fun e w' => e = .returned (.tuple #[.int .i64 (unf (getL l a).1), .int .i64 ((getL l a).2.1 : Int), .int .i64 ((getL l a).2.2 : Int)]) ∧ w' = w := by
  apply f_num_GetS.ok
  unfold f_num_GetS.wp
  refine (Get_ok hr hn hlen).mono ?_
  rintro e w1 ⟨rfl, rfl⟩
  refine ⟨_, _, _, rfl, ?_⟩
  rw [unf_ok _ (getL_lt l a)]
  exact ⟨rfl, rfl⟩
end Go.Proofs.YtakgoekfnhkgaaaDoor.Rd
