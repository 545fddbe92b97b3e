/- The printed readings of some functions: each function's code reckoned by the kernel to its predicate transformer. -/
import Derived.Test.YtifambgaekjilaaDoorHint
namespace Go.Proofs.YtifambgaekjilaaDoor.Rd
open Go.Dn
set_option maxRecDepth 100000
set_option linter.unusedVariables false
namespace f_law08_PageParses
/-! skein/skeinlaw08.PageParses: function 3 -/
noncomputable def body : Code := (Tryd.f3.body).getD .skip
def wp (Aa0 : Option Addr) (na0 : Nat) (ca0 : Nat) (w : World) (Q : Ending → World → Prop) : Prop :=
  Calls Tryd.prog 7 #[] w fun e1 w2 => ∃ (b3 : Bool), e1 = .returned (.bool b3) ∧ (
  sel (!b3) (
  Q (.returned (.bool false)) w2) (
  Calls Tryd.prog 8 #[.slice Aa0 na0 ca0] w2 fun e4 w5 => ∃ (A6 : Option Addr) (n6 : Nat) (c6 : Nat), e4 = .returned (.slice A6 n6 c6) ∧ (
  req (decide (0 ≤ (na0 : Int) ∧ (na0 : Int) ≤ (c6 : Int))) <|
  Calls Tryd.prog 9 #[.slice (slA A6 0 c6 1) ((na0 : Int).toNat - 0) (c6 - 0)] w5 fun e7 w8 => ∃ (p9_0 : Option Addr) (x9_1 : Int), e7 = .returned (.tuple #[.pointer p9_0, .int .i64 x9_1]) ∧ (
  Calls Tryd.prog 10 #[.slice Aa0 na0 ca0] w8 fun e10 w11 => ∃ (x12_0_0 : Int) (x12_0_1 : Int) (x12_0_2 : Int) (A12_0_3 : Option Addr) (n12_0_3 : Nat) (c12_0_3 : Nat) (b12_1 : Bool), e10 = .returned (.tuple #[.agg #[.int .i64 x12_0_0, .int .u8 x12_0_1, .int .u32 x12_0_2, .slice A12_0_3 n12_0_3 c12_0_3], .bool b12_1]) ∧ (
  alW w11 (.cells #[.int .i64 (0 : Int), .int .u8 (0 : Int), .int .u32 (0 : Int), .slice none 0 0] 32) fun B13 w14 =>
  stW w14 (⟨B13, 0, Option.none⟩ : Addr) (.int .i64 x12_0_0) fun w15 =>
  stW w15 ((⟨B13, 0, Option.none⟩ : Addr).add 1) (.int .u8 x12_0_1) fun w16 =>
  stW w16 ((⟨B13, 0, Option.none⟩ : Addr).add 2) (.int .u32 x12_0_2) fun w17 =>
  stW w17 ((⟨B13, 0, Option.none⟩ : Addr).add 3) (.slice A12_0_3 n12_0_3 c12_0_3) fun w18 =>
  sel (!((x9_1 == (0 : Int)) == b12_1)) (
  Q (.returned (.bool false)) w18) (
  sel (!((!p9_0.isNone) == b12_1)) (
  Q (.returned (.bool false)) w18) (
  sel (!b12_1) (
  sel (x9_1 != (80 : Int)) (
  Q (.returned (.bool false)) w18) (
  Calls Tryd.prog 11 #[.slice A6 n6 c6, .slice Aa0 na0 ca0] w18 fun e19 w20 => ∃ (b21 : Bool), e19 = .returned (.bool b21) ∧ (
  sel (!b21) (
  Q (.returned (.bool false)) w20) (
  sel p9_0.isNone (
  Q (.returned (.bool true)) w20) (
  Calls Tryd.prog 12 #[.slice A6 n6 c6] w20 fun e22 w23 => e22 = .returned (.tuple #[]) ∧ (
  ldI w23 (⟨B13, 0, Option.none⟩ : Addr) .i64 fun x24 =>
  ldI w23 ((⟨B13, 0, Option.none⟩ : Addr).add 1) .u8 fun x25 =>
  ldI w23 ((⟨B13, 0, Option.none⟩ : Addr).add 2) .u32 fun x26 =>
  ldS w23 ((⟨B13, 0, Option.none⟩ : Addr).add 3) fun A27 n27 c27 =>
  Calls Tryd.prog 13 #[.pointer p9_0, .agg #[.int .i64 x24, .int .u8 x25, .int .u32 x26, .slice A27 n27 c27]] w23 fun e28 w29 => ∃ (b30 : Bool), e28 = .returned (.bool b30) ∧ (
  sel b30 (
  Calls Tryd.prog 15 #[.pointer p9_0] w29 fun e31 w32 => ∃ (A33 : Option Addr) (n33 : Nat) (c33 : Nat), e31 = .returned (.slice A33 n33 c33) ∧ (
  Calls Tryd.prog 14 #[.slice A33 n33 c33, .slice Aa0 na0 ca0] w32 fun e34 w35 => ∃ (b36 : Bool), e34 = .returned (.bool b36) ∧ (
  Q (.returned (.bool b36)) w35))) (
  Q (.returned (.bool false)) w29)))))))) (
  Calls Tryd.prog 11 #[.slice A6 n6 c6, .slice Aa0 na0 ca0] w18 fun e37 w38 => ∃ (b39 : Bool), e37 = .returned (.bool b39) ∧ (
  sel (!b39) (
  Q (.returned (.bool false)) w38) (
  sel p9_0.isNone (
  Q (.returned (.bool true)) w38) (
  Calls Tryd.prog 12 #[.slice A6 n6 c6] w38 fun e40 w41 => e40 = .returned (.tuple #[]) ∧ (
  ldI w41 (⟨B13, 0, Option.none⟩ : Addr) .i64 fun x42 =>
  ldI w41 ((⟨B13, 0, Option.none⟩ : Addr).add 1) .u8 fun x43 =>
  ldI w41 ((⟨B13, 0, Option.none⟩ : Addr).add 2) .u32 fun x44 =>
  ldS w41 ((⟨B13, 0, Option.none⟩ : Addr).add 3) fun A45 n45 c45 =>
  Calls Tryd.prog 13 #[.pointer p9_0, .agg #[.int .i64 x42, .int .u8 x43, .int .u32 x44, .slice A45 n45 c45]] w41 fun e46 w47 => ∃ (b48 : Bool), e46 = .returned (.bool b48) ∧ (
  sel b48 (
  Calls Tryd.prog 15 #[.pointer p9_0] w47 fun e49 w50 => ∃ (A51 : Option Addr) (n51 : Nat) (c51 : Nat), e49 = .returned (.slice A51 n51 c51) ∧ (
  Calls Tryd.prog 14 #[.slice A51 n51 c51, .slice Aa0 na0 ca0] w50 fun e52 w53 => ∃ (b54 : Bool), e52 = .returned (.bool b54) ∧ (
  Q (.returned (.bool b54)) w53))) (
  Q (.returned (.bool false)) w47))))))))))))))
def D : Nat → Option DH := dtab []
def tb : List (List Nat × Spec) := []
theorem wp_eq (Aa0 : Option Addr) (na0 : Nat) (ca0 : Nat) (w : World) (Q : Ending → World → Prop) :
    wp Aa0 na0 ca0 w Q = codeW Tryd.prog hT 62 D (tab tb) [] body (topQ Tryd.prog hT 62 [.tmp 2] Q) (argsF [.slice Aa0 na0 ca0]) w := by kernel_rfl
theorem ok (Aa0 : Option Addr) (na0 : Nat) (ca0 : Nat) (w : World) (Q : Ending → World → Prop) (h : wp Aa0 na0 ca0 w Q) : Calls Tryd.prog 3 #[.slice Aa0 na0 ca0] w Q := by
  rw [wp_eq] at h
  exact calls_of_codeW (c := body) (rs := [.tmp 2]) Tryd.func3 (by kernel_rfl) (by kernel_rfl) (by kernel_rfl) (by kernel_rfl) (by kernel_rfl) (tab_snd (by
    intro x hx
    simp only [tb, List.not_mem_nil] at hx
    )) (by kernel_rfl) h
end f_law08_PageParses
end Go.Proofs.YtifambgaekjilaaDoor.Rd
