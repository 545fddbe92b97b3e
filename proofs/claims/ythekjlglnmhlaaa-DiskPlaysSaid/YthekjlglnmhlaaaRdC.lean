/- The printed readings of some functions: each function's code reckoned by the kernel to its predicate transformer. -/
import Derived.Test.YthekjlglnmhlaaaHint
namespace Go.Proofs.Ythekjlglnmhlaaa.Rd
open Go.Dn
set_option maxRecDepth 100000
set_option linter.unusedVariables false
namespace f_law07_alive
/-! skein/skeinlaw07.alive: function 9 -/
noncomputable def body : Code := (Try.f9.body).getD .skip
def wp  (w : World) (Q : Ending → World → Prop) : Prop :=
  Calls Try.prog 10 #[.int .i64 (2 : Int)] w fun e1 w2 => ∃ (p3 : Option Addr), e1 = .returned (.pointer p3) ∧ (
  sel p3.isNone (
  Q (.returned (.bool false)) w2) (
  alW w2 (.cells #[.int .u8 (97 : Int), .int .u8 (98 : Int)] 5) fun B4 w5 =>
  Runs Try.prog (Go.convert 35 35 (.slice (some (⟨B4, 0, Option.none⟩ : Addr)) 2 2)) w5 fun v7 w6 => ∃ (A8 : Option Addr) (n8 : Nat) (c8 : Nat), v7 = (.slice A8 n8 c8) ∧ (
  Calls Try.prog 16 #[.pointer p3, .int .i64 (0 : Int), .slice A8 n8 c8] w6 fun e9 w10 => ∃ (x11 : Int), e9 = .returned (.int .i64 x11) ∧ (
  sel (x11 != (0 : Int)) (
  Q (.returned (.bool false)) w10) (
  Calls Try.prog 20 #[.pointer p3] w10 fun e12 w13 => ∃ (x14 : Int), e12 = .returned (.int .i64 x14) ∧ (
  sel (x14 != (0 : Int)) (
  Q (.returned (.bool false)) w13) (
  alW w13 (.cells #[.int .u8 (99 : Int), .int .u8 (100 : Int)] 5) fun B15 w16 =>
  Runs Try.prog (Go.convert 35 35 (.slice (some (⟨B15, 0, Option.none⟩ : Addr)) 2 2)) w16 fun v18 w17 => ∃ (A19 : Option Addr) (n19 : Nat) (c19 : Nat), v18 = (.slice A19 n19 c19) ∧ (
  Calls Try.prog 16 #[.pointer p3, .int .i64 (0 : Int), .slice A19 n19 c19] w17 fun e20 w21 => ∃ (x22 : Int), e20 = .returned (.int .i64 x22) ∧ (
  sel (x22 != (0 : Int)) (
  Q (.returned (.bool false)) w21) (
  alW w21 (.cells #[.int .u8 (101 : Int), .int .u8 (102 : Int)] 5) fun B23 w24 =>
  Runs Try.prog (Go.convert 35 35 (.slice (some (⟨B23, 0, Option.none⟩ : Addr)) 2 2)) w24 fun v26 w25 => ∃ (A27 : Option Addr) (n27 : Nat) (c27 : Nat), v26 = (.slice A27 n27 c27) ∧ (
  Calls Try.prog 16 #[.pointer p3, .int .i64 (1 : Int), .slice A27 n27 c27] w25 fun e28 w29 => ∃ (x30 : Int), e28 = .returned (.int .i64 x30) ∧ (
  sel (x30 != (0 : Int)) (
  Q (.returned (.bool false)) w29) (
  Calls Try.prog 13 #[.pointer p3] w29 fun e31 w32 => ∃ (A33 : Option Addr) (n33 : Nat) (c33 : Nat), e31 = .returned (.slice A33 n33 c33) ∧ (
  alW w32 (.cells #[.int .i64 (1 : Int)] 3) fun B34 w35 =>
  Calls Try.prog 21 #[.pointer p3, .slice (some (⟨B34, 0, Option.none⟩ : Addr)) 1 1] w35 fun e36 w37 => e36 = .returned (.tuple #[]) ∧ (
  Calls Try.prog 17 #[.pointer p3, .int .i64 (0 : Int)] w37 fun e38 w39 => ∃ (A40_0 : Option Addr) (n40_0 : Nat) (c40_0 : Nat) (x40_1 : Int), e38 = .returned (.tuple #[.slice A40_0 n40_0 c40_0, .int .i64 x40_1]) ∧ (
  Calls Try.prog 17 #[.pointer p3, .int .i64 (1 : Int)] w39 fun e41 w42 => ∃ (A43_0 : Option Addr) (n43_0 : Nat) (c43_0 : Nat) (x43_1 : Int), e41 = .returned (.tuple #[.slice A43_0 n43_0 c43_0, .int .i64 x43_1]) ∧ (
  alW w42 (.cells #[.int .u8 (113 : Int)] 5) fun B44 w45 =>
  Runs Try.prog (Go.convert 35 35 (.slice (some (⟨B44, 0, Option.none⟩ : Addr)) 1 1)) w45 fun v47 w46 => ∃ (A48 : Option Addr) (n48 : Nat) (c48 : Nat), v47 = (.slice A48 n48 c48) ∧ (
  Calls Try.prog 25 #[.slice A48 n48 c48] w46 fun e49 w50 => ∃ (p51 : Option Addr), e49 = .returned (.pointer p51) ∧ (
  sel ((n33 : Int) == (2 : Int)) (
  sel (x40_1 == (0 : Int)) (
  sel (x43_1 == (0 : Int)) (
  sel ((n40_0 : Int) == (512 : Int)) (
  req (decide (0 ≤ (2 : Int) ∧ (2 : Int) ≤ (c40_0 : Int))) <|
  Runs Try.prog (Go.convert 35 9 (.slice (slA A40_0 0 c40_0 1) (2 - 0) (c40_0 - 0))) w50 fun v53 w52 => ∃ (s54 : ByteArray), v53 = (.string s54) ∧ (
  sel (s54.toList == (⟨#[97, 98]⟩ : ByteArray).toList) (
  sel ((n43_0 : Int) == (512 : Int)) (
  req (decide (0 ≤ (2 : Int) ∧ (2 : Int) ≤ (c43_0 : Int))) <|
  Runs Try.prog (Go.convert 35 9 (.slice (slA A43_0 0 c43_0 1) (2 - 0) (c43_0 - 0))) w52 fun v56 w55 => ∃ (s57 : ByteArray), v56 = (.string s57) ∧ (
  sel (s57.toList == (⟨#[101, 102]⟩ : ByteArray).toList) (
  Calls Try.prog 12 #[.pointer p3] w55 fun e58 w59 => ∃ (x60 : Int), e58 = .returned (.int .i64 x60) ∧ (
  sel (x60 == (2 : Int)) (
  Calls Try.prog 14 #[.pointer p3] w59 fun e61 w62 => ∃ (x63 : Int), e61 = .returned (.int .i64 x63) ∧ (
  sel (x63 == (4 : Int)) (
  sel (!p51.isNone) (
  Calls Try.prog 12 #[.pointer p51] w62 fun e64 w65 => ∃ (x66 : Int), e64 = .returned (.int .i64 x66) ∧ (
  Q (.returned (.bool (x66 == (1 : Int)))) w65)) (
  Q (.returned (.bool false)) w62)) (
  Q (.returned (.bool false)) w62))) (
  Q (.returned (.bool false)) w59))) (
  Q (.returned (.bool false)) w55))) (
  Q (.returned (.bool false)) w52)) (
  Q (.returned (.bool false)) w52))) (
  Q (.returned (.bool false)) w50)) (
  Q (.returned (.bool false)) w50)) (
  Q (.returned (.bool false)) w50)) (
  Q (.returned (.bool false)) w50))))))))))))))))))))
def D : Nat → Option DH := dtab []
def tb : List (List Nat × Spec) := []
theorem wp_eq  (w : World) (Q : Ending → World → Prop) :
    wp  w Q = codeW Try.prog hT 107 D (tab tb) [] body (topQ Try.prog hT 107 [.tmp 0] Q) (argsF []) w := by kernel_rfl
theorem ok  (w : World) (Q : Ending → World → Prop) (h : wp  w Q) : Calls Try.prog 9 #[] w Q := by
  rw [wp_eq] at h
  exact calls_of_codeW (c := body) (rs := [.tmp 0]) Try.func9 (by kernel_rfl) (by kernel_rfl) (by kernel_rfl) (by kernel_rfl) (by kernel_rfl) (tab_snd (by
    intro x hx
    simp only [tb, List.not_mem_nil] at hx
    )) (by kernel_rfl) h
end f_law07_alive
namespace f_law07_do
/-! skein/skeinlaw07.do: function 18 -/
noncomputable def body : Code := (Try.f18.body).getD .skip
def wp (pa0 : Option Addr) (xa1_0 : Int) (xa1_1 : Int) (Aa1_2 : Option Addr) (na1_2 : Nat) (ca1_2 : Nat) (Aa1_3 : Option Addr) (na1_3 : Nat) (ca1_3 : Nat) (Aa1_4 : Option Addr) (na1_4 : Nat) (ca1_4 : Nat) (w : World) (Q : Ending → World → Prop) : Prop :=
  alW w (.cells #[.int .i64 xa1_0, .int .i64 xa1_1, .slice Aa1_2 na1_2 ca1_2, .slice Aa1_3 na1_3 ca1_3, .slice Aa1_4 na1_4 ca1_4] 41) fun B1 w2 =>
  ldI w2 (⟨B1, 0, Option.none⟩ : Addr) .i64 fun x3 =>
  sel (x3 == (2 : Int)) (
  drW w2 fun w4 =>
  ∃ S5 : World → Prop, S5 w4 ∧ (
  hdI S5 ((⟨B1, 0, Option.none⟩ : Addr).add 1) .i64 fun x6 =>
  hdS S5 ((⟨B1, 0, Option.none⟩ : Addr).add 2) fun A7 n7 c7 =>
  Calls Try.prog 19 #[.slice A7 n7 c7] w4 fun e8 w9 => ∃ (A10 : Option Addr) (n10 : Nat) (c10 : Nat), e8 = .returned (.slice A10 n10 c10) ∧ (
  S5 w9 ∧ (
  Calls Try.prog 16 #[.pointer pa0, .int .i64 x6, .slice A10 n10 c10] w9 fun e11 w12 => ∃ (x13 : Int), e11 = .returned (.int .i64 x13) ∧ (
  Q (.returned (.tuple #[])) w12))))) (
  sel (x3 == (3 : Int)) (
  Calls Try.prog 20 #[.pointer pa0] w2 fun e14 w15 => ∃ (x16 : Int), e14 = .returned (.int .i64 x16) ∧ (
  Q (.returned (.tuple #[])) w15)) (
  sel (x3 == (4 : Int)) (
  ldS w2 ((⟨B1, 0, Option.none⟩ : Addr).add 3) fun A17 n17 c17 =>
  Calls Try.prog 21 #[.pointer pa0, .slice A17 n17 c17] w2 fun e18 w19 => e18 = .returned (.tuple #[]) ∧ (
  Q (.returned (.tuple #[])) w19)) (
  sel (x3 == (5 : Int)) (
  ldS w2 ((⟨B1, 0, Option.none⟩ : Addr).add 4) fun A20 n20 c20 =>
  Calls Try.prog 24 #[.pointer pa0, .slice A20 n20 c20] w2 fun e21 w22 => e21 = .returned (.tuple #[]) ∧ (
  Q (.returned (.tuple #[])) w22)) (
  Q (.returned (.tuple #[])) w2))))
def D : Nat → Option DH := dtab [(3, .held [.fst 0, .fst 1, .fst 2, .fst 3, .fst 4, .eff 5] [.eff 6])]
def tb : List (List Nat × Spec) := []
theorem wp_eq (pa0 : Option Addr) (xa1_0 : Int) (xa1_1 : Int) (Aa1_2 : Option Addr) (na1_2 : Nat) (ca1_2 : Nat) (Aa1_3 : Option Addr) (na1_3 : Nat) (ca1_3 : Nat) (Aa1_4 : Option Addr) (na1_4 : Nat) (ca1_4 : Nat) (w : World) (Q : Ending → World → Prop) :
    wp pa0 xa1_0 xa1_1 Aa1_2 na1_2 ca1_2 Aa1_3 na1_3 ca1_3 Aa1_4 na1_4 ca1_4 w Q = codeW Try.prog hT 31 D (tab tb) [] body (topQ Try.prog hT 31 [] Q) (argsF [.pointer pa0, .agg #[.int .i64 xa1_0, .int .i64 xa1_1, .slice Aa1_2 na1_2 ca1_2, .slice Aa1_3 na1_3 ca1_3, .slice Aa1_4 na1_4 ca1_4]]) w := by kernel_rfl
theorem ok (pa0 : Option Addr) (xa1_0 : Int) (xa1_1 : Int) (Aa1_2 : Option Addr) (na1_2 : Nat) (ca1_2 : Nat) (Aa1_3 : Option Addr) (na1_3 : Nat) (ca1_3 : Nat) (Aa1_4 : Option Addr) (na1_4 : Nat) (ca1_4 : Nat) (w : World) (Q : Ending → World → Prop) (h : wp pa0 xa1_0 xa1_1 Aa1_2 na1_2 ca1_2 Aa1_3 na1_3 ca1_3 Aa1_4 na1_4 ca1_4 w Q) : Calls Try.prog 18 #[.pointer pa0, .agg #[.int .i64 xa1_0, .int .i64 xa1_1, .slice Aa1_2 na1_2 ca1_2, .slice Aa1_3 na1_3 ca1_3, .slice Aa1_4 na1_4 ca1_4]] w Q := by
  rw [wp_eq] at h
  exact calls_of_codeW (c := body) (rs := []) Try.func18 (by kernel_rfl) (by kernel_rfl) (by kernel_rfl) (by kernel_rfl) (by kernel_rfl) (tab_snd (by
    intro x hx
    simp only [tb, List.not_mem_nil] at hx
    )) (by kernel_rfl) h
end f_law07_do
namespace f_law07_asks
/-! skein/skeinlaw07.asks: function 33 -/
noncomputable def body : Code := (Try.f33.body).getD .skip
def l0 : Nat → Option Addr → Nat → Nat → Int → Int → World → (World → Prop) → Prop
  | 0, _, _, _, _, _, _, _ => False
  | k + 1, At22, nt22, ct22, xt129, xt130, w, K1 =>
    sel (decide (xt130 < xt129)) (
    optB At22 fun a156 =>
    req (decide (0 ≤ xt130 ∧ xt130 < (nt22 : Int))) <|
    stW w ((a156.add (xt130.toNat * 2)).add 1) (.int .i64 (9 : Int)) fun w157 =>
    l0 k At22 nt22 ct22 xt129 (IntKind.i64.wrap (xt130 + (1 : Int))) w157 K1) (
    K1  w)
def wp (pa0 : Option Addr) (Aa1_0 : Option Addr) (na1_0 : Nat) (ca1_0 : Nat) (Aa1_1 : Option Addr) (na1_1 : Nat) (ca1_1 : Nat) (xa1_2 : Int) (ba1_3 : Bool) (xa2_0 : Int) (xa2_1 : Int) (Aa2_2 : Option Addr) (na2_2 : Nat) (ca2_2 : Nat) (Aa2_3 : Option Addr) (na2_3 : Nat) (ca2_3 : Nat) (Aa2_4 : Option Addr) (na2_4 : Nat) (ca2_4 : Nat) (w : World) (Q : Ending → World → Prop) : Prop :=
  alW w (.cells #[.slice Aa1_0 na1_0 ca1_0, .slice Aa1_1 na1_1 ca1_1, .int .i64 xa1_2, .bool ba1_3] 28) fun B1 w2 =>
  alW w2 (.cells #[.int .i64 xa2_0, .int .i64 xa2_1, .slice Aa2_2 na2_2 ca2_2, .slice Aa2_3 na2_3 ca2_3, .slice Aa2_4 na2_4 ca2_4] 41) fun B3 w4 =>
  alW w4 (.cells #[.slice none 0 0, .slice none 0 0, .int .i64 (0 : Int), .bool false] 28) fun B5 w6 =>
  ldI w6 (⟨B3, 0, Option.none⟩ : Addr) .i64 fun x7 =>
  sel (x7 == (1 : Int)) (
  ldI w6 ((⟨B3, 0, Option.none⟩ : Addr).add 1) .i64 fun x8 =>
  Calls Try.prog 17 #[.pointer pa0, .int .i64 x8] w6 fun e9 w10 => ∃ (A11_0 : Option Addr) (n11_0 : Nat) (c11_0 : Nat) (x11_1 : Int), e9 = .returned (.tuple #[.slice A11_0 n11_0 c11_0, .int .i64 x11_1]) ∧ (
  ldI w10 ((⟨B3, 0, Option.none⟩ : Addr).add 1) .i64 fun x12 =>
  Calls Try.prog 17 #[.pointer pa0, .int .i64 x12] w10 fun e13 w14 => ∃ (A15_0 : Option Addr) (n15_0 : Nat) (c15_0 : Nat) (x15_1 : Int), e13 = .returned (.tuple #[.slice A15_0 n15_0 c15_0, .int .i64 x15_1]) ∧ (
  ldS w14 (⟨B1, 0, Option.none⟩ : Addr) fun A16 n16 c16 =>
  ldS w14 ((⟨B1, 0, Option.none⟩ : Addr).add 1) fun A17 n17 c17 =>
  ldI w14 ((⟨B1, 0, Option.none⟩ : Addr).add 2) .i64 fun x18 =>
  ldB w14 ((⟨B1, 0, Option.none⟩ : Addr).add 3) fun b19 =>
  ldI w14 ((⟨B3, 0, Option.none⟩ : Addr).add 1) .i64 fun x20 =>
  Calls Try.prog 45 #[.agg #[.slice A16 n16 c16, .slice A17 n17 c17, .int .i64 x18, .bool b19], .int .i64 x20] w14 fun e21 w22 => ∃ (A23_0 : Option Addr) (n23_0 : Nat) (c23_0 : Nat) (x23_1 : Int), e21 = .returned (.tuple #[.slice A23_0 n23_0 c23_0, .int .i64 x23_1]) ∧ (
  drW w22 fun w24 =>
  ∃ S25 : World → Prop, S25 w24 ∧ (
  hdS S25 (⟨B1, 0, Option.none⟩ : Addr) fun A26 n26 c26 =>
  hdS S25 ((⟨B1, 0, Option.none⟩ : Addr).add 1) fun A27 n27 c27 =>
  hdI S25 ((⟨B1, 0, Option.none⟩ : Addr).add 2) .i64 fun x28 =>
  hdB S25 ((⟨B1, 0, Option.none⟩ : Addr).add 3) fun b29 =>
  sel (x11_1 == x23_1) (
  Calls Try.prog 46 #[.slice A11_0 n11_0 c11_0, .slice A15_0 n15_0 c15_0, .slice A23_0 n23_0 c23_0] w24 fun e30 w31 => ∃ (b32 : Bool), e30 = .returned (.bool b32) ∧ (
  S25 w31 ∧ (
  stW w31 (⟨B5, 0, Option.none⟩ : Addr) (.slice A26 n26 c26) fun w33 =>
  stW w33 ((⟨B5, 0, Option.none⟩ : Addr).add 1) (.slice A27 n27 c27) fun w34 =>
  stW w34 ((⟨B5, 0, Option.none⟩ : Addr).add 2) (.int .i64 x28) fun w35 =>
  stW w35 ((⟨B5, 0, Option.none⟩ : Addr).add 3) (.bool b29) fun w36 =>
  S25 w36 ∧ (
  ldS w36 (⟨B5, 0, Option.none⟩ : Addr) fun A37 n37 c37 =>
  ldS w36 ((⟨B5, 0, Option.none⟩ : Addr).add 1) fun A38 n38 c38 =>
  ldI w36 ((⟨B5, 0, Option.none⟩ : Addr).add 2) .i64 fun x39 =>
  ldB w36 ((⟨B5, 0, Option.none⟩ : Addr).add 3) fun b40 =>
  Q (.returned (.tuple #[.agg #[.slice A37 n37 c37, .slice A38 n38 c38, .int .i64 x39, .bool b40], .bool b32])) w36)))) (
  S25 w24 ∧ (
  stW w24 (⟨B5, 0, Option.none⟩ : Addr) (.slice A26 n26 c26) fun w41 =>
  stW w41 ((⟨B5, 0, Option.none⟩ : Addr).add 1) (.slice A27 n27 c27) fun w42 =>
  stW w42 ((⟨B5, 0, Option.none⟩ : Addr).add 2) (.int .i64 x28) fun w43 =>
  stW w43 ((⟨B5, 0, Option.none⟩ : Addr).add 3) (.bool b29) fun w44 =>
  S25 w44 ∧ (
  ldS w44 (⟨B5, 0, Option.none⟩ : Addr) fun A45 n45 c45 =>
  ldS w44 ((⟨B5, 0, Option.none⟩ : Addr).add 1) fun A46 n46 c46 =>
  ldI w44 ((⟨B5, 0, Option.none⟩ : Addr).add 2) .i64 fun x47 =>
  ldB w44 ((⟨B5, 0, Option.none⟩ : Addr).add 3) fun b48 =>
  Q (.returned (.tuple #[.agg #[.slice A45 n45 c45, .slice A46 n46 c46, .int .i64 x47, .bool b48], .bool false])) w44)))))))) (
  sel (x7 == (2 : Int)) (
  ldS w6 ((⟨B3, 0, Option.none⟩ : Addr).add 2) fun A49 n49 c49 =>
  Calls Try.prog 29 #[.slice A49 n49 c49] w6 fun e50 w51 => ∃ (A52 : Option Addr) (n52 : Nat) (c52 : Nat), e50 = .returned (.slice A52 n52 c52) ∧ (
  drW w51 fun w53 =>
  ldI w53 ((⟨B3, 0, Option.none⟩ : Addr).add 1) .i64 fun x55 =>
  ldS w53 ((⟨B3, 0, Option.none⟩ : Addr).add 2) fun A56 n56 c56 =>
  req (decide (0 ≤ (n56 : Int) ∧ (n56 : Int) ≤ (c52 : Int))) <|
  Calls Try.prog 16 #[.pointer pa0, .int .i64 x55, .slice (slA A52 0 c52 1) ((n56 : Int).toNat - 0) (c52 - 0)] w53 fun e57 w58 => ∃ (x59 : Int), e57 = .returned (.int .i64 x59) ∧ (
  ldS w58 ((⟨B3, 0, Option.none⟩ : Addr).add 2) fun A60 n60 c60 =>
  Calls Try.prog 30 #[.slice A52 n52 c52, .slice A60 n60 c60] w58 fun e61 w62 => ∃ (b63 : Bool), e61 = .returned (.bool b63) ∧ (
  Calls Try.prog 31 #[.slice A52 n52 c52] w62 fun e64 w65 => e64 = .returned (.tuple #[]) ∧ (
  ldS w65 (⟨B1, 0, Option.none⟩ : Addr) fun A66 n66 c66 =>
  ldS w65 ((⟨B1, 0, Option.none⟩ : Addr).add 1) fun A67 n67 c67 =>
  ldI w65 ((⟨B1, 0, Option.none⟩ : Addr).add 2) .i64 fun x68 =>
  ldB w65 ((⟨B1, 0, Option.none⟩ : Addr).add 3) fun b69 =>
  ldI w65 ((⟨B3, 0, Option.none⟩ : Addr).add 1) .i64 fun x70 =>
  ldS w65 ((⟨B3, 0, Option.none⟩ : Addr).add 2) fun A71 n71 c71 =>
  Calls Try.prog 47 #[.agg #[.slice A66 n66 c66, .slice A67 n67 c67, .int .i64 x68, .bool b69], .int .i64 x70, .slice A71 n71 c71] w65 fun e72 w73 => ∃ (A74_0_0 : Option Addr) (n74_0_0 : Nat) (c74_0_0 : Nat) (A74_0_1 : Option Addr) (n74_0_1 : Nat) (c74_0_1 : Nat) (x74_0_2 : Int) (b74_0_3 : Bool) (x74_1 : Int), e72 = .returned (.tuple #[.agg #[.slice A74_0_0 n74_0_0 c74_0_0, .slice A74_0_1 n74_0_1 c74_0_1, .int .i64 x74_0_2, .bool b74_0_3], .int .i64 x74_1]) ∧ (
  alW w73 (.cells #[.slice none 0 0, .slice none 0 0, .int .i64 (0 : Int), .bool false] 28) fun B75 w76 =>
  stW w76 (⟨B75, 0, Option.none⟩ : Addr) (.slice A74_0_0 n74_0_0 c74_0_0) fun w77 =>
  stW w77 ((⟨B75, 0, Option.none⟩ : Addr).add 1) (.slice A74_0_1 n74_0_1 c74_0_1) fun w78 =>
  stW w78 ((⟨B75, 0, Option.none⟩ : Addr).add 2) (.int .i64 x74_0_2) fun w79 =>
  stW w79 ((⟨B75, 0, Option.none⟩ : Addr).add 3) (.bool b74_0_3) fun w80 =>
  ldS w80 (⟨B75, 0, Option.none⟩ : Addr) fun A81 n81 c81 =>
  ldS w80 ((⟨B75, 0, Option.none⟩ : Addr).add 1) fun A82 n82 c82 =>
  ldI w80 ((⟨B75, 0, Option.none⟩ : Addr).add 2) .i64 fun x83 =>
  ldB w80 ((⟨B75, 0, Option.none⟩ : Addr).add 3) fun b84 =>
  sel b63 (
  stW w80 (⟨B5, 0, Option.none⟩ : Addr) (.slice A81 n81 c81) fun w85 =>
  stW w85 ((⟨B5, 0, Option.none⟩ : Addr).add 1) (.slice A82 n82 c82) fun w86 =>
  stW w86 ((⟨B5, 0, Option.none⟩ : Addr).add 2) (.int .i64 x83) fun w87 =>
  stW w87 ((⟨B5, 0, Option.none⟩ : Addr).add 3) (.bool b84) fun w88 =>
  ldS w88 (⟨B5, 0, Option.none⟩ : Addr) fun A89 n89 c89 =>
  ldS w88 ((⟨B5, 0, Option.none⟩ : Addr).add 1) fun A90 n90 c90 =>
  ldI w88 ((⟨B5, 0, Option.none⟩ : Addr).add 2) .i64 fun x91 =>
  ldB w88 ((⟨B5, 0, Option.none⟩ : Addr).add 3) fun b92 =>
  Q (.returned (.tuple #[.agg #[.slice A89 n89 c89, .slice A90 n90 c90, .int .i64 x91, .bool b92], .bool (x59 == x74_1)])) w88) (
  stW w80 (⟨B5, 0, Option.none⟩ : Addr) (.slice A81 n81 c81) fun w93 =>
  stW w93 ((⟨B5, 0, Option.none⟩ : Addr).add 1) (.slice A82 n82 c82) fun w94 =>
  stW w94 ((⟨B5, 0, Option.none⟩ : Addr).add 2) (.int .i64 x83) fun w95 =>
  stW w95 ((⟨B5, 0, Option.none⟩ : Addr).add 3) (.bool b84) fun w96 =>
  ldS w96 (⟨B5, 0, Option.none⟩ : Addr) fun A97 n97 c97 =>
  ldS w96 ((⟨B5, 0, Option.none⟩ : Addr).add 1) fun A98 n98 c98 =>
  ldI w96 ((⟨B5, 0, Option.none⟩ : Addr).add 2) .i64 fun x99 =>
  ldB w96 ((⟨B5, 0, Option.none⟩ : Addr).add 3) fun b100 =>
  Q (.returned (.tuple #[.agg #[.slice A97 n97 c97, .slice A98 n98 c98, .int .i64 x99, .bool b100], .bool false])) w96))))))) (
  sel (x7 == (3 : Int)) (
  Calls Try.prog 20 #[.pointer pa0] w6 fun e101 w102 => ∃ (x103 : Int), e101 = .returned (.int .i64 x103) ∧ (
  ldS w102 (⟨B1, 0, Option.none⟩ : Addr) fun A104 n104 c104 =>
  ldS w102 ((⟨B1, 0, Option.none⟩ : Addr).add 1) fun A105 n105 c105 =>
  ldI w102 ((⟨B1, 0, Option.none⟩ : Addr).add 2) .i64 fun x106 =>
  ldB w102 ((⟨B1, 0, Option.none⟩ : Addr).add 3) fun b107 =>
  Calls Try.prog 48 #[.agg #[.slice A104 n104 c104, .slice A105 n105 c105, .int .i64 x106, .bool b107]] w102 fun e108 w109 => ∃ (A110_0_0 : Option Addr) (n110_0_0 : Nat) (c110_0_0 : Nat) (A110_0_1 : Option Addr) (n110_0_1 : Nat) (c110_0_1 : Nat) (x110_0_2 : Int) (b110_0_3 : Bool) (x110_1 : Int), e108 = .returned (.tuple #[.agg #[.slice A110_0_0 n110_0_0 c110_0_0, .slice A110_0_1 n110_0_1 c110_0_1, .int .i64 x110_0_2, .bool b110_0_3], .int .i64 x110_1]) ∧ (
  alW w109 (.cells #[.slice none 0 0, .slice none 0 0, .int .i64 (0 : Int), .bool false] 28) fun B111 w112 =>
  stW w112 (⟨B111, 0, Option.none⟩ : Addr) (.slice A110_0_0 n110_0_0 c110_0_0) fun w113 =>
  stW w113 ((⟨B111, 0, Option.none⟩ : Addr).add 1) (.slice A110_0_1 n110_0_1 c110_0_1) fun w114 =>
  stW w114 ((⟨B111, 0, Option.none⟩ : Addr).add 2) (.int .i64 x110_0_2) fun w115 =>
  stW w115 ((⟨B111, 0, Option.none⟩ : Addr).add 3) (.bool b110_0_3) fun w116 =>
  ldS w116 (⟨B111, 0, Option.none⟩ : Addr) fun A117 n117 c117 =>
  ldS w116 ((⟨B111, 0, Option.none⟩ : Addr).add 1) fun A118 n118 c118 =>
  ldI w116 ((⟨B111, 0, Option.none⟩ : Addr).add 2) .i64 fun x119 =>
  ldB w116 ((⟨B111, 0, Option.none⟩ : Addr).add 3) fun b120 =>
  stW w116 (⟨B5, 0, Option.none⟩ : Addr) (.slice A117 n117 c117) fun w121 =>
  stW w121 ((⟨B5, 0, Option.none⟩ : Addr).add 1) (.slice A118 n118 c118) fun w122 =>
  stW w122 ((⟨B5, 0, Option.none⟩ : Addr).add 2) (.int .i64 x119) fun w123 =>
  stW w123 ((⟨B5, 0, Option.none⟩ : Addr).add 3) (.bool b120) fun w124 =>
  ldS w124 (⟨B5, 0, Option.none⟩ : Addr) fun A125 n125 c125 =>
  ldS w124 ((⟨B5, 0, Option.none⟩ : Addr).add 1) fun A126 n126 c126 =>
  ldI w124 ((⟨B5, 0, Option.none⟩ : Addr).add 2) .i64 fun x127 =>
  ldB w124 ((⟨B5, 0, Option.none⟩ : Addr).add 3) fun b128 =>
  Q (.returned (.tuple #[.agg #[.slice A125 n125 c125, .slice A126 n126 c126, .int .i64 x127, .bool b128], .bool (x103 == x110_1)])) w124))) (
  sel (x7 == (4 : Int)) (
  ldS w6 ((⟨B3, 0, Option.none⟩ : Addr).add 3) fun A129 n129 c129 =>
  Calls Try.prog 21 #[.pointer pa0, .slice A129 n129 c129] w6 fun e130 w131 => e130 = .returned (.tuple #[]) ∧ (
  ldS w131 (⟨B1, 0, Option.none⟩ : Addr) fun A132 n132 c132 =>
  ldS w131 ((⟨B1, 0, Option.none⟩ : Addr).add 1) fun A133 n133 c133 =>
  ldI w131 ((⟨B1, 0, Option.none⟩ : Addr).add 2) .i64 fun x134 =>
  ldB w131 ((⟨B1, 0, Option.none⟩ : Addr).add 3) fun b135 =>
  ldS w131 ((⟨B3, 0, Option.none⟩ : Addr).add 3) fun A136 n136 c136 =>
  Calls Try.prog 49 #[.agg #[.slice A132 n132 c132, .slice A133 n133 c133, .int .i64 x134, .bool b135], .slice A136 n136 c136] w131 fun e137 w138 => ∃ (A139_0 : Option Addr) (n139_0 : Nat) (c139_0 : Nat) (A139_1 : Option Addr) (n139_1 : Nat) (c139_1 : Nat) (x139_2 : Int) (b139_3 : Bool), e137 = .returned (.agg #[.slice A139_0 n139_0 c139_0, .slice A139_1 n139_1 c139_1, .int .i64 x139_2, .bool b139_3]) ∧ (
  stW w138 (⟨B5, 0, Option.none⟩ : Addr) (.slice A139_0 n139_0 c139_0) fun w140 =>
  stW w140 ((⟨B5, 0, Option.none⟩ : Addr).add 1) (.slice A139_1 n139_1 c139_1) fun w141 =>
  stW w141 ((⟨B5, 0, Option.none⟩ : Addr).add 2) (.int .i64 x139_2) fun w142 =>
  stW w142 ((⟨B5, 0, Option.none⟩ : Addr).add 3) (.bool b139_3) fun w143 =>
  ldS w143 (⟨B5, 0, Option.none⟩ : Addr) fun A144 n144 c144 =>
  ldS w143 ((⟨B5, 0, Option.none⟩ : Addr).add 1) fun A145 n145 c145 =>
  ldI w143 ((⟨B5, 0, Option.none⟩ : Addr).add 2) .i64 fun x146 =>
  ldB w143 ((⟨B5, 0, Option.none⟩ : Addr).add 3) fun b147 =>
  Q (.returned (.tuple #[.agg #[.slice A144 n144 c144, .slice A145 n145 c145, .int .i64 x146, .bool b147], .bool true])) w143))) (
  sel (x7 == (5 : Int)) (
  alW w6 (.cells #[] 63) fun B148 w149 =>
  ldS w149 ((⟨B3, 0, Option.none⟩ : Addr).add 4) fun A150 n150 c150 =>
  Runs Try.prog (Builtin.append_ #[26, 26] 26 #[.slice (some (⟨B148, 0, Option.none⟩ : Addr)) 0 0, .slice A150 n150 c150]) w149 fun v152 w151 => ∃ (A153 : Option Addr) (n153 : Nat) (c153 : Nat), v152 = (.slice A153 n153 c153) ∧ (
  Calls Try.prog 24 #[.pointer pa0, .slice A153 n153 c153] w151 fun e154 w155 => e154 = .returned (.tuple #[]) ∧ (
  ∃ k173 : Nat, l0 k173 A153 n153 c153 (n153 : Int) (0 : Int) w155 (fun (w158 : World) => ∀ _ : Fr,
  ldS w158 ((⟨B3, 0, Option.none⟩ : Addr).add 4) fun A159 n159 c159 =>
  stW w158 ((⟨B1, 0, Option.none⟩ : Addr).add 1) (.slice A159 n159 c159) fun w160 =>
  ldS w160 (⟨B1, 0, Option.none⟩ : Addr) fun A161 n161 c161 =>
  ldS w160 ((⟨B1, 0, Option.none⟩ : Addr).add 1) fun A162 n162 c162 =>
  ldI w160 ((⟨B1, 0, Option.none⟩ : Addr).add 2) .i64 fun x163 =>
  ldB w160 ((⟨B1, 0, Option.none⟩ : Addr).add 3) fun b164 =>
  stW w160 (⟨B5, 0, Option.none⟩ : Addr) (.slice A161 n161 c161) fun w165 =>
  stW w165 ((⟨B5, 0, Option.none⟩ : Addr).add 1) (.slice A162 n162 c162) fun w166 =>
  stW w166 ((⟨B5, 0, Option.none⟩ : Addr).add 2) (.int .i64 x163) fun w167 =>
  stW w167 ((⟨B5, 0, Option.none⟩ : Addr).add 3) (.bool b164) fun w168 =>
  ldS w168 (⟨B5, 0, Option.none⟩ : Addr) fun A169 n169 c169 =>
  ldS w168 ((⟨B5, 0, Option.none⟩ : Addr).add 1) fun A170 n170 c170 =>
  ldI w168 ((⟨B5, 0, Option.none⟩ : Addr).add 2) .i64 fun x171 =>
  ldB w168 ((⟨B5, 0, Option.none⟩ : Addr).add 3) fun b172 =>
  Q (.returned (.tuple #[.agg #[.slice A169 n169 c169, .slice A170 n170 c170, .int .i64 x171, .bool b172], .bool true])) w168)))) (
  ldS w6 (⟨B1, 0, Option.none⟩ : Addr) fun A174 n174 c174 =>
  ldS w6 ((⟨B1, 0, Option.none⟩ : Addr).add 1) fun A175 n175 c175 =>
  ldI w6 ((⟨B1, 0, Option.none⟩ : Addr).add 2) .i64 fun x176 =>
  ldB w6 ((⟨B1, 0, Option.none⟩ : Addr).add 3) fun b177 =>
  stW w6 (⟨B5, 0, Option.none⟩ : Addr) (.slice A174 n174 c174) fun w178 =>
  stW w178 ((⟨B5, 0, Option.none⟩ : Addr).add 1) (.slice A175 n175 c175) fun w179 =>
  stW w179 ((⟨B5, 0, Option.none⟩ : Addr).add 2) (.int .i64 x176) fun w180 =>
  stW w180 ((⟨B5, 0, Option.none⟩ : Addr).add 3) (.bool b177) fun w181 =>
  ldS w181 (⟨B5, 0, Option.none⟩ : Addr) fun A182 n182 c182 =>
  ldS w181 ((⟨B5, 0, Option.none⟩ : Addr).add 1) fun A183 n183 c183 =>
  ldI w181 ((⟨B5, 0, Option.none⟩ : Addr).add 2) .i64 fun x184 =>
  ldB w181 ((⟨B5, 0, Option.none⟩ : Addr).add 3) fun b185 =>
  Q (.returned (.tuple #[.agg #[.slice A182 n182 c182, .slice A183 n183 c183, .int .i64 x184, .bool b185], .bool true])) w181)))))
def D : Nat → Option DH := dtab [(6, .held [.fst 0, .fst 1, .fst 2, .fst 3, .fst 4, .fst 5, .fst 6, .fst 7, .eff 8, .fst 9, .eff 10] [.fst 11]), (9, .simple [.fst 0, .fst 1, .fst 2, .fst 3, .fst 4, .fst 5, .fst 6, .fst 7] [.eff 8, .fst 9])]
def l0LO : LO := ⟨[], [], [(1, [4, 5, 6])], []⟩
def l0Tk (k : Nat) : Spec := fun Q σ w =>
  gSlice (σ 22) fun At22 nt22 ct22 =>
  gInt .i64 (σ 129) fun xt129 =>
  gInt .i64 (σ 130) fun xt130 =>
  l0 k At22 nt22 ct22 xt129 xt130 w (fun (w : World) => ∀ d : Fr, Q (.exit 1) (ov d [(4, σ 4), (5, σ 5), (6, σ 6)]) w)
def l0T : Spec := fun Q σ w => ∃ k, l0Tk k Q σ w
def l0tb : List (List Nat × Spec) := []
noncomputable def l0b : Code := (subC [0, 0, 1, 0, 1, 1, 1, 0, 1, 1, 1, 1, 1, 1, 1, 1, 1, 0, 1, 0, 1] body).getD .skip
theorem l0_eq (k : Nat) (At22 : Option Addr) (nt22 : Nat) (ct22 : Nat) (xt129 : Int) (xt130 : Int) (Q : PQ) (σ : Fr) (w : World) :
    l0 (k + 1) At22 nt22 ct22 xt129 xt130 w (fun (w : World) => ∀ d : Fr, Q (.exit 1) (ov d [(4, σ 4), (5, σ 5), (6, σ 6)]) w) = codeW Try.prog hT 142 D (tab l0tb) [0, 0, 1, 0, 1, 1, 1, 0, 1, 1, 1, 1, 1, 1, 1, 1, 1, 0, 1, 0, 1] l0b (thenQ (l0Tk k Q) (widen l0LO Q)) (ov σ [(22, .slice At22 nt22 ct22), (129, .int .i64 xt129), (130, .int .i64 xt130)]) w := by kernel_rfl
theorem l0_snd : ∀ c, subC [0, 1, 0, 1, 1, 1, 0, 1, 1, 1, 1, 1, 1, 1, 1, 1, 0, 1, 0, 1] body = some c → Snd Try.prog 142 c l0T := by
  refine loop_of (hT := hT) (D := D) (l := l0tb) (b := l0b) (lo := l0LO) (by kernel_rfl) (by
    intro x hx
    simp only [l0tb, List.not_mem_nil] at hx
    ) (by kernel_rfl) (by kernel_rfl) ?_ ?_
  · intro Q σ w h
    unfold l0Tk at h
    obtain ⟨At22, nt22, ct22, h22, hn⟩ := gSlice_elim h
    clear h
    have h := hn
    clear hn
    obtain ⟨xt129, h129, hn⟩ := gInt_elim h
    clear h
    have h := hn
    clear hn
    obtain ⟨xt130, h130, hn⟩ := gInt_elim h
    clear h
    have h := hn
    clear hn
    exact h
  · intro k Q σ w h
    unfold l0Tk at h
    obtain ⟨At22, nt22, ct22, h22, hn⟩ := gSlice_elim h
    clear h
    have h := hn
    clear hn
    obtain ⟨xt129, h129, hn⟩ := gInt_elim h
    clear h
    have h := hn
    clear hn
    obtain ⟨xt130, h130, hn⟩ := gInt_elim h
    clear h
    have h := hn
    clear hn
    rw [l0_eq (σ := σ)] at h
    have e : (ov σ [(22, .slice At22 nt22 ct22), (129, .int .i64 xt129), (130, .int .i64 xt130)]) = σ := ov_self (by simp [h22, h129, h130])
    rw [e] at h
    exact h
def tb : List (List Nat × Spec) := [([0, 1, 0, 1, 1, 1, 0, 1, 1, 1, 1, 1, 1, 1, 1, 1, 0, 1, 0, 1], l0T)]
theorem wp_eq (pa0 : Option Addr) (Aa1_0 : Option Addr) (na1_0 : Nat) (ca1_0 : Nat) (Aa1_1 : Option Addr) (na1_1 : Nat) (ca1_1 : Nat) (xa1_2 : Int) (ba1_3 : Bool) (xa2_0 : Int) (xa2_1 : Int) (Aa2_2 : Option Addr) (na2_2 : Nat) (ca2_2 : Nat) (Aa2_3 : Option Addr) (na2_3 : Nat) (ca2_3 : Nat) (Aa2_4 : Option Addr) (na2_4 : Nat) (ca2_4 : Nat) (w : World) (Q : Ending → World → Prop) :
    wp pa0 Aa1_0 na1_0 ca1_0 Aa1_1 na1_1 ca1_1 xa1_2 ba1_3 xa2_0 xa2_1 Aa2_2 na2_2 ca2_2 Aa2_3 na2_3 ca2_3 Aa2_4 na2_4 ca2_4 w Q = codeW Try.prog hT 142 D (tab tb) [] body (topQ Try.prog hT 142 [.cell 6 28, .tmp 7] Q) (argsF [.pointer pa0, .agg #[.slice Aa1_0 na1_0 ca1_0, .slice Aa1_1 na1_1 ca1_1, .int .i64 xa1_2, .bool ba1_3], .agg #[.int .i64 xa2_0, .int .i64 xa2_1, .slice Aa2_2 na2_2 ca2_2, .slice Aa2_3 na2_3 ca2_3, .slice Aa2_4 na2_4 ca2_4]]) w := by cases ba1_3 <;> kernel_rfl
theorem ok (pa0 : Option Addr) (Aa1_0 : Option Addr) (na1_0 : Nat) (ca1_0 : Nat) (Aa1_1 : Option Addr) (na1_1 : Nat) (ca1_1 : Nat) (xa1_2 : Int) (ba1_3 : Bool) (xa2_0 : Int) (xa2_1 : Int) (Aa2_2 : Option Addr) (na2_2 : Nat) (ca2_2 : Nat) (Aa2_3 : Option Addr) (na2_3 : Nat) (ca2_3 : Nat) (Aa2_4 : Option Addr) (na2_4 : Nat) (ca2_4 : Nat) (w : World) (Q : Ending → World → Prop) (h : wp pa0 Aa1_0 na1_0 ca1_0 Aa1_1 na1_1 ca1_1 xa1_2 ba1_3 xa2_0 xa2_1 Aa2_2 na2_2 ca2_2 Aa2_3 na2_3 ca2_3 Aa2_4 na2_4 ca2_4 w Q) : Calls Try.prog 33 #[.pointer pa0, .agg #[.slice Aa1_0 na1_0 ca1_0, .slice Aa1_1 na1_1 ca1_1, .int .i64 xa1_2, .bool ba1_3], .agg #[.int .i64 xa2_0, .int .i64 xa2_1, .slice Aa2_2 na2_2 ca2_2, .slice Aa2_3 na2_3 ca2_3, .slice Aa2_4 na2_4 ca2_4]] w Q := by
  rw [wp_eq] at h
  exact calls_of_codeW (c := body) (rs := [.cell 6 28, .tmp 7]) Try.func33 (by kernel_rfl) (by kernel_rfl) (by kernel_rfl) (by kernel_rfl) (by kernel_rfl) (tab_snd (by
    intro x hx
    simp only [tb, List.mem_cons, List.not_mem_nil, or_false] at hx
    subst hx
    exact l0_snd)) (by kernel_rfl) h
end f_law07_asks
namespace f_law07_stands
/-! skein/skeinlaw07.stands: function 34 -/
noncomputable def body : Code := (Try.f34.body).getD .skip
def wp (pa0 : Option Addr) (Aa1_0 : Option Addr) (na1_0 : Nat) (ca1_0 : Nat) (Aa1_1 : Option Addr) (na1_1 : Nat) (ca1_1 : Nat) (xa1_2 : Int) (ba1_3 : Bool) (w : World) (Q : Ending → World → Prop) : Prop :=
  alW w (.cells #[.slice Aa1_0 na1_0 ca1_0, .slice Aa1_1 na1_1 ca1_1, .int .i64 xa1_2, .bool ba1_3] 28) fun B1 w2 =>
  drW w2 fun w3 =>
  ∃ S4 : World → Prop, S4 w3 ∧ (
  hdB S4 ((⟨B1, 0, Option.none⟩ : Addr).add 3) fun b5 =>
  Calls Try.prog 15 #[.pointer pa0] w3 fun e6 w7 => ∃ (b8 : Bool), e6 = .returned (.bool b8) ∧ (
  S4 w7 ∧ (
  sel (b8 == (!b5)) (
  hdI S4 ((⟨B1, 0, Option.none⟩ : Addr).add 2) .i64 fun x9 =>
  Calls Try.prog 14 #[.pointer pa0] w7 fun e10 w11 => ∃ (x12 : Int), e10 = .returned (.int .i64 x12) ∧ (
  S4 w11 ∧ (
  sel (x12 == x9) (
  hdS S4 (⟨B1, 0, Option.none⟩ : Addr) fun A13 n13 c13 =>
  Calls Try.prog 12 #[.pointer pa0] w11 fun e14 w15 => ∃ (x16 : Int), e14 = .returned (.int .i64 x16) ∧ (
  S4 w15 ∧ (
  sel (x16 == (n13 : Int)) (
  hdS S4 (⟨B1, 0, Option.none⟩ : Addr) fun A17 n17 c17 =>
  hdS S4 ((⟨B1, 0, Option.none⟩ : Addr).add 1) fun A18 n18 c18 =>
  hdI S4 ((⟨B1, 0, Option.none⟩ : Addr).add 2) .i64 fun x19 =>
  hdB S4 ((⟨B1, 0, Option.none⟩ : Addr).add 3) fun b20 =>
  Calls Try.prog 13 #[.pointer pa0] w15 fun e21 w22 => ∃ (A23 : Option Addr) (n23 : Nat) (c23 : Nat), e21 = .returned (.slice A23 n23 c23) ∧ (
  S4 w22 ∧ (
  Calls Try.prog 50 #[.agg #[.slice A17 n17 c17, .slice A18 n18 c18, .int .i64 x19, .bool b20]] w22 fun e24 w25 => ∃ (A26 : Option Addr) (n26 : Nat) (c26 : Nat), e24 = .returned (.slice A26 n26 c26) ∧ (
  S4 w25 ∧ (
  Calls Try.prog 28 #[.slice A23 n23 c23, .slice A26 n26 c26] w25 fun e27 w28 => ∃ (b29 : Bool), e27 = .returned (.bool b29) ∧ (
  S4 w28 ∧ (
  sel b29 (
  hdS S4 (⟨B1, 0, Option.none⟩ : Addr) fun A30 n30 c30 =>
  hdS S4 ((⟨B1, 0, Option.none⟩ : Addr).add 1) fun A31 n31 c31 =>
  hdI S4 ((⟨B1, 0, Option.none⟩ : Addr).add 2) .i64 fun x32 =>
  hdB S4 ((⟨B1, 0, Option.none⟩ : Addr).add 3) fun b33 =>
  Calls Try.prog 26 #[.pointer pa0] w28 fun e34 w35 => ∃ (A36 : Option Addr) (n36 : Nat) (c36 : Nat), e34 = .returned (.slice A36 n36 c36) ∧ (
  S4 w35 ∧ (
  Calls Try.prog 51 #[.agg #[.slice A30 n30 c30, .slice A31 n31 c31, .int .i64 x32, .bool b33]] w35 fun e37 w38 => ∃ (A39 : Option Addr) (n39 : Nat) (c39 : Nat), e37 = .returned (.slice A39 n39 c39) ∧ (
  S4 w38 ∧ (
  Calls Try.prog 22 #[.slice A36 n36 c36, .slice A39 n39 c39] w38 fun e40 w41 => ∃ (b42 : Bool), e40 = .returned (.bool b42) ∧ (
  S4 w41 ∧ (
  sel b42 (
  hdS S4 (⟨B1, 0, Option.none⟩ : Addr) fun A43 n43 c43 =>
  hdS S4 ((⟨B1, 0, Option.none⟩ : Addr).add 1) fun A44 n44 c44 =>
  hdI S4 ((⟨B1, 0, Option.none⟩ : Addr).add 2) .i64 fun x45 =>
  hdB S4 ((⟨B1, 0, Option.none⟩ : Addr).add 3) fun b46 =>
  Calls Try.prog 27 #[.pointer pa0] w41 fun e47 w48 => ∃ (A49 : Option Addr) (n49 : Nat) (c49 : Nat), e47 = .returned (.slice A49 n49 c49) ∧ (
  S4 w48 ∧ (
  Calls Try.prog 52 #[.agg #[.slice A43 n43 c43, .slice A44 n44 c44, .int .i64 x45, .bool b46]] w48 fun e50 w51 => ∃ (A52 : Option Addr) (n52 : Nat) (c52 : Nat), e50 = .returned (.slice A52 n52 c52) ∧ (
  Calls Try.prog 22 #[.slice A49 n49 c49, .slice A52 n52 c52] w51 fun e53 w54 => ∃ (b55 : Bool), e53 = .returned (.bool b55) ∧ (
  Q (.returned (.bool b55)) w54))))) (
  S4 w41 ∧ (
  Q (.returned (.bool false)) w41))))))))) (
  S4 w28 ∧ (
  S4 w28 ∧ (
  S4 w28 ∧ (
  S4 w28 ∧ (
  Q (.returned (.bool false)) w28)))))))))))) (
  S4 w15 ∧ (
  S4 w15 ∧ (
  S4 w15 ∧ (
  S4 w15 ∧ (
  S4 w15 ∧ (
  S4 w15 ∧ (
  S4 w15 ∧ (
  Q (.returned (.bool false)) w15))))))))))) (
  S4 w11 ∧ (
  S4 w11 ∧ (
  S4 w11 ∧ (
  S4 w11 ∧ (
  S4 w11 ∧ (
  S4 w11 ∧ (
  S4 w11 ∧ (
  S4 w11 ∧ (
  Q (.returned (.bool false)) w11)))))))))))) (
  S4 w7 ∧ (
  S4 w7 ∧ (
  S4 w7 ∧ (
  S4 w7 ∧ (
  S4 w7 ∧ (
  S4 w7 ∧ (
  S4 w7 ∧ (
  S4 w7 ∧ (
  S4 w7 ∧ (
  Q (.returned (.bool false)) w7)))))))))))))
def D : Nat → Option DH := dtab [(1, .held [.fst 0, .fst 2, .fst 3, .fst 4, .eff 1, .fst 5, .fst 6, .fst 7, .fst 9, .fst 10, .eff 8, .fst 11, .fst 12, .fst 13, .fst 14, .fst 16, .fst 17, .fst 18, .eff 15, .fst 19, .fst 20, .fst 21, .fst 22, .fst 24, .eff 23, .eff 25, .eff 26, .fst 27, .fst 28, .fst 29, .fst 31, .eff 30, .eff 32, .eff 33, .fst 34, .fst 35, .fst 36, .fst 38, .eff 37] [.eff 39, .eff 40, .fst 41, .fst 42])]
def tb : List (List Nat × Spec) := []
theorem wp_eq (pa0 : Option Addr) (Aa1_0 : Option Addr) (na1_0 : Nat) (ca1_0 : Nat) (Aa1_1 : Option Addr) (na1_1 : Nat) (ca1_1 : Nat) (xa1_2 : Int) (ba1_3 : Bool) (w : World) (Q : Ending → World → Prop) :
    wp pa0 Aa1_0 na1_0 ca1_0 Aa1_1 na1_1 ca1_1 xa1_2 ba1_3 w Q = codeW Try.prog hT 47 D (tab tb) [] body (topQ Try.prog hT 47 [.tmp 4] Q) (argsF [.pointer pa0, .agg #[.slice Aa1_0 na1_0 ca1_0, .slice Aa1_1 na1_1 ca1_1, .int .i64 xa1_2, .bool ba1_3]]) w := by cases ba1_3 <;> kernel_rfl
theorem ok (pa0 : Option Addr) (Aa1_0 : Option Addr) (na1_0 : Nat) (ca1_0 : Nat) (Aa1_1 : Option Addr) (na1_1 : Nat) (ca1_1 : Nat) (xa1_2 : Int) (ba1_3 : Bool) (w : World) (Q : Ending → World → Prop) (h : wp pa0 Aa1_0 na1_0 ca1_0 Aa1_1 na1_1 ca1_1 xa1_2 ba1_3 w Q) : Calls Try.prog 34 #[.pointer pa0, .agg #[.slice Aa1_0 na1_0 ca1_0, .slice Aa1_1 na1_1 ca1_1, .int .i64 xa1_2, .bool ba1_3]] w Q := by
  rw [wp_eq] at h
  exact calls_of_codeW (c := body) (rs := [.tmp 4]) Try.func34 (by kernel_rfl) (by kernel_rfl) (by kernel_rfl) (by kernel_rfl) (by kernel_rfl) (tab_snd (by
    intro x hx
    simp only [tb, List.not_mem_nil] at hx
    )) (by kernel_rfl) h
end f_law07_stands
namespace f_disk_sector_Keys
/-! maps.Keys[map[int]skein/disk.sector,int,skein/disk.sector]: function 38 -/
noncomputable def body : Code := (Try.f38.body).getD .skip
def wp (ma0 : Option Nat) (w : World) (Q : Ending → World → Prop) : Prop :=
  alW w (.cells #[.map ma0] 66) fun B1 w2 =>
  Q (.returned (.func (.func 55) #[] #[.pointer (some (⟨B1, 0, Option.none⟩ : Addr))])) w2
def D : Nat → Option DH := dtab []
def tb : List (List Nat × Spec) := []
theorem wp_eq (ma0 : Option Nat) (w : World) (Q : Ending → World → Prop) :
    wp ma0 w Q = codeW Try.prog hT 4 D (tab tb) [] body (topQ Try.prog hT 4 [.tmp 2] Q) (argsF [.map ma0]) w := by kernel_rfl
theorem ok (ma0 : Option Nat) (w : World) (Q : Ending → World → Prop) (h : wp ma0 w Q) : Calls Try.prog 38 #[.map ma0] w Q := by
  rw [wp_eq] at h
  exact calls_of_codeW (c := body) (rs := [.tmp 2]) Try.func38 (by kernel_rfl) (by kernel_rfl) (by kernel_rfl) (by kernel_rfl) (by kernel_rfl) (tab_snd (by
    intro x hx
    simp only [tb, List.not_mem_nil] at hx
    )) (by kernel_rfl) h
end f_disk_sector_Keys
end Go.Proofs.Ythekjlglnmhlaaa.Rd
