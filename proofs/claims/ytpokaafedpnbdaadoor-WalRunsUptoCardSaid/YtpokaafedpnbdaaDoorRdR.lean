/- The printed readings of some functions: each function's code reckoned by the kernel to its predicate transformer. -/
import Derived.Test.YtpokaafedpnbdaaDoorHint
namespace Go.Proofs.YtpokaafedpnbdaaDoor.Rd
open Go.Dn
set_option maxRecDepth 100000
set_option linter.unusedVariables false
namespace f_law09_asks
/-! skein/skeinlaw09.asks: function 29 -/
noncomputable def body : Code := (Tryd.f29.body).getD .skip
def l0 : Nat → Addr → Addr → Int → World → (Int → World → Prop) → Prop
  | 0, _, _, _, _, _ => False
  | k + 1, at5, at7, xt30, w, K1 =>
    drW w fun w398 =>
    ldS w398 (at5.add 6) fun A400 n400 c400 =>
    sel (decide (xt30 < (n400 : Int))) (
    ldS w398 (at5.add 6) fun A401 n401 c401 =>
    optB A401 fun a402 =>
    req (decide (0 ≤ xt30 ∧ xt30 < (n401 : Int))) <|
    ldI w398 (a402.add (xt30.toNat * 3)) .i64 fun x403 =>
    ldI w398 (at7.add 2) .i64 fun x404 =>
    sel (decide (x403 < x404)) (
    l0 k at5 at7 (IntKind.i64.wrap (xt30 + (1 : Int))) w398 K1) (
    K1 xt30 w398)) (
    K1 xt30 w398)
def wp (pa0 : Option Addr) (xa1_0 : Int) (xa1_1 : Int) (xa1_2 : Int) (xa1_3 : Int) (Aa1_4 : Option Addr) (na1_4 : Nat) (ca1_4 : Nat) (xa1_5 : Int) (Aa1_6 : Option Addr) (na1_6 : Nat) (ca1_6 : Nat) (ba1_7 : Bool) (ba1_8 : Bool) (Aa2_0 : Option Addr) (na2_0 : Nat) (ca2_0 : Nat) (Aa2_1 : Option Addr) (na2_1 : Nat) (ca2_1 : Nat) (xa2_2 : Int) (ba2_3 : Bool) (xa3_0 : Int) (xa3_1 : Int) (xa3_2 : Int) (Aa3_3 : Option Addr) (na3_3 : Nat) (ca3_3 : Nat) (Aa3_4 : Option Addr) (na3_4 : Nat) (ca3_4 : Nat) (Aa3_5 : Option Addr) (na3_5 : Nat) (ca3_5 : Nat) (w : World) (Q : Ending → World → Prop) : Prop :=
  alW w (.cells #[.int .i64 xa1_0, .int .i64 xa1_1, .int .i64 xa1_2, .int .i64 xa1_3, .slice Aa1_4 na1_4 ca1_4, .int .i64 xa1_5, .slice Aa1_6 na1_6 ca1_6, .bool ba1_7, .bool ba1_8] 65) fun B1 w2 =>
  alW w2 (.cells #[.slice Aa2_0 na2_0 ca2_0, .slice Aa2_1 na2_1 ca2_1, .int .i64 xa2_2, .bool ba2_3] 68) fun B3 w4 =>
  alW w4 (.cells #[.int .i64 xa3_0, .int .i64 xa3_1, .int .i64 xa3_2, .slice Aa3_3 na3_3 ca3_3, .slice Aa3_4 na3_4 ca3_4, .slice Aa3_5 na3_5 ca3_5] 33) fun B5 w6 =>
  alW w6 (.cells #[.int .i64 (0 : Int), .int .i64 (0 : Int), .int .i64 (0 : Int), .int .i64 (0 : Int), .slice none 0 0, .int .i64 (0 : Int), .slice none 0 0, .bool false, .bool false] 65) fun B7 w8 =>
  alW w8 (.cells #[.slice none 0 0, .slice none 0 0, .int .i64 (0 : Int), .bool false] 68) fun B9 w10 =>
  ldI w10 (⟨B5, 0, Option.none⟩ : Addr) .i64 fun x11 =>
  sel (x11 == (1 : Int)) (
  ldS w10 ((⟨B5, 0, Option.none⟩ : Addr).add 3) fun A12 n12 c12 =>
  Calls Tryd.prog 52 #[.slice A12 n12 c12] w10 fun e13 w14 => ∃ (A15 : Option Addr) (n15 : Nat) (c15 : Nat), e13 = .returned (.slice A15 n15 c15) ∧ (
  drW w14 fun w16 =>
  ldI w16 ((⟨B5, 0, Option.none⟩ : Addr).add 1) .i64 fun x18 =>
  ldS w16 ((⟨B5, 0, Option.none⟩ : Addr).add 3) fun A19 n19 c19 =>
  req (decide (0 ≤ (n19 : Int) ∧ (n19 : Int) ≤ (c15 : Int))) <|
  Calls Tryd.prog 10 #[.pointer pa0, .int .i64 x18, .slice (slA A15 0 c15 1) ((n19 : Int).toNat - 0) (c15 - 0)] w16 fun e20 w21 => ∃ (x22_0 : Int) (x22_1 : Int), e20 = .returned (.tuple #[.int .i64 x22_0, .int .i64 x22_1]) ∧ (
  ldS w21 ((⟨B5, 0, Option.none⟩ : Addr).add 3) fun A23 n23 c23 =>
  Calls Tryd.prog 53 #[.slice A15 n15 c15, .slice A23 n23 c23] w21 fun e24 w25 => ∃ (b26 : Bool), e24 = .returned (.bool b26) ∧ (
  Calls Tryd.prog 54 #[.slice A15 n15 c15] w25 fun e27 w28 => e27 = .returned (.tuple #[]) ∧ (
  ldI w28 (⟨B1, 0, Option.none⟩ : Addr) .i64 fun x29 =>
  ldI w28 ((⟨B1, 0, Option.none⟩ : Addr).add 1) .i64 fun x30 =>
  ldI w28 ((⟨B1, 0, Option.none⟩ : Addr).add 2) .i64 fun x31 =>
  ldI w28 ((⟨B1, 0, Option.none⟩ : Addr).add 3) .i64 fun x32 =>
  ldS w28 ((⟨B1, 0, Option.none⟩ : Addr).add 4) fun A33 n33 c33 =>
  ldI w28 ((⟨B1, 0, Option.none⟩ : Addr).add 5) .i64 fun x34 =>
  ldS w28 ((⟨B1, 0, Option.none⟩ : Addr).add 6) fun A35 n35 c35 =>
  ldB w28 ((⟨B1, 0, Option.none⟩ : Addr).add 7) fun b36 =>
  ldB w28 ((⟨B1, 0, Option.none⟩ : Addr).add 8) fun b37 =>
  ldI w28 ((⟨B5, 0, Option.none⟩ : Addr).add 1) .i64 fun x38 =>
  ldS w28 ((⟨B5, 0, Option.none⟩ : Addr).add 3) fun A39 n39 c39 =>
  Calls Tryd.prog 55 #[.agg #[.int .i64 x29, .int .i64 x30, .int .i64 x31, .int .i64 x32, .slice A33 n33 c33, .int .i64 x34, .slice A35 n35 c35, .bool b36, .bool b37], .int .i64 x38, .slice A39 n39 c39] w28 fun e40 w41 => ∃ (x42_0_0 : Int) (x42_0_1 : Int) (x42_0_2 : Int) (x42_0_3 : Int) (A42_0_4 : Option Addr) (n42_0_4 : Nat) (c42_0_4 : Nat) (x42_0_5 : Int) (A42_0_6 : Option Addr) (n42_0_6 : Nat) (c42_0_6 : Nat) (b42_0_7 : Bool) (b42_0_8 : Bool) (x42_1 : Int) (x42_2 : Int), e40 = .returned (.tuple #[.agg #[.int .i64 x42_0_0, .int .i64 x42_0_1, .int .i64 x42_0_2, .int .i64 x42_0_3, .slice A42_0_4 n42_0_4 c42_0_4, .int .i64 x42_0_5, .slice A42_0_6 n42_0_6 c42_0_6, .bool b42_0_7, .bool b42_0_8], .int .i64 x42_1, .int .i64 x42_2]) ∧ (
  alW w41 (.cells #[.int .i64 (0 : Int), .int .i64 (0 : Int), .int .i64 (0 : Int), .int .i64 (0 : Int), .slice none 0 0, .int .i64 (0 : Int), .slice none 0 0, .bool false, .bool false] 65) fun B43 w44 =>
  stW w44 (⟨B43, 0, Option.none⟩ : Addr) (.int .i64 x42_0_0) fun w45 =>
  stW w45 ((⟨B43, 0, Option.none⟩ : Addr).add 1) (.int .i64 x42_0_1) fun w46 =>
  stW w46 ((⟨B43, 0, Option.none⟩ : Addr).add 2) (.int .i64 x42_0_2) fun w47 =>
  stW w47 ((⟨B43, 0, Option.none⟩ : Addr).add 3) (.int .i64 x42_0_3) fun w48 =>
  stW w48 ((⟨B43, 0, Option.none⟩ : Addr).add 4) (.slice A42_0_4 n42_0_4 c42_0_4) fun w49 =>
  stW w49 ((⟨B43, 0, Option.none⟩ : Addr).add 5) (.int .i64 x42_0_5) fun w50 =>
  stW w50 ((⟨B43, 0, Option.none⟩ : Addr).add 6) (.slice A42_0_6 n42_0_6 c42_0_6) fun w51 =>
  stW w51 ((⟨B43, 0, Option.none⟩ : Addr).add 7) (.bool b42_0_7) fun w52 =>
  stW w52 ((⟨B43, 0, Option.none⟩ : Addr).add 8) (.bool b42_0_8) fun w53 =>
  drW w53 fun w54 =>
  ∃ S55 : World → Prop, S55 w54 ∧ (
  hdI S55 (⟨B43, 0, Option.none⟩ : Addr) .i64 fun x56 =>
  hdI S55 ((⟨B43, 0, Option.none⟩ : Addr).add 1) .i64 fun x57 =>
  hdI S55 ((⟨B43, 0, Option.none⟩ : Addr).add 2) .i64 fun x58 =>
  hdI S55 ((⟨B43, 0, Option.none⟩ : Addr).add 3) .i64 fun x59 =>
  hdS S55 ((⟨B43, 0, Option.none⟩ : Addr).add 4) fun A60 n60 c60 =>
  hdI S55 ((⟨B43, 0, Option.none⟩ : Addr).add 5) .i64 fun x61 =>
  hdS S55 ((⟨B43, 0, Option.none⟩ : Addr).add 6) fun A62 n62 c62 =>
  hdB S55 ((⟨B43, 0, Option.none⟩ : Addr).add 7) fun b63 =>
  hdB S55 ((⟨B43, 0, Option.none⟩ : Addr).add 8) fun b64 =>
  hdS S55 (⟨B3, 0, Option.none⟩ : Addr) fun A65 n65 c65 =>
  hdS S55 ((⟨B3, 0, Option.none⟩ : Addr).add 1) fun A66 n66 c66 =>
  hdI S55 ((⟨B3, 0, Option.none⟩ : Addr).add 2) .i64 fun x67 =>
  hdB S55 ((⟨B3, 0, Option.none⟩ : Addr).add 3) fun b68 =>
  sel b26 (
  sel (x22_0 == x42_1) (
  stW w54 (⟨B7, 0, Option.none⟩ : Addr) (.int .i64 x56) fun w69 =>
  stW w69 ((⟨B7, 0, Option.none⟩ : Addr).add 1) (.int .i64 x57) fun w70 =>
  stW w70 ((⟨B7, 0, Option.none⟩ : Addr).add 2) (.int .i64 x58) fun w71 =>
  stW w71 ((⟨B7, 0, Option.none⟩ : Addr).add 3) (.int .i64 x59) fun w72 =>
  stW w72 ((⟨B7, 0, Option.none⟩ : Addr).add 4) (.slice A60 n60 c60) fun w73 =>
  stW w73 ((⟨B7, 0, Option.none⟩ : Addr).add 5) (.int .i64 x61) fun w74 =>
  stW w74 ((⟨B7, 0, Option.none⟩ : Addr).add 6) (.slice A62 n62 c62) fun w75 =>
  stW w75 ((⟨B7, 0, Option.none⟩ : Addr).add 7) (.bool b63) fun w76 =>
  stW w76 ((⟨B7, 0, Option.none⟩ : Addr).add 8) (.bool b64) fun w77 =>
  S55 w77 ∧ (
  stW w77 (⟨B9, 0, Option.none⟩ : Addr) (.slice A65 n65 c65) fun w78 =>
  stW w78 ((⟨B9, 0, Option.none⟩ : Addr).add 1) (.slice A66 n66 c66) fun w79 =>
  stW w79 ((⟨B9, 0, Option.none⟩ : Addr).add 2) (.int .i64 x67) fun w80 =>
  stW w80 ((⟨B9, 0, Option.none⟩ : Addr).add 3) (.bool b68) fun w81 =>
  S55 w81 ∧ (
  ldI w81 (⟨B7, 0, Option.none⟩ : Addr) .i64 fun x82 =>
  ldI w81 ((⟨B7, 0, Option.none⟩ : Addr).add 1) .i64 fun x83 =>
  ldI w81 ((⟨B7, 0, Option.none⟩ : Addr).add 2) .i64 fun x84 =>
  ldI w81 ((⟨B7, 0, Option.none⟩ : Addr).add 3) .i64 fun x85 =>
  ldS w81 ((⟨B7, 0, Option.none⟩ : Addr).add 4) fun A86 n86 c86 =>
  ldI w81 ((⟨B7, 0, Option.none⟩ : Addr).add 5) .i64 fun x87 =>
  ldS w81 ((⟨B7, 0, Option.none⟩ : Addr).add 6) fun A88 n88 c88 =>
  ldB w81 ((⟨B7, 0, Option.none⟩ : Addr).add 7) fun b89 =>
  ldB w81 ((⟨B7, 0, Option.none⟩ : Addr).add 8) fun b90 =>
  ldS w81 (⟨B9, 0, Option.none⟩ : Addr) fun A91 n91 c91 =>
  ldS w81 ((⟨B9, 0, Option.none⟩ : Addr).add 1) fun A92 n92 c92 =>
  ldI w81 ((⟨B9, 0, Option.none⟩ : Addr).add 2) .i64 fun x93 =>
  ldB w81 ((⟨B9, 0, Option.none⟩ : Addr).add 3) fun b94 =>
  Q (.returned (.tuple #[.agg #[.int .i64 x82, .int .i64 x83, .int .i64 x84, .int .i64 x85, .slice A86 n86 c86, .int .i64 x87, .slice A88 n88 c88, .bool b89, .bool b90], .agg #[.slice A91 n91 c91, .slice A92 n92 c92, .int .i64 x93, .bool b94], .bool (x22_1 == x42_2)])) w81))) (
  stW w54 (⟨B7, 0, Option.none⟩ : Addr) (.int .i64 x56) fun w95 =>
  stW w95 ((⟨B7, 0, Option.none⟩ : Addr).add 1) (.int .i64 x57) fun w96 =>
  stW w96 ((⟨B7, 0, Option.none⟩ : Addr).add 2) (.int .i64 x58) fun w97 =>
  stW w97 ((⟨B7, 0, Option.none⟩ : Addr).add 3) (.int .i64 x59) fun w98 =>
  stW w98 ((⟨B7, 0, Option.none⟩ : Addr).add 4) (.slice A60 n60 c60) fun w99 =>
  stW w99 ((⟨B7, 0, Option.none⟩ : Addr).add 5) (.int .i64 x61) fun w100 =>
  stW w100 ((⟨B7, 0, Option.none⟩ : Addr).add 6) (.slice A62 n62 c62) fun w101 =>
  stW w101 ((⟨B7, 0, Option.none⟩ : Addr).add 7) (.bool b63) fun w102 =>
  stW w102 ((⟨B7, 0, Option.none⟩ : Addr).add 8) (.bool b64) fun w103 =>
  S55 w103 ∧ (
  stW w103 (⟨B9, 0, Option.none⟩ : Addr) (.slice A65 n65 c65) fun w104 =>
  stW w104 ((⟨B9, 0, Option.none⟩ : Addr).add 1) (.slice A66 n66 c66) fun w105 =>
  stW w105 ((⟨B9, 0, Option.none⟩ : Addr).add 2) (.int .i64 x67) fun w106 =>
  stW w106 ((⟨B9, 0, Option.none⟩ : Addr).add 3) (.bool b68) fun w107 =>
  S55 w107 ∧ (
  ldI w107 (⟨B7, 0, Option.none⟩ : Addr) .i64 fun x108 =>
  ldI w107 ((⟨B7, 0, Option.none⟩ : Addr).add 1) .i64 fun x109 =>
  ldI w107 ((⟨B7, 0, Option.none⟩ : Addr).add 2) .i64 fun x110 =>
  ldI w107 ((⟨B7, 0, Option.none⟩ : Addr).add 3) .i64 fun x111 =>
  ldS w107 ((⟨B7, 0, Option.none⟩ : Addr).add 4) fun A112 n112 c112 =>
  ldI w107 ((⟨B7, 0, Option.none⟩ : Addr).add 5) .i64 fun x113 =>
  ldS w107 ((⟨B7, 0, Option.none⟩ : Addr).add 6) fun A114 n114 c114 =>
  ldB w107 ((⟨B7, 0, Option.none⟩ : Addr).add 7) fun b115 =>
  ldB w107 ((⟨B7, 0, Option.none⟩ : Addr).add 8) fun b116 =>
  ldS w107 (⟨B9, 0, Option.none⟩ : Addr) fun A117 n117 c117 =>
  ldS w107 ((⟨B9, 0, Option.none⟩ : Addr).add 1) fun A118 n118 c118 =>
  ldI w107 ((⟨B9, 0, Option.none⟩ : Addr).add 2) .i64 fun x119 =>
  ldB w107 ((⟨B9, 0, Option.none⟩ : Addr).add 3) fun b120 =>
  Q (.returned (.tuple #[.agg #[.int .i64 x108, .int .i64 x109, .int .i64 x110, .int .i64 x111, .slice A112 n112 c112, .int .i64 x113, .slice A114 n114 c114, .bool b115, .bool b116], .agg #[.slice A117 n117 c117, .slice A118 n118 c118, .int .i64 x119, .bool b120], .bool false])) w107)))) (
  stW w54 (⟨B7, 0, Option.none⟩ : Addr) (.int .i64 x56) fun w121 =>
  stW w121 ((⟨B7, 0, Option.none⟩ : Addr).add 1) (.int .i64 x57) fun w122 =>
  stW w122 ((⟨B7, 0, Option.none⟩ : Addr).add 2) (.int .i64 x58) fun w123 =>
  stW w123 ((⟨B7, 0, Option.none⟩ : Addr).add 3) (.int .i64 x59) fun w124 =>
  stW w124 ((⟨B7, 0, Option.none⟩ : Addr).add 4) (.slice A60 n60 c60) fun w125 =>
  stW w125 ((⟨B7, 0, Option.none⟩ : Addr).add 5) (.int .i64 x61) fun w126 =>
  stW w126 ((⟨B7, 0, Option.none⟩ : Addr).add 6) (.slice A62 n62 c62) fun w127 =>
  stW w127 ((⟨B7, 0, Option.none⟩ : Addr).add 7) (.bool b63) fun w128 =>
  stW w128 ((⟨B7, 0, Option.none⟩ : Addr).add 8) (.bool b64) fun w129 =>
  S55 w129 ∧ (
  stW w129 (⟨B9, 0, Option.none⟩ : Addr) (.slice A65 n65 c65) fun w130 =>
  stW w130 ((⟨B9, 0, Option.none⟩ : Addr).add 1) (.slice A66 n66 c66) fun w131 =>
  stW w131 ((⟨B9, 0, Option.none⟩ : Addr).add 2) (.int .i64 x67) fun w132 =>
  stW w132 ((⟨B9, 0, Option.none⟩ : Addr).add 3) (.bool b68) fun w133 =>
  S55 w133 ∧ (
  ldI w133 (⟨B7, 0, Option.none⟩ : Addr) .i64 fun x134 =>
  ldI w133 ((⟨B7, 0, Option.none⟩ : Addr).add 1) .i64 fun x135 =>
  ldI w133 ((⟨B7, 0, Option.none⟩ : Addr).add 2) .i64 fun x136 =>
  ldI w133 ((⟨B7, 0, Option.none⟩ : Addr).add 3) .i64 fun x137 =>
  ldS w133 ((⟨B7, 0, Option.none⟩ : Addr).add 4) fun A138 n138 c138 =>
  ldI w133 ((⟨B7, 0, Option.none⟩ : Addr).add 5) .i64 fun x139 =>
  ldS w133 ((⟨B7, 0, Option.none⟩ : Addr).add 6) fun A140 n140 c140 =>
  ldB w133 ((⟨B7, 0, Option.none⟩ : Addr).add 7) fun b141 =>
  ldB w133 ((⟨B7, 0, Option.none⟩ : Addr).add 8) fun b142 =>
  ldS w133 (⟨B9, 0, Option.none⟩ : Addr) fun A143 n143 c143 =>
  ldS w133 ((⟨B9, 0, Option.none⟩ : Addr).add 1) fun A144 n144 c144 =>
  ldI w133 ((⟨B9, 0, Option.none⟩ : Addr).add 2) .i64 fun x145 =>
  ldB w133 ((⟨B9, 0, Option.none⟩ : Addr).add 3) fun b146 =>
  Q (.returned (.tuple #[.agg #[.int .i64 x134, .int .i64 x135, .int .i64 x136, .int .i64 x137, .slice A138 n138 c138, .int .i64 x139, .slice A140 n140 c140, .bool b141, .bool b142], .agg #[.slice A143 n143 c143, .slice A144 n144 c144, .int .i64 x145, .bool b146], .bool false])) w133)))))))))) (
  sel (x11 == (2 : Int)) (
  Calls Tryd.prog 12 #[.pointer pa0] w10 fun e147 w148 => ∃ (x149 : Int), e147 = .returned (.int .i64 x149) ∧ (
  ldS w148 (⟨B3, 0, Option.none⟩ : Addr) fun A150 n150 c150 =>
  ldS w148 ((⟨B3, 0, Option.none⟩ : Addr).add 1) fun A151 n151 c151 =>
  ldI w148 ((⟨B3, 0, Option.none⟩ : Addr).add 2) .i64 fun x152 =>
  ldB w148 ((⟨B3, 0, Option.none⟩ : Addr).add 3) fun b153 =>
  ldI w148 (⟨B1, 0, Option.none⟩ : Addr) .i64 fun x154 =>
  ldI w148 ((⟨B1, 0, Option.none⟩ : Addr).add 1) .i64 fun x155 =>
  ldI w148 ((⟨B1, 0, Option.none⟩ : Addr).add 2) .i64 fun x156 =>
  ldI w148 ((⟨B1, 0, Option.none⟩ : Addr).add 3) .i64 fun x157 =>
  ldS w148 ((⟨B1, 0, Option.none⟩ : Addr).add 4) fun A158 n158 c158 =>
  ldI w148 ((⟨B1, 0, Option.none⟩ : Addr).add 5) .i64 fun x159 =>
  ldS w148 ((⟨B1, 0, Option.none⟩ : Addr).add 6) fun A160 n160 c160 =>
  ldB w148 ((⟨B1, 0, Option.none⟩ : Addr).add 7) fun b161 =>
  ldB w148 ((⟨B1, 0, Option.none⟩ : Addr).add 8) fun b162 =>
  Calls Tryd.prog 56 #[.agg #[.slice A150 n150 c150, .slice A151 n151 c151, .int .i64 x152, .bool b153], .agg #[.int .i64 x154, .int .i64 x155, .int .i64 x156, .int .i64 x157, .slice A158 n158 c158, .int .i64 x159, .slice A160 n160 c160, .bool b161, .bool b162]] w148 fun e163 w164 => ∃ (A165_0_0 : Option Addr) (n165_0_0 : Nat) (c165_0_0 : Nat) (A165_0_1 : Option Addr) (n165_0_1 : Nat) (c165_0_1 : Nat) (x165_0_2 : Int) (b165_0_3 : Bool) (x165_1_0 : Int) (x165_1_1 : Int) (x165_1_2 : Int) (x165_1_3 : Int) (A165_1_4 : Option Addr) (n165_1_4 : Nat) (c165_1_4 : Nat) (x165_1_5 : Int) (A165_1_6 : Option Addr) (n165_1_6 : Nat) (c165_1_6 : Nat) (b165_1_7 : Bool) (b165_1_8 : Bool) (x165_2 : Int), e163 = .returned (.tuple #[.agg #[.slice A165_0_0 n165_0_0 c165_0_0, .slice A165_0_1 n165_0_1 c165_0_1, .int .i64 x165_0_2, .bool b165_0_3], .agg #[.int .i64 x165_1_0, .int .i64 x165_1_1, .int .i64 x165_1_2, .int .i64 x165_1_3, .slice A165_1_4 n165_1_4 c165_1_4, .int .i64 x165_1_5, .slice A165_1_6 n165_1_6 c165_1_6, .bool b165_1_7, .bool b165_1_8], .int .i64 x165_2]) ∧ (
  alW w164 (.cells #[.slice none 0 0, .slice none 0 0, .int .i64 (0 : Int), .bool false] 68) fun B166 w167 =>
  alW w167 (.cells #[.int .i64 (0 : Int), .int .i64 (0 : Int), .int .i64 (0 : Int), .int .i64 (0 : Int), .slice none 0 0, .int .i64 (0 : Int), .slice none 0 0, .bool false, .bool false] 65) fun B168 w169 =>
  stW w169 (⟨B166, 0, Option.none⟩ : Addr) (.slice A165_0_0 n165_0_0 c165_0_0) fun w170 =>
  stW w170 ((⟨B166, 0, Option.none⟩ : Addr).add 1) (.slice A165_0_1 n165_0_1 c165_0_1) fun w171 =>
  stW w171 ((⟨B166, 0, Option.none⟩ : Addr).add 2) (.int .i64 x165_0_2) fun w172 =>
  stW w172 ((⟨B166, 0, Option.none⟩ : Addr).add 3) (.bool b165_0_3) fun w173 =>
  stW w173 (⟨B168, 0, Option.none⟩ : Addr) (.int .i64 x165_1_0) fun w174 =>
  stW w174 ((⟨B168, 0, Option.none⟩ : Addr).add 1) (.int .i64 x165_1_1) fun w175 =>
  stW w175 ((⟨B168, 0, Option.none⟩ : Addr).add 2) (.int .i64 x165_1_2) fun w176 =>
  stW w176 ((⟨B168, 0, Option.none⟩ : Addr).add 3) (.int .i64 x165_1_3) fun w177 =>
  stW w177 ((⟨B168, 0, Option.none⟩ : Addr).add 4) (.slice A165_1_4 n165_1_4 c165_1_4) fun w178 =>
  stW w178 ((⟨B168, 0, Option.none⟩ : Addr).add 5) (.int .i64 x165_1_5) fun w179 =>
  stW w179 ((⟨B168, 0, Option.none⟩ : Addr).add 6) (.slice A165_1_6 n165_1_6 c165_1_6) fun w180 =>
  stW w180 ((⟨B168, 0, Option.none⟩ : Addr).add 7) (.bool b165_1_7) fun w181 =>
  stW w181 ((⟨B168, 0, Option.none⟩ : Addr).add 8) (.bool b165_1_8) fun w182 =>
  drW w182 fun w183 =>
  ∃ S184 : World → Prop, S184 w183 ∧ (
  hdI S184 (⟨B168, 0, Option.none⟩ : Addr) .i64 fun x185 =>
  hdI S184 ((⟨B168, 0, Option.none⟩ : Addr).add 1) .i64 fun x186 =>
  hdI S184 ((⟨B168, 0, Option.none⟩ : Addr).add 2) .i64 fun x187 =>
  hdI S184 ((⟨B168, 0, Option.none⟩ : Addr).add 3) .i64 fun x188 =>
  hdS S184 ((⟨B168, 0, Option.none⟩ : Addr).add 4) fun A189 n189 c189 =>
  hdI S184 ((⟨B168, 0, Option.none⟩ : Addr).add 5) .i64 fun x190 =>
  hdS S184 ((⟨B168, 0, Option.none⟩ : Addr).add 6) fun A191 n191 c191 =>
  hdB S184 ((⟨B168, 0, Option.none⟩ : Addr).add 7) fun b192 =>
  hdB S184 ((⟨B168, 0, Option.none⟩ : Addr).add 8) fun b193 =>
  hdS S184 (⟨B166, 0, Option.none⟩ : Addr) fun A194 n194 c194 =>
  hdS S184 ((⟨B166, 0, Option.none⟩ : Addr).add 1) fun A195 n195 c195 =>
  hdI S184 ((⟨B166, 0, Option.none⟩ : Addr).add 2) .i64 fun x196 =>
  hdB S184 ((⟨B166, 0, Option.none⟩ : Addr).add 3) fun b197 =>
  stW w183 (⟨B7, 0, Option.none⟩ : Addr) (.int .i64 x185) fun w198 =>
  stW w198 ((⟨B7, 0, Option.none⟩ : Addr).add 1) (.int .i64 x186) fun w199 =>
  stW w199 ((⟨B7, 0, Option.none⟩ : Addr).add 2) (.int .i64 x187) fun w200 =>
  stW w200 ((⟨B7, 0, Option.none⟩ : Addr).add 3) (.int .i64 x188) fun w201 =>
  stW w201 ((⟨B7, 0, Option.none⟩ : Addr).add 4) (.slice A189 n189 c189) fun w202 =>
  stW w202 ((⟨B7, 0, Option.none⟩ : Addr).add 5) (.int .i64 x190) fun w203 =>
  stW w203 ((⟨B7, 0, Option.none⟩ : Addr).add 6) (.slice A191 n191 c191) fun w204 =>
  stW w204 ((⟨B7, 0, Option.none⟩ : Addr).add 7) (.bool b192) fun w205 =>
  stW w205 ((⟨B7, 0, Option.none⟩ : Addr).add 8) (.bool b193) fun w206 =>
  S184 w206 ∧ (
  stW w206 (⟨B9, 0, Option.none⟩ : Addr) (.slice A194 n194 c194) fun w207 =>
  stW w207 ((⟨B9, 0, Option.none⟩ : Addr).add 1) (.slice A195 n195 c195) fun w208 =>
  stW w208 ((⟨B9, 0, Option.none⟩ : Addr).add 2) (.int .i64 x196) fun w209 =>
  stW w209 ((⟨B9, 0, Option.none⟩ : Addr).add 3) (.bool b197) fun w210 =>
  S184 w210 ∧ (
  ldI w210 (⟨B7, 0, Option.none⟩ : Addr) .i64 fun x211 =>
  ldI w210 ((⟨B7, 0, Option.none⟩ : Addr).add 1) .i64 fun x212 =>
  ldI w210 ((⟨B7, 0, Option.none⟩ : Addr).add 2) .i64 fun x213 =>
  ldI w210 ((⟨B7, 0, Option.none⟩ : Addr).add 3) .i64 fun x214 =>
  ldS w210 ((⟨B7, 0, Option.none⟩ : Addr).add 4) fun A215 n215 c215 =>
  ldI w210 ((⟨B7, 0, Option.none⟩ : Addr).add 5) .i64 fun x216 =>
  ldS w210 ((⟨B7, 0, Option.none⟩ : Addr).add 6) fun A217 n217 c217 =>
  ldB w210 ((⟨B7, 0, Option.none⟩ : Addr).add 7) fun b218 =>
  ldB w210 ((⟨B7, 0, Option.none⟩ : Addr).add 8) fun b219 =>
  ldS w210 (⟨B9, 0, Option.none⟩ : Addr) fun A220 n220 c220 =>
  ldS w210 ((⟨B9, 0, Option.none⟩ : Addr).add 1) fun A221 n221 c221 =>
  ldI w210 ((⟨B9, 0, Option.none⟩ : Addr).add 2) .i64 fun x222 =>
  ldB w210 ((⟨B9, 0, Option.none⟩ : Addr).add 3) fun b223 =>
  Q (.returned (.tuple #[.agg #[.int .i64 x211, .int .i64 x212, .int .i64 x213, .int .i64 x214, .slice A215 n215 c215, .int .i64 x216, .slice A217 n217 c217, .bool b218, .bool b219], .agg #[.slice A220 n220 c220, .slice A221 n221 c221, .int .i64 x222, .bool b223], .bool (x149 == x165_2)])) w210)))))) (
  sel (x11 == (3 : Int)) (
  Calls Tryd.prog 13 #[.pointer pa0] w10 fun e224 w225 => ∃ (x226 : Int), e224 = .returned (.int .i64 x226) ∧ (
  ldS w225 (⟨B3, 0, Option.none⟩ : Addr) fun A227 n227 c227 =>
  ldS w225 ((⟨B3, 0, Option.none⟩ : Addr).add 1) fun A228 n228 c228 =>
  ldI w225 ((⟨B3, 0, Option.none⟩ : Addr).add 2) .i64 fun x229 =>
  ldB w225 ((⟨B3, 0, Option.none⟩ : Addr).add 3) fun b230 =>
  ldI w225 (⟨B1, 0, Option.none⟩ : Addr) .i64 fun x231 =>
  ldI w225 ((⟨B1, 0, Option.none⟩ : Addr).add 1) .i64 fun x232 =>
  ldI w225 ((⟨B1, 0, Option.none⟩ : Addr).add 2) .i64 fun x233 =>
  ldI w225 ((⟨B1, 0, Option.none⟩ : Addr).add 3) .i64 fun x234 =>
  ldS w225 ((⟨B1, 0, Option.none⟩ : Addr).add 4) fun A235 n235 c235 =>
  ldI w225 ((⟨B1, 0, Option.none⟩ : Addr).add 5) .i64 fun x236 =>
  ldS w225 ((⟨B1, 0, Option.none⟩ : Addr).add 6) fun A237 n237 c237 =>
  ldB w225 ((⟨B1, 0, Option.none⟩ : Addr).add 7) fun b238 =>
  ldB w225 ((⟨B1, 0, Option.none⟩ : Addr).add 8) fun b239 =>
  Calls Tryd.prog 57 #[.agg #[.slice A227 n227 c227, .slice A228 n228 c228, .int .i64 x229, .bool b230], .agg #[.int .i64 x231, .int .i64 x232, .int .i64 x233, .int .i64 x234, .slice A235 n235 c235, .int .i64 x236, .slice A237 n237 c237, .bool b238, .bool b239]] w225 fun e240 w241 => ∃ (A242_0_0 : Option Addr) (n242_0_0 : Nat) (c242_0_0 : Nat) (A242_0_1 : Option Addr) (n242_0_1 : Nat) (c242_0_1 : Nat) (x242_0_2 : Int) (b242_0_3 : Bool) (x242_1_0 : Int) (x242_1_1 : Int) (x242_1_2 : Int) (x242_1_3 : Int) (A242_1_4 : Option Addr) (n242_1_4 : Nat) (c242_1_4 : Nat) (x242_1_5 : Int) (A242_1_6 : Option Addr) (n242_1_6 : Nat) (c242_1_6 : Nat) (b242_1_7 : Bool) (b242_1_8 : Bool) (x242_2 : Int), e240 = .returned (.tuple #[.agg #[.slice A242_0_0 n242_0_0 c242_0_0, .slice A242_0_1 n242_0_1 c242_0_1, .int .i64 x242_0_2, .bool b242_0_3], .agg #[.int .i64 x242_1_0, .int .i64 x242_1_1, .int .i64 x242_1_2, .int .i64 x242_1_3, .slice A242_1_4 n242_1_4 c242_1_4, .int .i64 x242_1_5, .slice A242_1_6 n242_1_6 c242_1_6, .bool b242_1_7, .bool b242_1_8], .int .i64 x242_2]) ∧ (
  alW w241 (.cells #[.slice none 0 0, .slice none 0 0, .int .i64 (0 : Int), .bool false] 68) fun B243 w244 =>
  alW w244 (.cells #[.int .i64 (0 : Int), .int .i64 (0 : Int), .int .i64 (0 : Int), .int .i64 (0 : Int), .slice none 0 0, .int .i64 (0 : Int), .slice none 0 0, .bool false, .bool false] 65) fun B245 w246 =>
  stW w246 (⟨B243, 0, Option.none⟩ : Addr) (.slice A242_0_0 n242_0_0 c242_0_0) fun w247 =>
  stW w247 ((⟨B243, 0, Option.none⟩ : Addr).add 1) (.slice A242_0_1 n242_0_1 c242_0_1) fun w248 =>
  stW w248 ((⟨B243, 0, Option.none⟩ : Addr).add 2) (.int .i64 x242_0_2) fun w249 =>
  stW w249 ((⟨B243, 0, Option.none⟩ : Addr).add 3) (.bool b242_0_3) fun w250 =>
  stW w250 (⟨B245, 0, Option.none⟩ : Addr) (.int .i64 x242_1_0) fun w251 =>
  stW w251 ((⟨B245, 0, Option.none⟩ : Addr).add 1) (.int .i64 x242_1_1) fun w252 =>
  stW w252 ((⟨B245, 0, Option.none⟩ : Addr).add 2) (.int .i64 x242_1_2) fun w253 =>
  stW w253 ((⟨B245, 0, Option.none⟩ : Addr).add 3) (.int .i64 x242_1_3) fun w254 =>
  stW w254 ((⟨B245, 0, Option.none⟩ : Addr).add 4) (.slice A242_1_4 n242_1_4 c242_1_4) fun w255 =>
  stW w255 ((⟨B245, 0, Option.none⟩ : Addr).add 5) (.int .i64 x242_1_5) fun w256 =>
  stW w256 ((⟨B245, 0, Option.none⟩ : Addr).add 6) (.slice A242_1_6 n242_1_6 c242_1_6) fun w257 =>
  stW w257 ((⟨B245, 0, Option.none⟩ : Addr).add 7) (.bool b242_1_7) fun w258 =>
  stW w258 ((⟨B245, 0, Option.none⟩ : Addr).add 8) (.bool b242_1_8) fun w259 =>
  drW w259 fun w260 =>
  ∃ S261 : World → Prop, S261 w260 ∧ (
  hdI S261 (⟨B245, 0, Option.none⟩ : Addr) .i64 fun x262 =>
  hdI S261 ((⟨B245, 0, Option.none⟩ : Addr).add 1) .i64 fun x263 =>
  hdI S261 ((⟨B245, 0, Option.none⟩ : Addr).add 2) .i64 fun x264 =>
  hdI S261 ((⟨B245, 0, Option.none⟩ : Addr).add 3) .i64 fun x265 =>
  hdS S261 ((⟨B245, 0, Option.none⟩ : Addr).add 4) fun A266 n266 c266 =>
  hdI S261 ((⟨B245, 0, Option.none⟩ : Addr).add 5) .i64 fun x267 =>
  hdS S261 ((⟨B245, 0, Option.none⟩ : Addr).add 6) fun A268 n268 c268 =>
  hdB S261 ((⟨B245, 0, Option.none⟩ : Addr).add 7) fun b269 =>
  hdB S261 ((⟨B245, 0, Option.none⟩ : Addr).add 8) fun b270 =>
  hdS S261 (⟨B243, 0, Option.none⟩ : Addr) fun A271 n271 c271 =>
  hdS S261 ((⟨B243, 0, Option.none⟩ : Addr).add 1) fun A272 n272 c272 =>
  hdI S261 ((⟨B243, 0, Option.none⟩ : Addr).add 2) .i64 fun x273 =>
  hdB S261 ((⟨B243, 0, Option.none⟩ : Addr).add 3) fun b274 =>
  stW w260 (⟨B7, 0, Option.none⟩ : Addr) (.int .i64 x262) fun w275 =>
  stW w275 ((⟨B7, 0, Option.none⟩ : Addr).add 1) (.int .i64 x263) fun w276 =>
  stW w276 ((⟨B7, 0, Option.none⟩ : Addr).add 2) (.int .i64 x264) fun w277 =>
  stW w277 ((⟨B7, 0, Option.none⟩ : Addr).add 3) (.int .i64 x265) fun w278 =>
  stW w278 ((⟨B7, 0, Option.none⟩ : Addr).add 4) (.slice A266 n266 c266) fun w279 =>
  stW w279 ((⟨B7, 0, Option.none⟩ : Addr).add 5) (.int .i64 x267) fun w280 =>
  stW w280 ((⟨B7, 0, Option.none⟩ : Addr).add 6) (.slice A268 n268 c268) fun w281 =>
  stW w281 ((⟨B7, 0, Option.none⟩ : Addr).add 7) (.bool b269) fun w282 =>
  stW w282 ((⟨B7, 0, Option.none⟩ : Addr).add 8) (.bool b270) fun w283 =>
  S261 w283 ∧ (
  stW w283 (⟨B9, 0, Option.none⟩ : Addr) (.slice A271 n271 c271) fun w284 =>
  stW w284 ((⟨B9, 0, Option.none⟩ : Addr).add 1) (.slice A272 n272 c272) fun w285 =>
  stW w285 ((⟨B9, 0, Option.none⟩ : Addr).add 2) (.int .i64 x273) fun w286 =>
  stW w286 ((⟨B9, 0, Option.none⟩ : Addr).add 3) (.bool b274) fun w287 =>
  S261 w287 ∧ (
  ldI w287 (⟨B7, 0, Option.none⟩ : Addr) .i64 fun x288 =>
  ldI w287 ((⟨B7, 0, Option.none⟩ : Addr).add 1) .i64 fun x289 =>
  ldI w287 ((⟨B7, 0, Option.none⟩ : Addr).add 2) .i64 fun x290 =>
  ldI w287 ((⟨B7, 0, Option.none⟩ : Addr).add 3) .i64 fun x291 =>
  ldS w287 ((⟨B7, 0, Option.none⟩ : Addr).add 4) fun A292 n292 c292 =>
  ldI w287 ((⟨B7, 0, Option.none⟩ : Addr).add 5) .i64 fun x293 =>
  ldS w287 ((⟨B7, 0, Option.none⟩ : Addr).add 6) fun A294 n294 c294 =>
  ldB w287 ((⟨B7, 0, Option.none⟩ : Addr).add 7) fun b295 =>
  ldB w287 ((⟨B7, 0, Option.none⟩ : Addr).add 8) fun b296 =>
  ldS w287 (⟨B9, 0, Option.none⟩ : Addr) fun A297 n297 c297 =>
  ldS w287 ((⟨B9, 0, Option.none⟩ : Addr).add 1) fun A298 n298 c298 =>
  ldI w287 ((⟨B9, 0, Option.none⟩ : Addr).add 2) .i64 fun x299 =>
  ldB w287 ((⟨B9, 0, Option.none⟩ : Addr).add 3) fun b300 =>
  Q (.returned (.tuple #[.agg #[.int .i64 x288, .int .i64 x289, .int .i64 x290, .int .i64 x291, .slice A292 n292 c292, .int .i64 x293, .slice A294 n294 c294, .bool b295, .bool b296], .agg #[.slice A297 n297 c297, .slice A298 n298 c298, .int .i64 x299, .bool b300], .bool (x226 == x242_2)])) w287)))))) (
  sel (x11 == (4 : Int)) (
  ldI w10 ((⟨B5, 0, Option.none⟩ : Addr).add 2) .i64 fun x301 =>
  Calls Tryd.prog 20 #[.pointer pa0, .int .i64 x301] w10 fun e302 w303 => ∃ (A304 : Option Addr) (n304 : Nat) (c304 : Nat), e302 = .returned (.slice A304 n304 c304) ∧ (
  ldS w303 ((⟨B1, 0, Option.none⟩ : Addr).add 6) fun A305 n305 c305 =>
  ldI w303 ((⟨B5, 0, Option.none⟩ : Addr).add 2) .i64 fun x306 =>
  Calls Tryd.prog 27 #[.slice A305 n305 c305, .int .i64 x306] w303 fun e307 w308 => ∃ (A309 : Option Addr) (n309 : Nat) (c309 : Nat), e307 = .returned (.slice A309 n309 c309) ∧ (
  drW w308 fun w310 =>
  ∃ S311 : World → Prop, S311 w310 ∧ (
  hdI S311 (⟨B1, 0, Option.none⟩ : Addr) .i64 fun x312 =>
  hdI S311 ((⟨B1, 0, Option.none⟩ : Addr).add 1) .i64 fun x313 =>
  hdI S311 ((⟨B1, 0, Option.none⟩ : Addr).add 2) .i64 fun x314 =>
  hdI S311 ((⟨B1, 0, Option.none⟩ : Addr).add 3) .i64 fun x315 =>
  hdS S311 ((⟨B1, 0, Option.none⟩ : Addr).add 4) fun A316 n316 c316 =>
  hdI S311 ((⟨B1, 0, Option.none⟩ : Addr).add 5) .i64 fun x317 =>
  hdS S311 ((⟨B1, 0, Option.none⟩ : Addr).add 6) fun A318 n318 c318 =>
  hdB S311 ((⟨B1, 0, Option.none⟩ : Addr).add 7) fun b319 =>
  hdB S311 ((⟨B1, 0, Option.none⟩ : Addr).add 8) fun b320 =>
  hdS S311 (⟨B3, 0, Option.none⟩ : Addr) fun A321 n321 c321 =>
  hdS S311 ((⟨B3, 0, Option.none⟩ : Addr).add 1) fun A322 n322 c322 =>
  hdI S311 ((⟨B3, 0, Option.none⟩ : Addr).add 2) .i64 fun x323 =>
  hdB S311 ((⟨B3, 0, Option.none⟩ : Addr).add 3) fun b324 =>
  Calls Tryd.prog 25 #[.slice A304 n304 c304, .slice A309 n309 c309] w310 fun e325 w326 => ∃ (b327 : Bool), e325 = .returned (.bool b327) ∧ (
  S311 w326 ∧ (
  sel b327 (
  Calls Tryd.prog 59 #[.slice A304 n304 c304] w326 fun e328 w329 => ∃ (A330 : Option Addr) (n330 : Nat) (c330 : Nat), e328 = .returned (.slice A330 n330 c330) ∧ (
  S311 w329 ∧ (
  Calls Tryd.prog 59 #[.slice A309 n309 c309] w329 fun e331 w332 => ∃ (A333 : Option Addr) (n333 : Nat) (c333 : Nat), e331 = .returned (.slice A333 n333 c333) ∧ (
  S311 w332 ∧ (
  Calls Tryd.prog 58 #[.slice A330 n330 c330, .slice A333 n333 c333] w332 fun e334 w335 => ∃ (b336 : Bool), e334 = .returned (.bool b336) ∧ (
  S311 w335 ∧ (
  stW w335 (⟨B7, 0, Option.none⟩ : Addr) (.int .i64 x312) fun w337 =>
  stW w337 ((⟨B7, 0, Option.none⟩ : Addr).add 1) (.int .i64 x313) fun w338 =>
  stW w338 ((⟨B7, 0, Option.none⟩ : Addr).add 2) (.int .i64 x314) fun w339 =>
  stW w339 ((⟨B7, 0, Option.none⟩ : Addr).add 3) (.int .i64 x315) fun w340 =>
  stW w340 ((⟨B7, 0, Option.none⟩ : Addr).add 4) (.slice A316 n316 c316) fun w341 =>
  stW w341 ((⟨B7, 0, Option.none⟩ : Addr).add 5) (.int .i64 x317) fun w342 =>
  stW w342 ((⟨B7, 0, Option.none⟩ : Addr).add 6) (.slice A318 n318 c318) fun w343 =>
  stW w343 ((⟨B7, 0, Option.none⟩ : Addr).add 7) (.bool b319) fun w344 =>
  stW w344 ((⟨B7, 0, Option.none⟩ : Addr).add 8) (.bool b320) fun w345 =>
  S311 w345 ∧ (
  stW w345 (⟨B9, 0, Option.none⟩ : Addr) (.slice A321 n321 c321) fun w346 =>
  stW w346 ((⟨B9, 0, Option.none⟩ : Addr).add 1) (.slice A322 n322 c322) fun w347 =>
  stW w347 ((⟨B9, 0, Option.none⟩ : Addr).add 2) (.int .i64 x323) fun w348 =>
  stW w348 ((⟨B9, 0, Option.none⟩ : Addr).add 3) (.bool b324) fun w349 =>
  S311 w349 ∧ (
  ldI w349 (⟨B7, 0, Option.none⟩ : Addr) .i64 fun x350 =>
  ldI w349 ((⟨B7, 0, Option.none⟩ : Addr).add 1) .i64 fun x351 =>
  ldI w349 ((⟨B7, 0, Option.none⟩ : Addr).add 2) .i64 fun x352 =>
  ldI w349 ((⟨B7, 0, Option.none⟩ : Addr).add 3) .i64 fun x353 =>
  ldS w349 ((⟨B7, 0, Option.none⟩ : Addr).add 4) fun A354 n354 c354 =>
  ldI w349 ((⟨B7, 0, Option.none⟩ : Addr).add 5) .i64 fun x355 =>
  ldS w349 ((⟨B7, 0, Option.none⟩ : Addr).add 6) fun A356 n356 c356 =>
  ldB w349 ((⟨B7, 0, Option.none⟩ : Addr).add 7) fun b357 =>
  ldB w349 ((⟨B7, 0, Option.none⟩ : Addr).add 8) fun b358 =>
  ldS w349 (⟨B9, 0, Option.none⟩ : Addr) fun A359 n359 c359 =>
  ldS w349 ((⟨B9, 0, Option.none⟩ : Addr).add 1) fun A360 n360 c360 =>
  ldI w349 ((⟨B9, 0, Option.none⟩ : Addr).add 2) .i64 fun x361 =>
  ldB w349 ((⟨B9, 0, Option.none⟩ : Addr).add 3) fun b362 =>
  Q (.returned (.tuple #[.agg #[.int .i64 x350, .int .i64 x351, .int .i64 x352, .int .i64 x353, .slice A354 n354 c354, .int .i64 x355, .slice A356 n356 c356, .bool b357, .bool b358], .agg #[.slice A359 n359 c359, .slice A360 n360 c360, .int .i64 x361, .bool b362], .bool b336])) w349))))))))) (
  S311 w326 ∧ (
  S311 w326 ∧ (
  S311 w326 ∧ (
  stW w326 (⟨B7, 0, Option.none⟩ : Addr) (.int .i64 x312) fun w363 =>
  stW w363 ((⟨B7, 0, Option.none⟩ : Addr).add 1) (.int .i64 x313) fun w364 =>
  stW w364 ((⟨B7, 0, Option.none⟩ : Addr).add 2) (.int .i64 x314) fun w365 =>
  stW w365 ((⟨B7, 0, Option.none⟩ : Addr).add 3) (.int .i64 x315) fun w366 =>
  stW w366 ((⟨B7, 0, Option.none⟩ : Addr).add 4) (.slice A316 n316 c316) fun w367 =>
  stW w367 ((⟨B7, 0, Option.none⟩ : Addr).add 5) (.int .i64 x317) fun w368 =>
  stW w368 ((⟨B7, 0, Option.none⟩ : Addr).add 6) (.slice A318 n318 c318) fun w369 =>
  stW w369 ((⟨B7, 0, Option.none⟩ : Addr).add 7) (.bool b319) fun w370 =>
  stW w370 ((⟨B7, 0, Option.none⟩ : Addr).add 8) (.bool b320) fun w371 =>
  S311 w371 ∧ (
  stW w371 (⟨B9, 0, Option.none⟩ : Addr) (.slice A321 n321 c321) fun w372 =>
  stW w372 ((⟨B9, 0, Option.none⟩ : Addr).add 1) (.slice A322 n322 c322) fun w373 =>
  stW w373 ((⟨B9, 0, Option.none⟩ : Addr).add 2) (.int .i64 x323) fun w374 =>
  stW w374 ((⟨B9, 0, Option.none⟩ : Addr).add 3) (.bool b324) fun w375 =>
  S311 w375 ∧ (
  ldI w375 (⟨B7, 0, Option.none⟩ : Addr) .i64 fun x376 =>
  ldI w375 ((⟨B7, 0, Option.none⟩ : Addr).add 1) .i64 fun x377 =>
  ldI w375 ((⟨B7, 0, Option.none⟩ : Addr).add 2) .i64 fun x378 =>
  ldI w375 ((⟨B7, 0, Option.none⟩ : Addr).add 3) .i64 fun x379 =>
  ldS w375 ((⟨B7, 0, Option.none⟩ : Addr).add 4) fun A380 n380 c380 =>
  ldI w375 ((⟨B7, 0, Option.none⟩ : Addr).add 5) .i64 fun x381 =>
  ldS w375 ((⟨B7, 0, Option.none⟩ : Addr).add 6) fun A382 n382 c382 =>
  ldB w375 ((⟨B7, 0, Option.none⟩ : Addr).add 7) fun b383 =>
  ldB w375 ((⟨B7, 0, Option.none⟩ : Addr).add 8) fun b384 =>
  ldS w375 (⟨B9, 0, Option.none⟩ : Addr) fun A385 n385 c385 =>
  ldS w375 ((⟨B9, 0, Option.none⟩ : Addr).add 1) fun A386 n386 c386 =>
  ldI w375 ((⟨B9, 0, Option.none⟩ : Addr).add 2) .i64 fun x387 =>
  ldB w375 ((⟨B9, 0, Option.none⟩ : Addr).add 3) fun b388 =>
  Q (.returned (.tuple #[.agg #[.int .i64 x376, .int .i64 x377, .int .i64 x378, .int .i64 x379, .slice A380 n380 c380, .int .i64 x381, .slice A382 n382 c382, .bool b383, .bool b384], .agg #[.slice A385 n385 c385, .slice A386 n386 c386, .int .i64 x387, .bool b388], .bool false])) w375)))))))))))) (
  ldI w10 ((⟨B5, 0, Option.none⟩ : Addr).add 2) .i64 fun x389 =>
  Calls Tryd.prog 26 #[.pointer pa0, .int .i64 x389] w10 fun e390 w391 => ∃ (x392_0_0 : Int) (x392_0_1 : Int) (A392_0_2 : Option Addr) (n392_0_2 : Nat) (c392_0_2 : Nat) (b392_1 : Bool), e390 = .returned (.tuple #[.agg #[.int .i64 x392_0_0, .int .i64 x392_0_1, .slice A392_0_2 n392_0_2 c392_0_2], .bool b392_1]) ∧ (
  alW w391 (.cells #[.int .i64 (0 : Int), .int .i64 (0 : Int), .slice none 0 0] 39) fun B393 w394 =>
  stW w394 (⟨B393, 0, Option.none⟩ : Addr) (.int .i64 x392_0_0) fun w395 =>
  stW w395 ((⟨B393, 0, Option.none⟩ : Addr).add 1) (.int .i64 x392_0_1) fun w396 =>
  stW w396 ((⟨B393, 0, Option.none⟩ : Addr).add 2) (.slice A392_0_2 n392_0_2 c392_0_2) fun w397 =>
  ∃ k605 : Nat, l0 k605 (⟨B1, 0, Option.none⟩ : Addr) (⟨B5, 0, Option.none⟩ : Addr) (0 : Int) w397 (fun (x405 : Int) (w406 : World) => ∀ _ : Fr,
  sel (x405 == (0 : Int)) (
  drW w406 fun w407 =>
  ∃ S408 : World → Prop, S408 w407 ∧ (
  hdI S408 (⟨B1, 0, Option.none⟩ : Addr) .i64 fun x409 =>
  hdI S408 ((⟨B1, 0, Option.none⟩ : Addr).add 1) .i64 fun x410 =>
  hdI S408 ((⟨B1, 0, Option.none⟩ : Addr).add 2) .i64 fun x411 =>
  hdI S408 ((⟨B1, 0, Option.none⟩ : Addr).add 3) .i64 fun x412 =>
  hdS S408 ((⟨B1, 0, Option.none⟩ : Addr).add 4) fun A413 n413 c413 =>
  hdI S408 ((⟨B1, 0, Option.none⟩ : Addr).add 5) .i64 fun x414 =>
  hdS S408 ((⟨B1, 0, Option.none⟩ : Addr).add 6) fun A415 n415 c415 =>
  hdB S408 ((⟨B1, 0, Option.none⟩ : Addr).add 7) fun b416 =>
  hdB S408 ((⟨B1, 0, Option.none⟩ : Addr).add 8) fun b417 =>
  hdS S408 (⟨B3, 0, Option.none⟩ : Addr) fun A418 n418 c418 =>
  hdS S408 ((⟨B3, 0, Option.none⟩ : Addr).add 1) fun A419 n419 c419 =>
  hdI S408 ((⟨B3, 0, Option.none⟩ : Addr).add 2) .i64 fun x420 =>
  hdB S408 ((⟨B3, 0, Option.none⟩ : Addr).add 3) fun b421 =>
  sel (!b392_1) (
  hdI S408 (⟨B393, 0, Option.none⟩ : Addr) .i64 fun x422 =>
  sel (x422 == (0 : Int)) (
  hdI S408 ((⟨B393, 0, Option.none⟩ : Addr).add 1) .i64 fun x423 =>
  sel (x423 == (0 : Int)) (
  hdS S408 ((⟨B393, 0, Option.none⟩ : Addr).add 2) fun A424 n424 c424 =>
  stW w407 (⟨B7, 0, Option.none⟩ : Addr) (.int .i64 x409) fun w425 =>
  stW w425 ((⟨B7, 0, Option.none⟩ : Addr).add 1) (.int .i64 x410) fun w426 =>
  stW w426 ((⟨B7, 0, Option.none⟩ : Addr).add 2) (.int .i64 x411) fun w427 =>
  stW w427 ((⟨B7, 0, Option.none⟩ : Addr).add 3) (.int .i64 x412) fun w428 =>
  stW w428 ((⟨B7, 0, Option.none⟩ : Addr).add 4) (.slice A413 n413 c413) fun w429 =>
  stW w429 ((⟨B7, 0, Option.none⟩ : Addr).add 5) (.int .i64 x414) fun w430 =>
  stW w430 ((⟨B7, 0, Option.none⟩ : Addr).add 6) (.slice A415 n415 c415) fun w431 =>
  stW w431 ((⟨B7, 0, Option.none⟩ : Addr).add 7) (.bool b416) fun w432 =>
  stW w432 ((⟨B7, 0, Option.none⟩ : Addr).add 8) (.bool b417) fun w433 =>
  S408 w433 ∧ (
  stW w433 (⟨B9, 0, Option.none⟩ : Addr) (.slice A418 n418 c418) fun w434 =>
  stW w434 ((⟨B9, 0, Option.none⟩ : Addr).add 1) (.slice A419 n419 c419) fun w435 =>
  stW w435 ((⟨B9, 0, Option.none⟩ : Addr).add 2) (.int .i64 x420) fun w436 =>
  stW w436 ((⟨B9, 0, Option.none⟩ : Addr).add 3) (.bool b421) fun w437 =>
  S408 w437 ∧ (
  ldI w437 (⟨B7, 0, Option.none⟩ : Addr) .i64 fun x438 =>
  ldI w437 ((⟨B7, 0, Option.none⟩ : Addr).add 1) .i64 fun x439 =>
  ldI w437 ((⟨B7, 0, Option.none⟩ : Addr).add 2) .i64 fun x440 =>
  ldI w437 ((⟨B7, 0, Option.none⟩ : Addr).add 3) .i64 fun x441 =>
  ldS w437 ((⟨B7, 0, Option.none⟩ : Addr).add 4) fun A442 n442 c442 =>
  ldI w437 ((⟨B7, 0, Option.none⟩ : Addr).add 5) .i64 fun x443 =>
  ldS w437 ((⟨B7, 0, Option.none⟩ : Addr).add 6) fun A444 n444 c444 =>
  ldB w437 ((⟨B7, 0, Option.none⟩ : Addr).add 7) fun b445 =>
  ldB w437 ((⟨B7, 0, Option.none⟩ : Addr).add 8) fun b446 =>
  ldS w437 (⟨B9, 0, Option.none⟩ : Addr) fun A447 n447 c447 =>
  ldS w437 ((⟨B9, 0, Option.none⟩ : Addr).add 1) fun A448 n448 c448 =>
  ldI w437 ((⟨B9, 0, Option.none⟩ : Addr).add 2) .i64 fun x449 =>
  ldB w437 ((⟨B9, 0, Option.none⟩ : Addr).add 3) fun b450 =>
  Q (.returned (.tuple #[.agg #[.int .i64 x438, .int .i64 x439, .int .i64 x440, .int .i64 x441, .slice A442 n442 c442, .int .i64 x443, .slice A444 n444 c444, .bool b445, .bool b446], .agg #[.slice A447 n447 c447, .slice A448 n448 c448, .int .i64 x449, .bool b450], .bool ((n424 : Int) == (0 : Int))])) w437))) (
  stW w407 (⟨B7, 0, Option.none⟩ : Addr) (.int .i64 x409) fun w451 =>
  stW w451 ((⟨B7, 0, Option.none⟩ : Addr).add 1) (.int .i64 x410) fun w452 =>
  stW w452 ((⟨B7, 0, Option.none⟩ : Addr).add 2) (.int .i64 x411) fun w453 =>
  stW w453 ((⟨B7, 0, Option.none⟩ : Addr).add 3) (.int .i64 x412) fun w454 =>
  stW w454 ((⟨B7, 0, Option.none⟩ : Addr).add 4) (.slice A413 n413 c413) fun w455 =>
  stW w455 ((⟨B7, 0, Option.none⟩ : Addr).add 5) (.int .i64 x414) fun w456 =>
  stW w456 ((⟨B7, 0, Option.none⟩ : Addr).add 6) (.slice A415 n415 c415) fun w457 =>
  stW w457 ((⟨B7, 0, Option.none⟩ : Addr).add 7) (.bool b416) fun w458 =>
  stW w458 ((⟨B7, 0, Option.none⟩ : Addr).add 8) (.bool b417) fun w459 =>
  S408 w459 ∧ (
  stW w459 (⟨B9, 0, Option.none⟩ : Addr) (.slice A418 n418 c418) fun w460 =>
  stW w460 ((⟨B9, 0, Option.none⟩ : Addr).add 1) (.slice A419 n419 c419) fun w461 =>
  stW w461 ((⟨B9, 0, Option.none⟩ : Addr).add 2) (.int .i64 x420) fun w462 =>
  stW w462 ((⟨B9, 0, Option.none⟩ : Addr).add 3) (.bool b421) fun w463 =>
  S408 w463 ∧ (
  ldI w463 (⟨B7, 0, Option.none⟩ : Addr) .i64 fun x464 =>
  ldI w463 ((⟨B7, 0, Option.none⟩ : Addr).add 1) .i64 fun x465 =>
  ldI w463 ((⟨B7, 0, Option.none⟩ : Addr).add 2) .i64 fun x466 =>
  ldI w463 ((⟨B7, 0, Option.none⟩ : Addr).add 3) .i64 fun x467 =>
  ldS w463 ((⟨B7, 0, Option.none⟩ : Addr).add 4) fun A468 n468 c468 =>
  ldI w463 ((⟨B7, 0, Option.none⟩ : Addr).add 5) .i64 fun x469 =>
  ldS w463 ((⟨B7, 0, Option.none⟩ : Addr).add 6) fun A470 n470 c470 =>
  ldB w463 ((⟨B7, 0, Option.none⟩ : Addr).add 7) fun b471 =>
  ldB w463 ((⟨B7, 0, Option.none⟩ : Addr).add 8) fun b472 =>
  ldS w463 (⟨B9, 0, Option.none⟩ : Addr) fun A473 n473 c473 =>
  ldS w463 ((⟨B9, 0, Option.none⟩ : Addr).add 1) fun A474 n474 c474 =>
  ldI w463 ((⟨B9, 0, Option.none⟩ : Addr).add 2) .i64 fun x475 =>
  ldB w463 ((⟨B9, 0, Option.none⟩ : Addr).add 3) fun b476 =>
  Q (.returned (.tuple #[.agg #[.int .i64 x464, .int .i64 x465, .int .i64 x466, .int .i64 x467, .slice A468 n468 c468, .int .i64 x469, .slice A470 n470 c470, .bool b471, .bool b472], .agg #[.slice A473 n473 c473, .slice A474 n474 c474, .int .i64 x475, .bool b476], .bool false])) w463)))) (
  stW w407 (⟨B7, 0, Option.none⟩ : Addr) (.int .i64 x409) fun w477 =>
  stW w477 ((⟨B7, 0, Option.none⟩ : Addr).add 1) (.int .i64 x410) fun w478 =>
  stW w478 ((⟨B7, 0, Option.none⟩ : Addr).add 2) (.int .i64 x411) fun w479 =>
  stW w479 ((⟨B7, 0, Option.none⟩ : Addr).add 3) (.int .i64 x412) fun w480 =>
  stW w480 ((⟨B7, 0, Option.none⟩ : Addr).add 4) (.slice A413 n413 c413) fun w481 =>
  stW w481 ((⟨B7, 0, Option.none⟩ : Addr).add 5) (.int .i64 x414) fun w482 =>
  stW w482 ((⟨B7, 0, Option.none⟩ : Addr).add 6) (.slice A415 n415 c415) fun w483 =>
  stW w483 ((⟨B7, 0, Option.none⟩ : Addr).add 7) (.bool b416) fun w484 =>
  stW w484 ((⟨B7, 0, Option.none⟩ : Addr).add 8) (.bool b417) fun w485 =>
  S408 w485 ∧ (
  stW w485 (⟨B9, 0, Option.none⟩ : Addr) (.slice A418 n418 c418) fun w486 =>
  stW w486 ((⟨B9, 0, Option.none⟩ : Addr).add 1) (.slice A419 n419 c419) fun w487 =>
  stW w487 ((⟨B9, 0, Option.none⟩ : Addr).add 2) (.int .i64 x420) fun w488 =>
  stW w488 ((⟨B9, 0, Option.none⟩ : Addr).add 3) (.bool b421) fun w489 =>
  S408 w489 ∧ (
  ldI w489 (⟨B7, 0, Option.none⟩ : Addr) .i64 fun x490 =>
  ldI w489 ((⟨B7, 0, Option.none⟩ : Addr).add 1) .i64 fun x491 =>
  ldI w489 ((⟨B7, 0, Option.none⟩ : Addr).add 2) .i64 fun x492 =>
  ldI w489 ((⟨B7, 0, Option.none⟩ : Addr).add 3) .i64 fun x493 =>
  ldS w489 ((⟨B7, 0, Option.none⟩ : Addr).add 4) fun A494 n494 c494 =>
  ldI w489 ((⟨B7, 0, Option.none⟩ : Addr).add 5) .i64 fun x495 =>
  ldS w489 ((⟨B7, 0, Option.none⟩ : Addr).add 6) fun A496 n496 c496 =>
  ldB w489 ((⟨B7, 0, Option.none⟩ : Addr).add 7) fun b497 =>
  ldB w489 ((⟨B7, 0, Option.none⟩ : Addr).add 8) fun b498 =>
  ldS w489 (⟨B9, 0, Option.none⟩ : Addr) fun A499 n499 c499 =>
  ldS w489 ((⟨B9, 0, Option.none⟩ : Addr).add 1) fun A500 n500 c500 =>
  ldI w489 ((⟨B9, 0, Option.none⟩ : Addr).add 2) .i64 fun x501 =>
  ldB w489 ((⟨B9, 0, Option.none⟩ : Addr).add 3) fun b502 =>
  Q (.returned (.tuple #[.agg #[.int .i64 x490, .int .i64 x491, .int .i64 x492, .int .i64 x493, .slice A494 n494 c494, .int .i64 x495, .slice A496 n496 c496, .bool b497, .bool b498], .agg #[.slice A499 n499 c499, .slice A500 n500 c500, .int .i64 x501, .bool b502], .bool false])) w489)))) (
  stW w407 (⟨B7, 0, Option.none⟩ : Addr) (.int .i64 x409) fun w503 =>
  stW w503 ((⟨B7, 0, Option.none⟩ : Addr).add 1) (.int .i64 x410) fun w504 =>
  stW w504 ((⟨B7, 0, Option.none⟩ : Addr).add 2) (.int .i64 x411) fun w505 =>
  stW w505 ((⟨B7, 0, Option.none⟩ : Addr).add 3) (.int .i64 x412) fun w506 =>
  stW w506 ((⟨B7, 0, Option.none⟩ : Addr).add 4) (.slice A413 n413 c413) fun w507 =>
  stW w507 ((⟨B7, 0, Option.none⟩ : Addr).add 5) (.int .i64 x414) fun w508 =>
  stW w508 ((⟨B7, 0, Option.none⟩ : Addr).add 6) (.slice A415 n415 c415) fun w509 =>
  stW w509 ((⟨B7, 0, Option.none⟩ : Addr).add 7) (.bool b416) fun w510 =>
  stW w510 ((⟨B7, 0, Option.none⟩ : Addr).add 8) (.bool b417) fun w511 =>
  S408 w511 ∧ (
  stW w511 (⟨B9, 0, Option.none⟩ : Addr) (.slice A418 n418 c418) fun w512 =>
  stW w512 ((⟨B9, 0, Option.none⟩ : Addr).add 1) (.slice A419 n419 c419) fun w513 =>
  stW w513 ((⟨B9, 0, Option.none⟩ : Addr).add 2) (.int .i64 x420) fun w514 =>
  stW w514 ((⟨B9, 0, Option.none⟩ : Addr).add 3) (.bool b421) fun w515 =>
  S408 w515 ∧ (
  ldI w515 (⟨B7, 0, Option.none⟩ : Addr) .i64 fun x516 =>
  ldI w515 ((⟨B7, 0, Option.none⟩ : Addr).add 1) .i64 fun x517 =>
  ldI w515 ((⟨B7, 0, Option.none⟩ : Addr).add 2) .i64 fun x518 =>
  ldI w515 ((⟨B7, 0, Option.none⟩ : Addr).add 3) .i64 fun x519 =>
  ldS w515 ((⟨B7, 0, Option.none⟩ : Addr).add 4) fun A520 n520 c520 =>
  ldI w515 ((⟨B7, 0, Option.none⟩ : Addr).add 5) .i64 fun x521 =>
  ldS w515 ((⟨B7, 0, Option.none⟩ : Addr).add 6) fun A522 n522 c522 =>
  ldB w515 ((⟨B7, 0, Option.none⟩ : Addr).add 7) fun b523 =>
  ldB w515 ((⟨B7, 0, Option.none⟩ : Addr).add 8) fun b524 =>
  ldS w515 (⟨B9, 0, Option.none⟩ : Addr) fun A525 n525 c525 =>
  ldS w515 ((⟨B9, 0, Option.none⟩ : Addr).add 1) fun A526 n526 c526 =>
  ldI w515 ((⟨B9, 0, Option.none⟩ : Addr).add 2) .i64 fun x527 =>
  ldB w515 ((⟨B9, 0, Option.none⟩ : Addr).add 3) fun b528 =>
  Q (.returned (.tuple #[.agg #[.int .i64 x516, .int .i64 x517, .int .i64 x518, .int .i64 x519, .slice A520 n520 c520, .int .i64 x521, .slice A522 n522 c522, .bool b523, .bool b524], .agg #[.slice A525 n525 c525, .slice A526 n526 c526, .int .i64 x527, .bool b528], .bool false])) w515))))) (
  drW w406 fun w529 =>
  ∃ S530 : World → Prop, S530 w529 ∧ (
  hdI S530 (⟨B1, 0, Option.none⟩ : Addr) .i64 fun x531 =>
  hdI S530 ((⟨B1, 0, Option.none⟩ : Addr).add 1) .i64 fun x532 =>
  hdI S530 ((⟨B1, 0, Option.none⟩ : Addr).add 2) .i64 fun x533 =>
  hdI S530 ((⟨B1, 0, Option.none⟩ : Addr).add 3) .i64 fun x534 =>
  hdS S530 ((⟨B1, 0, Option.none⟩ : Addr).add 4) fun A535 n535 c535 =>
  hdI S530 ((⟨B1, 0, Option.none⟩ : Addr).add 5) .i64 fun x536 =>
  hdS S530 ((⟨B1, 0, Option.none⟩ : Addr).add 6) fun A537 n537 c537 =>
  hdB S530 ((⟨B1, 0, Option.none⟩ : Addr).add 7) fun b538 =>
  hdB S530 ((⟨B1, 0, Option.none⟩ : Addr).add 8) fun b539 =>
  hdS S530 (⟨B3, 0, Option.none⟩ : Addr) fun A540 n540 c540 =>
  hdS S530 ((⟨B3, 0, Option.none⟩ : Addr).add 1) fun A541 n541 c541 =>
  hdI S530 ((⟨B3, 0, Option.none⟩ : Addr).add 2) .i64 fun x542 =>
  hdB S530 ((⟨B3, 0, Option.none⟩ : Addr).add 3) fun b543 =>
  sel b392_1 (
  hdI S530 (⟨B393, 0, Option.none⟩ : Addr) .i64 fun x544 =>
  hdI S530 ((⟨B393, 0, Option.none⟩ : Addr).add 1) .i64 fun x545 =>
  hdS S530 ((⟨B393, 0, Option.none⟩ : Addr).add 2) fun A546 n546 c546 =>
  hdS S530 ((⟨B1, 0, Option.none⟩ : Addr).add 6) fun A547 n547 c547 =>
  req (decide (0 ≤ x405 ∧ x405 ≤ (c547 : Int))) <|
  req (decide (0 ≤ (IntKind.i64.wrap (x405 - (1 : Int))) ∧ (IntKind.i64.wrap (x405 - (1 : Int))) ≤ (x405.toNat : Int))) <|
  alW w529 (.cells #[.int .i64 x544, .int .i64 x545, .slice A546 n546 c546] 39) fun B548 w549 =>
  S530 w549 ∧ (
  Calls Tryd.prog 25 #[.slice (some (⟨B548, 0, Option.none⟩ : Addr)) 1 1, .slice (slA A547 ((IntKind.i64.wrap (x405 - (1 : Int))).toNat) c547 3) (x405.toNat - (IntKind.i64.wrap (x405 - (1 : Int))).toNat) (c547 - (IntKind.i64.wrap (x405 - (1 : Int))).toNat)] w549 fun e550 w551 => ∃ (b552 : Bool), e550 = .returned (.bool b552) ∧ (
  S530 w551 ∧ (
  stW w551 (⟨B7, 0, Option.none⟩ : Addr) (.int .i64 x531) fun w553 =>
  stW w553 ((⟨B7, 0, Option.none⟩ : Addr).add 1) (.int .i64 x532) fun w554 =>
  stW w554 ((⟨B7, 0, Option.none⟩ : Addr).add 2) (.int .i64 x533) fun w555 =>
  stW w555 ((⟨B7, 0, Option.none⟩ : Addr).add 3) (.int .i64 x534) fun w556 =>
  stW w556 ((⟨B7, 0, Option.none⟩ : Addr).add 4) (.slice A535 n535 c535) fun w557 =>
  stW w557 ((⟨B7, 0, Option.none⟩ : Addr).add 5) (.int .i64 x536) fun w558 =>
  stW w558 ((⟨B7, 0, Option.none⟩ : Addr).add 6) (.slice A537 n537 c537) fun w559 =>
  stW w559 ((⟨B7, 0, Option.none⟩ : Addr).add 7) (.bool b538) fun w560 =>
  stW w560 ((⟨B7, 0, Option.none⟩ : Addr).add 8) (.bool b539) fun w561 =>
  S530 w561 ∧ (
  stW w561 (⟨B9, 0, Option.none⟩ : Addr) (.slice A540 n540 c540) fun w562 =>
  stW w562 ((⟨B9, 0, Option.none⟩ : Addr).add 1) (.slice A541 n541 c541) fun w563 =>
  stW w563 ((⟨B9, 0, Option.none⟩ : Addr).add 2) (.int .i64 x542) fun w564 =>
  stW w564 ((⟨B9, 0, Option.none⟩ : Addr).add 3) (.bool b543) fun w565 =>
  S530 w565 ∧ (
  ldI w565 (⟨B7, 0, Option.none⟩ : Addr) .i64 fun x566 =>
  ldI w565 ((⟨B7, 0, Option.none⟩ : Addr).add 1) .i64 fun x567 =>
  ldI w565 ((⟨B7, 0, Option.none⟩ : Addr).add 2) .i64 fun x568 =>
  ldI w565 ((⟨B7, 0, Option.none⟩ : Addr).add 3) .i64 fun x569 =>
  ldS w565 ((⟨B7, 0, Option.none⟩ : Addr).add 4) fun A570 n570 c570 =>
  ldI w565 ((⟨B7, 0, Option.none⟩ : Addr).add 5) .i64 fun x571 =>
  ldS w565 ((⟨B7, 0, Option.none⟩ : Addr).add 6) fun A572 n572 c572 =>
  ldB w565 ((⟨B7, 0, Option.none⟩ : Addr).add 7) fun b573 =>
  ldB w565 ((⟨B7, 0, Option.none⟩ : Addr).add 8) fun b574 =>
  ldS w565 (⟨B9, 0, Option.none⟩ : Addr) fun A575 n575 c575 =>
  ldS w565 ((⟨B9, 0, Option.none⟩ : Addr).add 1) fun A576 n576 c576 =>
  ldI w565 ((⟨B9, 0, Option.none⟩ : Addr).add 2) .i64 fun x577 =>
  ldB w565 ((⟨B9, 0, Option.none⟩ : Addr).add 3) fun b578 =>
  Q (.returned (.tuple #[.agg #[.int .i64 x566, .int .i64 x567, .int .i64 x568, .int .i64 x569, .slice A570 n570 c570, .int .i64 x571, .slice A572 n572 c572, .bool b573, .bool b574], .agg #[.slice A575 n575 c575, .slice A576 n576 c576, .int .i64 x577, .bool b578], .bool b552])) w565)))))) (
  S530 w529 ∧ (
  S530 w529 ∧ (
  stW w529 (⟨B7, 0, Option.none⟩ : Addr) (.int .i64 x531) fun w579 =>
  stW w579 ((⟨B7, 0, Option.none⟩ : Addr).add 1) (.int .i64 x532) fun w580 =>
  stW w580 ((⟨B7, 0, Option.none⟩ : Addr).add 2) (.int .i64 x533) fun w581 =>
  stW w581 ((⟨B7, 0, Option.none⟩ : Addr).add 3) (.int .i64 x534) fun w582 =>
  stW w582 ((⟨B7, 0, Option.none⟩ : Addr).add 4) (.slice A535 n535 c535) fun w583 =>
  stW w583 ((⟨B7, 0, Option.none⟩ : Addr).add 5) (.int .i64 x536) fun w584 =>
  stW w584 ((⟨B7, 0, Option.none⟩ : Addr).add 6) (.slice A537 n537 c537) fun w585 =>
  stW w585 ((⟨B7, 0, Option.none⟩ : Addr).add 7) (.bool b538) fun w586 =>
  stW w586 ((⟨B7, 0, Option.none⟩ : Addr).add 8) (.bool b539) fun w587 =>
  S530 w587 ∧ (
  stW w587 (⟨B9, 0, Option.none⟩ : Addr) (.slice A540 n540 c540) fun w588 =>
  stW w588 ((⟨B9, 0, Option.none⟩ : Addr).add 1) (.slice A541 n541 c541) fun w589 =>
  stW w589 ((⟨B9, 0, Option.none⟩ : Addr).add 2) (.int .i64 x542) fun w590 =>
  stW w590 ((⟨B9, 0, Option.none⟩ : Addr).add 3) (.bool b543) fun w591 =>
  S530 w591 ∧ (
  ldI w591 (⟨B7, 0, Option.none⟩ : Addr) .i64 fun x592 =>
  ldI w591 ((⟨B7, 0, Option.none⟩ : Addr).add 1) .i64 fun x593 =>
  ldI w591 ((⟨B7, 0, Option.none⟩ : Addr).add 2) .i64 fun x594 =>
  ldI w591 ((⟨B7, 0, Option.none⟩ : Addr).add 3) .i64 fun x595 =>
  ldS w591 ((⟨B7, 0, Option.none⟩ : Addr).add 4) fun A596 n596 c596 =>
  ldI w591 ((⟨B7, 0, Option.none⟩ : Addr).add 5) .i64 fun x597 =>
  ldS w591 ((⟨B7, 0, Option.none⟩ : Addr).add 6) fun A598 n598 c598 =>
  ldB w591 ((⟨B7, 0, Option.none⟩ : Addr).add 7) fun b599 =>
  ldB w591 ((⟨B7, 0, Option.none⟩ : Addr).add 8) fun b600 =>
  ldS w591 (⟨B9, 0, Option.none⟩ : Addr) fun A601 n601 c601 =>
  ldS w591 ((⟨B9, 0, Option.none⟩ : Addr).add 1) fun A602 n602 c602 =>
  ldI w591 ((⟨B9, 0, Option.none⟩ : Addr).add 2) .i64 fun x603 =>
  ldB w591 ((⟨B9, 0, Option.none⟩ : Addr).add 3) fun b604 =>
  Q (.returned (.tuple #[.agg #[.int .i64 x592, .int .i64 x593, .int .i64 x594, .int .i64 x595, .slice A596 n596 c596, .int .i64 x597, .slice A598 n598 c598, .bool b599, .bool b600], .agg #[.slice A601 n601 c601, .slice A602 n602 c602, .int .i64 x603, .bool b604], .bool false])) w591)))))))))))))
def D : Nat → Option DH := dtab [(4, .simple [.fst 0, .fst 1, .fst 2, .fst 3, .fst 4, .fst 5, .fst 6, .fst 7] [.eff 8, .fst 9, .fst 10, .fst 11, .fst 12, .fst 13]), (8, .held [.fst 0, .fst 1, .fst 2, .fst 3, .fst 4, .fst 5, .fst 6, .fst 7, .fst 8, .fst 9, .fst 10, .fst 11, .fst 12, .eff 13, .eff 14] [.fst 15]), (12, .held [.fst 0, .fst 1, .fst 2, .fst 3, .fst 4, .eff 5, .eff 6] [.fst 7]), (16, .held [.fst 0, .fst 1, .fst 2, .fst 3, .fst 4, .eff 5, .eff 6] [.fst 7]), (20, .held [.fst 0, .fst 1, .fst 2, .fst 3, .eff 4, .fst 5, .fst 6, .fst 8, .eff 7, .eff 9, .eff 10, .fst 11, .eff 12, .eff 13] [.fst 14]), (23, .simple [.fst 0, .fst 1, .fst 2, .fst 3, .fst 4, .fst 5, .fst 6, .fst 7, .fst 8, .fst 9, .fst 10, .fst 11, .fst 12, .fst 13] [.fst 14, .fst 15]), (26, .held [.fst 0, .fst 1, .fst 2, .fst 3, .fst 4, .fst 5, .fst 6, .fst 7, .fst 8, .fst 9, .fst 10, .fst 11, .fst 12, .fst 13, .fst 14, .fst 15, .fst 16, .fst 17, .fst 18, .fst 19, .eff 20, .eff 21] [.fst 22]), (27, .held [.fst 0, .fst 1, .fst 2, .fst 3, .fst 4, .fst 6, .fst 7, .fst 8, .fst 9, .fst 10, .fst 11, .eff 5, .eff 12, .fst 13, .eff 14, .eff 15] [.fst 16])]
def l0LO : LO := ⟨[], [], [(1, [5, 6, 8, 9, 28, 29, 30])], []⟩
def l0Tk (k : Nat) : Spec := fun Q σ w =>
  gAd (σ 5) fun at5 =>
  gAd (σ 7) fun at7 =>
  gInt .i64 (σ 30) fun xt30 =>
  l0 k at5 at7 xt30 w (fun (xq30 : Int) (w : World) => ∀ d : Fr, Q (.exit 1) (ov d [(5, .pointer (some at5)), (6, σ 6), (8, σ 8), (9, σ 9), (28, σ 28), (29, σ 29), (30, .int .i64 xq30)]) w)
def l0T : Spec := fun Q σ w => ∃ k, l0Tk k Q σ w
def l0tb : List (List Nat × Spec) := []
noncomputable def l0b : Code := (subC [0, 0, 0, 1, 1, 1, 1] body).getD .skip
theorem l0_eq (k : Nat) (at5 : Addr) (at7 : Addr) (xt30 : Int) (Q : PQ) (σ : Fr) (w : World) :
    l0 (k + 1) at5 at7 xt30 w (fun (xq30 : Int) (w : World) => ∀ d : Fr, Q (.exit 1) (ov d [(5, .pointer (some at5)), (6, σ 6), (8, σ 8), (9, σ 9), (28, σ 28), (29, σ 29), (30, .int .i64 xq30)]) w) = codeW Tryd.prog hT 195 D (tab l0tb) [0, 0, 0, 1, 1, 1, 1] l0b (thenQ (l0Tk k Q) (widen l0LO Q)) (ov σ [(5, .pointer (some at5)), (7, .pointer (some at7)), (30, .int .i64 xt30)]) w := by kernel_rfl
theorem l0_snd : ∀ c, subC [0, 0, 1, 1, 1, 1] body = some c → Snd Tryd.prog 195 c l0T := by
  refine loop_of (hT := hT) (D := D) (l := l0tb) (b := l0b) (lo := l0LO) (by kernel_rfl) (by
    intro x hx
    simp only [l0tb, List.not_mem_nil] at hx
    ) (by kernel_rfl) (by kernel_rfl) ?_ ?_
  · intro Q σ w h
    unfold l0Tk at h
    obtain ⟨at5, h5, hn⟩ := gAd_elim h
    clear h
    have h := hn
    clear hn
    obtain ⟨at7, h7, hn⟩ := gAd_elim h
    clear h
    have h := hn
    clear hn
    obtain ⟨xt30, h30, hn⟩ := gInt_elim h
    clear h
    have h := hn
    clear hn
    exact h
  · intro k Q σ w h
    unfold l0Tk at h
    obtain ⟨at5, h5, hn⟩ := gAd_elim h
    clear h
    have h := hn
    clear hn
    obtain ⟨at7, h7, hn⟩ := gAd_elim h
    clear h
    have h := hn
    clear hn
    obtain ⟨xt30, h30, hn⟩ := gInt_elim h
    clear h
    have h := hn
    clear hn
    rw [l0_eq (σ := σ)] at h
    have e : (ov σ [(5, .pointer (some at5)), (7, .pointer (some at7)), (30, .int .i64 xt30)]) = σ := ov_self (by simp [h5, h7, h30])
    rw [e] at h
    exact h
def tb : List (List Nat × Spec) := [([0, 0, 1, 1, 1, 1], l0T)]
theorem wp_eq (pa0 : Option Addr) (xa1_0 : Int) (xa1_1 : Int) (xa1_2 : Int) (xa1_3 : Int) (Aa1_4 : Option Addr) (na1_4 : Nat) (ca1_4 : Nat) (xa1_5 : Int) (Aa1_6 : Option Addr) (na1_6 : Nat) (ca1_6 : Nat) (ba1_7 : Bool) (ba1_8 : Bool) (Aa2_0 : Option Addr) (na2_0 : Nat) (ca2_0 : Nat) (Aa2_1 : Option Addr) (na2_1 : Nat) (ca2_1 : Nat) (xa2_2 : Int) (ba2_3 : Bool) (xa3_0 : Int) (xa3_1 : Int) (xa3_2 : Int) (Aa3_3 : Option Addr) (na3_3 : Nat) (ca3_3 : Nat) (Aa3_4 : Option Addr) (na3_4 : Nat) (ca3_4 : Nat) (Aa3_5 : Option Addr) (na3_5 : Nat) (ca3_5 : Nat) (w : World) (Q : Ending → World → Prop) :
    wp pa0 xa1_0 xa1_1 xa1_2 xa1_3 Aa1_4 na1_4 ca1_4 xa1_5 Aa1_6 na1_6 ca1_6 ba1_7 ba1_8 Aa2_0 na2_0 ca2_0 Aa2_1 na2_1 ca2_1 xa2_2 ba2_3 xa3_0 xa3_1 xa3_2 Aa3_3 na3_3 ca3_3 Aa3_4 na3_4 ca3_4 Aa3_5 na3_5 ca3_5 w Q = codeW Tryd.prog hT 195 D (tab tb) [] body (topQ Tryd.prog hT 195 [.cell 8 65, .cell 9 68, .tmp 10] Q) (argsF [.pointer pa0, .agg #[.int .i64 xa1_0, .int .i64 xa1_1, .int .i64 xa1_2, .int .i64 xa1_3, .slice Aa1_4 na1_4 ca1_4, .int .i64 xa1_5, .slice Aa1_6 na1_6 ca1_6, .bool ba1_7, .bool ba1_8], .agg #[.slice Aa2_0 na2_0 ca2_0, .slice Aa2_1 na2_1 ca2_1, .int .i64 xa2_2, .bool ba2_3], .agg #[.int .i64 xa3_0, .int .i64 xa3_1, .int .i64 xa3_2, .slice Aa3_3 na3_3 ca3_3, .slice Aa3_4 na3_4 ca3_4, .slice Aa3_5 na3_5 ca3_5]]) w := by cases ba1_7 <;> cases ba1_8 <;> cases ba2_3 <;> kernel_rfl
theorem ok (pa0 : Option Addr) (xa1_0 : Int) (xa1_1 : Int) (xa1_2 : Int) (xa1_3 : Int) (Aa1_4 : Option Addr) (na1_4 : Nat) (ca1_4 : Nat) (xa1_5 : Int) (Aa1_6 : Option Addr) (na1_6 : Nat) (ca1_6 : Nat) (ba1_7 : Bool) (ba1_8 : Bool) (Aa2_0 : Option Addr) (na2_0 : Nat) (ca2_0 : Nat) (Aa2_1 : Option Addr) (na2_1 : Nat) (ca2_1 : Nat) (xa2_2 : Int) (ba2_3 : Bool) (xa3_0 : Int) (xa3_1 : Int) (xa3_2 : Int) (Aa3_3 : Option Addr) (na3_3 : Nat) (ca3_3 : Nat) (Aa3_4 : Option Addr) (na3_4 : Nat) (ca3_4 : Nat) (Aa3_5 : Option Addr) (na3_5 : Nat) (ca3_5 : Nat) (w : World) (Q : Ending → World → Prop) (h : wp pa0 xa1_0 xa1_1 xa1_2 xa1_3 Aa1_4 na1_4 ca1_4 xa1_5 Aa1_6 na1_6 ca1_6 ba1_7 ba1_8 Aa2_0 na2_0 ca2_0 Aa2_1 na2_1 ca2_1 xa2_2 ba2_3 xa3_0 xa3_1 xa3_2 Aa3_3 na3_3 ca3_3 Aa3_4 na3_4 ca3_4 Aa3_5 na3_5 ca3_5 w Q) : Calls Tryd.prog 29 #[.pointer pa0, .agg #[.int .i64 xa1_0, .int .i64 xa1_1, .int .i64 xa1_2, .int .i64 xa1_3, .slice Aa1_4 na1_4 ca1_4, .int .i64 xa1_5, .slice Aa1_6 na1_6 ca1_6, .bool ba1_7, .bool ba1_8], .agg #[.slice Aa2_0 na2_0 ca2_0, .slice Aa2_1 na2_1 ca2_1, .int .i64 xa2_2, .bool ba2_3], .agg #[.int .i64 xa3_0, .int .i64 xa3_1, .int .i64 xa3_2, .slice Aa3_3 na3_3 ca3_3, .slice Aa3_4 na3_4 ca3_4, .slice Aa3_5 na3_5 ca3_5]] w Q := by
  rw [wp_eq] at h
  exact calls_of_codeW (c := body) (rs := [.cell 8 65, .cell 9 68, .tmp 10]) Tryd.func29 (by kernel_rfl) (by kernel_rfl) (by kernel_rfl) (by kernel_rfl) (by kernel_rfl) (tab_snd (by
    intro x hx
    simp only [tb, List.mem_cons, List.not_mem_nil, or_false] at hx
    subst hx
    exact l0_snd)) (by kernel_rfl) h
end f_law09_asks
namespace f_ref09_Append
/-! skein/skeinref09.Append: function 55 -/
noncomputable def body : Code := (Tryd.f55.body).getD .skip
def l0 : Nat → Addr → Option Addr → Nat → Nat → Int → World → ((Option Addr) → Nat → Nat → World → Prop) → Prop
  | 0, _, _, _, _, _, _, _ => False
  | k + 1, at3, At11, nt11, ct11, xt12, w, K0 =>
    ldS w (at3.add 6) fun A193 n193 c193 =>
    sel (decide (xt12 < (n193 : Int))) (
    ldS w (at3.add 6) fun A194 n194 c194 =>
    optB A194 fun a195 =>
    req (decide (0 ≤ xt12 ∧ xt12 < (n194 : Int))) <|
    ldI w (a195.add (xt12.toNat * 3)) .i64 fun x196 =>
    ldI w ((a195.add (xt12.toNat * 3)).add 1) .i64 fun x197 =>
    ldS w ((a195.add (xt12.toNat * 3)).add 2) fun A198 n198 c198 =>
    alW w (.cells #[.int .i64 x196, .int .i64 x197, .slice A198 n198 c198] 39) fun B199 w200 =>
    Runs Tryd.prog (Builtin.append_ #[28, 28] 28 #[.slice At11 nt11 ct11, .slice (some (⟨B199, 0, Option.none⟩ : Addr)) 1 1]) w200 fun v202 w201 => ∃ (A203 : Option Addr) (n203 : Nat) (c203 : Nat), v202 = (.slice A203 n203 c203) ∧ (
    l0 k at3 A203 n203 c203 (IntKind.i64.wrap (xt12 + (1 : Int))) w201 K0)) (
    K0 At11 nt11 ct11 w)
def wp (xa0_0 : Int) (xa0_1 : Int) (xa0_2 : Int) (xa0_3 : Int) (Aa0_4 : Option Addr) (na0_4 : Nat) (ca0_4 : Nat) (xa0_5 : Int) (Aa0_6 : Option Addr) (na0_6 : Nat) (ca0_6 : Nat) (ba0_7 : Bool) (ba0_8 : Bool) (xa1 : Int) (Aa2 : Option Addr) (na2 : Nat) (ca2 : Nat) (w : World) (Q : Ending → World → Prop) : Prop :=
  alW w (.cells #[.int .i64 xa0_0, .int .i64 xa0_1, .int .i64 xa0_2, .int .i64 xa0_3, .slice Aa0_4 na0_4 ca0_4, .int .i64 xa0_5, .slice Aa0_6 na0_6 ca0_6, .bool ba0_7, .bool ba0_8] 65) fun B1 w2 =>
  alW w2 (.cells #[.int .i64 (0 : Int), .int .i64 (0 : Int), .int .i64 (0 : Int), .int .i64 (0 : Int), .slice none 0 0, .int .i64 (0 : Int), .slice none 0 0, .bool false, .bool false] 65) fun B3 w4 =>
  ldB w4 ((⟨B1, 0, Option.none⟩ : Addr).add 8) fun b5 =>
  sel b5 (
  ldI w4 (⟨B1, 0, Option.none⟩ : Addr) .i64 fun x6 =>
  ldI w4 ((⟨B1, 0, Option.none⟩ : Addr).add 1) .i64 fun x7 =>
  ldI w4 ((⟨B1, 0, Option.none⟩ : Addr).add 2) .i64 fun x8 =>
  ldI w4 ((⟨B1, 0, Option.none⟩ : Addr).add 3) .i64 fun x9 =>
  ldS w4 ((⟨B1, 0, Option.none⟩ : Addr).add 4) fun A10 n10 c10 =>
  ldI w4 ((⟨B1, 0, Option.none⟩ : Addr).add 5) .i64 fun x11 =>
  ldS w4 ((⟨B1, 0, Option.none⟩ : Addr).add 6) fun A12 n12 c12 =>
  ldB w4 ((⟨B1, 0, Option.none⟩ : Addr).add 7) fun b13 =>
  ldB w4 ((⟨B1, 0, Option.none⟩ : Addr).add 8) fun b14 =>
  stW w4 (⟨B3, 0, Option.none⟩ : Addr) (.int .i64 x6) fun w15 =>
  stW w15 ((⟨B3, 0, Option.none⟩ : Addr).add 1) (.int .i64 x7) fun w16 =>
  stW w16 ((⟨B3, 0, Option.none⟩ : Addr).add 2) (.int .i64 x8) fun w17 =>
  stW w17 ((⟨B3, 0, Option.none⟩ : Addr).add 3) (.int .i64 x9) fun w18 =>
  stW w18 ((⟨B3, 0, Option.none⟩ : Addr).add 4) (.slice A10 n10 c10) fun w19 =>
  stW w19 ((⟨B3, 0, Option.none⟩ : Addr).add 5) (.int .i64 x11) fun w20 =>
  stW w20 ((⟨B3, 0, Option.none⟩ : Addr).add 6) (.slice A12 n12 c12) fun w21 =>
  stW w21 ((⟨B3, 0, Option.none⟩ : Addr).add 7) (.bool b13) fun w22 =>
  stW w22 ((⟨B3, 0, Option.none⟩ : Addr).add 8) (.bool b14) fun w23 =>
  ldI w23 (⟨B3, 0, Option.none⟩ : Addr) .i64 fun x24 =>
  ldI w23 ((⟨B3, 0, Option.none⟩ : Addr).add 1) .i64 fun x25 =>
  ldI w23 ((⟨B3, 0, Option.none⟩ : Addr).add 2) .i64 fun x26 =>
  ldI w23 ((⟨B3, 0, Option.none⟩ : Addr).add 3) .i64 fun x27 =>
  ldS w23 ((⟨B3, 0, Option.none⟩ : Addr).add 4) fun A28 n28 c28 =>
  ldI w23 ((⟨B3, 0, Option.none⟩ : Addr).add 5) .i64 fun x29 =>
  ldS w23 ((⟨B3, 0, Option.none⟩ : Addr).add 6) fun A30 n30 c30 =>
  ldB w23 ((⟨B3, 0, Option.none⟩ : Addr).add 7) fun b31 =>
  ldB w23 ((⟨B3, 0, Option.none⟩ : Addr).add 8) fun b32 =>
  Q (.returned (.tuple #[.agg #[.int .i64 x24, .int .i64 x25, .int .i64 x26, .int .i64 x27, .slice A28 n28 c28, .int .i64 x29, .slice A30 n30 c30, .bool b31, .bool b32], .int .i64 (0 : Int), .int .i64 (91 : Int)])) w23) (
  ldB w4 ((⟨B1, 0, Option.none⟩ : Addr).add 7) fun b33 =>
  sel b33 (
  ldI w4 (⟨B1, 0, Option.none⟩ : Addr) .i64 fun x34 =>
  ldI w4 ((⟨B1, 0, Option.none⟩ : Addr).add 1) .i64 fun x35 =>
  ldI w4 ((⟨B1, 0, Option.none⟩ : Addr).add 2) .i64 fun x36 =>
  ldI w4 ((⟨B1, 0, Option.none⟩ : Addr).add 3) .i64 fun x37 =>
  ldS w4 ((⟨B1, 0, Option.none⟩ : Addr).add 4) fun A38 n38 c38 =>
  ldI w4 ((⟨B1, 0, Option.none⟩ : Addr).add 5) .i64 fun x39 =>
  ldS w4 ((⟨B1, 0, Option.none⟩ : Addr).add 6) fun A40 n40 c40 =>
  ldB w4 ((⟨B1, 0, Option.none⟩ : Addr).add 7) fun b41 =>
  ldB w4 ((⟨B1, 0, Option.none⟩ : Addr).add 8) fun b42 =>
  stW w4 (⟨B3, 0, Option.none⟩ : Addr) (.int .i64 x34) fun w43 =>
  stW w43 ((⟨B3, 0, Option.none⟩ : Addr).add 1) (.int .i64 x35) fun w44 =>
  stW w44 ((⟨B3, 0, Option.none⟩ : Addr).add 2) (.int .i64 x36) fun w45 =>
  stW w45 ((⟨B3, 0, Option.none⟩ : Addr).add 3) (.int .i64 x37) fun w46 =>
  stW w46 ((⟨B3, 0, Option.none⟩ : Addr).add 4) (.slice A38 n38 c38) fun w47 =>
  stW w47 ((⟨B3, 0, Option.none⟩ : Addr).add 5) (.int .i64 x39) fun w48 =>
  stW w48 ((⟨B3, 0, Option.none⟩ : Addr).add 6) (.slice A40 n40 c40) fun w49 =>
  stW w49 ((⟨B3, 0, Option.none⟩ : Addr).add 7) (.bool b41) fun w50 =>
  stW w50 ((⟨B3, 0, Option.none⟩ : Addr).add 8) (.bool b42) fun w51 =>
  ldI w51 (⟨B3, 0, Option.none⟩ : Addr) .i64 fun x52 =>
  ldI w51 ((⟨B3, 0, Option.none⟩ : Addr).add 1) .i64 fun x53 =>
  ldI w51 ((⟨B3, 0, Option.none⟩ : Addr).add 2) .i64 fun x54 =>
  ldI w51 ((⟨B3, 0, Option.none⟩ : Addr).add 3) .i64 fun x55 =>
  ldS w51 ((⟨B3, 0, Option.none⟩ : Addr).add 4) fun A56 n56 c56 =>
  ldI w51 ((⟨B3, 0, Option.none⟩ : Addr).add 5) .i64 fun x57 =>
  ldS w51 ((⟨B3, 0, Option.none⟩ : Addr).add 6) fun A58 n58 c58 =>
  ldB w51 ((⟨B3, 0, Option.none⟩ : Addr).add 7) fun b59 =>
  ldB w51 ((⟨B3, 0, Option.none⟩ : Addr).add 8) fun b60 =>
  Q (.returned (.tuple #[.agg #[.int .i64 x52, .int .i64 x53, .int .i64 x54, .int .i64 x55, .slice A56 n56 c56, .int .i64 x57, .slice A58 n58 c58, .bool b59, .bool b60], .int .i64 (0 : Int), .int .i64 (111 : Int)])) w51) (
  sel (decide (xa1 < (1 : Int))) (
  ldI w4 (⟨B1, 0, Option.none⟩ : Addr) .i64 fun x61 =>
  ldI w4 ((⟨B1, 0, Option.none⟩ : Addr).add 1) .i64 fun x62 =>
  ldI w4 ((⟨B1, 0, Option.none⟩ : Addr).add 2) .i64 fun x63 =>
  ldI w4 ((⟨B1, 0, Option.none⟩ : Addr).add 3) .i64 fun x64 =>
  ldS w4 ((⟨B1, 0, Option.none⟩ : Addr).add 4) fun A65 n65 c65 =>
  ldI w4 ((⟨B1, 0, Option.none⟩ : Addr).add 5) .i64 fun x66 =>
  ldS w4 ((⟨B1, 0, Option.none⟩ : Addr).add 6) fun A67 n67 c67 =>
  ldB w4 ((⟨B1, 0, Option.none⟩ : Addr).add 7) fun b68 =>
  ldB w4 ((⟨B1, 0, Option.none⟩ : Addr).add 8) fun b69 =>
  stW w4 (⟨B3, 0, Option.none⟩ : Addr) (.int .i64 x61) fun w70 =>
  stW w70 ((⟨B3, 0, Option.none⟩ : Addr).add 1) (.int .i64 x62) fun w71 =>
  stW w71 ((⟨B3, 0, Option.none⟩ : Addr).add 2) (.int .i64 x63) fun w72 =>
  stW w72 ((⟨B3, 0, Option.none⟩ : Addr).add 3) (.int .i64 x64) fun w73 =>
  stW w73 ((⟨B3, 0, Option.none⟩ : Addr).add 4) (.slice A65 n65 c65) fun w74 =>
  stW w74 ((⟨B3, 0, Option.none⟩ : Addr).add 5) (.int .i64 x66) fun w75 =>
  stW w75 ((⟨B3, 0, Option.none⟩ : Addr).add 6) (.slice A67 n67 c67) fun w76 =>
  stW w76 ((⟨B3, 0, Option.none⟩ : Addr).add 7) (.bool b68) fun w77 =>
  stW w77 ((⟨B3, 0, Option.none⟩ : Addr).add 8) (.bool b69) fun w78 =>
  ldI w78 (⟨B3, 0, Option.none⟩ : Addr) .i64 fun x79 =>
  ldI w78 ((⟨B3, 0, Option.none⟩ : Addr).add 1) .i64 fun x80 =>
  ldI w78 ((⟨B3, 0, Option.none⟩ : Addr).add 2) .i64 fun x81 =>
  ldI w78 ((⟨B3, 0, Option.none⟩ : Addr).add 3) .i64 fun x82 =>
  ldS w78 ((⟨B3, 0, Option.none⟩ : Addr).add 4) fun A83 n83 c83 =>
  ldI w78 ((⟨B3, 0, Option.none⟩ : Addr).add 5) .i64 fun x84 =>
  ldS w78 ((⟨B3, 0, Option.none⟩ : Addr).add 6) fun A85 n85 c85 =>
  ldB w78 ((⟨B3, 0, Option.none⟩ : Addr).add 7) fun b86 =>
  ldB w78 ((⟨B3, 0, Option.none⟩ : Addr).add 8) fun b87 =>
  Q (.returned (.tuple #[.agg #[.int .i64 x79, .int .i64 x80, .int .i64 x81, .int .i64 x82, .slice A83 n83 c83, .int .i64 x84, .slice A85 n85 c85, .bool b86, .bool b87], .int .i64 (0 : Int), .int .i64 (1 : Int)])) w78) (
  sel (decide (xa1 > (255 : Int))) (
  ldI w4 (⟨B1, 0, Option.none⟩ : Addr) .i64 fun x88 =>
  ldI w4 ((⟨B1, 0, Option.none⟩ : Addr).add 1) .i64 fun x89 =>
  ldI w4 ((⟨B1, 0, Option.none⟩ : Addr).add 2) .i64 fun x90 =>
  ldI w4 ((⟨B1, 0, Option.none⟩ : Addr).add 3) .i64 fun x91 =>
  ldS w4 ((⟨B1, 0, Option.none⟩ : Addr).add 4) fun A92 n92 c92 =>
  ldI w4 ((⟨B1, 0, Option.none⟩ : Addr).add 5) .i64 fun x93 =>
  ldS w4 ((⟨B1, 0, Option.none⟩ : Addr).add 6) fun A94 n94 c94 =>
  ldB w4 ((⟨B1, 0, Option.none⟩ : Addr).add 7) fun b95 =>
  ldB w4 ((⟨B1, 0, Option.none⟩ : Addr).add 8) fun b96 =>
  stW w4 (⟨B3, 0, Option.none⟩ : Addr) (.int .i64 x88) fun w97 =>
  stW w97 ((⟨B3, 0, Option.none⟩ : Addr).add 1) (.int .i64 x89) fun w98 =>
  stW w98 ((⟨B3, 0, Option.none⟩ : Addr).add 2) (.int .i64 x90) fun w99 =>
  stW w99 ((⟨B3, 0, Option.none⟩ : Addr).add 3) (.int .i64 x91) fun w100 =>
  stW w100 ((⟨B3, 0, Option.none⟩ : Addr).add 4) (.slice A92 n92 c92) fun w101 =>
  stW w101 ((⟨B3, 0, Option.none⟩ : Addr).add 5) (.int .i64 x93) fun w102 =>
  stW w102 ((⟨B3, 0, Option.none⟩ : Addr).add 6) (.slice A94 n94 c94) fun w103 =>
  stW w103 ((⟨B3, 0, Option.none⟩ : Addr).add 7) (.bool b95) fun w104 =>
  stW w104 ((⟨B3, 0, Option.none⟩ : Addr).add 8) (.bool b96) fun w105 =>
  ldI w105 (⟨B3, 0, Option.none⟩ : Addr) .i64 fun x106 =>
  ldI w105 ((⟨B3, 0, Option.none⟩ : Addr).add 1) .i64 fun x107 =>
  ldI w105 ((⟨B3, 0, Option.none⟩ : Addr).add 2) .i64 fun x108 =>
  ldI w105 ((⟨B3, 0, Option.none⟩ : Addr).add 3) .i64 fun x109 =>
  ldS w105 ((⟨B3, 0, Option.none⟩ : Addr).add 4) fun A110 n110 c110 =>
  ldI w105 ((⟨B3, 0, Option.none⟩ : Addr).add 5) .i64 fun x111 =>
  ldS w105 ((⟨B3, 0, Option.none⟩ : Addr).add 6) fun A112 n112 c112 =>
  ldB w105 ((⟨B3, 0, Option.none⟩ : Addr).add 7) fun b113 =>
  ldB w105 ((⟨B3, 0, Option.none⟩ : Addr).add 8) fun b114 =>
  Q (.returned (.tuple #[.agg #[.int .i64 x106, .int .i64 x107, .int .i64 x108, .int .i64 x109, .slice A110 n110 c110, .int .i64 x111, .slice A112 n112 c112, .bool b113, .bool b114], .int .i64 (0 : Int), .int .i64 (1 : Int)])) w105) (
  sel (decide ((na2 : Int) > (1200 : Int))) (
  ldI w4 (⟨B1, 0, Option.none⟩ : Addr) .i64 fun x115 =>
  ldI w4 ((⟨B1, 0, Option.none⟩ : Addr).add 1) .i64 fun x116 =>
  ldI w4 ((⟨B1, 0, Option.none⟩ : Addr).add 2) .i64 fun x117 =>
  ldI w4 ((⟨B1, 0, Option.none⟩ : Addr).add 3) .i64 fun x118 =>
  ldS w4 ((⟨B1, 0, Option.none⟩ : Addr).add 4) fun A119 n119 c119 =>
  ldI w4 ((⟨B1, 0, Option.none⟩ : Addr).add 5) .i64 fun x120 =>
  ldS w4 ((⟨B1, 0, Option.none⟩ : Addr).add 6) fun A121 n121 c121 =>
  ldB w4 ((⟨B1, 0, Option.none⟩ : Addr).add 7) fun b122 =>
  ldB w4 ((⟨B1, 0, Option.none⟩ : Addr).add 8) fun b123 =>
  stW w4 (⟨B3, 0, Option.none⟩ : Addr) (.int .i64 x115) fun w124 =>
  stW w124 ((⟨B3, 0, Option.none⟩ : Addr).add 1) (.int .i64 x116) fun w125 =>
  stW w125 ((⟨B3, 0, Option.none⟩ : Addr).add 2) (.int .i64 x117) fun w126 =>
  stW w126 ((⟨B3, 0, Option.none⟩ : Addr).add 3) (.int .i64 x118) fun w127 =>
  stW w127 ((⟨B3, 0, Option.none⟩ : Addr).add 4) (.slice A119 n119 c119) fun w128 =>
  stW w128 ((⟨B3, 0, Option.none⟩ : Addr).add 5) (.int .i64 x120) fun w129 =>
  stW w129 ((⟨B3, 0, Option.none⟩ : Addr).add 6) (.slice A121 n121 c121) fun w130 =>
  stW w130 ((⟨B3, 0, Option.none⟩ : Addr).add 7) (.bool b122) fun w131 =>
  stW w131 ((⟨B3, 0, Option.none⟩ : Addr).add 8) (.bool b123) fun w132 =>
  ldI w132 (⟨B3, 0, Option.none⟩ : Addr) .i64 fun x133 =>
  ldI w132 ((⟨B3, 0, Option.none⟩ : Addr).add 1) .i64 fun x134 =>
  ldI w132 ((⟨B3, 0, Option.none⟩ : Addr).add 2) .i64 fun x135 =>
  ldI w132 ((⟨B3, 0, Option.none⟩ : Addr).add 3) .i64 fun x136 =>
  ldS w132 ((⟨B3, 0, Option.none⟩ : Addr).add 4) fun A137 n137 c137 =>
  ldI w132 ((⟨B3, 0, Option.none⟩ : Addr).add 5) .i64 fun x138 =>
  ldS w132 ((⟨B3, 0, Option.none⟩ : Addr).add 6) fun A139 n139 c139 =>
  ldB w132 ((⟨B3, 0, Option.none⟩ : Addr).add 7) fun b140 =>
  ldB w132 ((⟨B3, 0, Option.none⟩ : Addr).add 8) fun b141 =>
  Q (.returned (.tuple #[.agg #[.int .i64 x133, .int .i64 x134, .int .i64 x135, .int .i64 x136, .slice A137 n137 c137, .int .i64 x138, .slice A139 n139 c139, .bool b140, .bool b141], .int .i64 (0 : Int), .int .i64 (4 : Int)])) w132) (
  alW w4 (.cells #[.int .u8 (IntKind.u8.wrap xa1)] 5) fun B142 w143 =>
  Calls Tryd.prog 73 #[.slice Aa2 na2 ca2] w143 fun e144 w145 => ∃ (A146 : Option Addr) (n146 : Nat) (c146 : Nat), e144 = .returned (.slice A146 n146 c146) ∧ (
  Calls Tryd.prog 72 #[.slice (some (⟨B142, 0, Option.none⟩ : Addr)) 1 1, .slice A146 n146 c146] w145 fun e147 w148 => ∃ (A149 : Option Addr) (n149 : Nat) (c149 : Nat), e147 = .returned (.slice A149 n149 c149) ∧ (
  ldI w148 (⟨B1, 0, Option.none⟩ : Addr) .i64 fun x150 =>
  ldI w148 ((⟨B1, 0, Option.none⟩ : Addr).add 1) .i64 fun x151 =>
  ldI w148 ((⟨B1, 0, Option.none⟩ : Addr).add 2) .i64 fun x152 =>
  ldI w148 ((⟨B1, 0, Option.none⟩ : Addr).add 3) .i64 fun x153 =>
  ldS w148 ((⟨B1, 0, Option.none⟩ : Addr).add 4) fun A154 n154 c154 =>
  ldI w148 ((⟨B1, 0, Option.none⟩ : Addr).add 5) .i64 fun x155 =>
  ldS w148 ((⟨B1, 0, Option.none⟩ : Addr).add 6) fun A156 n156 c156 =>
  ldB w148 ((⟨B1, 0, Option.none⟩ : Addr).add 7) fun b157 =>
  ldB w148 ((⟨B1, 0, Option.none⟩ : Addr).add 8) fun b158 =>
  Calls Tryd.prog 74 #[.agg #[.int .i64 x150, .int .i64 x151, .int .i64 x152, .int .i64 x153, .slice A154 n154 c154, .int .i64 x155, .slice A156 n156 c156, .bool b157, .bool b158]] w148 fun e159 w160 => ∃ (x161 : Int), e159 = .returned (.int .i64 x161) ∧ (
  sel (decide ((n149 : Int) > x161)) (
  ldI w160 (⟨B1, 0, Option.none⟩ : Addr) .i64 fun x162 =>
  ldI w160 ((⟨B1, 0, Option.none⟩ : Addr).add 1) .i64 fun x163 =>
  ldI w160 ((⟨B1, 0, Option.none⟩ : Addr).add 2) .i64 fun x164 =>
  ldI w160 ((⟨B1, 0, Option.none⟩ : Addr).add 3) .i64 fun x165 =>
  ldS w160 ((⟨B1, 0, Option.none⟩ : Addr).add 4) fun A166 n166 c166 =>
  ldI w160 ((⟨B1, 0, Option.none⟩ : Addr).add 5) .i64 fun x167 =>
  ldS w160 ((⟨B1, 0, Option.none⟩ : Addr).add 6) fun A168 n168 c168 =>
  ldB w160 ((⟨B1, 0, Option.none⟩ : Addr).add 7) fun b169 =>
  ldB w160 ((⟨B1, 0, Option.none⟩ : Addr).add 8) fun b170 =>
  stW w160 (⟨B3, 0, Option.none⟩ : Addr) (.int .i64 x162) fun w171 =>
  stW w171 ((⟨B3, 0, Option.none⟩ : Addr).add 1) (.int .i64 x163) fun w172 =>
  stW w172 ((⟨B3, 0, Option.none⟩ : Addr).add 2) (.int .i64 x164) fun w173 =>
  stW w173 ((⟨B3, 0, Option.none⟩ : Addr).add 3) (.int .i64 x165) fun w174 =>
  stW w174 ((⟨B3, 0, Option.none⟩ : Addr).add 4) (.slice A166 n166 c166) fun w175 =>
  stW w175 ((⟨B3, 0, Option.none⟩ : Addr).add 5) (.int .i64 x167) fun w176 =>
  stW w176 ((⟨B3, 0, Option.none⟩ : Addr).add 6) (.slice A168 n168 c168) fun w177 =>
  stW w177 ((⟨B3, 0, Option.none⟩ : Addr).add 7) (.bool b169) fun w178 =>
  stW w178 ((⟨B3, 0, Option.none⟩ : Addr).add 8) (.bool b170) fun w179 =>
  ldI w179 (⟨B3, 0, Option.none⟩ : Addr) .i64 fun x180 =>
  ldI w179 ((⟨B3, 0, Option.none⟩ : Addr).add 1) .i64 fun x181 =>
  ldI w179 ((⟨B3, 0, Option.none⟩ : Addr).add 2) .i64 fun x182 =>
  ldI w179 ((⟨B3, 0, Option.none⟩ : Addr).add 3) .i64 fun x183 =>
  ldS w179 ((⟨B3, 0, Option.none⟩ : Addr).add 4) fun A184 n184 c184 =>
  ldI w179 ((⟨B3, 0, Option.none⟩ : Addr).add 5) .i64 fun x185 =>
  ldS w179 ((⟨B3, 0, Option.none⟩ : Addr).add 6) fun A186 n186 c186 =>
  ldB w179 ((⟨B3, 0, Option.none⟩ : Addr).add 7) fun b187 =>
  ldB w179 ((⟨B3, 0, Option.none⟩ : Addr).add 8) fun b188 =>
  Q (.returned (.tuple #[.agg #[.int .i64 x180, .int .i64 x181, .int .i64 x182, .int .i64 x183, .slice A184 n184 c184, .int .i64 x185, .slice A186 n186 c186, .bool b187, .bool b188], .int .i64 (0 : Int), .int .i64 (90 : Int)])) w179) (
  ldI w160 ((⟨B1, 0, Option.none⟩ : Addr).add 2) .i64 fun x189 =>
  ldS w160 ((⟨B1, 0, Option.none⟩ : Addr).add 4) fun A190 n190 c190 =>
  alW w160 (.cells #[] 39) fun B191 w192 =>
  ∃ k247 : Nat, l0 k247 (⟨B1, 0, Option.none⟩ : Addr) (some (⟨B191, 0, Option.none⟩ : Addr)) 0 0 (0 : Int) w192 (fun (A204 : Option Addr) (n204 : Nat) (c204 : Nat) (w205 : World) => ∀ _ : Fr,
  Calls Tryd.prog 11 #[.slice Aa2 na2 ca2] w205 fun e206 w207 => ∃ (A208 : Option Addr) (n208 : Nat) (c208 : Nat), e206 = .returned (.slice A208 n208 c208) ∧ (
  alW w207 (.cells #[.int .i64 (IntKind.i64.wrap ((IntKind.i64.wrap (x189 * (16777216 : Int))) + (n190 : Int))), .int .i64 xa1, .slice A208 n208 c208] 39) fun B209 w210 =>
  Runs Tryd.prog (Builtin.append_ #[28, 28] 28 #[.slice A204 n204 c204, .slice (some (⟨B209, 0, Option.none⟩ : Addr)) 1 1]) w210 fun v212 w211 => ∃ (A213 : Option Addr) (n213 : Nat) (c213 : Nat), v212 = (.slice A213 n213 c213) ∧ (
  stW w211 ((⟨B1, 0, Option.none⟩ : Addr).add 6) (.slice A213 n213 c213) fun w214 =>
  ldS w214 ((⟨B1, 0, Option.none⟩ : Addr).add 4) fun A215 n215 c215 =>
  Calls Tryd.prog 72 #[.slice A215 n215 c215, .slice A149 n149 c149] w214 fun e216 w217 => ∃ (A218 : Option Addr) (n218 : Nat) (c218 : Nat), e216 = .returned (.slice A218 n218 c218) ∧ (
  stW w217 ((⟨B1, 0, Option.none⟩ : Addr).add 4) (.slice A218 n218 c218) fun w219 =>
  ldI w219 (⟨B1, 0, Option.none⟩ : Addr) .i64 fun x220 =>
  ldI w219 ((⟨B1, 0, Option.none⟩ : Addr).add 1) .i64 fun x221 =>
  ldI w219 ((⟨B1, 0, Option.none⟩ : Addr).add 2) .i64 fun x222 =>
  ldI w219 ((⟨B1, 0, Option.none⟩ : Addr).add 3) .i64 fun x223 =>
  ldS w219 ((⟨B1, 0, Option.none⟩ : Addr).add 4) fun A224 n224 c224 =>
  ldI w219 ((⟨B1, 0, Option.none⟩ : Addr).add 5) .i64 fun x225 =>
  ldS w219 ((⟨B1, 0, Option.none⟩ : Addr).add 6) fun A226 n226 c226 =>
  ldB w219 ((⟨B1, 0, Option.none⟩ : Addr).add 7) fun b227 =>
  ldB w219 ((⟨B1, 0, Option.none⟩ : Addr).add 8) fun b228 =>
  stW w219 (⟨B3, 0, Option.none⟩ : Addr) (.int .i64 x220) fun w229 =>
  stW w229 ((⟨B3, 0, Option.none⟩ : Addr).add 1) (.int .i64 x221) fun w230 =>
  stW w230 ((⟨B3, 0, Option.none⟩ : Addr).add 2) (.int .i64 x222) fun w231 =>
  stW w231 ((⟨B3, 0, Option.none⟩ : Addr).add 3) (.int .i64 x223) fun w232 =>
  stW w232 ((⟨B3, 0, Option.none⟩ : Addr).add 4) (.slice A224 n224 c224) fun w233 =>
  stW w233 ((⟨B3, 0, Option.none⟩ : Addr).add 5) (.int .i64 x225) fun w234 =>
  stW w234 ((⟨B3, 0, Option.none⟩ : Addr).add 6) (.slice A226 n226 c226) fun w235 =>
  stW w235 ((⟨B3, 0, Option.none⟩ : Addr).add 7) (.bool b227) fun w236 =>
  stW w236 ((⟨B3, 0, Option.none⟩ : Addr).add 8) (.bool b228) fun w237 =>
  ldI w237 (⟨B3, 0, Option.none⟩ : Addr) .i64 fun x238 =>
  ldI w237 ((⟨B3, 0, Option.none⟩ : Addr).add 1) .i64 fun x239 =>
  ldI w237 ((⟨B3, 0, Option.none⟩ : Addr).add 2) .i64 fun x240 =>
  ldI w237 ((⟨B3, 0, Option.none⟩ : Addr).add 3) .i64 fun x241 =>
  ldS w237 ((⟨B3, 0, Option.none⟩ : Addr).add 4) fun A242 n242 c242 =>
  ldI w237 ((⟨B3, 0, Option.none⟩ : Addr).add 5) .i64 fun x243 =>
  ldS w237 ((⟨B3, 0, Option.none⟩ : Addr).add 6) fun A244 n244 c244 =>
  ldB w237 ((⟨B3, 0, Option.none⟩ : Addr).add 7) fun b245 =>
  ldB w237 ((⟨B3, 0, Option.none⟩ : Addr).add 8) fun b246 =>
  Q (.returned (.tuple #[.agg #[.int .i64 x238, .int .i64 x239, .int .i64 x240, .int .i64 x241, .slice A242 n242 c242, .int .i64 x243, .slice A244 n244 c244, .bool b245, .bool b246], .int .i64 (IntKind.i64.wrap ((IntKind.i64.wrap (x189 * (16777216 : Int))) + (n190 : Int))), .int .i64 (0 : Int)])) w237)))))))))))))
def D : Nat → Option DH := dtab []
def l0LO : LO := ⟨[], [], [(0, [1, 2, 3, 6, 9, 10, 11])], []⟩
def l0Tk (k : Nat) : Spec := fun Q σ w =>
  gAd (σ 3) fun at3 =>
  gSlice (σ 11) fun At11 nt11 ct11 =>
  gInt .i64 (σ 12) fun xt12 =>
  l0 k at3 At11 nt11 ct11 xt12 w (fun (Aq11 : Option Addr) (nq11 : Nat) (cq11 : Nat) (w : World) => ∀ d : Fr, Q (.exit 0) (ov d [(1, σ 1), (2, σ 2), (3, .pointer (some at3)), (6, σ 6), (9, σ 9), (10, σ 10), (11, .slice Aq11 nq11 cq11)]) w)
def l0T : Spec := fun Q σ w => ∃ k, l0Tk k Q σ w
def l0tb : List (List Nat × Spec) := []
noncomputable def l0b : Code := (subC [0, 0, 1, 0, 1, 1, 1, 1, 1, 1, 1, 1, 1] body).getD .skip
theorem l0_eq (k : Nat) (at3 : Addr) (At11 : Option Addr) (nt11 : Nat) (ct11 : Nat) (xt12 : Int) (Q : PQ) (σ : Fr) (w : World) :
    l0 (k + 1) at3 At11 nt11 ct11 xt12 w (fun (Aq11 : Option Addr) (nq11 : Nat) (cq11 : Nat) (w : World) => ∀ d : Fr, Q (.exit 0) (ov d [(1, σ 1), (2, σ 2), (3, .pointer (some at3)), (6, σ 6), (9, σ 9), (10, σ 10), (11, .slice Aq11 nq11 cq11)]) w) = codeW Tryd.prog hT 82 D (tab l0tb) [0, 0, 1, 0, 1, 1, 1, 1, 1, 1, 1, 1, 1] l0b (thenQ (l0Tk k Q) (widen l0LO Q)) (ov σ [(3, .pointer (some at3)), (11, .slice At11 nt11 ct11), (12, .int .i64 xt12)]) w := by kernel_rfl
theorem l0_snd : ∀ c, subC [0, 1, 0, 1, 1, 1, 1, 1, 1, 1, 1, 1] body = some c → Snd Tryd.prog 82 c l0T := by
  refine loop_of (hT := hT) (D := D) (l := l0tb) (b := l0b) (lo := l0LO) (by kernel_rfl) (by
    intro x hx
    simp only [l0tb, List.not_mem_nil] at hx
    ) (by kernel_rfl) (by kernel_rfl) ?_ ?_
  · intro Q σ w h
    unfold l0Tk at h
    obtain ⟨at3, h3, hn⟩ := gAd_elim h
    clear h
    have h := hn
    clear hn
    obtain ⟨At11, nt11, ct11, h11, hn⟩ := gSlice_elim h
    clear h
    have h := hn
    clear hn
    obtain ⟨xt12, h12, hn⟩ := gInt_elim h
    clear h
    have h := hn
    clear hn
    exact h
  · intro k Q σ w h
    unfold l0Tk at h
    obtain ⟨at3, h3, hn⟩ := gAd_elim h
    clear h
    have h := hn
    clear hn
    obtain ⟨At11, nt11, ct11, h11, hn⟩ := gSlice_elim h
    clear h
    have h := hn
    clear hn
    obtain ⟨xt12, h12, hn⟩ := gInt_elim h
    clear h
    have h := hn
    clear hn
    rw [l0_eq (σ := σ)] at h
    have e : (ov σ [(3, .pointer (some at3)), (11, .slice At11 nt11 ct11), (12, .int .i64 xt12)]) = σ := ov_self (by simp [h3, h11, h12])
    rw [e] at h
    exact h
def tb : List (List Nat × Spec) := [([0, 1, 0, 1, 1, 1, 1, 1, 1, 1, 1, 1], l0T)]
theorem wp_eq (xa0_0 : Int) (xa0_1 : Int) (xa0_2 : Int) (xa0_3 : Int) (Aa0_4 : Option Addr) (na0_4 : Nat) (ca0_4 : Nat) (xa0_5 : Int) (Aa0_6 : Option Addr) (na0_6 : Nat) (ca0_6 : Nat) (ba0_7 : Bool) (ba0_8 : Bool) (xa1 : Int) (Aa2 : Option Addr) (na2 : Nat) (ca2 : Nat) (w : World) (Q : Ending → World → Prop) :
    wp xa0_0 xa0_1 xa0_2 xa0_3 Aa0_4 na0_4 ca0_4 xa0_5 Aa0_6 na0_6 ca0_6 ba0_7 ba0_8 xa1 Aa2 na2 ca2 w Q = codeW Tryd.prog hT 82 D (tab tb) [] body (topQ Tryd.prog hT 82 [.cell 6 65, .tmp 7, .tmp 8] Q) (argsF [.agg #[.int .i64 xa0_0, .int .i64 xa0_1, .int .i64 xa0_2, .int .i64 xa0_3, .slice Aa0_4 na0_4 ca0_4, .int .i64 xa0_5, .slice Aa0_6 na0_6 ca0_6, .bool ba0_7, .bool ba0_8], .int .i64 xa1, .slice Aa2 na2 ca2]) w := by cases ba0_7 <;> cases ba0_8 <;> kernel_rfl
theorem ok (xa0_0 : Int) (xa0_1 : Int) (xa0_2 : Int) (xa0_3 : Int) (Aa0_4 : Option Addr) (na0_4 : Nat) (ca0_4 : Nat) (xa0_5 : Int) (Aa0_6 : Option Addr) (na0_6 : Nat) (ca0_6 : Nat) (ba0_7 : Bool) (ba0_8 : Bool) (xa1 : Int) (Aa2 : Option Addr) (na2 : Nat) (ca2 : Nat) (w : World) (Q : Ending → World → Prop) (h : wp xa0_0 xa0_1 xa0_2 xa0_3 Aa0_4 na0_4 ca0_4 xa0_5 Aa0_6 na0_6 ca0_6 ba0_7 ba0_8 xa1 Aa2 na2 ca2 w Q) : Calls Tryd.prog 55 #[.agg #[.int .i64 xa0_0, .int .i64 xa0_1, .int .i64 xa0_2, .int .i64 xa0_3, .slice Aa0_4 na0_4 ca0_4, .int .i64 xa0_5, .slice Aa0_6 na0_6 ca0_6, .bool ba0_7, .bool ba0_8], .int .i64 xa1, .slice Aa2 na2 ca2] w Q := by
  rw [wp_eq] at h
  exact calls_of_codeW (c := body) (rs := [.cell 6 65, .tmp 7, .tmp 8]) Tryd.func55 (by kernel_rfl) (by kernel_rfl) (by kernel_rfl) (by kernel_rfl) (by kernel_rfl) (tab_snd (by
    intro x hx
    simp only [tb, List.mem_cons, List.not_mem_nil, or_false] at hx
    subst hx
    exact l0_snd)) (by kernel_rfl) h
end f_ref09_Append
namespace f_ref09_Flush
/-! skein/skeinref09.Flush: function 56 -/
noncomputable def body : Code := (Tryd.f56.body).getD .skip
def od9 : OD := ⟨[2, 3, 7], [0, 2, 6, 8, 14, 15, 16, 20, 21], fun i => ([⟨true, [], [], fun _ _ => undef⟩,
  ⟨false, [], [], fun ps vs => match ps, vs with | [.pointer (some ap2), .pointer (some ap3), .int _ xp7], [] => .pointer (some ap3) | _, _ => undef⟩,
  ⟨true, [], [1], fun _ _ => undef⟩,
  ⟨false, [], [], fun ps vs => match ps, vs with | [.pointer (some ap2), .pointer (some ap3), .int _ xp7], [] => .int .i64 xp7 | _, _ => undef⟩,
  ⟨false, [2], [2, 3], fun ps vs => match ps, vs with | [.pointer (some ap2), .pointer (some ap3), .int _ xp7], [.int _ xe2] => .int .i64 (IntKind.i64.wrap (xe2 + xp7)) | _, _ => undef⟩,
  ⟨false, [], [], fun ps vs => match ps, vs with | [.pointer (some ap2), .pointer (some ap3), .int _ xp7], [] => .pointer (some (ap3.add 2)) | _, _ => undef⟩,
  ⟨true, [], [5], fun _ _ => undef⟩,
  ⟨false, [], [], fun ps vs => match ps, vs with | [.pointer (some ap2), .pointer (some ap3), .int _ xp7], [] => .pointer (some (ap3.add 4)) | _, _ => undef⟩,
  ⟨true, [], [7], fun _ _ => undef⟩,
  ⟨false, [], [], fun ps vs => match ps, vs with | [.pointer (some ap2), .pointer (some ap3), .int _ xp7], [] => .int .i64 xp7 | _, _ => undef⟩,
  ⟨false, [], [9], fun ps vs => match ps, vs with | [.pointer (some ap2), .pointer (some ap3), .int _ xp7], [] => .int .i64 (IntKind.i64.wrap (xp7 * (498 : Int))) | _, _ => undef⟩,
  ⟨false, [], [], fun ps vs => match ps, vs with | [.pointer (some ap2), .pointer (some ap3), .int _ xp7], [] => .int .i64 xp7 | _, _ => undef⟩,
  ⟨false, [], [11], fun ps vs => match ps, vs with | [.pointer (some ap2), .pointer (some ap3), .int _ xp7], [] => .int .i64 (IntKind.i64.wrap (xp7 + (1 : Int))) | _, _ => undef⟩,
  ⟨false, [], [12], fun ps vs => match ps, vs with | [.pointer (some ap2), .pointer (some ap3), .int _ xp7], [] => .int .i64 (IntKind.i64.wrap ((IntKind.i64.wrap (xp7 + (1 : Int))) * (498 : Int))) | _, _ => undef⟩,
  ⟨true, [8], [8, 10, 13], fun _ _ => undef⟩,
  ⟨true, [6, 8, 14], [6, 14], fun _ _ => undef⟩,
  ⟨true, [0, 2, 6, 8, 14, 15], [0, 4, 15], fun _ _ => undef⟩,
  ⟨false, [0, 2, 6, 8, 14, 15, 16], [16], fun ps vs => match ps, vs with | [.pointer (some ap2), .pointer (some ap3), .int _ xp7], [.agg ⟨[.slice Ae0_0 ne0_0 ce0_0, .slice Ae0_1 ne0_1 ce0_1, .int _ xe0_2, .bool be0_3]⟩, .int _ xe2, .int _ xe6, .slice Ae8 ne8 ce8, .slice Ae14 ne14 ce14, .slice Ae15 ne15 ce15, .tuple ⟨[.agg ⟨[.slice Ae16_0_0 ne16_0_0 ce16_0_0, .slice Ae16_0_1 ne16_0_1 ce16_0_1, .int _ xe16_0_2, .bool be16_0_3]⟩, .int _ xe16_1]⟩] => .tuple #[.agg #[.slice Ae16_0_0 ne16_0_0 ce16_0_0, .slice Ae16_0_1 ne16_0_1 ce16_0_1, .int .i64 xe16_0_2, .bool be16_0_3], .int .i64 xe16_1] | _, _ => undef⟩,
  ⟨false, [0, 2, 6, 8, 14, 15, 16], [17], fun ps vs => match ps, vs with | [.pointer (some ap2), .pointer (some ap3), .int _ xp7], [.agg ⟨[.slice Ae0_0 ne0_0 ce0_0, .slice Ae0_1 ne0_1 ce0_1, .int _ xe0_2, .bool be0_3]⟩, .int _ xe2, .int _ xe6, .slice Ae8 ne8 ce8, .slice Ae14 ne14 ce14, .slice Ae15 ne15 ce15, .tuple ⟨[.agg ⟨[.slice Ae16_0_0 ne16_0_0 ce16_0_0, .slice Ae16_0_1 ne16_0_1 ce16_0_1, .int _ xe16_0_2, .bool be16_0_3]⟩, .int _ xe16_1]⟩] => .agg #[.slice Ae16_0_0 ne16_0_0 ce16_0_0, .slice Ae16_0_1 ne16_0_1 ce16_0_1, .int .i64 xe16_0_2, .bool be16_0_3] | _, _ => undef⟩,
  ⟨false, [0, 2, 6, 8, 14, 15, 16], [17], fun ps vs => match ps, vs with | [.pointer (some ap2), .pointer (some ap3), .int _ xp7], [.agg ⟨[.slice Ae0_0 ne0_0 ce0_0, .slice Ae0_1 ne0_1 ce0_1, .int _ xe0_2, .bool be0_3]⟩, .int _ xe2, .int _ xe6, .slice Ae8 ne8 ce8, .slice Ae14 ne14 ce14, .slice Ae15 ne15 ce15, .tuple ⟨[.agg ⟨[.slice Ae16_0_0 ne16_0_0 ce16_0_0, .slice Ae16_0_1 ne16_0_1 ce16_0_1, .int _ xe16_0_2, .bool be16_0_3]⟩, .int _ xe16_1]⟩] => .int .i64 xe16_1 | _, _ => undef⟩,
  ⟨true, [], [], fun _ _ => undef⟩,
  ⟨true, [0, 2, 6, 8, 14, 15, 16, 20], [18, 20], fun _ _ => undef⟩,
  ⟨false, [0, 2, 6, 8, 14, 15, 16, 20, 21], [19], fun ps vs => match ps, vs with | [.pointer (some ap2), .pointer (some ap3), .int _ xp7], [.agg ⟨[.slice Ae0_0 ne0_0 ce0_0, .slice Ae0_1 ne0_1 ce0_1, .int _ xe0_2, .bool be0_3]⟩, .int _ xe2, .int _ xe6, .slice Ae8 ne8 ce8, .slice Ae14 ne14 ce14, .slice Ae15 ne15 ce15, .tuple ⟨[.agg ⟨[.slice Ae16_0_0 ne16_0_0 ce16_0_0, .slice Ae16_0_1 ne16_0_1 ce16_0_1, .int _ xe16_0_2, .bool be16_0_3]⟩, .int _ xe16_1]⟩, .pointer (some ae20), .tuple ⟨[]⟩] => .int .i64 xe16_1 | _, _ => undef⟩] : List OI).getD i ⟨true, [], [], fun _ _ => undef⟩, fun i => ([(.one (.agg [.slice, .slice, (.int .i64), .bool])), .one (.sc .any), (.one (.sc (.int .i64))), .one (.sc .any), .one (.sc .any), .one (.sc .any), (.one (.sc (.int .i64))), .one (.sc .any), (.one (.sc .slice)), .one (.sc .any), .one (.sc .any), .one (.sc .any), .one (.sc .any), .one (.sc .any), (.one (.sc .slice)), (.one (.sc .slice)), (.tup [(.agg [.slice, .slice, (.int .i64), .bool]), (.sc (.int .i64))]), .one (.sc .any), .one (.sc .any), .one (.sc .any), (.one (.sc .ad)), (.tup []), .one (.sc .any)] : List OS).getD i (.one (.sc .any))⟩
def h9 (ap2 : Addr) (ap3 : Addr) (xp7 : Int) : Prop :=
  (∀ (_ : Fr) (w : World),
  w = w ∧ (.pointer (some ap3) : Value) = (.pointer (some ap3))) ∧
  (∀ (_ : Fr) (w : World),
  w = w ∧ (.int .i64 xp7 : Value) = (.int .i64 xp7)) ∧
  (∀ (_ : Fr) (w : World),
  ∀ (xe2 : Int),
  w = w ∧ (.int .i64 (IntKind.i64.wrap (xe2 + xp7)) : Value) = (.int .i64 (IntKind.i64.wrap (xe2 + xp7)))) ∧
  (∀ (_ : Fr) (w : World),
  w = w ∧ (.pointer (some (ap3.add 2)) : Value) = (.pointer (some (ap3.add 2)))) ∧
  (∀ (_ : Fr) (w : World),
  w = w ∧ (.pointer (some (ap3.add 4)) : Value) = (.pointer (some (ap3.add 4)))) ∧
  (∀ (_ : Fr) (w : World),
  w = w ∧ (.int .i64 xp7 : Value) = (.int .i64 xp7)) ∧
  (∀ (_ : Fr) (w : World),
  w = w ∧ (.int .i64 (IntKind.i64.wrap (xp7 * (498 : Int))) : Value) = (.int .i64 (IntKind.i64.wrap (xp7 * (498 : Int))))) ∧
  (∀ (_ : Fr) (w : World),
  w = w ∧ (.int .i64 xp7 : Value) = (.int .i64 xp7)) ∧
  (∀ (_ : Fr) (w : World),
  w = w ∧ (.int .i64 (IntKind.i64.wrap (xp7 + (1 : Int))) : Value) = (.int .i64 (IntKind.i64.wrap (xp7 + (1 : Int))))) ∧
  (∀ (_ : Fr) (w : World),
  w = w ∧ (.int .i64 (IntKind.i64.wrap ((IntKind.i64.wrap (xp7 + (1 : Int))) * (498 : Int))) : Value) = (.int .i64 (IntKind.i64.wrap ((IntKind.i64.wrap (xp7 + (1 : Int))) * (498 : Int))))) ∧
  (∀ (_ : Fr) (w : World),
  ∀ (Ae0_0 : Option Addr) (ne0_0 : Nat) (ce0_0 : Nat) (Ae0_1 : Option Addr) (ne0_1 : Nat) (ce0_1 : Nat) (xe0_2 : Int) (be0_3 : Bool),
  ∀ (xe2 : Int),
  ∀ (xe6 : Int),
  ∀ (Ae8 : Option Addr) (ne8 : Nat) (ce8 : Nat),
  ∀ (Ae14 : Option Addr) (ne14 : Nat) (ce14 : Nat),
  ∀ (Ae15 : Option Addr) (ne15 : Nat) (ce15 : Nat),
  ∀ (Ae16_0_0 : Option Addr) (ne16_0_0 : Nat) (ce16_0_0 : Nat) (Ae16_0_1 : Option Addr) (ne16_0_1 : Nat) (ce16_0_1 : Nat) (xe16_0_2 : Int) (be16_0_3 : Bool) (xe16_1 : Int),
  w = w ∧ (.tuple #[.agg #[.slice Ae16_0_0 ne16_0_0 ce16_0_0, .slice Ae16_0_1 ne16_0_1 ce16_0_1, .int .i64 xe16_0_2, .bool be16_0_3], .int .i64 xe16_1] : Value) = (.tuple #[.agg #[.slice Ae16_0_0 ne16_0_0 ce16_0_0, .slice Ae16_0_1 ne16_0_1 ce16_0_1, .int .i64 xe16_0_2, .bool be16_0_3], .int .i64 xe16_1])) ∧
  (∀ (_ : Fr) (w : World),
  ∀ (Ae0_0 : Option Addr) (ne0_0 : Nat) (ce0_0 : Nat) (Ae0_1 : Option Addr) (ne0_1 : Nat) (ce0_1 : Nat) (xe0_2 : Int) (be0_3 : Bool),
  ∀ (xe2 : Int),
  ∀ (xe6 : Int),
  ∀ (Ae8 : Option Addr) (ne8 : Nat) (ce8 : Nat),
  ∀ (Ae14 : Option Addr) (ne14 : Nat) (ce14 : Nat),
  ∀ (Ae15 : Option Addr) (ne15 : Nat) (ce15 : Nat),
  ∀ (Ae16_0_0 : Option Addr) (ne16_0_0 : Nat) (ce16_0_0 : Nat) (Ae16_0_1 : Option Addr) (ne16_0_1 : Nat) (ce16_0_1 : Nat) (xe16_0_2 : Int) (be16_0_3 : Bool) (xe16_1 : Int),
  w = w ∧ (.agg #[.slice Ae16_0_0 ne16_0_0 ce16_0_0, .slice Ae16_0_1 ne16_0_1 ce16_0_1, .int .i64 xe16_0_2, .bool be16_0_3] : Value) = (.agg #[.slice Ae16_0_0 ne16_0_0 ce16_0_0, .slice Ae16_0_1 ne16_0_1 ce16_0_1, .int .i64 xe16_0_2, .bool be16_0_3])) ∧
  (∀ (_ : Fr) (w : World),
  ∀ (Ae0_0 : Option Addr) (ne0_0 : Nat) (ce0_0 : Nat) (Ae0_1 : Option Addr) (ne0_1 : Nat) (ce0_1 : Nat) (xe0_2 : Int) (be0_3 : Bool),
  ∀ (xe2 : Int),
  ∀ (xe6 : Int),
  ∀ (Ae8 : Option Addr) (ne8 : Nat) (ce8 : Nat),
  ∀ (Ae14 : Option Addr) (ne14 : Nat) (ce14 : Nat),
  ∀ (Ae15 : Option Addr) (ne15 : Nat) (ce15 : Nat),
  ∀ (Ae16_0_0 : Option Addr) (ne16_0_0 : Nat) (ce16_0_0 : Nat) (Ae16_0_1 : Option Addr) (ne16_0_1 : Nat) (ce16_0_1 : Nat) (xe16_0_2 : Int) (be16_0_3 : Bool) (xe16_1 : Int),
  w = w ∧ (.int .i64 xe16_1 : Value) = (.int .i64 xe16_1)) ∧
  (∀ (_ : Fr) (w : World),
  ∀ (Ae0_0 : Option Addr) (ne0_0 : Nat) (ce0_0 : Nat) (Ae0_1 : Option Addr) (ne0_1 : Nat) (ce0_1 : Nat) (xe0_2 : Int) (be0_3 : Bool),
  ∀ (xe2 : Int),
  ∀ (xe6 : Int),
  ∀ (Ae8 : Option Addr) (ne8 : Nat) (ce8 : Nat),
  ∀ (Ae14 : Option Addr) (ne14 : Nat) (ce14 : Nat),
  ∀ (Ae15 : Option Addr) (ne15 : Nat) (ce15 : Nat),
  ∀ (Ae16_0_0 : Option Addr) (ne16_0_0 : Nat) (ce16_0_0 : Nat) (Ae16_0_1 : Option Addr) (ne16_0_1 : Nat) (ce16_0_1 : Nat) (xe16_0_2 : Int) (be16_0_3 : Bool) (xe16_1 : Int),
  ∀ (ae20 : Addr),
  w = w ∧ (.int .i64 xe16_1 : Value) = (.int .i64 xe16_1)) ∧
  True
theorem h9_ok (ap2 : Addr) (ap3 : Addr) (xp7 : Int) : h9 ap2 ap3 xp7 := ⟨fun _ w => ⟨rfl, rfl⟩, fun _ w => ⟨rfl, rfl⟩, fun _ w _ => ⟨rfl, rfl⟩, fun _ w => ⟨rfl, rfl⟩, fun _ w => ⟨rfl, rfl⟩, fun _ w => ⟨rfl, rfl⟩, fun _ w => ⟨rfl, rfl⟩, fun _ w => ⟨rfl, rfl⟩, fun _ w => ⟨rfl, rfl⟩, fun _ w => ⟨rfl, rfl⟩, fun _ w _ _ _ _ _ _ _ _ _ _ _ _ _ _ _ _ _ _ _ _ _ _ _ _ _ _ _ _ => ⟨rfl, rfl⟩, fun _ w _ _ _ _ _ _ _ _ _ _ _ _ _ _ _ _ _ _ _ _ _ _ _ _ _ _ _ _ => ⟨rfl, rfl⟩, fun _ w _ _ _ _ _ _ _ _ _ _ _ _ _ _ _ _ _ _ _ _ _ _ _ _ _ _ _ _ => ⟨rfl, rfl⟩, fun _ w _ _ _ _ _ _ _ _ _ _ _ _ _ _ _ _ _ _ _ _ _ _ _ _ _ _ _ _ _ => ⟨rfl, rfl⟩, trivial⟩
def l0 : Nat → Addr → Addr → Addr → Addr → Int → World → (World → Prop) → (Int → World → Prop) → Prop
  | 0, _, _, _, _, _, _, _, _ => False
  | k + 1, at2, at3, at4, at5, xt7, w, K0, Kr =>
    ldS w (at3.add 4) fun A94 n94 c94 =>
    sel (decide ((IntKind.i64.wrap (xt7 * (498 : Int))) < (n94 : Int))) (
    ldI w (at3.add 5) .i64 fun x95 =>
    sel (decide ((IntKind.i64.wrap ((IntKind.i64.wrap (xt7 + (1 : Int))) * (498 : Int))) > x95)) (
    drW w fun w96 =>
    h9 at2 at3 xt7 ∧
    ∃ (G97 : World → World → Prop) (Φ98 : Nat → Value → World → Prop), (∀ w, G97 w w) ∧ (∀ a b c, G97 a b → G97 b c → G97 a c) ∧ (∀ i v a b, G97 w96 a → G97 a b → Φ98 i v a → Φ98 i v b) ∧ (
    (∀ (_ : Fr) (w99 : World), G97 w96 w99 →
    (
    ldS w99 at2 fun A100 n100 c100 =>
    ldS w99 (at2.add 1) fun A101 n101 c101 =>
    ldI w99 (at2.add 2) .i64 fun x102 =>
    ldB w99 (at2.add 3) fun b103 =>
    G97 w99 w99 ∧ Φ98 0 (.agg #[.slice A100 n100 c100, .slice A101 n101 c101, .int .i64 x102, .bool b103]) w99)) ∧
    (∀ (_ : Fr) (w104 : World), G97 w96 w104 →
    (
    ldI w104 at3 .i64 fun x105 =>
    G97 w104 w104 ∧ Φ98 2 (.int .i64 x105) w104)) ∧
    (∀ (_ : Fr) (w106 : World), G97 w96 w106 →
    (
    ldI w106 (at3.add 2) .i64 fun x107 =>
    G97 w106 w106 ∧ Φ98 6 (.int .i64 x107) w106)) ∧
    (∀ (_ : Fr) (w108 : World), G97 w96 w108 →
    (
    ldS w108 (at3.add 4) fun A109 n109 c109 =>
    G97 w108 w108 ∧ Φ98 8 (.slice A109 n109 c109) w108)) ∧
    (∀ (_ : Fr) (w110 : World), G97 w96 w110 →
    ∀ (Ae8 : Option Addr) (ne8 : Nat) (ce8 : Nat),
    Φ98 8 (.slice Ae8 ne8 ce8) w110 →
    (
    Calls Tryd.prog 46 #[.slice Ae8 ne8 ce8, .int .i64 (IntKind.i64.wrap (xt7 * (498 : Int))), .int .i64 (IntKind.i64.wrap ((IntKind.i64.wrap (xt7 + (1 : Int))) * (498 : Int)))] w110 fun e111 w112 => ∃ (A113 : Option Addr) (n113 : Nat) (c113 : Nat), e111 = .returned (.slice A113 n113 c113) ∧ (
    G97 w110 w112 ∧ Φ98 14 (.slice A113 n113 c113) w112))) ∧
    (∀ (_ : Fr) (w114 : World), G97 w96 w114 →
    ∀ (xe6 : Int),
    Φ98 6 (.int .i64 xe6) w114 →
    ∀ (Ae8 : Option Addr) (ne8 : Nat) (ce8 : Nat),
    Φ98 8 (.slice Ae8 ne8 ce8) w114 →
    ∀ (Ae14 : Option Addr) (ne14 : Nat) (ce14 : Nat),
    Φ98 14 (.slice Ae14 ne14 ce14) w114 →
    (
    Calls Tryd.prog 76 #[.int .i64 xe6, .slice Ae14 ne14 ce14] w114 fun e115 w116 => ∃ (A117 : Option Addr) (n117 : Nat) (c117 : Nat), e115 = .returned (.slice A117 n117 c117) ∧ (
    G97 w114 w116 ∧ Φ98 15 (.slice A117 n117 c117) w116))) ∧
    (∀ (_ : Fr) (w118 : World), G97 w96 w118 →
    ∀ (Ae0_0 : Option Addr) (ne0_0 : Nat) (ce0_0 : Nat) (Ae0_1 : Option Addr) (ne0_1 : Nat) (ce0_1 : Nat) (xe0_2 : Int) (be0_3 : Bool),
    Φ98 0 (.agg #[.slice Ae0_0 ne0_0 ce0_0, .slice Ae0_1 ne0_1 ce0_1, .int .i64 xe0_2, .bool be0_3]) w118 →
    ∀ (xe2 : Int),
    Φ98 2 (.int .i64 xe2) w118 →
    ∀ (xe6 : Int),
    Φ98 6 (.int .i64 xe6) w118 →
    ∀ (Ae8 : Option Addr) (ne8 : Nat) (ce8 : Nat),
    Φ98 8 (.slice Ae8 ne8 ce8) w118 →
    ∀ (Ae14 : Option Addr) (ne14 : Nat) (ce14 : Nat),
    Φ98 14 (.slice Ae14 ne14 ce14) w118 →
    ∀ (Ae15 : Option Addr) (ne15 : Nat) (ce15 : Nat),
    Φ98 15 (.slice Ae15 ne15 ce15) w118 →
    (
    Calls Tryd.prog 75 #[.agg #[.slice Ae0_0 ne0_0 ce0_0, .slice Ae0_1 ne0_1 ce0_1, .int .i64 xe0_2, .bool be0_3], .int .i64 (IntKind.i64.wrap (xe2 + xt7)), .slice Ae15 ne15 ce15] w118 fun e119 w120 => ∃ (A121_0_0 : Option Addr) (n121_0_0 : Nat) (c121_0_0 : Nat) (A121_0_1 : Option Addr) (n121_0_1 : Nat) (c121_0_1 : Nat) (x121_0_2 : Int) (b121_0_3 : Bool) (x121_1 : Int), e119 = .returned (.tuple #[.agg #[.slice A121_0_0 n121_0_0 c121_0_0, .slice A121_0_1 n121_0_1 c121_0_1, .int .i64 x121_0_2, .bool b121_0_3], .int .i64 x121_1]) ∧ (
    G97 w118 w120 ∧ Φ98 16 (.tuple #[.agg #[.slice A121_0_0 n121_0_0 c121_0_0, .slice A121_0_1 n121_0_1 c121_0_1, .int .i64 x121_0_2, .bool b121_0_3], .int .i64 x121_1]) w120))) ∧
    (∀ (_ : Fr) (w122 : World), G97 w96 w122 →
    (
    alW w122 (.cells #[.slice none 0 0, .slice none 0 0, .int .i64 (0 : Int), .bool false] 68) fun B123 w124 =>
    G97 w122 w124 ∧ Φ98 20 (.pointer (some (⟨B123, 0, Option.none⟩ : Addr))) w124)) ∧
    (∀ (_ : Fr) (w125 : World), G97 w96 w125 →
    ∀ (Ae0_0 : Option Addr) (ne0_0 : Nat) (ce0_0 : Nat) (Ae0_1 : Option Addr) (ne0_1 : Nat) (ce0_1 : Nat) (xe0_2 : Int) (be0_3 : Bool),
    Φ98 0 (.agg #[.slice Ae0_0 ne0_0 ce0_0, .slice Ae0_1 ne0_1 ce0_1, .int .i64 xe0_2, .bool be0_3]) w125 →
    ∀ (xe2 : Int),
    Φ98 2 (.int .i64 xe2) w125 →
    ∀ (xe6 : Int),
    Φ98 6 (.int .i64 xe6) w125 →
    ∀ (Ae8 : Option Addr) (ne8 : Nat) (ce8 : Nat),
    Φ98 8 (.slice Ae8 ne8 ce8) w125 →
    ∀ (Ae14 : Option Addr) (ne14 : Nat) (ce14 : Nat),
    Φ98 14 (.slice Ae14 ne14 ce14) w125 →
    ∀ (Ae15 : Option Addr) (ne15 : Nat) (ce15 : Nat),
    Φ98 15 (.slice Ae15 ne15 ce15) w125 →
    ∀ (Ae16_0_0 : Option Addr) (ne16_0_0 : Nat) (ce16_0_0 : Nat) (Ae16_0_1 : Option Addr) (ne16_0_1 : Nat) (ce16_0_1 : Nat) (xe16_0_2 : Int) (be16_0_3 : Bool) (xe16_1 : Int),
    Φ98 16 (.tuple #[.agg #[.slice Ae16_0_0 ne16_0_0 ce16_0_0, .slice Ae16_0_1 ne16_0_1 ce16_0_1, .int .i64 xe16_0_2, .bool be16_0_3], .int .i64 xe16_1]) w125 →
    ∀ (ae20 : Addr),
    Φ98 20 (.pointer (some ae20)) w125 →
    (
    stW w125 ae20 (.slice Ae16_0_0 ne16_0_0 ce16_0_0) fun w126 =>
    stW w126 (ae20.add 1) (.slice Ae16_0_1 ne16_0_1 ce16_0_1) fun w127 =>
    stW w127 (ae20.add 2) (.int .i64 xe16_0_2) fun w128 =>
    stW w128 (ae20.add 3) (.bool be16_0_3) fun w129 =>
    G97 w125 w129 ∧ Φ98 21 (.tuple #[]) w129)) ∧ True) ∧
    ∀ w130, G97 w96 w130 →
    ∀ (Ae0_0 : Option Addr) (ne0_0 : Nat) (ce0_0 : Nat) (Ae0_1 : Option Addr) (ne0_1 : Nat) (ce0_1 : Nat) (xe0_2 : Int) (be0_3 : Bool),
    Φ98 0 (.agg #[.slice Ae0_0 ne0_0 ce0_0, .slice Ae0_1 ne0_1 ce0_1, .int .i64 xe0_2, .bool be0_3]) w130 →
    ∀ (xe2 : Int),
    Φ98 2 (.int .i64 xe2) w130 →
    ∀ (xe6 : Int),
    Φ98 6 (.int .i64 xe6) w130 →
    ∀ (Ae8 : Option Addr) (ne8 : Nat) (ce8 : Nat),
    Φ98 8 (.slice Ae8 ne8 ce8) w130 →
    ∀ (Ae14 : Option Addr) (ne14 : Nat) (ce14 : Nat),
    Φ98 14 (.slice Ae14 ne14 ce14) w130 →
    ∀ (Ae15 : Option Addr) (ne15 : Nat) (ce15 : Nat),
    Φ98 15 (.slice Ae15 ne15 ce15) w130 →
    ∀ (Ae16_0_0 : Option Addr) (ne16_0_0 : Nat) (ce16_0_0 : Nat) (Ae16_0_1 : Option Addr) (ne16_0_1 : Nat) (ce16_0_1 : Nat) (xe16_0_2 : Int) (be16_0_3 : Bool) (xe16_1 : Int),
    Φ98 16 (.tuple #[.agg #[.slice Ae16_0_0 ne16_0_0 ce16_0_0, .slice Ae16_0_1 ne16_0_1 ce16_0_1, .int .i64 xe16_0_2, .bool be16_0_3], .int .i64 xe16_1]) w130 →
    ∀ (ae20 : Addr),
    Φ98 20 (.pointer (some ae20)) w130 →
    Φ98 21 (.tuple #[]) w130 →
    (
    ldS w130 ae20 fun A131 n131 c131 =>
    ldS w130 (ae20.add 1) fun A132 n132 c132 =>
    ldI w130 (ae20.add 2) .i64 fun x133 =>
    ldB w130 (ae20.add 3) fun b134 =>
    stW w130 at2 (.slice A131 n131 c131) fun w135 =>
    stW w135 (at2.add 1) (.slice A132 n132 c132) fun w136 =>
    stW w136 (at2.add 2) (.int .i64 x133) fun w137 =>
    stW w137 (at2.add 3) (.bool b134) fun w138 =>
    sel (xe16_1 != (0 : Int)) (
    stW w138 (at3.add 8) (.bool true) fun w139 =>
    drW w139 fun w140 =>
    ∃ S141 : World → Prop, S141 w140 ∧ (
    hdS S141 at2 fun A142 n142 c142 =>
    hdS S141 (at2.add 1) fun A143 n143 c143 =>
    hdI S141 (at2.add 2) .i64 fun x144 =>
    hdB S141 (at2.add 3) fun b145 =>
    hdI S141 at3 .i64 fun x146 =>
    hdI S141 (at3.add 1) .i64 fun x147 =>
    hdI S141 (at3.add 2) .i64 fun x148 =>
    hdI S141 (at3.add 3) .i64 fun x149 =>
    hdS S141 (at3.add 4) fun A150 n150 c150 =>
    hdI S141 (at3.add 5) .i64 fun x151 =>
    hdS S141 (at3.add 6) fun A152 n152 c152 =>
    hdB S141 (at3.add 7) fun b153 =>
    hdB S141 (at3.add 8) fun b154 =>
    stW w140 at4 (.slice A142 n142 c142) fun w155 =>
    stW w155 (at4.add 1) (.slice A143 n143 c143) fun w156 =>
    stW w156 (at4.add 2) (.int .i64 x144) fun w157 =>
    stW w157 (at4.add 3) (.bool b145) fun w158 =>
    S141 w158 ∧ (
    stW w158 at5 (.int .i64 x146) fun w159 =>
    stW w159 (at5.add 1) (.int .i64 x147) fun w160 =>
    stW w160 (at5.add 2) (.int .i64 x148) fun w161 =>
    stW w161 (at5.add 3) (.int .i64 x149) fun w162 =>
    stW w162 (at5.add 4) (.slice A150 n150 c150) fun w163 =>
    stW w163 (at5.add 5) (.int .i64 x151) fun w164 =>
    stW w164 (at5.add 6) (.slice A152 n152 c152) fun w165 =>
    stW w165 (at5.add 7) (.bool b153) fun w166 =>
    stW w166 (at5.add 8) (.bool b154) fun w167 =>
    S141 w167 ∧ (
    Kr xe16_1 w167)))) (
    l0 k at2 at3 at4 at5 (IntKind.i64.wrap (xt7 + (1 : Int))) w138 K0 Kr))) (
    l0 k at2 at3 at4 at5 (IntKind.i64.wrap (xt7 + (1 : Int))) w K0 Kr)) (
    K0  w)
def wp (Aa0_0 : Option Addr) (na0_0 : Nat) (ca0_0 : Nat) (Aa0_1 : Option Addr) (na0_1 : Nat) (ca0_1 : Nat) (xa0_2 : Int) (ba0_3 : Bool) (xa1_0 : Int) (xa1_1 : Int) (xa1_2 : Int) (xa1_3 : Int) (Aa1_4 : Option Addr) (na1_4 : Nat) (ca1_4 : Nat) (xa1_5 : Int) (Aa1_6 : Option Addr) (na1_6 : Nat) (ca1_6 : Nat) (ba1_7 : Bool) (ba1_8 : Bool) (w : World) (Q : Ending → World → Prop) : Prop :=
  alW w (.cells #[.slice Aa0_0 na0_0 ca0_0, .slice Aa0_1 na0_1 ca0_1, .int .i64 xa0_2, .bool ba0_3] 68) fun B1 w2 =>
  alW w2 (.cells #[.int .i64 xa1_0, .int .i64 xa1_1, .int .i64 xa1_2, .int .i64 xa1_3, .slice Aa1_4 na1_4 ca1_4, .int .i64 xa1_5, .slice Aa1_6 na1_6 ca1_6, .bool ba1_7, .bool ba1_8] 65) fun B3 w4 =>
  alW w4 (.cells #[.slice none 0 0, .slice none 0 0, .int .i64 (0 : Int), .bool false] 68) fun B5 w6 =>
  alW w6 (.cells #[.int .i64 (0 : Int), .int .i64 (0 : Int), .int .i64 (0 : Int), .int .i64 (0 : Int), .slice none 0 0, .int .i64 (0 : Int), .slice none 0 0, .bool false, .bool false] 65) fun B7 w8 =>
  ldB w8 ((⟨B3, 0, Option.none⟩ : Addr).add 8) fun b9 =>
  sel b9 (
  drW w8 fun w10 =>
  ∃ S11 : World → Prop, S11 w10 ∧ (
  hdS S11 (⟨B1, 0, Option.none⟩ : Addr) fun A12 n12 c12 =>
  hdS S11 ((⟨B1, 0, Option.none⟩ : Addr).add 1) fun A13 n13 c13 =>
  hdI S11 ((⟨B1, 0, Option.none⟩ : Addr).add 2) .i64 fun x14 =>
  hdB S11 ((⟨B1, 0, Option.none⟩ : Addr).add 3) fun b15 =>
  hdI S11 (⟨B3, 0, Option.none⟩ : Addr) .i64 fun x16 =>
  hdI S11 ((⟨B3, 0, Option.none⟩ : Addr).add 1) .i64 fun x17 =>
  hdI S11 ((⟨B3, 0, Option.none⟩ : Addr).add 2) .i64 fun x18 =>
  hdI S11 ((⟨B3, 0, Option.none⟩ : Addr).add 3) .i64 fun x19 =>
  hdS S11 ((⟨B3, 0, Option.none⟩ : Addr).add 4) fun A20 n20 c20 =>
  hdI S11 ((⟨B3, 0, Option.none⟩ : Addr).add 5) .i64 fun x21 =>
  hdS S11 ((⟨B3, 0, Option.none⟩ : Addr).add 6) fun A22 n22 c22 =>
  hdB S11 ((⟨B3, 0, Option.none⟩ : Addr).add 7) fun b23 =>
  hdB S11 ((⟨B3, 0, Option.none⟩ : Addr).add 8) fun b24 =>
  stW w10 (⟨B5, 0, Option.none⟩ : Addr) (.slice A12 n12 c12) fun w25 =>
  stW w25 ((⟨B5, 0, Option.none⟩ : Addr).add 1) (.slice A13 n13 c13) fun w26 =>
  stW w26 ((⟨B5, 0, Option.none⟩ : Addr).add 2) (.int .i64 x14) fun w27 =>
  stW w27 ((⟨B5, 0, Option.none⟩ : Addr).add 3) (.bool b15) fun w28 =>
  S11 w28 ∧ (
  stW w28 (⟨B7, 0, Option.none⟩ : Addr) (.int .i64 x16) fun w29 =>
  stW w29 ((⟨B7, 0, Option.none⟩ : Addr).add 1) (.int .i64 x17) fun w30 =>
  stW w30 ((⟨B7, 0, Option.none⟩ : Addr).add 2) (.int .i64 x18) fun w31 =>
  stW w31 ((⟨B7, 0, Option.none⟩ : Addr).add 3) (.int .i64 x19) fun w32 =>
  stW w32 ((⟨B7, 0, Option.none⟩ : Addr).add 4) (.slice A20 n20 c20) fun w33 =>
  stW w33 ((⟨B7, 0, Option.none⟩ : Addr).add 5) (.int .i64 x21) fun w34 =>
  stW w34 ((⟨B7, 0, Option.none⟩ : Addr).add 6) (.slice A22 n22 c22) fun w35 =>
  stW w35 ((⟨B7, 0, Option.none⟩ : Addr).add 7) (.bool b23) fun w36 =>
  stW w36 ((⟨B7, 0, Option.none⟩ : Addr).add 8) (.bool b24) fun w37 =>
  ldS w37 (⟨B5, 0, Option.none⟩ : Addr) fun A38 n38 c38 =>
  ldS w37 ((⟨B5, 0, Option.none⟩ : Addr).add 1) fun A39 n39 c39 =>
  ldI w37 ((⟨B5, 0, Option.none⟩ : Addr).add 2) .i64 fun x40 =>
  ldB w37 ((⟨B5, 0, Option.none⟩ : Addr).add 3) fun b41 =>
  ldI w37 (⟨B7, 0, Option.none⟩ : Addr) .i64 fun x42 =>
  ldI w37 ((⟨B7, 0, Option.none⟩ : Addr).add 1) .i64 fun x43 =>
  ldI w37 ((⟨B7, 0, Option.none⟩ : Addr).add 2) .i64 fun x44 =>
  ldI w37 ((⟨B7, 0, Option.none⟩ : Addr).add 3) .i64 fun x45 =>
  ldS w37 ((⟨B7, 0, Option.none⟩ : Addr).add 4) fun A46 n46 c46 =>
  ldI w37 ((⟨B7, 0, Option.none⟩ : Addr).add 5) .i64 fun x47 =>
  ldS w37 ((⟨B7, 0, Option.none⟩ : Addr).add 6) fun A48 n48 c48 =>
  ldB w37 ((⟨B7, 0, Option.none⟩ : Addr).add 7) fun b49 =>
  ldB w37 ((⟨B7, 0, Option.none⟩ : Addr).add 8) fun b50 =>
  Q (.returned (.tuple #[.agg #[.slice A38 n38 c38, .slice A39 n39 c39, .int .i64 x40, .bool b41], .agg #[.int .i64 x42, .int .i64 x43, .int .i64 x44, .int .i64 x45, .slice A46 n46 c46, .int .i64 x47, .slice A48 n48 c48, .bool b49, .bool b50], .int .i64 (91 : Int)])) w37))) (
  ldI w8 ((⟨B3, 0, Option.none⟩ : Addr).add 5) .i64 fun x51 =>
  ldS w8 ((⟨B3, 0, Option.none⟩ : Addr).add 4) fun A52 n52 c52 =>
  sel (x51 == (n52 : Int)) (
  drW w8 fun w53 =>
  ∃ S54 : World → Prop, S54 w53 ∧ (
  hdS S54 (⟨B1, 0, Option.none⟩ : Addr) fun A55 n55 c55 =>
  hdS S54 ((⟨B1, 0, Option.none⟩ : Addr).add 1) fun A56 n56 c56 =>
  hdI S54 ((⟨B1, 0, Option.none⟩ : Addr).add 2) .i64 fun x57 =>
  hdB S54 ((⟨B1, 0, Option.none⟩ : Addr).add 3) fun b58 =>
  hdI S54 (⟨B3, 0, Option.none⟩ : Addr) .i64 fun x59 =>
  hdI S54 ((⟨B3, 0, Option.none⟩ : Addr).add 1) .i64 fun x60 =>
  hdI S54 ((⟨B3, 0, Option.none⟩ : Addr).add 2) .i64 fun x61 =>
  hdI S54 ((⟨B3, 0, Option.none⟩ : Addr).add 3) .i64 fun x62 =>
  hdS S54 ((⟨B3, 0, Option.none⟩ : Addr).add 4) fun A63 n63 c63 =>
  hdI S54 ((⟨B3, 0, Option.none⟩ : Addr).add 5) .i64 fun x64 =>
  hdS S54 ((⟨B3, 0, Option.none⟩ : Addr).add 6) fun A65 n65 c65 =>
  hdB S54 ((⟨B3, 0, Option.none⟩ : Addr).add 7) fun b66 =>
  hdB S54 ((⟨B3, 0, Option.none⟩ : Addr).add 8) fun b67 =>
  stW w53 (⟨B5, 0, Option.none⟩ : Addr) (.slice A55 n55 c55) fun w68 =>
  stW w68 ((⟨B5, 0, Option.none⟩ : Addr).add 1) (.slice A56 n56 c56) fun w69 =>
  stW w69 ((⟨B5, 0, Option.none⟩ : Addr).add 2) (.int .i64 x57) fun w70 =>
  stW w70 ((⟨B5, 0, Option.none⟩ : Addr).add 3) (.bool b58) fun w71 =>
  S54 w71 ∧ (
  stW w71 (⟨B7, 0, Option.none⟩ : Addr) (.int .i64 x59) fun w72 =>
  stW w72 ((⟨B7, 0, Option.none⟩ : Addr).add 1) (.int .i64 x60) fun w73 =>
  stW w73 ((⟨B7, 0, Option.none⟩ : Addr).add 2) (.int .i64 x61) fun w74 =>
  stW w74 ((⟨B7, 0, Option.none⟩ : Addr).add 3) (.int .i64 x62) fun w75 =>
  stW w75 ((⟨B7, 0, Option.none⟩ : Addr).add 4) (.slice A63 n63 c63) fun w76 =>
  stW w76 ((⟨B7, 0, Option.none⟩ : Addr).add 5) (.int .i64 x64) fun w77 =>
  stW w77 ((⟨B7, 0, Option.none⟩ : Addr).add 6) (.slice A65 n65 c65) fun w78 =>
  stW w78 ((⟨B7, 0, Option.none⟩ : Addr).add 7) (.bool b66) fun w79 =>
  stW w79 ((⟨B7, 0, Option.none⟩ : Addr).add 8) (.bool b67) fun w80 =>
  ldS w80 (⟨B5, 0, Option.none⟩ : Addr) fun A81 n81 c81 =>
  ldS w80 ((⟨B5, 0, Option.none⟩ : Addr).add 1) fun A82 n82 c82 =>
  ldI w80 ((⟨B5, 0, Option.none⟩ : Addr).add 2) .i64 fun x83 =>
  ldB w80 ((⟨B5, 0, Option.none⟩ : Addr).add 3) fun b84 =>
  ldI w80 (⟨B7, 0, Option.none⟩ : Addr) .i64 fun x85 =>
  ldI w80 ((⟨B7, 0, Option.none⟩ : Addr).add 1) .i64 fun x86 =>
  ldI w80 ((⟨B7, 0, Option.none⟩ : Addr).add 2) .i64 fun x87 =>
  ldI w80 ((⟨B7, 0, Option.none⟩ : Addr).add 3) .i64 fun x88 =>
  ldS w80 ((⟨B7, 0, Option.none⟩ : Addr).add 4) fun A89 n89 c89 =>
  ldI w80 ((⟨B7, 0, Option.none⟩ : Addr).add 5) .i64 fun x90 =>
  ldS w80 ((⟨B7, 0, Option.none⟩ : Addr).add 6) fun A91 n91 c91 =>
  ldB w80 ((⟨B7, 0, Option.none⟩ : Addr).add 7) fun b92 =>
  ldB w80 ((⟨B7, 0, Option.none⟩ : Addr).add 8) fun b93 =>
  Q (.returned (.tuple #[.agg #[.slice A81 n81 c81, .slice A82 n82 c82, .int .i64 x83, .bool b84], .agg #[.int .i64 x85, .int .i64 x86, .int .i64 x87, .int .i64 x88, .slice A89 n89 c89, .int .i64 x90, .slice A91 n91 c91, .bool b92, .bool b93], .int .i64 (0 : Int)])) w80))) (
  ∃ k282 : Nat, l0 k282 (⟨B1, 0, Option.none⟩ : Addr) (⟨B3, 0, Option.none⟩ : Addr) (⟨B5, 0, Option.none⟩ : Addr) (⟨B7, 0, Option.none⟩ : Addr) (0 : Int) w8 (fun (w168 : World) => ∀ _ : Fr,
  ldS w168 (⟨B1, 0, Option.none⟩ : Addr) fun A169 n169 c169 =>
  ldS w168 ((⟨B1, 0, Option.none⟩ : Addr).add 1) fun A170 n170 c170 =>
  ldI w168 ((⟨B1, 0, Option.none⟩ : Addr).add 2) .i64 fun x171 =>
  ldB w168 ((⟨B1, 0, Option.none⟩ : Addr).add 3) fun b172 =>
  Calls Tryd.prog 77 #[.agg #[.slice A169 n169 c169, .slice A170 n170 c170, .int .i64 x171, .bool b172]] w168 fun e173 w174 => ∃ (A175_0_0 : Option Addr) (n175_0_0 : Nat) (c175_0_0 : Nat) (A175_0_1 : Option Addr) (n175_0_1 : Nat) (c175_0_1 : Nat) (x175_0_2 : Int) (b175_0_3 : Bool) (x175_1 : Int), e173 = .returned (.tuple #[.agg #[.slice A175_0_0 n175_0_0 c175_0_0, .slice A175_0_1 n175_0_1 c175_0_1, .int .i64 x175_0_2, .bool b175_0_3], .int .i64 x175_1]) ∧ (
  alW w174 (.cells #[.slice none 0 0, .slice none 0 0, .int .i64 (0 : Int), .bool false] 68) fun B176 w177 =>
  stW w177 (⟨B176, 0, Option.none⟩ : Addr) (.slice A175_0_0 n175_0_0 c175_0_0) fun w178 =>
  stW w178 ((⟨B176, 0, Option.none⟩ : Addr).add 1) (.slice A175_0_1 n175_0_1 c175_0_1) fun w179 =>
  stW w179 ((⟨B176, 0, Option.none⟩ : Addr).add 2) (.int .i64 x175_0_2) fun w180 =>
  stW w180 ((⟨B176, 0, Option.none⟩ : Addr).add 3) (.bool b175_0_3) fun w181 =>
  sel (x175_1 != (0 : Int)) (
  stW w181 ((⟨B3, 0, Option.none⟩ : Addr).add 8) (.bool true) fun w182 =>
  drW w182 fun w183 =>
  ∃ S184 : World → Prop, S184 w183 ∧ (
  hdS S184 (⟨B176, 0, Option.none⟩ : Addr) fun A185 n185 c185 =>
  hdS S184 ((⟨B176, 0, Option.none⟩ : Addr).add 1) fun A186 n186 c186 =>
  hdI S184 ((⟨B176, 0, Option.none⟩ : Addr).add 2) .i64 fun x187 =>
  hdB S184 ((⟨B176, 0, Option.none⟩ : Addr).add 3) fun b188 =>
  hdI S184 (⟨B3, 0, Option.none⟩ : Addr) .i64 fun x189 =>
  hdI S184 ((⟨B3, 0, Option.none⟩ : Addr).add 1) .i64 fun x190 =>
  hdI S184 ((⟨B3, 0, Option.none⟩ : Addr).add 2) .i64 fun x191 =>
  hdI S184 ((⟨B3, 0, Option.none⟩ : Addr).add 3) .i64 fun x192 =>
  hdS S184 ((⟨B3, 0, Option.none⟩ : Addr).add 4) fun A193 n193 c193 =>
  hdI S184 ((⟨B3, 0, Option.none⟩ : Addr).add 5) .i64 fun x194 =>
  hdS S184 ((⟨B3, 0, Option.none⟩ : Addr).add 6) fun A195 n195 c195 =>
  hdB S184 ((⟨B3, 0, Option.none⟩ : Addr).add 7) fun b196 =>
  hdB S184 ((⟨B3, 0, Option.none⟩ : Addr).add 8) fun b197 =>
  stW w183 (⟨B5, 0, Option.none⟩ : Addr) (.slice A185 n185 c185) fun w198 =>
  stW w198 ((⟨B5, 0, Option.none⟩ : Addr).add 1) (.slice A186 n186 c186) fun w199 =>
  stW w199 ((⟨B5, 0, Option.none⟩ : Addr).add 2) (.int .i64 x187) fun w200 =>
  stW w200 ((⟨B5, 0, Option.none⟩ : Addr).add 3) (.bool b188) fun w201 =>
  S184 w201 ∧ (
  stW w201 (⟨B7, 0, Option.none⟩ : Addr) (.int .i64 x189) fun w202 =>
  stW w202 ((⟨B7, 0, Option.none⟩ : Addr).add 1) (.int .i64 x190) fun w203 =>
  stW w203 ((⟨B7, 0, Option.none⟩ : Addr).add 2) (.int .i64 x191) fun w204 =>
  stW w204 ((⟨B7, 0, Option.none⟩ : Addr).add 3) (.int .i64 x192) fun w205 =>
  stW w205 ((⟨B7, 0, Option.none⟩ : Addr).add 4) (.slice A193 n193 c193) fun w206 =>
  stW w206 ((⟨B7, 0, Option.none⟩ : Addr).add 5) (.int .i64 x194) fun w207 =>
  stW w207 ((⟨B7, 0, Option.none⟩ : Addr).add 6) (.slice A195 n195 c195) fun w208 =>
  stW w208 ((⟨B7, 0, Option.none⟩ : Addr).add 7) (.bool b196) fun w209 =>
  stW w209 ((⟨B7, 0, Option.none⟩ : Addr).add 8) (.bool b197) fun w210 =>
  S184 w210 ∧ (
  ldS w210 (⟨B5, 0, Option.none⟩ : Addr) fun A211 n211 c211 =>
  ldS w210 ((⟨B5, 0, Option.none⟩ : Addr).add 1) fun A212 n212 c212 =>
  ldI w210 ((⟨B5, 0, Option.none⟩ : Addr).add 2) .i64 fun x213 =>
  ldB w210 ((⟨B5, 0, Option.none⟩ : Addr).add 3) fun b214 =>
  ldI w210 (⟨B7, 0, Option.none⟩ : Addr) .i64 fun x215 =>
  ldI w210 ((⟨B7, 0, Option.none⟩ : Addr).add 1) .i64 fun x216 =>
  ldI w210 ((⟨B7, 0, Option.none⟩ : Addr).add 2) .i64 fun x217 =>
  ldI w210 ((⟨B7, 0, Option.none⟩ : Addr).add 3) .i64 fun x218 =>
  ldS w210 ((⟨B7, 0, Option.none⟩ : Addr).add 4) fun A219 n219 c219 =>
  ldI w210 ((⟨B7, 0, Option.none⟩ : Addr).add 5) .i64 fun x220 =>
  ldS w210 ((⟨B7, 0, Option.none⟩ : Addr).add 6) fun A221 n221 c221 =>
  ldB w210 ((⟨B7, 0, Option.none⟩ : Addr).add 7) fun b222 =>
  ldB w210 ((⟨B7, 0, Option.none⟩ : Addr).add 8) fun b223 =>
  Q (.returned (.tuple #[.agg #[.slice A211 n211 c211, .slice A212 n212 c212, .int .i64 x213, .bool b214], .agg #[.int .i64 x215, .int .i64 x216, .int .i64 x217, .int .i64 x218, .slice A219 n219 c219, .int .i64 x220, .slice A221 n221 c221, .bool b222, .bool b223], .int .i64 x175_1])) w210)))) (
  ldS w181 ((⟨B3, 0, Option.none⟩ : Addr).add 4) fun A224 n224 c224 =>
  stW w181 ((⟨B3, 0, Option.none⟩ : Addr).add 5) (.int .i64 (n224 : Int)) fun w225 =>
  drW w225 fun w226 =>
  ∃ S227 : World → Prop, S227 w226 ∧ (
  hdS S227 (⟨B176, 0, Option.none⟩ : Addr) fun A228 n228 c228 =>
  hdS S227 ((⟨B176, 0, Option.none⟩ : Addr).add 1) fun A229 n229 c229 =>
  hdI S227 ((⟨B176, 0, Option.none⟩ : Addr).add 2) .i64 fun x230 =>
  hdB S227 ((⟨B176, 0, Option.none⟩ : Addr).add 3) fun b231 =>
  hdI S227 (⟨B3, 0, Option.none⟩ : Addr) .i64 fun x232 =>
  hdI S227 ((⟨B3, 0, Option.none⟩ : Addr).add 1) .i64 fun x233 =>
  hdI S227 ((⟨B3, 0, Option.none⟩ : Addr).add 2) .i64 fun x234 =>
  hdI S227 ((⟨B3, 0, Option.none⟩ : Addr).add 3) .i64 fun x235 =>
  hdS S227 ((⟨B3, 0, Option.none⟩ : Addr).add 4) fun A236 n236 c236 =>
  hdI S227 ((⟨B3, 0, Option.none⟩ : Addr).add 5) .i64 fun x237 =>
  hdS S227 ((⟨B3, 0, Option.none⟩ : Addr).add 6) fun A238 n238 c238 =>
  hdB S227 ((⟨B3, 0, Option.none⟩ : Addr).add 7) fun b239 =>
  hdB S227 ((⟨B3, 0, Option.none⟩ : Addr).add 8) fun b240 =>
  stW w226 (⟨B5, 0, Option.none⟩ : Addr) (.slice A228 n228 c228) fun w241 =>
  stW w241 ((⟨B5, 0, Option.none⟩ : Addr).add 1) (.slice A229 n229 c229) fun w242 =>
  stW w242 ((⟨B5, 0, Option.none⟩ : Addr).add 2) (.int .i64 x230) fun w243 =>
  stW w243 ((⟨B5, 0, Option.none⟩ : Addr).add 3) (.bool b231) fun w244 =>
  S227 w244 ∧ (
  stW w244 (⟨B7, 0, Option.none⟩ : Addr) (.int .i64 x232) fun w245 =>
  stW w245 ((⟨B7, 0, Option.none⟩ : Addr).add 1) (.int .i64 x233) fun w246 =>
  stW w246 ((⟨B7, 0, Option.none⟩ : Addr).add 2) (.int .i64 x234) fun w247 =>
  stW w247 ((⟨B7, 0, Option.none⟩ : Addr).add 3) (.int .i64 x235) fun w248 =>
  stW w248 ((⟨B7, 0, Option.none⟩ : Addr).add 4) (.slice A236 n236 c236) fun w249 =>
  stW w249 ((⟨B7, 0, Option.none⟩ : Addr).add 5) (.int .i64 x237) fun w250 =>
  stW w250 ((⟨B7, 0, Option.none⟩ : Addr).add 6) (.slice A238 n238 c238) fun w251 =>
  stW w251 ((⟨B7, 0, Option.none⟩ : Addr).add 7) (.bool b239) fun w252 =>
  stW w252 ((⟨B7, 0, Option.none⟩ : Addr).add 8) (.bool b240) fun w253 =>
  ldS w253 (⟨B5, 0, Option.none⟩ : Addr) fun A254 n254 c254 =>
  ldS w253 ((⟨B5, 0, Option.none⟩ : Addr).add 1) fun A255 n255 c255 =>
  ldI w253 ((⟨B5, 0, Option.none⟩ : Addr).add 2) .i64 fun x256 =>
  ldB w253 ((⟨B5, 0, Option.none⟩ : Addr).add 3) fun b257 =>
  ldI w253 (⟨B7, 0, Option.none⟩ : Addr) .i64 fun x258 =>
  ldI w253 ((⟨B7, 0, Option.none⟩ : Addr).add 1) .i64 fun x259 =>
  ldI w253 ((⟨B7, 0, Option.none⟩ : Addr).add 2) .i64 fun x260 =>
  ldI w253 ((⟨B7, 0, Option.none⟩ : Addr).add 3) .i64 fun x261 =>
  ldS w253 ((⟨B7, 0, Option.none⟩ : Addr).add 4) fun A262 n262 c262 =>
  ldI w253 ((⟨B7, 0, Option.none⟩ : Addr).add 5) .i64 fun x263 =>
  ldS w253 ((⟨B7, 0, Option.none⟩ : Addr).add 6) fun A264 n264 c264 =>
  ldB w253 ((⟨B7, 0, Option.none⟩ : Addr).add 7) fun b265 =>
  ldB w253 ((⟨B7, 0, Option.none⟩ : Addr).add 8) fun b266 =>
  Q (.returned (.tuple #[.agg #[.slice A254 n254 c254, .slice A255 n255 c255, .int .i64 x256, .bool b257], .agg #[.int .i64 x258, .int .i64 x259, .int .i64 x260, .int .i64 x261, .slice A262 n262 c262, .int .i64 x263, .slice A264 n264 c264, .bool b265, .bool b266], .int .i64 (0 : Int)])) w253))))) (fun (x267 : Int) (w268 : World) => ∀ _ : Fr,
  ldS w268 (⟨B5, 0, Option.none⟩ : Addr) fun A269 n269 c269 =>
  ldS w268 ((⟨B5, 0, Option.none⟩ : Addr).add 1) fun A270 n270 c270 =>
  ldI w268 ((⟨B5, 0, Option.none⟩ : Addr).add 2) .i64 fun x271 =>
  ldB w268 ((⟨B5, 0, Option.none⟩ : Addr).add 3) fun b272 =>
  ldI w268 (⟨B7, 0, Option.none⟩ : Addr) .i64 fun x273 =>
  ldI w268 ((⟨B7, 0, Option.none⟩ : Addr).add 1) .i64 fun x274 =>
  ldI w268 ((⟨B7, 0, Option.none⟩ : Addr).add 2) .i64 fun x275 =>
  ldI w268 ((⟨B7, 0, Option.none⟩ : Addr).add 3) .i64 fun x276 =>
  ldS w268 ((⟨B7, 0, Option.none⟩ : Addr).add 4) fun A277 n277 c277 =>
  ldI w268 ((⟨B7, 0, Option.none⟩ : Addr).add 5) .i64 fun x278 =>
  ldS w268 ((⟨B7, 0, Option.none⟩ : Addr).add 6) fun A279 n279 c279 =>
  ldB w268 ((⟨B7, 0, Option.none⟩ : Addr).add 7) fun b280 =>
  ldB w268 ((⟨B7, 0, Option.none⟩ : Addr).add 8) fun b281 =>
  Q (.returned (.tuple #[.agg #[.slice A269 n269 c269, .slice A270 n270 c270, .int .i64 x271, .bool b272], .agg #[.int .i64 x273, .int .i64 x274, .int .i64 x275, .int .i64 x276, .slice A277 n277 c277, .int .i64 x278, .slice A279 n279 c279, .bool b280, .bool b281], .int .i64 x267])) w268)))
def D : Nat → Option DH := dtab [(2, .held [.fst 0, .fst 1, .eff 2] [.eff 3, .fst 4]), (4, .held [.fst 0, .fst 1, .eff 2] [.eff 3, .fst 4]), (9, .opn od9), (13, .held [.fst 0, .fst 1, .fst 2, .eff 3, .eff 4] [.fst 5]), (17, .held [.fst 0, .fst 1, .fst 2, .eff 3, .eff 4] [.fst 5]), (19, .held [.fst 0, .fst 1, .eff 2] [.eff 3, .fst 4])]
def l0LO : LO := ⟨[], [4, 5, 6], [(0, [2, 3, 4, 5])], []⟩
def l0Tk (k : Nat) : Spec := fun Q σ w =>
  gAd (σ 2) fun at2 =>
  gAd (σ 3) fun at3 =>
  gAd (σ 4) fun at4 =>
  gAd (σ 5) fun at5 =>
  gInt .i64 (σ 7) fun xt7 =>
  l0 k at2 at3 at4 at5 xt7 w (fun (w : World) => ∀ d : Fr, Q (.exit 0) (ov d [(2, .pointer (some at2)), (3, .pointer (some at3)), (4, .pointer (some at4)), (5, .pointer (some at5))]) w) (fun (xq6 : Int) (w : World) => ∀ d : Fr, Q .ret (ov d [(4, .pointer (some at4)), (5, .pointer (some at5)), (6, .int .i64 xq6)]) w)
def l0T : Spec := fun Q σ w => ∃ k, l0Tk k Q σ w
def l0tb : List (List Nat × Spec) := []
noncomputable def l0b : Code := (subC [0, 0, 1, 0, 1, 1, 1] body).getD .skip
theorem l0_eq (k : Nat) (at2 : Addr) (at3 : Addr) (at4 : Addr) (at5 : Addr) (xt7 : Int) (Q : PQ) (σ : Fr) (w : World) :
    l0 (k + 1) at2 at3 at4 at5 xt7 w (fun (w : World) => ∀ d : Fr, Q (.exit 0) (ov d [(2, .pointer (some at2)), (3, .pointer (some at3)), (4, .pointer (some at4)), (5, .pointer (some at5))]) w) (fun (xq6 : Int) (w : World) => ∀ d : Fr, Q .ret (ov d [(4, .pointer (some at4)), (5, .pointer (some at5)), (6, .int .i64 xq6)]) w) = codeW Tryd.prog hT 82 D (tab l0tb) [0, 0, 1, 0, 1, 1, 1] l0b (thenQ (l0Tk k Q) (widen l0LO Q)) (ov σ [(2, .pointer (some at2)), (3, .pointer (some at3)), (4, .pointer (some at4)), (5, .pointer (some at5)), (7, .int .i64 xt7)]) w := by kernel_rfl
theorem l0_snd : ∀ c, subC [0, 1, 0, 1, 1, 1] body = some c → Snd Tryd.prog 82 c l0T := by
  refine loop_of (hT := hT) (D := D) (l := l0tb) (b := l0b) (lo := l0LO) (by kernel_rfl) (by
    intro x hx
    simp only [l0tb, List.not_mem_nil] at hx
    ) (by kernel_rfl) (by kernel_rfl) ?_ ?_
  · intro Q σ w h
    unfold l0Tk at h
    obtain ⟨at2, h2, hn⟩ := gAd_elim h
    clear h
    have h := hn
    clear hn
    obtain ⟨at3, h3, hn⟩ := gAd_elim h
    clear h
    have h := hn
    clear hn
    obtain ⟨at4, h4, hn⟩ := gAd_elim h
    clear h
    have h := hn
    clear hn
    obtain ⟨at5, h5, hn⟩ := gAd_elim h
    clear h
    have h := hn
    clear hn
    obtain ⟨xt7, h7, hn⟩ := gInt_elim h
    clear h
    have h := hn
    clear hn
    exact h
  · intro k Q σ w h
    unfold l0Tk at h
    obtain ⟨at2, h2, hn⟩ := gAd_elim h
    clear h
    have h := hn
    clear hn
    obtain ⟨at3, h3, hn⟩ := gAd_elim h
    clear h
    have h := hn
    clear hn
    obtain ⟨at4, h4, hn⟩ := gAd_elim h
    clear h
    have h := hn
    clear hn
    obtain ⟨at5, h5, hn⟩ := gAd_elim h
    clear h
    have h := hn
    clear hn
    obtain ⟨xt7, h7, hn⟩ := gInt_elim h
    clear h
    have h := hn
    clear hn
    rw [l0_eq (σ := σ)] at h
    have e : (ov σ [(2, .pointer (some at2)), (3, .pointer (some at3)), (4, .pointer (some at4)), (5, .pointer (some at5)), (7, .int .i64 xt7)]) = σ := ov_self (by simp [h2, h3, h4, h5, h7])
    rw [e] at h
    exact h
def tb : List (List Nat × Spec) := [([0, 1, 0, 1, 1, 1], l0T)]
theorem wp_eq (Aa0_0 : Option Addr) (na0_0 : Nat) (ca0_0 : Nat) (Aa0_1 : Option Addr) (na0_1 : Nat) (ca0_1 : Nat) (xa0_2 : Int) (ba0_3 : Bool) (xa1_0 : Int) (xa1_1 : Int) (xa1_2 : Int) (xa1_3 : Int) (Aa1_4 : Option Addr) (na1_4 : Nat) (ca1_4 : Nat) (xa1_5 : Int) (Aa1_6 : Option Addr) (na1_6 : Nat) (ca1_6 : Nat) (ba1_7 : Bool) (ba1_8 : Bool) (w : World) (Q : Ending → World → Prop) :
    wp Aa0_0 na0_0 ca0_0 Aa0_1 na0_1 ca0_1 xa0_2 ba0_3 xa1_0 xa1_1 xa1_2 xa1_3 Aa1_4 na1_4 ca1_4 xa1_5 Aa1_6 na1_6 ca1_6 ba1_7 ba1_8 w Q = codeW Tryd.prog hT 82 D (tab tb) [] body (topQ Tryd.prog hT 82 [.cell 4 68, .cell 5 65, .tmp 6] Q) (argsF [.agg #[.slice Aa0_0 na0_0 ca0_0, .slice Aa0_1 na0_1 ca0_1, .int .i64 xa0_2, .bool ba0_3], .agg #[.int .i64 xa1_0, .int .i64 xa1_1, .int .i64 xa1_2, .int .i64 xa1_3, .slice Aa1_4 na1_4 ca1_4, .int .i64 xa1_5, .slice Aa1_6 na1_6 ca1_6, .bool ba1_7, .bool ba1_8]]) w := by cases ba0_3 <;> cases ba1_7 <;> cases ba1_8 <;> kernel_rfl
theorem ok (Aa0_0 : Option Addr) (na0_0 : Nat) (ca0_0 : Nat) (Aa0_1 : Option Addr) (na0_1 : Nat) (ca0_1 : Nat) (xa0_2 : Int) (ba0_3 : Bool) (xa1_0 : Int) (xa1_1 : Int) (xa1_2 : Int) (xa1_3 : Int) (Aa1_4 : Option Addr) (na1_4 : Nat) (ca1_4 : Nat) (xa1_5 : Int) (Aa1_6 : Option Addr) (na1_6 : Nat) (ca1_6 : Nat) (ba1_7 : Bool) (ba1_8 : Bool) (w : World) (Q : Ending → World → Prop) (h : wp Aa0_0 na0_0 ca0_0 Aa0_1 na0_1 ca0_1 xa0_2 ba0_3 xa1_0 xa1_1 xa1_2 xa1_3 Aa1_4 na1_4 ca1_4 xa1_5 Aa1_6 na1_6 ca1_6 ba1_7 ba1_8 w Q) : Calls Tryd.prog 56 #[.agg #[.slice Aa0_0 na0_0 ca0_0, .slice Aa0_1 na0_1 ca0_1, .int .i64 xa0_2, .bool ba0_3], .agg #[.int .i64 xa1_0, .int .i64 xa1_1, .int .i64 xa1_2, .int .i64 xa1_3, .slice Aa1_4 na1_4 ca1_4, .int .i64 xa1_5, .slice Aa1_6 na1_6 ca1_6, .bool ba1_7, .bool ba1_8]] w Q := by
  rw [wp_eq] at h
  exact calls_of_codeW (c := body) (rs := [.cell 4 68, .cell 5 65, .tmp 6]) Tryd.func56 (by kernel_rfl) (by kernel_rfl) (by kernel_rfl) (by kernel_rfl) (by kernel_rfl) (tab_snd (by
    intro x hx
    simp only [tb, List.mem_cons, List.not_mem_nil, or_false] at hx
    subst hx
    exact l0_snd)) (by kernel_rfl) h
end f_ref09_Flush
namespace f_ref09_Reset
/-! skein/skeinref09.Reset: function 57 -/
noncomputable def body : Code := (Tryd.f57.body).getD .skip
def od5 : OD := ⟨[2, 3], [0, 2, 4, 6, 7, 11, 12], fun i => ([⟨true, [], [], fun _ _ => undef⟩,
  ⟨false, [], [], fun ps vs => match ps, vs with | [.pointer (some ap2), .pointer (some ap3)], [] => .pointer (some ap3) | _, _ => undef⟩,
  ⟨true, [], [1], fun _ _ => undef⟩,
  ⟨false, [], [], fun ps vs => match ps, vs with | [.pointer (some ap2), .pointer (some ap3)], [] => .pointer (some (ap3.add 3)) | _, _ => undef⟩,
  ⟨true, [], [3], fun _ _ => undef⟩,
  ⟨false, [4], [4], fun ps vs => match ps, vs with | [.pointer (some ap2), .pointer (some ap3)], [.int _ xe4] => .int .i64 (IntKind.i64.wrap (xe4 + (1 : Int))) | _, _ => undef⟩,
  ⟨true, [4], [5], fun _ _ => undef⟩,
  ⟨true, [0, 2, 4, 6], [0, 2, 6], fun _ _ => undef⟩,
  ⟨false, [0, 2, 4, 6, 7], [7], fun ps vs => match ps, vs with | [.pointer (some ap2), .pointer (some ap3)], [.agg ⟨[.slice Ae0_0 ne0_0 ce0_0, .slice Ae0_1 ne0_1 ce0_1, .int _ xe0_2, .bool be0_3]⟩, .int _ xe2, .int _ xe4, .slice Ae6 ne6 ce6, .tuple ⟨[.agg ⟨[.slice Ae7_0_0 ne7_0_0 ce7_0_0, .slice Ae7_0_1 ne7_0_1 ce7_0_1, .int _ xe7_0_2, .bool be7_0_3]⟩, .int _ xe7_1]⟩] => .tuple #[.agg #[.slice Ae7_0_0 ne7_0_0 ce7_0_0, .slice Ae7_0_1 ne7_0_1 ce7_0_1, .int .i64 xe7_0_2, .bool be7_0_3], .int .i64 xe7_1] | _, _ => undef⟩,
  ⟨false, [0, 2, 4, 6, 7], [8], fun ps vs => match ps, vs with | [.pointer (some ap2), .pointer (some ap3)], [.agg ⟨[.slice Ae0_0 ne0_0 ce0_0, .slice Ae0_1 ne0_1 ce0_1, .int _ xe0_2, .bool be0_3]⟩, .int _ xe2, .int _ xe4, .slice Ae6 ne6 ce6, .tuple ⟨[.agg ⟨[.slice Ae7_0_0 ne7_0_0 ce7_0_0, .slice Ae7_0_1 ne7_0_1 ce7_0_1, .int _ xe7_0_2, .bool be7_0_3]⟩, .int _ xe7_1]⟩] => .agg #[.slice Ae7_0_0 ne7_0_0 ce7_0_0, .slice Ae7_0_1 ne7_0_1 ce7_0_1, .int .i64 xe7_0_2, .bool be7_0_3] | _, _ => undef⟩,
  ⟨false, [0, 2, 4, 6, 7], [8], fun ps vs => match ps, vs with | [.pointer (some ap2), .pointer (some ap3)], [.agg ⟨[.slice Ae0_0 ne0_0 ce0_0, .slice Ae0_1 ne0_1 ce0_1, .int _ xe0_2, .bool be0_3]⟩, .int _ xe2, .int _ xe4, .slice Ae6 ne6 ce6, .tuple ⟨[.agg ⟨[.slice Ae7_0_0 ne7_0_0 ce7_0_0, .slice Ae7_0_1 ne7_0_1 ce7_0_1, .int _ xe7_0_2, .bool be7_0_3]⟩, .int _ xe7_1]⟩] => .int .i64 xe7_1 | _, _ => undef⟩,
  ⟨true, [], [], fun _ _ => undef⟩,
  ⟨true, [0, 2, 4, 6, 7, 11], [9, 11], fun _ _ => undef⟩,
  ⟨false, [0, 2, 4, 6, 7, 11, 12], [10], fun ps vs => match ps, vs with | [.pointer (some ap2), .pointer (some ap3)], [.agg ⟨[.slice Ae0_0 ne0_0 ce0_0, .slice Ae0_1 ne0_1 ce0_1, .int _ xe0_2, .bool be0_3]⟩, .int _ xe2, .int _ xe4, .slice Ae6 ne6 ce6, .tuple ⟨[.agg ⟨[.slice Ae7_0_0 ne7_0_0 ce7_0_0, .slice Ae7_0_1 ne7_0_1 ce7_0_1, .int _ xe7_0_2, .bool be7_0_3]⟩, .int _ xe7_1]⟩, .pointer (some ae11), .tuple ⟨[]⟩] => .int .i64 xe7_1 | _, _ => undef⟩] : List OI).getD i ⟨true, [], [], fun _ _ => undef⟩, fun i => ([(.one (.agg [.slice, .slice, (.int .i64), .bool])), .one (.sc .any), (.one (.sc (.int .i64))), .one (.sc .any), (.one (.sc (.int .i64))), .one (.sc .any), (.one (.sc .slice)), (.tup [(.agg [.slice, .slice, (.int .i64), .bool]), (.sc (.int .i64))]), .one (.sc .any), .one (.sc .any), .one (.sc .any), (.one (.sc .ad)), (.tup []), .one (.sc .any)] : List OS).getD i (.one (.sc .any))⟩
def h5 (ap2 : Addr) (ap3 : Addr) : Prop :=
  (∀ (_ : Fr) (w : World),
  w = w ∧ (.pointer (some ap3) : Value) = (.pointer (some ap3))) ∧
  (∀ (_ : Fr) (w : World),
  w = w ∧ (.pointer (some (ap3.add 3)) : Value) = (.pointer (some (ap3.add 3)))) ∧
  (∀ (_ : Fr) (w : World),
  ∀ (xe4 : Int),
  w = w ∧ (.int .i64 (IntKind.i64.wrap (xe4 + (1 : Int))) : Value) = (.int .i64 (IntKind.i64.wrap (xe4 + (1 : Int))))) ∧
  (∀ (_ : Fr) (w : World),
  ∀ (Ae0_0 : Option Addr) (ne0_0 : Nat) (ce0_0 : Nat) (Ae0_1 : Option Addr) (ne0_1 : Nat) (ce0_1 : Nat) (xe0_2 : Int) (be0_3 : Bool),
  ∀ (xe2 : Int),
  ∀ (xe4 : Int),
  ∀ (Ae6 : Option Addr) (ne6 : Nat) (ce6 : Nat),
  ∀ (Ae7_0_0 : Option Addr) (ne7_0_0 : Nat) (ce7_0_0 : Nat) (Ae7_0_1 : Option Addr) (ne7_0_1 : Nat) (ce7_0_1 : Nat) (xe7_0_2 : Int) (be7_0_3 : Bool) (xe7_1 : Int),
  w = w ∧ (.tuple #[.agg #[.slice Ae7_0_0 ne7_0_0 ce7_0_0, .slice Ae7_0_1 ne7_0_1 ce7_0_1, .int .i64 xe7_0_2, .bool be7_0_3], .int .i64 xe7_1] : Value) = (.tuple #[.agg #[.slice Ae7_0_0 ne7_0_0 ce7_0_0, .slice Ae7_0_1 ne7_0_1 ce7_0_1, .int .i64 xe7_0_2, .bool be7_0_3], .int .i64 xe7_1])) ∧
  (∀ (_ : Fr) (w : World),
  ∀ (Ae0_0 : Option Addr) (ne0_0 : Nat) (ce0_0 : Nat) (Ae0_1 : Option Addr) (ne0_1 : Nat) (ce0_1 : Nat) (xe0_2 : Int) (be0_3 : Bool),
  ∀ (xe2 : Int),
  ∀ (xe4 : Int),
  ∀ (Ae6 : Option Addr) (ne6 : Nat) (ce6 : Nat),
  ∀ (Ae7_0_0 : Option Addr) (ne7_0_0 : Nat) (ce7_0_0 : Nat) (Ae7_0_1 : Option Addr) (ne7_0_1 : Nat) (ce7_0_1 : Nat) (xe7_0_2 : Int) (be7_0_3 : Bool) (xe7_1 : Int),
  w = w ∧ (.agg #[.slice Ae7_0_0 ne7_0_0 ce7_0_0, .slice Ae7_0_1 ne7_0_1 ce7_0_1, .int .i64 xe7_0_2, .bool be7_0_3] : Value) = (.agg #[.slice Ae7_0_0 ne7_0_0 ce7_0_0, .slice Ae7_0_1 ne7_0_1 ce7_0_1, .int .i64 xe7_0_2, .bool be7_0_3])) ∧
  (∀ (_ : Fr) (w : World),
  ∀ (Ae0_0 : Option Addr) (ne0_0 : Nat) (ce0_0 : Nat) (Ae0_1 : Option Addr) (ne0_1 : Nat) (ce0_1 : Nat) (xe0_2 : Int) (be0_3 : Bool),
  ∀ (xe2 : Int),
  ∀ (xe4 : Int),
  ∀ (Ae6 : Option Addr) (ne6 : Nat) (ce6 : Nat),
  ∀ (Ae7_0_0 : Option Addr) (ne7_0_0 : Nat) (ce7_0_0 : Nat) (Ae7_0_1 : Option Addr) (ne7_0_1 : Nat) (ce7_0_1 : Nat) (xe7_0_2 : Int) (be7_0_3 : Bool) (xe7_1 : Int),
  w = w ∧ (.int .i64 xe7_1 : Value) = (.int .i64 xe7_1)) ∧
  (∀ (_ : Fr) (w : World),
  ∀ (Ae0_0 : Option Addr) (ne0_0 : Nat) (ce0_0 : Nat) (Ae0_1 : Option Addr) (ne0_1 : Nat) (ce0_1 : Nat) (xe0_2 : Int) (be0_3 : Bool),
  ∀ (xe2 : Int),
  ∀ (xe4 : Int),
  ∀ (Ae6 : Option Addr) (ne6 : Nat) (ce6 : Nat),
  ∀ (Ae7_0_0 : Option Addr) (ne7_0_0 : Nat) (ce7_0_0 : Nat) (Ae7_0_1 : Option Addr) (ne7_0_1 : Nat) (ce7_0_1 : Nat) (xe7_0_2 : Int) (be7_0_3 : Bool) (xe7_1 : Int),
  ∀ (ae11 : Addr),
  w = w ∧ (.int .i64 xe7_1 : Value) = (.int .i64 xe7_1)) ∧
  True
theorem h5_ok (ap2 : Addr) (ap3 : Addr) : h5 ap2 ap3 := ⟨fun _ w => ⟨rfl, rfl⟩, fun _ w => ⟨rfl, rfl⟩, fun _ w _ => ⟨rfl, rfl⟩, fun _ w _ _ _ _ _ _ _ _ _ _ _ _ _ _ _ _ _ _ _ _ _ _ => ⟨rfl, rfl⟩, fun _ w _ _ _ _ _ _ _ _ _ _ _ _ _ _ _ _ _ _ _ _ _ _ => ⟨rfl, rfl⟩, fun _ w _ _ _ _ _ _ _ _ _ _ _ _ _ _ _ _ _ _ _ _ _ _ => ⟨rfl, rfl⟩, fun _ w _ _ _ _ _ _ _ _ _ _ _ _ _ _ _ _ _ _ _ _ _ _ _ => ⟨rfl, rfl⟩, trivial⟩
def wp (Aa0_0 : Option Addr) (na0_0 : Nat) (ca0_0 : Nat) (Aa0_1 : Option Addr) (na0_1 : Nat) (ca0_1 : Nat) (xa0_2 : Int) (ba0_3 : Bool) (xa1_0 : Int) (xa1_1 : Int) (xa1_2 : Int) (xa1_3 : Int) (Aa1_4 : Option Addr) (na1_4 : Nat) (ca1_4 : Nat) (xa1_5 : Int) (Aa1_6 : Option Addr) (na1_6 : Nat) (ca1_6 : Nat) (ba1_7 : Bool) (ba1_8 : Bool) (w : World) (Q : Ending → World → Prop) : Prop :=
  alW w (.cells #[.slice Aa0_0 na0_0 ca0_0, .slice Aa0_1 na0_1 ca0_1, .int .i64 xa0_2, .bool ba0_3] 68) fun B1 w2 =>
  alW w2 (.cells #[.int .i64 xa1_0, .int .i64 xa1_1, .int .i64 xa1_2, .int .i64 xa1_3, .slice Aa1_4 na1_4 ca1_4, .int .i64 xa1_5, .slice Aa1_6 na1_6 ca1_6, .bool ba1_7, .bool ba1_8] 65) fun B3 w4 =>
  alW w4 (.cells #[.slice none 0 0, .slice none 0 0, .int .i64 (0 : Int), .bool false] 68) fun B5 w6 =>
  alW w6 (.cells #[.int .i64 (0 : Int), .int .i64 (0 : Int), .int .i64 (0 : Int), .int .i64 (0 : Int), .slice none 0 0, .int .i64 (0 : Int), .slice none 0 0, .bool false, .bool false] 65) fun B7 w8 =>
  ldB w8 ((⟨B3, 0, Option.none⟩ : Addr).add 8) fun b9 =>
  sel b9 (
  drW w8 fun w10 =>
  ∃ S11 : World → Prop, S11 w10 ∧ (
  hdS S11 (⟨B1, 0, Option.none⟩ : Addr) fun A12 n12 c12 =>
  hdS S11 ((⟨B1, 0, Option.none⟩ : Addr).add 1) fun A13 n13 c13 =>
  hdI S11 ((⟨B1, 0, Option.none⟩ : Addr).add 2) .i64 fun x14 =>
  hdB S11 ((⟨B1, 0, Option.none⟩ : Addr).add 3) fun b15 =>
  hdI S11 (⟨B3, 0, Option.none⟩ : Addr) .i64 fun x16 =>
  hdI S11 ((⟨B3, 0, Option.none⟩ : Addr).add 1) .i64 fun x17 =>
  hdI S11 ((⟨B3, 0, Option.none⟩ : Addr).add 2) .i64 fun x18 =>
  hdI S11 ((⟨B3, 0, Option.none⟩ : Addr).add 3) .i64 fun x19 =>
  hdS S11 ((⟨B3, 0, Option.none⟩ : Addr).add 4) fun A20 n20 c20 =>
  hdI S11 ((⟨B3, 0, Option.none⟩ : Addr).add 5) .i64 fun x21 =>
  hdS S11 ((⟨B3, 0, Option.none⟩ : Addr).add 6) fun A22 n22 c22 =>
  hdB S11 ((⟨B3, 0, Option.none⟩ : Addr).add 7) fun b23 =>
  hdB S11 ((⟨B3, 0, Option.none⟩ : Addr).add 8) fun b24 =>
  stW w10 (⟨B5, 0, Option.none⟩ : Addr) (.slice A12 n12 c12) fun w25 =>
  stW w25 ((⟨B5, 0, Option.none⟩ : Addr).add 1) (.slice A13 n13 c13) fun w26 =>
  stW w26 ((⟨B5, 0, Option.none⟩ : Addr).add 2) (.int .i64 x14) fun w27 =>
  stW w27 ((⟨B5, 0, Option.none⟩ : Addr).add 3) (.bool b15) fun w28 =>
  S11 w28 ∧ (
  stW w28 (⟨B7, 0, Option.none⟩ : Addr) (.int .i64 x16) fun w29 =>
  stW w29 ((⟨B7, 0, Option.none⟩ : Addr).add 1) (.int .i64 x17) fun w30 =>
  stW w30 ((⟨B7, 0, Option.none⟩ : Addr).add 2) (.int .i64 x18) fun w31 =>
  stW w31 ((⟨B7, 0, Option.none⟩ : Addr).add 3) (.int .i64 x19) fun w32 =>
  stW w32 ((⟨B7, 0, Option.none⟩ : Addr).add 4) (.slice A20 n20 c20) fun w33 =>
  stW w33 ((⟨B7, 0, Option.none⟩ : Addr).add 5) (.int .i64 x21) fun w34 =>
  stW w34 ((⟨B7, 0, Option.none⟩ : Addr).add 6) (.slice A22 n22 c22) fun w35 =>
  stW w35 ((⟨B7, 0, Option.none⟩ : Addr).add 7) (.bool b23) fun w36 =>
  stW w36 ((⟨B7, 0, Option.none⟩ : Addr).add 8) (.bool b24) fun w37 =>
  ldS w37 (⟨B5, 0, Option.none⟩ : Addr) fun A38 n38 c38 =>
  ldS w37 ((⟨B5, 0, Option.none⟩ : Addr).add 1) fun A39 n39 c39 =>
  ldI w37 ((⟨B5, 0, Option.none⟩ : Addr).add 2) .i64 fun x40 =>
  ldB w37 ((⟨B5, 0, Option.none⟩ : Addr).add 3) fun b41 =>
  ldI w37 (⟨B7, 0, Option.none⟩ : Addr) .i64 fun x42 =>
  ldI w37 ((⟨B7, 0, Option.none⟩ : Addr).add 1) .i64 fun x43 =>
  ldI w37 ((⟨B7, 0, Option.none⟩ : Addr).add 2) .i64 fun x44 =>
  ldI w37 ((⟨B7, 0, Option.none⟩ : Addr).add 3) .i64 fun x45 =>
  ldS w37 ((⟨B7, 0, Option.none⟩ : Addr).add 4) fun A46 n46 c46 =>
  ldI w37 ((⟨B7, 0, Option.none⟩ : Addr).add 5) .i64 fun x47 =>
  ldS w37 ((⟨B7, 0, Option.none⟩ : Addr).add 6) fun A48 n48 c48 =>
  ldB w37 ((⟨B7, 0, Option.none⟩ : Addr).add 7) fun b49 =>
  ldB w37 ((⟨B7, 0, Option.none⟩ : Addr).add 8) fun b50 =>
  Q (.returned (.tuple #[.agg #[.slice A38 n38 c38, .slice A39 n39 c39, .int .i64 x40, .bool b41], .agg #[.int .i64 x42, .int .i64 x43, .int .i64 x44, .int .i64 x45, .slice A46 n46 c46, .int .i64 x47, .slice A48 n48 c48, .bool b49, .bool b50], .int .i64 (91 : Int)])) w37))) (
  ldI w8 ((⟨B3, 0, Option.none⟩ : Addr).add 3) .i64 fun x51 =>
  sel (decide (x51 ≥ (274877906944 : Int))) (
  drW w8 fun w52 =>
  ∃ S53 : World → Prop, S53 w52 ∧ (
  hdS S53 (⟨B1, 0, Option.none⟩ : Addr) fun A54 n54 c54 =>
  hdS S53 ((⟨B1, 0, Option.none⟩ : Addr).add 1) fun A55 n55 c55 =>
  hdI S53 ((⟨B1, 0, Option.none⟩ : Addr).add 2) .i64 fun x56 =>
  hdB S53 ((⟨B1, 0, Option.none⟩ : Addr).add 3) fun b57 =>
  hdI S53 (⟨B3, 0, Option.none⟩ : Addr) .i64 fun x58 =>
  hdI S53 ((⟨B3, 0, Option.none⟩ : Addr).add 1) .i64 fun x59 =>
  hdI S53 ((⟨B3, 0, Option.none⟩ : Addr).add 2) .i64 fun x60 =>
  hdI S53 ((⟨B3, 0, Option.none⟩ : Addr).add 3) .i64 fun x61 =>
  hdS S53 ((⟨B3, 0, Option.none⟩ : Addr).add 4) fun A62 n62 c62 =>
  hdI S53 ((⟨B3, 0, Option.none⟩ : Addr).add 5) .i64 fun x63 =>
  hdS S53 ((⟨B3, 0, Option.none⟩ : Addr).add 6) fun A64 n64 c64 =>
  hdB S53 ((⟨B3, 0, Option.none⟩ : Addr).add 7) fun b65 =>
  hdB S53 ((⟨B3, 0, Option.none⟩ : Addr).add 8) fun b66 =>
  stW w52 (⟨B5, 0, Option.none⟩ : Addr) (.slice A54 n54 c54) fun w67 =>
  stW w67 ((⟨B5, 0, Option.none⟩ : Addr).add 1) (.slice A55 n55 c55) fun w68 =>
  stW w68 ((⟨B5, 0, Option.none⟩ : Addr).add 2) (.int .i64 x56) fun w69 =>
  stW w69 ((⟨B5, 0, Option.none⟩ : Addr).add 3) (.bool b57) fun w70 =>
  S53 w70 ∧ (
  stW w70 (⟨B7, 0, Option.none⟩ : Addr) (.int .i64 x58) fun w71 =>
  stW w71 ((⟨B7, 0, Option.none⟩ : Addr).add 1) (.int .i64 x59) fun w72 =>
  stW w72 ((⟨B7, 0, Option.none⟩ : Addr).add 2) (.int .i64 x60) fun w73 =>
  stW w73 ((⟨B7, 0, Option.none⟩ : Addr).add 3) (.int .i64 x61) fun w74 =>
  stW w74 ((⟨B7, 0, Option.none⟩ : Addr).add 4) (.slice A62 n62 c62) fun w75 =>
  stW w75 ((⟨B7, 0, Option.none⟩ : Addr).add 5) (.int .i64 x63) fun w76 =>
  stW w76 ((⟨B7, 0, Option.none⟩ : Addr).add 6) (.slice A64 n64 c64) fun w77 =>
  stW w77 ((⟨B7, 0, Option.none⟩ : Addr).add 7) (.bool b65) fun w78 =>
  stW w78 ((⟨B7, 0, Option.none⟩ : Addr).add 8) (.bool b66) fun w79 =>
  ldS w79 (⟨B5, 0, Option.none⟩ : Addr) fun A80 n80 c80 =>
  ldS w79 ((⟨B5, 0, Option.none⟩ : Addr).add 1) fun A81 n81 c81 =>
  ldI w79 ((⟨B5, 0, Option.none⟩ : Addr).add 2) .i64 fun x82 =>
  ldB w79 ((⟨B5, 0, Option.none⟩ : Addr).add 3) fun b83 =>
  ldI w79 (⟨B7, 0, Option.none⟩ : Addr) .i64 fun x84 =>
  ldI w79 ((⟨B7, 0, Option.none⟩ : Addr).add 1) .i64 fun x85 =>
  ldI w79 ((⟨B7, 0, Option.none⟩ : Addr).add 2) .i64 fun x86 =>
  ldI w79 ((⟨B7, 0, Option.none⟩ : Addr).add 3) .i64 fun x87 =>
  ldS w79 ((⟨B7, 0, Option.none⟩ : Addr).add 4) fun A88 n88 c88 =>
  ldI w79 ((⟨B7, 0, Option.none⟩ : Addr).add 5) .i64 fun x89 =>
  ldS w79 ((⟨B7, 0, Option.none⟩ : Addr).add 6) fun A90 n90 c90 =>
  ldB w79 ((⟨B7, 0, Option.none⟩ : Addr).add 7) fun b91 =>
  ldB w79 ((⟨B7, 0, Option.none⟩ : Addr).add 8) fun b92 =>
  Q (.returned (.tuple #[.agg #[.slice A80 n80 c80, .slice A81 n81 c81, .int .i64 x82, .bool b83], .agg #[.int .i64 x84, .int .i64 x85, .int .i64 x86, .int .i64 x87, .slice A88 n88 c88, .int .i64 x89, .slice A90 n90 c90, .bool b91, .bool b92], .int .i64 (90 : Int)])) w79))) (
  drW w8 fun w93 =>
  h5 (⟨B1, 0, Option.none⟩ : Addr) (⟨B3, 0, Option.none⟩ : Addr) ∧
  ∃ (G94 : World → World → Prop) (Φ95 : Nat → Value → World → Prop), (∀ w, G94 w w) ∧ (∀ a b c, G94 a b → G94 b c → G94 a c) ∧ (∀ i v a b, G94 w93 a → G94 a b → Φ95 i v a → Φ95 i v b) ∧ (
  (∀ (_ : Fr) (w96 : World), G94 w93 w96 →
  (
  ldS w96 (⟨B1, 0, Option.none⟩ : Addr) fun A97 n97 c97 =>
  ldS w96 ((⟨B1, 0, Option.none⟩ : Addr).add 1) fun A98 n98 c98 =>
  ldI w96 ((⟨B1, 0, Option.none⟩ : Addr).add 2) .i64 fun x99 =>
  ldB w96 ((⟨B1, 0, Option.none⟩ : Addr).add 3) fun b100 =>
  G94 w96 w96 ∧ Φ95 0 (.agg #[.slice A97 n97 c97, .slice A98 n98 c98, .int .i64 x99, .bool b100]) w96)) ∧
  (∀ (_ : Fr) (w101 : World), G94 w93 w101 →
  (
  ldI w101 (⟨B3, 0, Option.none⟩ : Addr) .i64 fun x102 =>
  G94 w101 w101 ∧ Φ95 2 (.int .i64 x102) w101)) ∧
  (∀ (_ : Fr) (w103 : World), G94 w93 w103 →
  (
  ldI w103 ((⟨B3, 0, Option.none⟩ : Addr).add 3) .i64 fun x104 =>
  G94 w103 w103 ∧ Φ95 4 (.int .i64 x104) w103)) ∧
  (∀ (_ : Fr) (w105 : World), G94 w93 w105 →
  ∀ (xe4 : Int),
  Φ95 4 (.int .i64 xe4) w105 →
  (
  Calls Tryd.prog 76 #[.int .i64 (IntKind.i64.wrap (xe4 + (1 : Int))), .slice none 0 0] w105 fun e106 w107 => ∃ (A108 : Option Addr) (n108 : Nat) (c108 : Nat), e106 = .returned (.slice A108 n108 c108) ∧ (
  G94 w105 w107 ∧ Φ95 6 (.slice A108 n108 c108) w107))) ∧
  (∀ (_ : Fr) (w109 : World), G94 w93 w109 →
  ∀ (Ae0_0 : Option Addr) (ne0_0 : Nat) (ce0_0 : Nat) (Ae0_1 : Option Addr) (ne0_1 : Nat) (ce0_1 : Nat) (xe0_2 : Int) (be0_3 : Bool),
  Φ95 0 (.agg #[.slice Ae0_0 ne0_0 ce0_0, .slice Ae0_1 ne0_1 ce0_1, .int .i64 xe0_2, .bool be0_3]) w109 →
  ∀ (xe2 : Int),
  Φ95 2 (.int .i64 xe2) w109 →
  ∀ (xe4 : Int),
  Φ95 4 (.int .i64 xe4) w109 →
  ∀ (Ae6 : Option Addr) (ne6 : Nat) (ce6 : Nat),
  Φ95 6 (.slice Ae6 ne6 ce6) w109 →
  (
  Calls Tryd.prog 75 #[.agg #[.slice Ae0_0 ne0_0 ce0_0, .slice Ae0_1 ne0_1 ce0_1, .int .i64 xe0_2, .bool be0_3], .int .i64 xe2, .slice Ae6 ne6 ce6] w109 fun e110 w111 => ∃ (A112_0_0 : Option Addr) (n112_0_0 : Nat) (c112_0_0 : Nat) (A112_0_1 : Option Addr) (n112_0_1 : Nat) (c112_0_1 : Nat) (x112_0_2 : Int) (b112_0_3 : Bool) (x112_1 : Int), e110 = .returned (.tuple #[.agg #[.slice A112_0_0 n112_0_0 c112_0_0, .slice A112_0_1 n112_0_1 c112_0_1, .int .i64 x112_0_2, .bool b112_0_3], .int .i64 x112_1]) ∧ (
  G94 w109 w111 ∧ Φ95 7 (.tuple #[.agg #[.slice A112_0_0 n112_0_0 c112_0_0, .slice A112_0_1 n112_0_1 c112_0_1, .int .i64 x112_0_2, .bool b112_0_3], .int .i64 x112_1]) w111))) ∧
  (∀ (_ : Fr) (w113 : World), G94 w93 w113 →
  (
  alW w113 (.cells #[.slice none 0 0, .slice none 0 0, .int .i64 (0 : Int), .bool false] 68) fun B114 w115 =>
  G94 w113 w115 ∧ Φ95 11 (.pointer (some (⟨B114, 0, Option.none⟩ : Addr))) w115)) ∧
  (∀ (_ : Fr) (w116 : World), G94 w93 w116 →
  ∀ (Ae0_0 : Option Addr) (ne0_0 : Nat) (ce0_0 : Nat) (Ae0_1 : Option Addr) (ne0_1 : Nat) (ce0_1 : Nat) (xe0_2 : Int) (be0_3 : Bool),
  Φ95 0 (.agg #[.slice Ae0_0 ne0_0 ce0_0, .slice Ae0_1 ne0_1 ce0_1, .int .i64 xe0_2, .bool be0_3]) w116 →
  ∀ (xe2 : Int),
  Φ95 2 (.int .i64 xe2) w116 →
  ∀ (xe4 : Int),
  Φ95 4 (.int .i64 xe4) w116 →
  ∀ (Ae6 : Option Addr) (ne6 : Nat) (ce6 : Nat),
  Φ95 6 (.slice Ae6 ne6 ce6) w116 →
  ∀ (Ae7_0_0 : Option Addr) (ne7_0_0 : Nat) (ce7_0_0 : Nat) (Ae7_0_1 : Option Addr) (ne7_0_1 : Nat) (ce7_0_1 : Nat) (xe7_0_2 : Int) (be7_0_3 : Bool) (xe7_1 : Int),
  Φ95 7 (.tuple #[.agg #[.slice Ae7_0_0 ne7_0_0 ce7_0_0, .slice Ae7_0_1 ne7_0_1 ce7_0_1, .int .i64 xe7_0_2, .bool be7_0_3], .int .i64 xe7_1]) w116 →
  ∀ (ae11 : Addr),
  Φ95 11 (.pointer (some ae11)) w116 →
  (
  stW w116 ae11 (.slice Ae7_0_0 ne7_0_0 ce7_0_0) fun w117 =>
  stW w117 (ae11.add 1) (.slice Ae7_0_1 ne7_0_1 ce7_0_1) fun w118 =>
  stW w118 (ae11.add 2) (.int .i64 xe7_0_2) fun w119 =>
  stW w119 (ae11.add 3) (.bool be7_0_3) fun w120 =>
  G94 w116 w120 ∧ Φ95 12 (.tuple #[]) w120)) ∧ True) ∧
  ∀ w121, G94 w93 w121 →
  ∀ (Ae0_0 : Option Addr) (ne0_0 : Nat) (ce0_0 : Nat) (Ae0_1 : Option Addr) (ne0_1 : Nat) (ce0_1 : Nat) (xe0_2 : Int) (be0_3 : Bool),
  Φ95 0 (.agg #[.slice Ae0_0 ne0_0 ce0_0, .slice Ae0_1 ne0_1 ce0_1, .int .i64 xe0_2, .bool be0_3]) w121 →
  ∀ (xe2 : Int),
  Φ95 2 (.int .i64 xe2) w121 →
  ∀ (xe4 : Int),
  Φ95 4 (.int .i64 xe4) w121 →
  ∀ (Ae6 : Option Addr) (ne6 : Nat) (ce6 : Nat),
  Φ95 6 (.slice Ae6 ne6 ce6) w121 →
  ∀ (Ae7_0_0 : Option Addr) (ne7_0_0 : Nat) (ce7_0_0 : Nat) (Ae7_0_1 : Option Addr) (ne7_0_1 : Nat) (ce7_0_1 : Nat) (xe7_0_2 : Int) (be7_0_3 : Bool) (xe7_1 : Int),
  Φ95 7 (.tuple #[.agg #[.slice Ae7_0_0 ne7_0_0 ce7_0_0, .slice Ae7_0_1 ne7_0_1 ce7_0_1, .int .i64 xe7_0_2, .bool be7_0_3], .int .i64 xe7_1]) w121 →
  ∀ (ae11 : Addr),
  Φ95 11 (.pointer (some ae11)) w121 →
  Φ95 12 (.tuple #[]) w121 →
  (
  sel (xe7_1 != (0 : Int)) (
  stW w121 ((⟨B3, 0, Option.none⟩ : Addr).add 8) (.bool true) fun w122 =>
  drW w122 fun w123 =>
  ∃ S124 : World → Prop, S124 w123 ∧ (
  hdS S124 ae11 fun A125 n125 c125 =>
  hdS S124 (ae11.add 1) fun A126 n126 c126 =>
  hdI S124 (ae11.add 2) .i64 fun x127 =>
  hdB S124 (ae11.add 3) fun b128 =>
  hdI S124 (⟨B3, 0, Option.none⟩ : Addr) .i64 fun x129 =>
  hdI S124 ((⟨B3, 0, Option.none⟩ : Addr).add 1) .i64 fun x130 =>
  hdI S124 ((⟨B3, 0, Option.none⟩ : Addr).add 2) .i64 fun x131 =>
  hdI S124 ((⟨B3, 0, Option.none⟩ : Addr).add 3) .i64 fun x132 =>
  hdS S124 ((⟨B3, 0, Option.none⟩ : Addr).add 4) fun A133 n133 c133 =>
  hdI S124 ((⟨B3, 0, Option.none⟩ : Addr).add 5) .i64 fun x134 =>
  hdS S124 ((⟨B3, 0, Option.none⟩ : Addr).add 6) fun A135 n135 c135 =>
  hdB S124 ((⟨B3, 0, Option.none⟩ : Addr).add 7) fun b136 =>
  hdB S124 ((⟨B3, 0, Option.none⟩ : Addr).add 8) fun b137 =>
  stW w123 (⟨B5, 0, Option.none⟩ : Addr) (.slice A125 n125 c125) fun w138 =>
  stW w138 ((⟨B5, 0, Option.none⟩ : Addr).add 1) (.slice A126 n126 c126) fun w139 =>
  stW w139 ((⟨B5, 0, Option.none⟩ : Addr).add 2) (.int .i64 x127) fun w140 =>
  stW w140 ((⟨B5, 0, Option.none⟩ : Addr).add 3) (.bool b128) fun w141 =>
  S124 w141 ∧ (
  stW w141 (⟨B7, 0, Option.none⟩ : Addr) (.int .i64 x129) fun w142 =>
  stW w142 ((⟨B7, 0, Option.none⟩ : Addr).add 1) (.int .i64 x130) fun w143 =>
  stW w143 ((⟨B7, 0, Option.none⟩ : Addr).add 2) (.int .i64 x131) fun w144 =>
  stW w144 ((⟨B7, 0, Option.none⟩ : Addr).add 3) (.int .i64 x132) fun w145 =>
  stW w145 ((⟨B7, 0, Option.none⟩ : Addr).add 4) (.slice A133 n133 c133) fun w146 =>
  stW w146 ((⟨B7, 0, Option.none⟩ : Addr).add 5) (.int .i64 x134) fun w147 =>
  stW w147 ((⟨B7, 0, Option.none⟩ : Addr).add 6) (.slice A135 n135 c135) fun w148 =>
  stW w148 ((⟨B7, 0, Option.none⟩ : Addr).add 7) (.bool b136) fun w149 =>
  stW w149 ((⟨B7, 0, Option.none⟩ : Addr).add 8) (.bool b137) fun w150 =>
  S124 w150 ∧ (
  ldS w150 (⟨B5, 0, Option.none⟩ : Addr) fun A151 n151 c151 =>
  ldS w150 ((⟨B5, 0, Option.none⟩ : Addr).add 1) fun A152 n152 c152 =>
  ldI w150 ((⟨B5, 0, Option.none⟩ : Addr).add 2) .i64 fun x153 =>
  ldB w150 ((⟨B5, 0, Option.none⟩ : Addr).add 3) fun b154 =>
  ldI w150 (⟨B7, 0, Option.none⟩ : Addr) .i64 fun x155 =>
  ldI w150 ((⟨B7, 0, Option.none⟩ : Addr).add 1) .i64 fun x156 =>
  ldI w150 ((⟨B7, 0, Option.none⟩ : Addr).add 2) .i64 fun x157 =>
  ldI w150 ((⟨B7, 0, Option.none⟩ : Addr).add 3) .i64 fun x158 =>
  ldS w150 ((⟨B7, 0, Option.none⟩ : Addr).add 4) fun A159 n159 c159 =>
  ldI w150 ((⟨B7, 0, Option.none⟩ : Addr).add 5) .i64 fun x160 =>
  ldS w150 ((⟨B7, 0, Option.none⟩ : Addr).add 6) fun A161 n161 c161 =>
  ldB w150 ((⟨B7, 0, Option.none⟩ : Addr).add 7) fun b162 =>
  ldB w150 ((⟨B7, 0, Option.none⟩ : Addr).add 8) fun b163 =>
  Q (.returned (.tuple #[.agg #[.slice A151 n151 c151, .slice A152 n152 c152, .int .i64 x153, .bool b154], .agg #[.int .i64 x155, .int .i64 x156, .int .i64 x157, .int .i64 x158, .slice A159 n159 c159, .int .i64 x160, .slice A161 n161 c161, .bool b162, .bool b163], .int .i64 xe7_1])) w150)))) (
  ldS w121 ae11 fun A164 n164 c164 =>
  ldS w121 (ae11.add 1) fun A165 n165 c165 =>
  ldI w121 (ae11.add 2) .i64 fun x166 =>
  ldB w121 (ae11.add 3) fun b167 =>
  Calls Tryd.prog 77 #[.agg #[.slice A164 n164 c164, .slice A165 n165 c165, .int .i64 x166, .bool b167]] w121 fun e168 w169 => ∃ (A170_0_0 : Option Addr) (n170_0_0 : Nat) (c170_0_0 : Nat) (A170_0_1 : Option Addr) (n170_0_1 : Nat) (c170_0_1 : Nat) (x170_0_2 : Int) (b170_0_3 : Bool) (x170_1 : Int), e168 = .returned (.tuple #[.agg #[.slice A170_0_0 n170_0_0 c170_0_0, .slice A170_0_1 n170_0_1 c170_0_1, .int .i64 x170_0_2, .bool b170_0_3], .int .i64 x170_1]) ∧ (
  alW w169 (.cells #[.slice none 0 0, .slice none 0 0, .int .i64 (0 : Int), .bool false] 68) fun B171 w172 =>
  stW w172 (⟨B171, 0, Option.none⟩ : Addr) (.slice A170_0_0 n170_0_0 c170_0_0) fun w173 =>
  stW w173 ((⟨B171, 0, Option.none⟩ : Addr).add 1) (.slice A170_0_1 n170_0_1 c170_0_1) fun w174 =>
  stW w174 ((⟨B171, 0, Option.none⟩ : Addr).add 2) (.int .i64 x170_0_2) fun w175 =>
  stW w175 ((⟨B171, 0, Option.none⟩ : Addr).add 3) (.bool b170_0_3) fun w176 =>
  sel (x170_1 != (0 : Int)) (
  stW w176 ((⟨B3, 0, Option.none⟩ : Addr).add 8) (.bool true) fun w177 =>
  drW w177 fun w178 =>
  ∃ S179 : World → Prop, S179 w178 ∧ (
  hdS S179 (⟨B171, 0, Option.none⟩ : Addr) fun A180 n180 c180 =>
  hdS S179 ((⟨B171, 0, Option.none⟩ : Addr).add 1) fun A181 n181 c181 =>
  hdI S179 ((⟨B171, 0, Option.none⟩ : Addr).add 2) .i64 fun x182 =>
  hdB S179 ((⟨B171, 0, Option.none⟩ : Addr).add 3) fun b183 =>
  hdI S179 (⟨B3, 0, Option.none⟩ : Addr) .i64 fun x184 =>
  hdI S179 ((⟨B3, 0, Option.none⟩ : Addr).add 1) .i64 fun x185 =>
  hdI S179 ((⟨B3, 0, Option.none⟩ : Addr).add 2) .i64 fun x186 =>
  hdI S179 ((⟨B3, 0, Option.none⟩ : Addr).add 3) .i64 fun x187 =>
  hdS S179 ((⟨B3, 0, Option.none⟩ : Addr).add 4) fun A188 n188 c188 =>
  hdI S179 ((⟨B3, 0, Option.none⟩ : Addr).add 5) .i64 fun x189 =>
  hdS S179 ((⟨B3, 0, Option.none⟩ : Addr).add 6) fun A190 n190 c190 =>
  hdB S179 ((⟨B3, 0, Option.none⟩ : Addr).add 7) fun b191 =>
  hdB S179 ((⟨B3, 0, Option.none⟩ : Addr).add 8) fun b192 =>
  stW w178 (⟨B5, 0, Option.none⟩ : Addr) (.slice A180 n180 c180) fun w193 =>
  stW w193 ((⟨B5, 0, Option.none⟩ : Addr).add 1) (.slice A181 n181 c181) fun w194 =>
  stW w194 ((⟨B5, 0, Option.none⟩ : Addr).add 2) (.int .i64 x182) fun w195 =>
  stW w195 ((⟨B5, 0, Option.none⟩ : Addr).add 3) (.bool b183) fun w196 =>
  S179 w196 ∧ (
  stW w196 (⟨B7, 0, Option.none⟩ : Addr) (.int .i64 x184) fun w197 =>
  stW w197 ((⟨B7, 0, Option.none⟩ : Addr).add 1) (.int .i64 x185) fun w198 =>
  stW w198 ((⟨B7, 0, Option.none⟩ : Addr).add 2) (.int .i64 x186) fun w199 =>
  stW w199 ((⟨B7, 0, Option.none⟩ : Addr).add 3) (.int .i64 x187) fun w200 =>
  stW w200 ((⟨B7, 0, Option.none⟩ : Addr).add 4) (.slice A188 n188 c188) fun w201 =>
  stW w201 ((⟨B7, 0, Option.none⟩ : Addr).add 5) (.int .i64 x189) fun w202 =>
  stW w202 ((⟨B7, 0, Option.none⟩ : Addr).add 6) (.slice A190 n190 c190) fun w203 =>
  stW w203 ((⟨B7, 0, Option.none⟩ : Addr).add 7) (.bool b191) fun w204 =>
  stW w204 ((⟨B7, 0, Option.none⟩ : Addr).add 8) (.bool b192) fun w205 =>
  S179 w205 ∧ (
  ldS w205 (⟨B5, 0, Option.none⟩ : Addr) fun A206 n206 c206 =>
  ldS w205 ((⟨B5, 0, Option.none⟩ : Addr).add 1) fun A207 n207 c207 =>
  ldI w205 ((⟨B5, 0, Option.none⟩ : Addr).add 2) .i64 fun x208 =>
  ldB w205 ((⟨B5, 0, Option.none⟩ : Addr).add 3) fun b209 =>
  ldI w205 (⟨B7, 0, Option.none⟩ : Addr) .i64 fun x210 =>
  ldI w205 ((⟨B7, 0, Option.none⟩ : Addr).add 1) .i64 fun x211 =>
  ldI w205 ((⟨B7, 0, Option.none⟩ : Addr).add 2) .i64 fun x212 =>
  ldI w205 ((⟨B7, 0, Option.none⟩ : Addr).add 3) .i64 fun x213 =>
  ldS w205 ((⟨B7, 0, Option.none⟩ : Addr).add 4) fun A214 n214 c214 =>
  ldI w205 ((⟨B7, 0, Option.none⟩ : Addr).add 5) .i64 fun x215 =>
  ldS w205 ((⟨B7, 0, Option.none⟩ : Addr).add 6) fun A216 n216 c216 =>
  ldB w205 ((⟨B7, 0, Option.none⟩ : Addr).add 7) fun b217 =>
  ldB w205 ((⟨B7, 0, Option.none⟩ : Addr).add 8) fun b218 =>
  Q (.returned (.tuple #[.agg #[.slice A206 n206 c206, .slice A207 n207 c207, .int .i64 x208, .bool b209], .agg #[.int .i64 x210, .int .i64 x211, .int .i64 x212, .int .i64 x213, .slice A214 n214 c214, .int .i64 x215, .slice A216 n216 c216, .bool b217, .bool b218], .int .i64 x170_1])) w205)))) (
  drW w176 fun w219 =>
  ∃ S220 : World → Prop, S220 w219 ∧ (
  hdS S220 (⟨B171, 0, Option.none⟩ : Addr) fun A221 n221 c221 =>
  hdS S220 ((⟨B171, 0, Option.none⟩ : Addr).add 1) fun A222 n222 c222 =>
  hdI S220 ((⟨B171, 0, Option.none⟩ : Addr).add 2) .i64 fun x223 =>
  hdB S220 ((⟨B171, 0, Option.none⟩ : Addr).add 3) fun b224 =>
  hdI S220 (⟨B3, 0, Option.none⟩ : Addr) .i64 fun x225 =>
  hdI S220 ((⟨B3, 0, Option.none⟩ : Addr).add 1) .i64 fun x226 =>
  hdI S220 ((⟨B3, 0, Option.none⟩ : Addr).add 3) .i64 fun x227 =>
  hdI S220 ((⟨B3, 0, Option.none⟩ : Addr).add 3) .i64 fun x228 =>
  stW w219 (⟨B5, 0, Option.none⟩ : Addr) (.slice A221 n221 c221) fun w229 =>
  stW w229 ((⟨B5, 0, Option.none⟩ : Addr).add 1) (.slice A222 n222 c222) fun w230 =>
  stW w230 ((⟨B5, 0, Option.none⟩ : Addr).add 2) (.int .i64 x223) fun w231 =>
  stW w231 ((⟨B5, 0, Option.none⟩ : Addr).add 3) (.bool b224) fun w232 =>
  S220 w232 ∧ (
  stW w232 (⟨B7, 0, Option.none⟩ : Addr) (.int .i64 x225) fun w233 =>
  stW w233 ((⟨B7, 0, Option.none⟩ : Addr).add 1) (.int .i64 x226) fun w234 =>
  stW w234 ((⟨B7, 0, Option.none⟩ : Addr).add 2) (.int .i64 (IntKind.i64.wrap (x227 + (1 : Int)))) fun w235 =>
  stW w235 ((⟨B7, 0, Option.none⟩ : Addr).add 3) (.int .i64 (IntKind.i64.wrap (x228 + (1 : Int)))) fun w236 =>
  stW w236 ((⟨B7, 0, Option.none⟩ : Addr).add 4) (.slice none 0 0) fun w237 =>
  stW w237 ((⟨B7, 0, Option.none⟩ : Addr).add 5) (.int .i64 (0 : Int)) fun w238 =>
  stW w238 ((⟨B7, 0, Option.none⟩ : Addr).add 6) (.slice none 0 0) fun w239 =>
  stW w239 ((⟨B7, 0, Option.none⟩ : Addr).add 7) (.bool false) fun w240 =>
  stW w240 ((⟨B7, 0, Option.none⟩ : Addr).add 8) (.bool false) fun w241 =>
  ldS w241 (⟨B5, 0, Option.none⟩ : Addr) fun A242 n242 c242 =>
  ldS w241 ((⟨B5, 0, Option.none⟩ : Addr).add 1) fun A243 n243 c243 =>
  ldI w241 ((⟨B5, 0, Option.none⟩ : Addr).add 2) .i64 fun x244 =>
  ldB w241 ((⟨B5, 0, Option.none⟩ : Addr).add 3) fun b245 =>
  ldI w241 (⟨B7, 0, Option.none⟩ : Addr) .i64 fun x246 =>
  ldI w241 ((⟨B7, 0, Option.none⟩ : Addr).add 1) .i64 fun x247 =>
  ldI w241 ((⟨B7, 0, Option.none⟩ : Addr).add 2) .i64 fun x248 =>
  ldI w241 ((⟨B7, 0, Option.none⟩ : Addr).add 3) .i64 fun x249 =>
  ldS w241 ((⟨B7, 0, Option.none⟩ : Addr).add 4) fun A250 n250 c250 =>
  ldI w241 ((⟨B7, 0, Option.none⟩ : Addr).add 5) .i64 fun x251 =>
  ldS w241 ((⟨B7, 0, Option.none⟩ : Addr).add 6) fun A252 n252 c252 =>
  ldB w241 ((⟨B7, 0, Option.none⟩ : Addr).add 7) fun b253 =>
  ldB w241 ((⟨B7, 0, Option.none⟩ : Addr).add 8) fun b254 =>
  Q (.returned (.tuple #[.agg #[.slice A242 n242 c242, .slice A243 n243 c243, .int .i64 x244, .bool b245], .agg #[.int .i64 x246, .int .i64 x247, .int .i64 x248, .int .i64 x249, .slice A250 n250 c250, .int .i64 x251, .slice A252 n252 c252, .bool b253, .bool b254], .int .i64 (0 : Int)])) w241))))))))
def D : Nat → Option DH := dtab [(2, .held [.fst 0, .fst 1, .eff 2] [.eff 3, .fst 4]), (4, .held [.fst 0, .fst 1, .eff 2] [.eff 3, .fst 4]), (5, .opn od5), (8, .held [.fst 0, .fst 1, .fst 2, .eff 3, .eff 4] [.fst 5]), (12, .held [.fst 0, .fst 1, .fst 2, .eff 3, .eff 4] [.fst 5]), (13, .held [.fst 0, .fst 1, .fst 2, .fst 3, .fst 4, .fst 5, .fst 6, .fst 7, .fst 8, .fst 9, .fst 10, .fst 11, .eff 12] [.eff 13, .fst 14])]
def tb : List (List Nat × Spec) := []
theorem wp_eq (Aa0_0 : Option Addr) (na0_0 : Nat) (ca0_0 : Nat) (Aa0_1 : Option Addr) (na0_1 : Nat) (ca0_1 : Nat) (xa0_2 : Int) (ba0_3 : Bool) (xa1_0 : Int) (xa1_1 : Int) (xa1_2 : Int) (xa1_3 : Int) (Aa1_4 : Option Addr) (na1_4 : Nat) (ca1_4 : Nat) (xa1_5 : Int) (Aa1_6 : Option Addr) (na1_6 : Nat) (ca1_6 : Nat) (ba1_7 : Bool) (ba1_8 : Bool) (w : World) (Q : Ending → World → Prop) :
    wp Aa0_0 na0_0 ca0_0 Aa0_1 na0_1 ca0_1 xa0_2 ba0_3 xa1_0 xa1_1 xa1_2 xa1_3 Aa1_4 na1_4 ca1_4 xa1_5 Aa1_6 na1_6 ca1_6 ba1_7 ba1_8 w Q = codeW Tryd.prog hT 60 D (tab tb) [] body (topQ Tryd.prog hT 60 [.cell 4 68, .cell 5 65, .tmp 6] Q) (argsF [.agg #[.slice Aa0_0 na0_0 ca0_0, .slice Aa0_1 na0_1 ca0_1, .int .i64 xa0_2, .bool ba0_3], .agg #[.int .i64 xa1_0, .int .i64 xa1_1, .int .i64 xa1_2, .int .i64 xa1_3, .slice Aa1_4 na1_4 ca1_4, .int .i64 xa1_5, .slice Aa1_6 na1_6 ca1_6, .bool ba1_7, .bool ba1_8]]) w := by cases ba0_3 <;> cases ba1_7 <;> cases ba1_8 <;> kernel_rfl
theorem ok (Aa0_0 : Option Addr) (na0_0 : Nat) (ca0_0 : Nat) (Aa0_1 : Option Addr) (na0_1 : Nat) (ca0_1 : Nat) (xa0_2 : Int) (ba0_3 : Bool) (xa1_0 : Int) (xa1_1 : Int) (xa1_2 : Int) (xa1_3 : Int) (Aa1_4 : Option Addr) (na1_4 : Nat) (ca1_4 : Nat) (xa1_5 : Int) (Aa1_6 : Option Addr) (na1_6 : Nat) (ca1_6 : Nat) (ba1_7 : Bool) (ba1_8 : Bool) (w : World) (Q : Ending → World → Prop) (h : wp Aa0_0 na0_0 ca0_0 Aa0_1 na0_1 ca0_1 xa0_2 ba0_3 xa1_0 xa1_1 xa1_2 xa1_3 Aa1_4 na1_4 ca1_4 xa1_5 Aa1_6 na1_6 ca1_6 ba1_7 ba1_8 w Q) : Calls Tryd.prog 57 #[.agg #[.slice Aa0_0 na0_0 ca0_0, .slice Aa0_1 na0_1 ca0_1, .int .i64 xa0_2, .bool ba0_3], .agg #[.int .i64 xa1_0, .int .i64 xa1_1, .int .i64 xa1_2, .int .i64 xa1_3, .slice Aa1_4 na1_4 ca1_4, .int .i64 xa1_5, .slice Aa1_6 na1_6 ca1_6, .bool ba1_7, .bool ba1_8]] w Q := by
  rw [wp_eq] at h
  exact calls_of_codeW (c := body) (rs := [.cell 4 68, .cell 5 65, .tmp 6]) Tryd.func57 (by kernel_rfl) (by kernel_rfl) (by kernel_rfl) (by kernel_rfl) (by kernel_rfl) (tab_snd (by
    intro x hx
    simp only [tb, List.not_mem_nil] at hx
    )) (by kernel_rfl) h
end f_ref09_Reset
namespace f_ref09_Room
/-! skein/skeinref09.Room: function 74 -/
noncomputable def body : Code := (Tryd.f74.body).getD .skip
def wp (xa0_0 : Int) (xa0_1 : Int) (xa0_2 : Int) (xa0_3 : Int) (Aa0_4 : Option Addr) (na0_4 : Nat) (ca0_4 : Nat) (xa0_5 : Int) (Aa0_6 : Option Addr) (na0_6 : Nat) (ca0_6 : Nat) (ba0_7 : Bool) (ba0_8 : Bool) (w : World) (Q : Ending → World → Prop) : Prop :=
  alW w (.cells #[.int .i64 xa0_0, .int .i64 xa0_1, .int .i64 xa0_2, .int .i64 xa0_3, .slice Aa0_4 na0_4 ca0_4, .int .i64 xa0_5, .slice Aa0_6 na0_6 ca0_6, .bool ba0_7, .bool ba0_8] 65) fun B1 w2 =>
  ldI w2 ((⟨B1, 0, Option.none⟩ : Addr).add 1) .i64 fun x3 =>
  ldS w2 ((⟨B1, 0, Option.none⟩ : Addr).add 4) fun A4 n4 c4 =>
  Q (.returned (.int .i64 (IntKind.i64.wrap ((IntKind.i64.wrap (x3 * (498 : Int))) - (n4 : Int))))) w2
def D : Nat → Option DH := dtab []
def tb : List (List Nat × Spec) := []
theorem wp_eq (xa0_0 : Int) (xa0_1 : Int) (xa0_2 : Int) (xa0_3 : Int) (Aa0_4 : Option Addr) (na0_4 : Nat) (ca0_4 : Nat) (xa0_5 : Int) (Aa0_6 : Option Addr) (na0_6 : Nat) (ca0_6 : Nat) (ba0_7 : Bool) (ba0_8 : Bool) (w : World) (Q : Ending → World → Prop) :
    wp xa0_0 xa0_1 xa0_2 xa0_3 Aa0_4 na0_4 ca0_4 xa0_5 Aa0_6 na0_6 ca0_6 ba0_7 ba0_8 w Q = codeW Tryd.prog hT 10 D (tab tb) [] body (topQ Tryd.prog hT 10 [.tmp 2] Q) (argsF [.agg #[.int .i64 xa0_0, .int .i64 xa0_1, .int .i64 xa0_2, .int .i64 xa0_3, .slice Aa0_4 na0_4 ca0_4, .int .i64 xa0_5, .slice Aa0_6 na0_6 ca0_6, .bool ba0_7, .bool ba0_8]]) w := by cases ba0_7 <;> cases ba0_8 <;> kernel_rfl
theorem ok (xa0_0 : Int) (xa0_1 : Int) (xa0_2 : Int) (xa0_3 : Int) (Aa0_4 : Option Addr) (na0_4 : Nat) (ca0_4 : Nat) (xa0_5 : Int) (Aa0_6 : Option Addr) (na0_6 : Nat) (ca0_6 : Nat) (ba0_7 : Bool) (ba0_8 : Bool) (w : World) (Q : Ending → World → Prop) (h : wp xa0_0 xa0_1 xa0_2 xa0_3 Aa0_4 na0_4 ca0_4 xa0_5 Aa0_6 na0_6 ca0_6 ba0_7 ba0_8 w Q) : Calls Tryd.prog 74 #[.agg #[.int .i64 xa0_0, .int .i64 xa0_1, .int .i64 xa0_2, .int .i64 xa0_3, .slice Aa0_4 na0_4 ca0_4, .int .i64 xa0_5, .slice Aa0_6 na0_6 ca0_6, .bool ba0_7, .bool ba0_8]] w Q := by
  rw [wp_eq] at h
  exact calls_of_codeW (c := body) (rs := [.tmp 2]) Tryd.func74 (by kernel_rfl) (by kernel_rfl) (by kernel_rfl) (by kernel_rfl) (by kernel_rfl) (tab_snd (by
    intro x hx
    simp only [tb, List.not_mem_nil] at hx
    )) (by kernel_rfl) h
end f_ref09_Room
namespace f_ref07_Write
/-! skein/skeinref07.Write: function 75 -/
noncomputable def body : Code := (Tryd.f75.body).getD .skip
def wp (Aa0_0 : Option Addr) (na0_0 : Nat) (ca0_0 : Nat) (Aa0_1 : Option Addr) (na0_1 : Nat) (ca0_1 : Nat) (xa0_2 : Int) (ba0_3 : Bool) (xa1 : Int) (Aa2 : Option Addr) (na2 : Nat) (ca2 : Nat) (w : World) (Q : Ending → World → Prop) : Prop :=
  alW w (.cells #[.slice Aa0_0 na0_0 ca0_0, .slice Aa0_1 na0_1 ca0_1, .int .i64 xa0_2, .bool ba0_3] 68) fun B1 w2 =>
  alW w2 (.cells #[.slice none 0 0, .slice none 0 0, .int .i64 (0 : Int), .bool false] 68) fun B3 w4 =>
  ldB w4 ((⟨B1, 0, Option.none⟩ : Addr).add 3) fun b5 =>
  sel b5 (
  ldS w4 (⟨B1, 0, Option.none⟩ : Addr) fun A6 n6 c6 =>
  ldS w4 ((⟨B1, 0, Option.none⟩ : Addr).add 1) fun A7 n7 c7 =>
  ldI w4 ((⟨B1, 0, Option.none⟩ : Addr).add 2) .i64 fun x8 =>
  ldB w4 ((⟨B1, 0, Option.none⟩ : Addr).add 3) fun b9 =>
  stW w4 (⟨B3, 0, Option.none⟩ : Addr) (.slice A6 n6 c6) fun w10 =>
  stW w10 ((⟨B3, 0, Option.none⟩ : Addr).add 1) (.slice A7 n7 c7) fun w11 =>
  stW w11 ((⟨B3, 0, Option.none⟩ : Addr).add 2) (.int .i64 x8) fun w12 =>
  stW w12 ((⟨B3, 0, Option.none⟩ : Addr).add 3) (.bool b9) fun w13 =>
  ldS w13 (⟨B3, 0, Option.none⟩ : Addr) fun A14 n14 c14 =>
  ldS w13 ((⟨B3, 0, Option.none⟩ : Addr).add 1) fun A15 n15 c15 =>
  ldI w13 ((⟨B3, 0, Option.none⟩ : Addr).add 2) .i64 fun x16 =>
  ldB w13 ((⟨B3, 0, Option.none⟩ : Addr).add 3) fun b17 =>
  Q (.returned (.tuple #[.agg #[.slice A14 n14 c14, .slice A15 n15 c15, .int .i64 x16, .bool b17], .int .i64 (70 : Int)])) w13) (
  sel (decide (xa1 < (0 : Int))) (
  ldS w4 (⟨B1, 0, Option.none⟩ : Addr) fun A18 n18 c18 =>
  ldS w4 ((⟨B1, 0, Option.none⟩ : Addr).add 1) fun A19 n19 c19 =>
  ldI w4 ((⟨B1, 0, Option.none⟩ : Addr).add 2) .i64 fun x20 =>
  ldB w4 ((⟨B1, 0, Option.none⟩ : Addr).add 3) fun b21 =>
  stW w4 (⟨B3, 0, Option.none⟩ : Addr) (.slice A18 n18 c18) fun w22 =>
  stW w22 ((⟨B3, 0, Option.none⟩ : Addr).add 1) (.slice A19 n19 c19) fun w23 =>
  stW w23 ((⟨B3, 0, Option.none⟩ : Addr).add 2) (.int .i64 x20) fun w24 =>
  stW w24 ((⟨B3, 0, Option.none⟩ : Addr).add 3) (.bool b21) fun w25 =>
  ldS w25 (⟨B3, 0, Option.none⟩ : Addr) fun A26 n26 c26 =>
  ldS w25 ((⟨B3, 0, Option.none⟩ : Addr).add 1) fun A27 n27 c27 =>
  ldI w25 ((⟨B3, 0, Option.none⟩ : Addr).add 2) .i64 fun x28 =>
  ldB w25 ((⟨B3, 0, Option.none⟩ : Addr).add 3) fun b29 =>
  Q (.returned (.tuple #[.agg #[.slice A26 n26 c26, .slice A27 n27 c27, .int .i64 x28, .bool b29], .int .i64 (1 : Int)])) w25) (
  ldS w4 (⟨B1, 0, Option.none⟩ : Addr) fun A30 n30 c30 =>
  sel (decide (xa1 ≥ (n30 : Int))) (
  ldS w4 (⟨B1, 0, Option.none⟩ : Addr) fun A31 n31 c31 =>
  ldS w4 ((⟨B1, 0, Option.none⟩ : Addr).add 1) fun A32 n32 c32 =>
  ldI w4 ((⟨B1, 0, Option.none⟩ : Addr).add 2) .i64 fun x33 =>
  ldB w4 ((⟨B1, 0, Option.none⟩ : Addr).add 3) fun b34 =>
  stW w4 (⟨B3, 0, Option.none⟩ : Addr) (.slice A31 n31 c31) fun w35 =>
  stW w35 ((⟨B3, 0, Option.none⟩ : Addr).add 1) (.slice A32 n32 c32) fun w36 =>
  stW w36 ((⟨B3, 0, Option.none⟩ : Addr).add 2) (.int .i64 x33) fun w37 =>
  stW w37 ((⟨B3, 0, Option.none⟩ : Addr).add 3) (.bool b34) fun w38 =>
  ldS w38 (⟨B3, 0, Option.none⟩ : Addr) fun A39 n39 c39 =>
  ldS w38 ((⟨B3, 0, Option.none⟩ : Addr).add 1) fun A40 n40 c40 =>
  ldI w38 ((⟨B3, 0, Option.none⟩ : Addr).add 2) .i64 fun x41 =>
  ldB w38 ((⟨B3, 0, Option.none⟩ : Addr).add 3) fun b42 =>
  Q (.returned (.tuple #[.agg #[.slice A39 n39 c39, .slice A40 n40 c40, .int .i64 x41, .bool b42], .int .i64 (1 : Int)])) w38) (
  sel (decide ((na2 : Int) > (512 : Int))) (
  ldS w4 (⟨B1, 0, Option.none⟩ : Addr) fun A43 n43 c43 =>
  ldS w4 ((⟨B1, 0, Option.none⟩ : Addr).add 1) fun A44 n44 c44 =>
  ldI w4 ((⟨B1, 0, Option.none⟩ : Addr).add 2) .i64 fun x45 =>
  ldB w4 ((⟨B1, 0, Option.none⟩ : Addr).add 3) fun b46 =>
  stW w4 (⟨B3, 0, Option.none⟩ : Addr) (.slice A43 n43 c43) fun w47 =>
  stW w47 ((⟨B3, 0, Option.none⟩ : Addr).add 1) (.slice A44 n44 c44) fun w48 =>
  stW w48 ((⟨B3, 0, Option.none⟩ : Addr).add 2) (.int .i64 x45) fun w49 =>
  stW w49 ((⟨B3, 0, Option.none⟩ : Addr).add 3) (.bool b46) fun w50 =>
  ldS w50 (⟨B3, 0, Option.none⟩ : Addr) fun A51 n51 c51 =>
  ldS w50 ((⟨B3, 0, Option.none⟩ : Addr).add 1) fun A52 n52 c52 =>
  ldI w50 ((⟨B3, 0, Option.none⟩ : Addr).add 2) .i64 fun x53 =>
  ldB w50 ((⟨B3, 0, Option.none⟩ : Addr).add 3) fun b54 =>
  Q (.returned (.tuple #[.agg #[.slice A51 n51 c51, .slice A52 n52 c52, .int .i64 x53, .bool b54], .int .i64 (1 : Int)])) w50) (
  ldI w4 ((⟨B1, 0, Option.none⟩ : Addr).add 2) .i64 fun x55 =>
  stW w4 ((⟨B1, 0, Option.none⟩ : Addr).add 2) (.int .i64 (IntKind.i64.wrap (x55 + (1 : Int)))) fun w56 =>
  ldS w56 (⟨B1, 0, Option.none⟩ : Addr) fun A57 n57 c57 =>
  ldS w56 ((⟨B1, 0, Option.none⟩ : Addr).add 1) fun A58 n58 c58 =>
  ldI w56 ((⟨B1, 0, Option.none⟩ : Addr).add 2) .i64 fun x59 =>
  ldB w56 ((⟨B1, 0, Option.none⟩ : Addr).add 3) fun b60 =>
  Calls Tryd.prog 88 #[.agg #[.slice A57 n57 c57, .slice A58 n58 c58, .int .i64 x59, .bool b60]] w56 fun e61 w62 => ∃ (x63 : Int), e61 = .returned (.int .i64 x63) ∧ (
  sel (x63 == (1 : Int)) (
  ldS w62 (⟨B1, 0, Option.none⟩ : Addr) fun A64 n64 c64 =>
  ldS w62 ((⟨B1, 0, Option.none⟩ : Addr).add 1) fun A65 n65 c65 =>
  ldI w62 ((⟨B1, 0, Option.none⟩ : Addr).add 2) .i64 fun x66 =>
  ldB w62 ((⟨B1, 0, Option.none⟩ : Addr).add 3) fun b67 =>
  stW w62 (⟨B3, 0, Option.none⟩ : Addr) (.slice A64 n64 c64) fun w68 =>
  stW w68 ((⟨B3, 0, Option.none⟩ : Addr).add 1) (.slice A65 n65 c65) fun w69 =>
  stW w69 ((⟨B3, 0, Option.none⟩ : Addr).add 2) (.int .i64 x66) fun w70 =>
  stW w70 ((⟨B3, 0, Option.none⟩ : Addr).add 3) (.bool b67) fun w71 =>
  ldS w71 (⟨B3, 0, Option.none⟩ : Addr) fun A72 n72 c72 =>
  ldS w71 ((⟨B3, 0, Option.none⟩ : Addr).add 1) fun A73 n73 c73 =>
  ldI w71 ((⟨B3, 0, Option.none⟩ : Addr).add 2) .i64 fun x74 =>
  ldB w71 ((⟨B3, 0, Option.none⟩ : Addr).add 3) fun b75 =>
  Q (.returned (.tuple #[.agg #[.slice A72 n72 c72, .slice A73 n73 c73, .int .i64 x74, .bool b75], .int .i64 (71 : Int)])) w71) (
  sel (x63 == (2 : Int)) (
  stW w62 ((⟨B1, 0, Option.none⟩ : Addr).add 3) (.bool true) fun w76 =>
  ldS w76 (⟨B1, 0, Option.none⟩ : Addr) fun A77 n77 c77 =>
  ldS w76 ((⟨B1, 0, Option.none⟩ : Addr).add 1) fun A78 n78 c78 =>
  ldI w76 ((⟨B1, 0, Option.none⟩ : Addr).add 2) .i64 fun x79 =>
  ldB w76 ((⟨B1, 0, Option.none⟩ : Addr).add 3) fun b80 =>
  stW w76 (⟨B3, 0, Option.none⟩ : Addr) (.slice A77 n77 c77) fun w81 =>
  stW w81 ((⟨B3, 0, Option.none⟩ : Addr).add 1) (.slice A78 n78 c78) fun w82 =>
  stW w82 ((⟨B3, 0, Option.none⟩ : Addr).add 2) (.int .i64 x79) fun w83 =>
  stW w83 ((⟨B3, 0, Option.none⟩ : Addr).add 3) (.bool b80) fun w84 =>
  ldS w84 (⟨B3, 0, Option.none⟩ : Addr) fun A85 n85 c85 =>
  ldS w84 ((⟨B3, 0, Option.none⟩ : Addr).add 1) fun A86 n86 c86 =>
  ldI w84 ((⟨B3, 0, Option.none⟩ : Addr).add 2) .i64 fun x87 =>
  ldB w84 ((⟨B3, 0, Option.none⟩ : Addr).add 3) fun b88 =>
  Q (.returned (.tuple #[.agg #[.slice A85 n85 c85, .slice A86 n86 c86, .int .i64 x87, .bool b88], .int .i64 (70 : Int)])) w84) (
  drW w62 fun w89 =>
  ∃ S90 : World → Prop, S90 w89 ∧ (
  hdS S90 (⟨B1, 0, Option.none⟩ : Addr) fun A91 n91 c91 =>
  hdS S90 ((⟨B1, 0, Option.none⟩ : Addr).add 1) fun A92 n92 c92 =>
  hdI S90 ((⟨B1, 0, Option.none⟩ : Addr).add 2) .i64 fun x93 =>
  hdB S90 ((⟨B1, 0, Option.none⟩ : Addr).add 3) fun b94 =>
  hdS S90 (⟨B1, 0, Option.none⟩ : Addr) fun A95 n95 c95 =>
  optB A95 fun a96 =>
  req (decide (0 ≤ xa1 ∧ xa1 < (n95 : Int))) <|
  hdS S90 (a96.add (xa1.toNat * 3)) fun A97 n97 c97 =>
  Calls Tryd.prog 90 #[.slice Aa2 na2 ca2] w89 fun e98 w99 => ∃ (A100 : Option Addr) (n100 : Nat) (c100 : Nat), e98 = .returned (.slice A100 n100 c100) ∧ (
  S90 w99 ∧ (
  Calls Tryd.prog 89 #[.agg #[.slice A91 n91 c91, .slice A92 n92 c92, .int .i64 x93, .bool b94], .int .i64 xa1, .agg #[.slice A97 n97 c97, .slice A100 n100 c100, .bool true]] w99 fun e101 w102 => ∃ (A103_0 : Option Addr) (n103_0 : Nat) (c103_0 : Nat) (A103_1 : Option Addr) (n103_1 : Nat) (c103_1 : Nat) (x103_2 : Int) (b103_3 : Bool), e101 = .returned (.agg #[.slice A103_0 n103_0 c103_0, .slice A103_1 n103_1 c103_1, .int .i64 x103_2, .bool b103_3]) ∧ (
  stW w102 (⟨B1, 0, Option.none⟩ : Addr) (.slice A103_0 n103_0 c103_0) fun w104 =>
  stW w104 ((⟨B1, 0, Option.none⟩ : Addr).add 1) (.slice A103_1 n103_1 c103_1) fun w105 =>
  stW w105 ((⟨B1, 0, Option.none⟩ : Addr).add 2) (.int .i64 x103_2) fun w106 =>
  stW w106 ((⟨B1, 0, Option.none⟩ : Addr).add 3) (.bool b103_3) fun w107 =>
  sel (x63 == (3 : Int)) (
  stW w107 ((⟨B1, 0, Option.none⟩ : Addr).add 3) (.bool true) fun w108 =>
  ldS w108 (⟨B1, 0, Option.none⟩ : Addr) fun A109 n109 c109 =>
  ldS w108 ((⟨B1, 0, Option.none⟩ : Addr).add 1) fun A110 n110 c110 =>
  ldI w108 ((⟨B1, 0, Option.none⟩ : Addr).add 2) .i64 fun x111 =>
  ldB w108 ((⟨B1, 0, Option.none⟩ : Addr).add 3) fun b112 =>
  stW w108 (⟨B3, 0, Option.none⟩ : Addr) (.slice A109 n109 c109) fun w113 =>
  stW w113 ((⟨B3, 0, Option.none⟩ : Addr).add 1) (.slice A110 n110 c110) fun w114 =>
  stW w114 ((⟨B3, 0, Option.none⟩ : Addr).add 2) (.int .i64 x111) fun w115 =>
  stW w115 ((⟨B3, 0, Option.none⟩ : Addr).add 3) (.bool b112) fun w116 =>
  ldS w116 (⟨B3, 0, Option.none⟩ : Addr) fun A117 n117 c117 =>
  ldS w116 ((⟨B3, 0, Option.none⟩ : Addr).add 1) fun A118 n118 c118 =>
  ldI w116 ((⟨B3, 0, Option.none⟩ : Addr).add 2) .i64 fun x119 =>
  ldB w116 ((⟨B3, 0, Option.none⟩ : Addr).add 3) fun b120 =>
  Q (.returned (.tuple #[.agg #[.slice A117 n117 c117, .slice A118 n118 c118, .int .i64 x119, .bool b120], .int .i64 (70 : Int)])) w116) (
  ldS w107 (⟨B1, 0, Option.none⟩ : Addr) fun A121 n121 c121 =>
  ldS w107 ((⟨B1, 0, Option.none⟩ : Addr).add 1) fun A122 n122 c122 =>
  ldI w107 ((⟨B1, 0, Option.none⟩ : Addr).add 2) .i64 fun x123 =>
  ldB w107 ((⟨B1, 0, Option.none⟩ : Addr).add 3) fun b124 =>
  stW w107 (⟨B3, 0, Option.none⟩ : Addr) (.slice A121 n121 c121) fun w125 =>
  stW w125 ((⟨B3, 0, Option.none⟩ : Addr).add 1) (.slice A122 n122 c122) fun w126 =>
  stW w126 ((⟨B3, 0, Option.none⟩ : Addr).add 2) (.int .i64 x123) fun w127 =>
  stW w127 ((⟨B3, 0, Option.none⟩ : Addr).add 3) (.bool b124) fun w128 =>
  ldS w128 (⟨B3, 0, Option.none⟩ : Addr) fun A129 n129 c129 =>
  ldS w128 ((⟨B3, 0, Option.none⟩ : Addr).add 1) fun A130 n130 c130 =>
  ldI w128 ((⟨B3, 0, Option.none⟩ : Addr).add 2) .i64 fun x131 =>
  ldB w128 ((⟨B3, 0, Option.none⟩ : Addr).add 3) fun b132 =>
  Q (.returned (.tuple #[.agg #[.slice A129 n129 c129, .slice A130 n130 c130, .int .i64 x131, .bool b132], .int .i64 (0 : Int)])) w128))))))))))))
def D : Nat → Option DH := dtab [(12, .held [.fst 0, .fst 1, .fst 2, .fst 3, .fst 4, .fst 5, .fst 6, .fst 7, .fst 8, .eff 9, .fst 10] [.eff 11, .eff 12])]
def tb : List (List Nat × Spec) := []
theorem wp_eq (Aa0_0 : Option Addr) (na0_0 : Nat) (ca0_0 : Nat) (Aa0_1 : Option Addr) (na0_1 : Nat) (ca0_1 : Nat) (xa0_2 : Int) (ba0_3 : Bool) (xa1 : Int) (Aa2 : Option Addr) (na2 : Nat) (ca2 : Nat) (w : World) (Q : Ending → World → Prop) :
    wp Aa0_0 na0_0 ca0_0 Aa0_1 na0_1 ca0_1 xa0_2 ba0_3 xa1 Aa2 na2 ca2 w Q = codeW Tryd.prog hT 57 D (tab tb) [] body (topQ Tryd.prog hT 57 [.cell 6 68, .tmp 7] Q) (argsF [.agg #[.slice Aa0_0 na0_0 ca0_0, .slice Aa0_1 na0_1 ca0_1, .int .i64 xa0_2, .bool ba0_3], .int .i64 xa1, .slice Aa2 na2 ca2]) w := by cases ba0_3 <;> kernel_rfl
theorem ok (Aa0_0 : Option Addr) (na0_0 : Nat) (ca0_0 : Nat) (Aa0_1 : Option Addr) (na0_1 : Nat) (ca0_1 : Nat) (xa0_2 : Int) (ba0_3 : Bool) (xa1 : Int) (Aa2 : Option Addr) (na2 : Nat) (ca2 : Nat) (w : World) (Q : Ending → World → Prop) (h : wp Aa0_0 na0_0 ca0_0 Aa0_1 na0_1 ca0_1 xa0_2 ba0_3 xa1 Aa2 na2 ca2 w Q) : Calls Tryd.prog 75 #[.agg #[.slice Aa0_0 na0_0 ca0_0, .slice Aa0_1 na0_1 ca0_1, .int .i64 xa0_2, .bool ba0_3], .int .i64 xa1, .slice Aa2 na2 ca2] w Q := by
  rw [wp_eq] at h
  exact calls_of_codeW (c := body) (rs := [.cell 6 68, .tmp 7]) Tryd.func75 (by kernel_rfl) (by kernel_rfl) (by kernel_rfl) (by kernel_rfl) (by kernel_rfl) (tab_snd (by
    intro x hx
    simp only [tb, List.not_mem_nil] at hx
    )) (by kernel_rfl) h
end f_ref07_Write
namespace f_ref07_Sync
/-! skein/skeinref07.Sync: function 77 -/
noncomputable def body : Code := (Tryd.f77.body).getD .skip
def wp (Aa0_0 : Option Addr) (na0_0 : Nat) (ca0_0 : Nat) (Aa0_1 : Option Addr) (na0_1 : Nat) (ca0_1 : Nat) (xa0_2 : Int) (ba0_3 : Bool) (w : World) (Q : Ending → World → Prop) : Prop :=
  alW w (.cells #[.slice Aa0_0 na0_0 ca0_0, .slice Aa0_1 na0_1 ca0_1, .int .i64 xa0_2, .bool ba0_3] 68) fun B1 w2 =>
  alW w2 (.cells #[.slice none 0 0, .slice none 0 0, .int .i64 (0 : Int), .bool false] 68) fun B3 w4 =>
  ldB w4 ((⟨B1, 0, Option.none⟩ : Addr).add 3) fun b5 =>
  sel b5 (
  ldS w4 (⟨B1, 0, Option.none⟩ : Addr) fun A6 n6 c6 =>
  ldS w4 ((⟨B1, 0, Option.none⟩ : Addr).add 1) fun A7 n7 c7 =>
  ldI w4 ((⟨B1, 0, Option.none⟩ : Addr).add 2) .i64 fun x8 =>
  ldB w4 ((⟨B1, 0, Option.none⟩ : Addr).add 3) fun b9 =>
  stW w4 (⟨B3, 0, Option.none⟩ : Addr) (.slice A6 n6 c6) fun w10 =>
  stW w10 ((⟨B3, 0, Option.none⟩ : Addr).add 1) (.slice A7 n7 c7) fun w11 =>
  stW w11 ((⟨B3, 0, Option.none⟩ : Addr).add 2) (.int .i64 x8) fun w12 =>
  stW w12 ((⟨B3, 0, Option.none⟩ : Addr).add 3) (.bool b9) fun w13 =>
  ldS w13 (⟨B3, 0, Option.none⟩ : Addr) fun A14 n14 c14 =>
  ldS w13 ((⟨B3, 0, Option.none⟩ : Addr).add 1) fun A15 n15 c15 =>
  ldI w13 ((⟨B3, 0, Option.none⟩ : Addr).add 2) .i64 fun x16 =>
  ldB w13 ((⟨B3, 0, Option.none⟩ : Addr).add 3) fun b17 =>
  Q (.returned (.tuple #[.agg #[.slice A14 n14 c14, .slice A15 n15 c15, .int .i64 x16, .bool b17], .int .i64 (70 : Int)])) w13) (
  ldI w4 ((⟨B1, 0, Option.none⟩ : Addr).add 2) .i64 fun x18 =>
  stW w4 ((⟨B1, 0, Option.none⟩ : Addr).add 2) (.int .i64 (IntKind.i64.wrap (x18 + (1 : Int)))) fun w19 =>
  ldS w19 (⟨B1, 0, Option.none⟩ : Addr) fun A20 n20 c20 =>
  ldS w19 ((⟨B1, 0, Option.none⟩ : Addr).add 1) fun A21 n21 c21 =>
  ldI w19 ((⟨B1, 0, Option.none⟩ : Addr).add 2) .i64 fun x22 =>
  ldB w19 ((⟨B1, 0, Option.none⟩ : Addr).add 3) fun b23 =>
  Calls Tryd.prog 88 #[.agg #[.slice A20 n20 c20, .slice A21 n21 c21, .int .i64 x22, .bool b23]] w19 fun e24 w25 => ∃ (x26 : Int), e24 = .returned (.int .i64 x26) ∧ (
  sel (x26 == (1 : Int)) (
  ldS w25 (⟨B1, 0, Option.none⟩ : Addr) fun A27 n27 c27 =>
  ldS w25 ((⟨B1, 0, Option.none⟩ : Addr).add 1) fun A28 n28 c28 =>
  ldI w25 ((⟨B1, 0, Option.none⟩ : Addr).add 2) .i64 fun x29 =>
  ldB w25 ((⟨B1, 0, Option.none⟩ : Addr).add 3) fun b30 =>
  stW w25 (⟨B3, 0, Option.none⟩ : Addr) (.slice A27 n27 c27) fun w31 =>
  stW w31 ((⟨B3, 0, Option.none⟩ : Addr).add 1) (.slice A28 n28 c28) fun w32 =>
  stW w32 ((⟨B3, 0, Option.none⟩ : Addr).add 2) (.int .i64 x29) fun w33 =>
  stW w33 ((⟨B3, 0, Option.none⟩ : Addr).add 3) (.bool b30) fun w34 =>
  ldS w34 (⟨B3, 0, Option.none⟩ : Addr) fun A35 n35 c35 =>
  ldS w34 ((⟨B3, 0, Option.none⟩ : Addr).add 1) fun A36 n36 c36 =>
  ldI w34 ((⟨B3, 0, Option.none⟩ : Addr).add 2) .i64 fun x37 =>
  ldB w34 ((⟨B3, 0, Option.none⟩ : Addr).add 3) fun b38 =>
  Q (.returned (.tuple #[.agg #[.slice A35 n35 c35, .slice A36 n36 c36, .int .i64 x37, .bool b38], .int .i64 (71 : Int)])) w34) (
  sel (x26 == (2 : Int)) (
  stW w25 ((⟨B1, 0, Option.none⟩ : Addr).add 3) (.bool true) fun w39 =>
  ldS w39 (⟨B1, 0, Option.none⟩ : Addr) fun A40 n40 c40 =>
  ldS w39 ((⟨B1, 0, Option.none⟩ : Addr).add 1) fun A41 n41 c41 =>
  ldI w39 ((⟨B1, 0, Option.none⟩ : Addr).add 2) .i64 fun x42 =>
  ldB w39 ((⟨B1, 0, Option.none⟩ : Addr).add 3) fun b43 =>
  stW w39 (⟨B3, 0, Option.none⟩ : Addr) (.slice A40 n40 c40) fun w44 =>
  stW w44 ((⟨B3, 0, Option.none⟩ : Addr).add 1) (.slice A41 n41 c41) fun w45 =>
  stW w45 ((⟨B3, 0, Option.none⟩ : Addr).add 2) (.int .i64 x42) fun w46 =>
  stW w46 ((⟨B3, 0, Option.none⟩ : Addr).add 3) (.bool b43) fun w47 =>
  ldS w47 (⟨B3, 0, Option.none⟩ : Addr) fun A48 n48 c48 =>
  ldS w47 ((⟨B3, 0, Option.none⟩ : Addr).add 1) fun A49 n49 c49 =>
  ldI w47 ((⟨B3, 0, Option.none⟩ : Addr).add 2) .i64 fun x50 =>
  ldB w47 ((⟨B3, 0, Option.none⟩ : Addr).add 3) fun b51 =>
  Q (.returned (.tuple #[.agg #[.slice A48 n48 c48, .slice A49 n49 c49, .int .i64 x50, .bool b51], .int .i64 (70 : Int)])) w47) (
  ldS w25 (⟨B1, 0, Option.none⟩ : Addr) fun A52 n52 c52 =>
  Calls Tryd.prog 91 #[.slice A52 n52 c52] w25 fun e53 w54 => ∃ (A55 : Option Addr) (n55 : Nat) (c55 : Nat), e53 = .returned (.slice A55 n55 c55) ∧ (
  stW w54 (⟨B1, 0, Option.none⟩ : Addr) (.slice A55 n55 c55) fun w56 =>
  sel (x26 == (3 : Int)) (
  stW w56 ((⟨B1, 0, Option.none⟩ : Addr).add 3) (.bool true) fun w57 =>
  ldS w57 (⟨B1, 0, Option.none⟩ : Addr) fun A58 n58 c58 =>
  ldS w57 ((⟨B1, 0, Option.none⟩ : Addr).add 1) fun A59 n59 c59 =>
  ldI w57 ((⟨B1, 0, Option.none⟩ : Addr).add 2) .i64 fun x60 =>
  ldB w57 ((⟨B1, 0, Option.none⟩ : Addr).add 3) fun b61 =>
  stW w57 (⟨B3, 0, Option.none⟩ : Addr) (.slice A58 n58 c58) fun w62 =>
  stW w62 ((⟨B3, 0, Option.none⟩ : Addr).add 1) (.slice A59 n59 c59) fun w63 =>
  stW w63 ((⟨B3, 0, Option.none⟩ : Addr).add 2) (.int .i64 x60) fun w64 =>
  stW w64 ((⟨B3, 0, Option.none⟩ : Addr).add 3) (.bool b61) fun w65 =>
  ldS w65 (⟨B3, 0, Option.none⟩ : Addr) fun A66 n66 c66 =>
  ldS w65 ((⟨B3, 0, Option.none⟩ : Addr).add 1) fun A67 n67 c67 =>
  ldI w65 ((⟨B3, 0, Option.none⟩ : Addr).add 2) .i64 fun x68 =>
  ldB w65 ((⟨B3, 0, Option.none⟩ : Addr).add 3) fun b69 =>
  Q (.returned (.tuple #[.agg #[.slice A66 n66 c66, .slice A67 n67 c67, .int .i64 x68, .bool b69], .int .i64 (70 : Int)])) w65) (
  ldS w56 (⟨B1, 0, Option.none⟩ : Addr) fun A70 n70 c70 =>
  ldS w56 ((⟨B1, 0, Option.none⟩ : Addr).add 1) fun A71 n71 c71 =>
  ldI w56 ((⟨B1, 0, Option.none⟩ : Addr).add 2) .i64 fun x72 =>
  ldB w56 ((⟨B1, 0, Option.none⟩ : Addr).add 3) fun b73 =>
  stW w56 (⟨B3, 0, Option.none⟩ : Addr) (.slice A70 n70 c70) fun w74 =>
  stW w74 ((⟨B3, 0, Option.none⟩ : Addr).add 1) (.slice A71 n71 c71) fun w75 =>
  stW w75 ((⟨B3, 0, Option.none⟩ : Addr).add 2) (.int .i64 x72) fun w76 =>
  stW w76 ((⟨B3, 0, Option.none⟩ : Addr).add 3) (.bool b73) fun w77 =>
  ldS w77 (⟨B3, 0, Option.none⟩ : Addr) fun A78 n78 c78 =>
  ldS w77 ((⟨B3, 0, Option.none⟩ : Addr).add 1) fun A79 n79 c79 =>
  ldI w77 ((⟨B3, 0, Option.none⟩ : Addr).add 2) .i64 fun x80 =>
  ldB w77 ((⟨B3, 0, Option.none⟩ : Addr).add 3) fun b81 =>
  Q (.returned (.tuple #[.agg #[.slice A78 n78 c78, .slice A79 n79 c79, .int .i64 x80, .bool b81], .int .i64 (0 : Int)])) w77))))))
def D : Nat → Option DH := dtab []
def tb : List (List Nat × Spec) := []
theorem wp_eq (Aa0_0 : Option Addr) (na0_0 : Nat) (ca0_0 : Nat) (Aa0_1 : Option Addr) (na0_1 : Nat) (ca0_1 : Nat) (xa0_2 : Int) (ba0_3 : Bool) (w : World) (Q : Ending → World → Prop) :
    wp Aa0_0 na0_0 ca0_0 Aa0_1 na0_1 ca0_1 xa0_2 ba0_3 w Q = codeW Tryd.prog hT 30 D (tab tb) [] body (topQ Tryd.prog hT 30 [.cell 2 68, .tmp 3] Q) (argsF [.agg #[.slice Aa0_0 na0_0 ca0_0, .slice Aa0_1 na0_1 ca0_1, .int .i64 xa0_2, .bool ba0_3]]) w := by cases ba0_3 <;> kernel_rfl
theorem ok (Aa0_0 : Option Addr) (na0_0 : Nat) (ca0_0 : Nat) (Aa0_1 : Option Addr) (na0_1 : Nat) (ca0_1 : Nat) (xa0_2 : Int) (ba0_3 : Bool) (w : World) (Q : Ending → World → Prop) (h : wp Aa0_0 na0_0 ca0_0 Aa0_1 na0_1 ca0_1 xa0_2 ba0_3 w Q) : Calls Tryd.prog 77 #[.agg #[.slice Aa0_0 na0_0 ca0_0, .slice Aa0_1 na0_1 ca0_1, .int .i64 xa0_2, .bool ba0_3]] w Q := by
  rw [wp_eq] at h
  exact calls_of_codeW (c := body) (rs := [.cell 2 68, .tmp 3]) Tryd.func77 (by kernel_rfl) (by kernel_rfl) (by kernel_rfl) (by kernel_rfl) (by kernel_rfl) (tab_snd (by
    intro x hx
    simp only [tb, List.not_mem_nil] at hx
    )) (by kernel_rfl) h
end f_ref07_Sync
namespace f_ref07_fate
/-! skein/skeinref07.fate: function 88 -/
noncomputable def body : Code := (Tryd.f88.body).getD .skip
def l0 : Nat → Addr → Int → World → (World → Prop) → (Int → World → Prop) → Prop
  | 0, _, _, _, _, _ => False
  | k + 1, at1, xt3, w, K0, Kr =>
    ldS w (at1.add 1) fun A3 n3 c3 =>
    sel (decide (xt3 < (n3 : Int))) (
    drW w fun w4 =>
    ldS w4 (at1.add 1) fun A6 n6 c6 =>
    optB A6 fun a7 =>
    req (decide (0 ≤ xt3 ∧ xt3 < (n6 : Int))) <|
    ldI w4 (a7.add (xt3.toNat * 2)) .i64 fun x8 =>
    ldI w4 (at1.add 2) .i64 fun x9 =>
    sel (x8 == x9) (
    ldS w4 (at1.add 1) fun A10 n10 c10 =>
    optB A10 fun a11 =>
    req (decide (0 ≤ xt3 ∧ xt3 < (n10 : Int))) <|
    ldI w4 ((a11.add (xt3.toNat * 2)).add 1) .i64 fun x12 =>
    sel (decide (x12 ≥ (1 : Int))) (
    ldS w4 (at1.add 1) fun A13 n13 c13 =>
    optB A13 fun a14 =>
    req (decide (0 ≤ xt3 ∧ xt3 < (n13 : Int))) <|
    ldI w4 ((a14.add (xt3.toNat * 2)).add 1) .i64 fun x15 =>
    sel (decide (x15 ≤ (3 : Int))) (
    ldS w4 (at1.add 1) fun A16 n16 c16 =>
    optB A16 fun a17 =>
    req (decide (0 ≤ xt3 ∧ xt3 < (n16 : Int))) <|
    ldI w4 ((a17.add (xt3.toNat * 2)).add 1) .i64 fun x18 =>
    Kr x18 w4) (
    l0 k at1 (IntKind.i64.wrap (xt3 + (1 : Int))) w4 K0 Kr)) (
    l0 k at1 (IntKind.i64.wrap (xt3 + (1 : Int))) w4 K0 Kr)) (
    l0 k at1 (IntKind.i64.wrap (xt3 + (1 : Int))) w4 K0 Kr)) (
    K0  w)
def wp (Aa0_0 : Option Addr) (na0_0 : Nat) (ca0_0 : Nat) (Aa0_1 : Option Addr) (na0_1 : Nat) (ca0_1 : Nat) (xa0_2 : Int) (ba0_3 : Bool) (w : World) (Q : Ending → World → Prop) : Prop :=
  alW w (.cells #[.slice Aa0_0 na0_0 ca0_0, .slice Aa0_1 na0_1 ca0_1, .int .i64 xa0_2, .bool ba0_3] 68) fun B1 w2 =>
  ∃ k22 : Nat, l0 k22 (⟨B1, 0, Option.none⟩ : Addr) (0 : Int) w2 (fun (w19 : World) => ∀ _ : Fr,
  Q (.returned (.int .i64 (0 : Int))) w19) (fun (x20 : Int) (w21 : World) => ∀ _ : Fr,
  Q (.returned (.int .i64 x20)) w21)
def D : Nat → Option DH := dtab [(4, .simple [.fst 0, .fst 1, .fst 2, .fst 3, .fst 4, .fst 5, .fst 6, .fst 7, .fst 8, .fst 9, .fst 10, .fst 11, .fst 12, .fst 13, .fst 14, .fst 15, .fst 16, .fst 17, .fst 18, .fst 19, .fst 20, .fst 21, .fst 22, .fst 23, .fst 24] [.fst 25, .fst 26])]
def l0LO : LO := ⟨[], [2], [(0, [])], []⟩
def l0Tk (k : Nat) : Spec := fun Q σ w =>
  gAd (σ 1) fun at1 =>
  gInt .i64 (σ 3) fun xt3 =>
  l0 k at1 xt3 w (fun (w : World) => ∀ d : Fr, Q (.exit 0) (ov d []) w) (fun (xq2 : Int) (w : World) => ∀ d : Fr, Q .ret (ov d [(2, .int .i64 xq2)]) w)
def l0T : Spec := fun Q σ w => ∃ k, l0Tk k Q σ w
def l0tb : List (List Nat × Spec) := []
noncomputable def l0b : Code := (subC [0, 0, 1, 0, 1] body).getD .skip
theorem l0_eq (k : Nat) (at1 : Addr) (xt3 : Int) (Q : PQ) (σ : Fr) (w : World) :
    l0 (k + 1) at1 xt3 w (fun (w : World) => ∀ d : Fr, Q (.exit 0) (ov d []) w) (fun (xq2 : Int) (w : World) => ∀ d : Fr, Q .ret (ov d [(2, .int .i64 xq2)]) w) = codeW Tryd.prog hT 44 D (tab l0tb) [0, 0, 1, 0, 1] l0b (thenQ (l0Tk k Q) (widen l0LO Q)) (ov σ [(1, .pointer (some at1)), (3, .int .i64 xt3)]) w := by kernel_rfl
theorem l0_snd : ∀ c, subC [0, 1, 0, 1] body = some c → Snd Tryd.prog 44 c l0T := by
  refine loop_of (hT := hT) (D := D) (l := l0tb) (b := l0b) (lo := l0LO) (by kernel_rfl) (by
    intro x hx
    simp only [l0tb, List.not_mem_nil] at hx
    ) (by kernel_rfl) (by kernel_rfl) ?_ ?_
  · intro Q σ w h
    unfold l0Tk at h
    obtain ⟨at1, h1, hn⟩ := gAd_elim h
    clear h
    have h := hn
    clear hn
    obtain ⟨xt3, h3, hn⟩ := gInt_elim h
    clear h
    have h := hn
    clear hn
    exact h
  · intro k Q σ w h
    unfold l0Tk at h
    obtain ⟨at1, h1, hn⟩ := gAd_elim h
    clear h
    have h := hn
    clear hn
    obtain ⟨xt3, h3, hn⟩ := gInt_elim h
    clear h
    have h := hn
    clear hn
    rw [l0_eq (σ := σ)] at h
    have e : (ov σ [(1, .pointer (some at1)), (3, .int .i64 xt3)]) = σ := ov_self (by simp [h1, h3])
    rw [e] at h
    exact h
def tb : List (List Nat × Spec) := [([0, 1, 0, 1], l0T)]
theorem wp_eq (Aa0_0 : Option Addr) (na0_0 : Nat) (ca0_0 : Nat) (Aa0_1 : Option Addr) (na0_1 : Nat) (ca0_1 : Nat) (xa0_2 : Int) (ba0_3 : Bool) (w : World) (Q : Ending → World → Prop) :
    wp Aa0_0 na0_0 ca0_0 Aa0_1 na0_1 ca0_1 xa0_2 ba0_3 w Q = codeW Tryd.prog hT 44 D (tab tb) [] body (topQ Tryd.prog hT 44 [.tmp 2] Q) (argsF [.agg #[.slice Aa0_0 na0_0 ca0_0, .slice Aa0_1 na0_1 ca0_1, .int .i64 xa0_2, .bool ba0_3]]) w := by cases ba0_3 <;> kernel_rfl
theorem ok (Aa0_0 : Option Addr) (na0_0 : Nat) (ca0_0 : Nat) (Aa0_1 : Option Addr) (na0_1 : Nat) (ca0_1 : Nat) (xa0_2 : Int) (ba0_3 : Bool) (w : World) (Q : Ending → World → Prop) (h : wp Aa0_0 na0_0 ca0_0 Aa0_1 na0_1 ca0_1 xa0_2 ba0_3 w Q) : Calls Tryd.prog 88 #[.agg #[.slice Aa0_0 na0_0 ca0_0, .slice Aa0_1 na0_1 ca0_1, .int .i64 xa0_2, .bool ba0_3]] w Q := by
  rw [wp_eq] at h
  exact calls_of_codeW (c := body) (rs := [.tmp 2]) Tryd.func88 (by kernel_rfl) (by kernel_rfl) (by kernel_rfl) (by kernel_rfl) (by kernel_rfl) (tab_snd (by
    intro x hx
    simp only [tb, List.mem_cons, List.not_mem_nil, or_false] at hx
    subst hx
    exact l0_snd)) (by kernel_rfl) h
end f_ref07_fate
namespace f_ref07_put
/-! skein/skeinref07.put: function 89 -/
noncomputable def body : Code := (Tryd.f89.body).getD .skip
def l0 : Nat → Int → Addr → Addr → Option Addr → Nat → Nat → Int → World → ((Option Addr) → Nat → Nat → World → Prop) → Prop
  | 0, _, _, _, _, _, _, _, _, _ => False
  | k + 1, xt1, at3, at5, At7, nt7, ct7, xt8, w, K0 =>
    ldS w at3 fun A9 n9 c9 =>
    sel (decide (xt8 < (n9 : Int))) (
    sel (xt8 == xt1) (
    ldS w at5 fun A10 n10 c10 =>
    ldS w (at5.add 1) fun A11 n11 c11 =>
    ldB w (at5.add 2) fun b12 =>
    alW w (.cells #[.slice A10 n10 c10, .slice A11 n11 c11, .bool b12] 143) fun B13 w14 =>
    Runs Tryd.prog (Builtin.append_ #[66, 66] 66 #[.slice At7 nt7 ct7, .slice (some (⟨B13, 0, Option.none⟩ : Addr)) 1 1]) w14 fun v16 w15 => ∃ (A17 : Option Addr) (n17 : Nat) (c17 : Nat), v16 = (.slice A17 n17 c17) ∧ (
    l0 k xt1 at3 at5 A17 n17 c17 (IntKind.i64.wrap (xt8 + (1 : Int))) w15 K0)) (
    ldS w at3 fun A18 n18 c18 =>
    optB A18 fun a19 =>
    req (decide (0 ≤ xt8 ∧ xt8 < (n18 : Int))) <|
    ldS w (a19.add (xt8.toNat * 3)) fun A20 n20 c20 =>
    ldS w ((a19.add (xt8.toNat * 3)).add 1) fun A21 n21 c21 =>
    ldB w ((a19.add (xt8.toNat * 3)).add 2) fun b22 =>
    alW w (.cells #[.slice A20 n20 c20, .slice A21 n21 c21, .bool b22] 143) fun B23 w24 =>
    Runs Tryd.prog (Builtin.append_ #[66, 66] 66 #[.slice At7 nt7 ct7, .slice (some (⟨B23, 0, Option.none⟩ : Addr)) 1 1]) w24 fun v26 w25 => ∃ (A27 : Option Addr) (n27 : Nat) (c27 : Nat), v26 = (.slice A27 n27 c27) ∧ (
    l0 k xt1 at3 at5 A27 n27 c27 (IntKind.i64.wrap (xt8 + (1 : Int))) w25 K0))) (
    K0 At7 nt7 ct7 w)
def wp (Aa0_0 : Option Addr) (na0_0 : Nat) (ca0_0 : Nat) (Aa0_1 : Option Addr) (na0_1 : Nat) (ca0_1 : Nat) (xa0_2 : Int) (ba0_3 : Bool) (xa1 : Int) (Aa2_0 : Option Addr) (na2_0 : Nat) (ca2_0 : Nat) (Aa2_1 : Option Addr) (na2_1 : Nat) (ca2_1 : Nat) (ba2_2 : Bool) (w : World) (Q : Ending → World → Prop) : Prop :=
  alW w (.cells #[.slice Aa0_0 na0_0 ca0_0, .slice Aa0_1 na0_1 ca0_1, .int .i64 xa0_2, .bool ba0_3] 68) fun B1 w2 =>
  alW w2 (.cells #[.slice Aa2_0 na2_0 ca2_0, .slice Aa2_1 na2_1 ca2_1, .bool ba2_2] 143) fun B3 w4 =>
  alW w4 (.cells #[.slice none 0 0, .slice none 0 0, .int .i64 (0 : Int), .bool false] 68) fun B5 w6 =>
  alW w6 (.cells #[] 143) fun B7 w8 =>
  ∃ k43 : Nat, l0 k43 xa1 (⟨B1, 0, Option.none⟩ : Addr) (⟨B3, 0, Option.none⟩ : Addr) (some (⟨B7, 0, Option.none⟩ : Addr)) 0 0 (0 : Int) w8 (fun (A28 : Option Addr) (n28 : Nat) (c28 : Nat) (w29 : World) => ∀ _ : Fr,
  stW w29 (⟨B1, 0, Option.none⟩ : Addr) (.slice A28 n28 c28) fun w30 =>
  ldS w30 (⟨B1, 0, Option.none⟩ : Addr) fun A31 n31 c31 =>
  ldS w30 ((⟨B1, 0, Option.none⟩ : Addr).add 1) fun A32 n32 c32 =>
  ldI w30 ((⟨B1, 0, Option.none⟩ : Addr).add 2) .i64 fun x33 =>
  ldB w30 ((⟨B1, 0, Option.none⟩ : Addr).add 3) fun b34 =>
  stW w30 (⟨B5, 0, Option.none⟩ : Addr) (.slice A31 n31 c31) fun w35 =>
  stW w35 ((⟨B5, 0, Option.none⟩ : Addr).add 1) (.slice A32 n32 c32) fun w36 =>
  stW w36 ((⟨B5, 0, Option.none⟩ : Addr).add 2) (.int .i64 x33) fun w37 =>
  stW w37 ((⟨B5, 0, Option.none⟩ : Addr).add 3) (.bool b34) fun w38 =>
  ldS w38 (⟨B5, 0, Option.none⟩ : Addr) fun A39 n39 c39 =>
  ldS w38 ((⟨B5, 0, Option.none⟩ : Addr).add 1) fun A40 n40 c40 =>
  ldI w38 ((⟨B5, 0, Option.none⟩ : Addr).add 2) .i64 fun x41 =>
  ldB w38 ((⟨B5, 0, Option.none⟩ : Addr).add 3) fun b42 =>
  Q (.returned (.agg #[.slice A39 n39 c39, .slice A40 n40 c40, .int .i64 x41, .bool b42])) w38)
def D : Nat → Option DH := dtab []
def l0LO : LO := ⟨[], [], [(0, [3, 6, 7])], []⟩
def l0Tk (k : Nat) : Spec := fun Q σ w =>
  gInt .i64 (σ 1) fun xt1 =>
  gAd (σ 3) fun at3 =>
  gAd (σ 5) fun at5 =>
  gSlice (σ 7) fun At7 nt7 ct7 =>
  gInt .i64 (σ 8) fun xt8 =>
  l0 k xt1 at3 at5 At7 nt7 ct7 xt8 w (fun (Aq7 : Option Addr) (nq7 : Nat) (cq7 : Nat) (w : World) => ∀ d : Fr, Q (.exit 0) (ov d [(3, .pointer (some at3)), (6, σ 6), (7, .slice Aq7 nq7 cq7)]) w)
def l0T : Spec := fun Q σ w => ∃ k, l0Tk k Q σ w
def l0tb : List (List Nat × Spec) := []
noncomputable def l0b : Code := (subC [0, 0, 1, 0, 1, 1] body).getD .skip
theorem l0_eq (k : Nat) (xt1 : Int) (at3 : Addr) (at5 : Addr) (At7 : Option Addr) (nt7 : Nat) (ct7 : Nat) (xt8 : Int) (Q : PQ) (σ : Fr) (w : World) :
    l0 (k + 1) xt1 at3 at5 At7 nt7 ct7 xt8 w (fun (Aq7 : Option Addr) (nq7 : Nat) (cq7 : Nat) (w : World) => ∀ d : Fr, Q (.exit 0) (ov d [(3, .pointer (some at3)), (6, σ 6), (7, .slice Aq7 nq7 cq7)]) w) = codeW Tryd.prog hT 35 D (tab l0tb) [0, 0, 1, 0, 1, 1] l0b (thenQ (l0Tk k Q) (widen l0LO Q)) (ov σ [(1, .int .i64 xt1), (3, .pointer (some at3)), (5, .pointer (some at5)), (7, .slice At7 nt7 ct7), (8, .int .i64 xt8)]) w := by kernel_rfl
theorem l0_snd : ∀ c, subC [0, 1, 0, 1, 1] body = some c → Snd Tryd.prog 35 c l0T := by
  refine loop_of (hT := hT) (D := D) (l := l0tb) (b := l0b) (lo := l0LO) (by kernel_rfl) (by
    intro x hx
    simp only [l0tb, List.not_mem_nil] at hx
    ) (by kernel_rfl) (by kernel_rfl) ?_ ?_
  · intro Q σ w h
    unfold l0Tk at h
    obtain ⟨xt1, h1, hn⟩ := gInt_elim h
    clear h
    have h := hn
    clear hn
    obtain ⟨at3, h3, hn⟩ := gAd_elim h
    clear h
    have h := hn
    clear hn
    obtain ⟨at5, h5, hn⟩ := gAd_elim h
    clear h
    have h := hn
    clear hn
    obtain ⟨At7, nt7, ct7, h7, hn⟩ := gSlice_elim h
    clear h
    have h := hn
    clear hn
    obtain ⟨xt8, h8, hn⟩ := gInt_elim h
    clear h
    have h := hn
    clear hn
    exact h
  · intro k Q σ w h
    unfold l0Tk at h
    obtain ⟨xt1, h1, hn⟩ := gInt_elim h
    clear h
    have h := hn
    clear hn
    obtain ⟨at3, h3, hn⟩ := gAd_elim h
    clear h
    have h := hn
    clear hn
    obtain ⟨at5, h5, hn⟩ := gAd_elim h
    clear h
    have h := hn
    clear hn
    obtain ⟨At7, nt7, ct7, h7, hn⟩ := gSlice_elim h
    clear h
    have h := hn
    clear hn
    obtain ⟨xt8, h8, hn⟩ := gInt_elim h
    clear h
    have h := hn
    clear hn
    rw [l0_eq (σ := σ)] at h
    have e : (ov σ [(1, .int .i64 xt1), (3, .pointer (some at3)), (5, .pointer (some at5)), (7, .slice At7 nt7 ct7), (8, .int .i64 xt8)]) = σ := ov_self (by simp [h1, h3, h5, h7, h8])
    rw [e] at h
    exact h
def tb : List (List Nat × Spec) := [([0, 1, 0, 1, 1], l0T)]
theorem wp_eq (Aa0_0 : Option Addr) (na0_0 : Nat) (ca0_0 : Nat) (Aa0_1 : Option Addr) (na0_1 : Nat) (ca0_1 : Nat) (xa0_2 : Int) (ba0_3 : Bool) (xa1 : Int) (Aa2_0 : Option Addr) (na2_0 : Nat) (ca2_0 : Nat) (Aa2_1 : Option Addr) (na2_1 : Nat) (ca2_1 : Nat) (ba2_2 : Bool) (w : World) (Q : Ending → World → Prop) :
    wp Aa0_0 na0_0 ca0_0 Aa0_1 na0_1 ca0_1 xa0_2 ba0_3 xa1 Aa2_0 na2_0 ca2_0 Aa2_1 na2_1 ca2_1 ba2_2 w Q = codeW Tryd.prog hT 35 D (tab tb) [] body (topQ Tryd.prog hT 35 [.cell 6 68] Q) (argsF [.agg #[.slice Aa0_0 na0_0 ca0_0, .slice Aa0_1 na0_1 ca0_1, .int .i64 xa0_2, .bool ba0_3], .int .i64 xa1, .agg #[.slice Aa2_0 na2_0 ca2_0, .slice Aa2_1 na2_1 ca2_1, .bool ba2_2]]) w := by cases ba0_3 <;> cases ba2_2 <;> kernel_rfl
theorem ok (Aa0_0 : Option Addr) (na0_0 : Nat) (ca0_0 : Nat) (Aa0_1 : Option Addr) (na0_1 : Nat) (ca0_1 : Nat) (xa0_2 : Int) (ba0_3 : Bool) (xa1 : Int) (Aa2_0 : Option Addr) (na2_0 : Nat) (ca2_0 : Nat) (Aa2_1 : Option Addr) (na2_1 : Nat) (ca2_1 : Nat) (ba2_2 : Bool) (w : World) (Q : Ending → World → Prop) (h : wp Aa0_0 na0_0 ca0_0 Aa0_1 na0_1 ca0_1 xa0_2 ba0_3 xa1 Aa2_0 na2_0 ca2_0 Aa2_1 na2_1 ca2_1 ba2_2 w Q) : Calls Tryd.prog 89 #[.agg #[.slice Aa0_0 na0_0 ca0_0, .slice Aa0_1 na0_1 ca0_1, .int .i64 xa0_2, .bool ba0_3], .int .i64 xa1, .agg #[.slice Aa2_0 na2_0 ca2_0, .slice Aa2_1 na2_1 ca2_1, .bool ba2_2]] w Q := by
  rw [wp_eq] at h
  exact calls_of_codeW (c := body) (rs := [.cell 6 68]) Tryd.func89 (by kernel_rfl) (by kernel_rfl) (by kernel_rfl) (by kernel_rfl) (by kernel_rfl) (tab_snd (by
    intro x hx
    simp only [tb, List.mem_cons, List.not_mem_nil, or_false] at hx
    subst hx
    exact l0_snd)) (by kernel_rfl) h
end f_ref07_put
namespace f_ref07_full
/-! skein/skeinref07.full: function 90 -/
noncomputable def body : Code := (Tryd.f90.body).getD .skip
def l0 : Nat → Option Addr → Nat → Nat → World → ((Option Addr) → Nat → Nat → World → Prop) → Prop
  | 0, _, _, _, _, _ => False
  | k + 1, At3, nt3, ct3, w, K0 =>
    sel (decide ((nt3 : Int) < (512 : Int))) (
    alW w (.cells #[.int .u8 (0 : Int)] 5) fun B4 w5 =>
    Runs Tryd.prog (Builtin.append_ #[29, 29] 29 #[.slice At3 nt3 ct3, .slice (some (⟨B4, 0, Option.none⟩ : Addr)) 1 1]) w5 fun v7 w6 => ∃ (A8 : Option Addr) (n8 : Nat) (c8 : Nat), v7 = (.slice A8 n8 c8) ∧ (
    l0 k A8 n8 c8 w6 K0)) (
    K0 At3 nt3 ct3 w)
def wp (Aa0 : Option Addr) (na0 : Nat) (ca0 : Nat) (w : World) (Q : Ending → World → Prop) : Prop :=
  Calls Tryd.prog 46 #[.slice Aa0 na0 ca0, .int .i64 (0 : Int), .int .i64 (512 : Int)] w fun e1 w2 => ∃ (A3 : Option Addr) (n3 : Nat) (c3 : Nat), e1 = .returned (.slice A3 n3 c3) ∧ (
  ∃ k11 : Nat, l0 k11 A3 n3 c3 w2 (fun (A9 : Option Addr) (n9 : Nat) (c9 : Nat) (w10 : World) => ∀ _ : Fr,
  Q (.returned (.slice A9 n9 c9)) w10))
def D : Nat → Option DH := dtab []
def l0LO : LO := ⟨[], [], [(0, [3])], []⟩
def l0Tk (k : Nat) : Spec := fun Q σ w =>
  gSlice (σ 3) fun At3 nt3 ct3 =>
  l0 k At3 nt3 ct3 w (fun (Aq3 : Option Addr) (nq3 : Nat) (cq3 : Nat) (w : World) => ∀ d : Fr, Q (.exit 0) (ov d [(3, .slice Aq3 nq3 cq3)]) w)
def l0T : Spec := fun Q σ w => ∃ k, l0Tk k Q σ w
def l0tb : List (List Nat × Spec) := []
noncomputable def l0b : Code := (subC [0, 0, 0, 1, 1] body).getD .skip
theorem l0_eq (k : Nat) (At3 : Option Addr) (nt3 : Nat) (ct3 : Nat) (Q : PQ) (σ : Fr) (w : World) :
    l0 (k + 1) At3 nt3 ct3 w (fun (Aq3 : Option Addr) (nq3 : Nat) (cq3 : Nat) (w : World) => ∀ d : Fr, Q (.exit 0) (ov d [(3, .slice Aq3 nq3 cq3)]) w) = codeW Tryd.prog hT 13 D (tab l0tb) [0, 0, 0, 1, 1] l0b (thenQ (l0Tk k Q) (widen l0LO Q)) (ov σ [(3, .slice At3 nt3 ct3)]) w := by kernel_rfl
theorem l0_snd : ∀ c, subC [0, 0, 1, 1] body = some c → Snd Tryd.prog 13 c l0T := by
  refine loop_of (hT := hT) (D := D) (l := l0tb) (b := l0b) (lo := l0LO) (by kernel_rfl) (by
    intro x hx
    simp only [l0tb, List.not_mem_nil] at hx
    ) (by kernel_rfl) (by kernel_rfl) ?_ ?_
  · intro Q σ w h
    unfold l0Tk at h
    obtain ⟨At3, nt3, ct3, h3, hn⟩ := gSlice_elim h
    clear h
    have h := hn
    clear hn
    exact h
  · intro k Q σ w h
    unfold l0Tk at h
    obtain ⟨At3, nt3, ct3, h3, hn⟩ := gSlice_elim h
    clear h
    have h := hn
    clear hn
    rw [l0_eq (σ := σ)] at h
    have e : (ov σ [(3, .slice At3 nt3 ct3)]) = σ := ov_self (by simp [h3])
    rw [e] at h
    exact h
def tb : List (List Nat × Spec) := [([0, 0, 1, 1], l0T)]
theorem wp_eq (Aa0 : Option Addr) (na0 : Nat) (ca0 : Nat) (w : World) (Q : Ending → World → Prop) :
    wp Aa0 na0 ca0 w Q = codeW Tryd.prog hT 13 D (tab tb) [] body (topQ Tryd.prog hT 13 [.tmp 2] Q) (argsF [.slice Aa0 na0 ca0]) w := by kernel_rfl
theorem ok (Aa0 : Option Addr) (na0 : Nat) (ca0 : Nat) (w : World) (Q : Ending → World → Prop) (h : wp Aa0 na0 ca0 w Q) : Calls Tryd.prog 90 #[.slice Aa0 na0 ca0] w Q := by
  rw [wp_eq] at h
  exact calls_of_codeW (c := body) (rs := [.tmp 2]) Tryd.func90 (by kernel_rfl) (by kernel_rfl) (by kernel_rfl) (by kernel_rfl) (by kernel_rfl) (tab_snd (by
    intro x hx
    simp only [tb, List.mem_cons, List.not_mem_nil, or_false] at hx
    subst hx
    exact l0_snd)) (by kernel_rfl) h
end f_ref07_full
namespace f_ref07_settled
/-! skein/skeinref07.settled: function 91 -/
noncomputable def body : Code := (Tryd.f91.body).getD .skip
def l0 : Nat → Option Addr → Nat → Nat → Option Addr → Nat → Nat → Int → World → ((Option Addr) → Nat → Nat → World → Prop) → Prop
  | 0, _, _, _, _, _, _, _, _, _ => False
  | k + 1, At0, nt0, ct0, At3, nt3, ct3, xt4, w, K0 =>
    sel (decide (xt4 < (nt0 : Int))) (
    optB At0 fun a3 =>
    req (decide (0 ≤ xt4 ∧ xt4 < (nt0 : Int))) <|
    ldS w (a3.add (xt4.toNat * 3)) fun A4 n4 c4 =>
    ldS w ((a3.add (xt4.toNat * 3)).add 1) fun A5 n5 c5 =>
    ldB w ((a3.add (xt4.toNat * 3)).add 2) fun b6 =>
    Calls Tryd.prog 101 #[.agg #[.slice A4 n4 c4, .slice A5 n5 c5, .bool b6]] w fun e7 w8 => ∃ (A9 : Option Addr) (n9 : Nat) (c9 : Nat), e7 = .returned (.slice A9 n9 c9) ∧ (
    alW w8 (.cells #[.slice A9 n9 c9, .slice none 0 0, .bool false] 143) fun B10 w11 =>
    Runs Tryd.prog (Builtin.append_ #[66, 66] 66 #[.slice At3 nt3 ct3, .slice (some (⟨B10, 0, Option.none⟩ : Addr)) 1 1]) w11 fun v13 w12 => ∃ (A14 : Option Addr) (n14 : Nat) (c14 : Nat), v13 = (.slice A14 n14 c14) ∧ (
    l0 k At0 nt0 ct0 A14 n14 c14 (IntKind.i64.wrap (xt4 + (1 : Int))) w12 K0))) (
    K0 At3 nt3 ct3 w)
def wp (Aa0 : Option Addr) (na0 : Nat) (ca0 : Nat) (w : World) (Q : Ending → World → Prop) : Prop :=
  alW w (.cells #[] 143) fun B1 w2 =>
  ∃ k17 : Nat, l0 k17 Aa0 na0 ca0 (some (⟨B1, 0, Option.none⟩ : Addr)) 0 0 (0 : Int) w2 (fun (A15 : Option Addr) (n15 : Nat) (c15 : Nat) (w16 : World) => ∀ _ : Fr,
  Q (.returned (.slice A15 n15 c15)) w16)
def D : Nat → Option DH := dtab []
def l0LO : LO := ⟨[], [], [(0, [3])], []⟩
def l0Tk (k : Nat) : Spec := fun Q σ w =>
  gSlice (σ 0) fun At0 nt0 ct0 =>
  gSlice (σ 3) fun At3 nt3 ct3 =>
  gInt .i64 (σ 4) fun xt4 =>
  l0 k At0 nt0 ct0 At3 nt3 ct3 xt4 w (fun (Aq3 : Option Addr) (nq3 : Nat) (cq3 : Nat) (w : World) => ∀ d : Fr, Q (.exit 0) (ov d [(3, .slice Aq3 nq3 cq3)]) w)
def l0T : Spec := fun Q σ w => ∃ k, l0Tk k Q σ w
def l0tb : List (List Nat × Spec) := []
noncomputable def l0b : Code := (subC [0, 0, 1, 0, 1, 1] body).getD .skip
theorem l0_eq (k : Nat) (At0 : Option Addr) (nt0 : Nat) (ct0 : Nat) (At3 : Option Addr) (nt3 : Nat) (ct3 : Nat) (xt4 : Int) (Q : PQ) (σ : Fr) (w : World) :
    l0 (k + 1) At0 nt0 ct0 At3 nt3 ct3 xt4 w (fun (Aq3 : Option Addr) (nq3 : Nat) (cq3 : Nat) (w : World) => ∀ d : Fr, Q (.exit 0) (ov d [(3, .slice Aq3 nq3 cq3)]) w) = codeW Tryd.prog hT 22 D (tab l0tb) [0, 0, 1, 0, 1, 1] l0b (thenQ (l0Tk k Q) (widen l0LO Q)) (ov σ [(0, .slice At0 nt0 ct0), (3, .slice At3 nt3 ct3), (4, .int .i64 xt4)]) w := by kernel_rfl
theorem l0_snd : ∀ c, subC [0, 1, 0, 1, 1] body = some c → Snd Tryd.prog 22 c l0T := by
  refine loop_of (hT := hT) (D := D) (l := l0tb) (b := l0b) (lo := l0LO) (by kernel_rfl) (by
    intro x hx
    simp only [l0tb, List.not_mem_nil] at hx
    ) (by kernel_rfl) (by kernel_rfl) ?_ ?_
  · intro Q σ w h
    unfold l0Tk at h
    obtain ⟨At0, nt0, ct0, h0, hn⟩ := gSlice_elim h
    clear h
    have h := hn
    clear hn
    obtain ⟨At3, nt3, ct3, h3, hn⟩ := gSlice_elim h
    clear h
    have h := hn
    clear hn
    obtain ⟨xt4, h4, hn⟩ := gInt_elim h
    clear h
    have h := hn
    clear hn
    exact h
  · intro k Q σ w h
    unfold l0Tk at h
    obtain ⟨At0, nt0, ct0, h0, hn⟩ := gSlice_elim h
    clear h
    have h := hn
    clear hn
    obtain ⟨At3, nt3, ct3, h3, hn⟩ := gSlice_elim h
    clear h
    have h := hn
    clear hn
    obtain ⟨xt4, h4, hn⟩ := gInt_elim h
    clear h
    have h := hn
    clear hn
    rw [l0_eq (σ := σ)] at h
    have e : (ov σ [(0, .slice At0 nt0 ct0), (3, .slice At3 nt3 ct3), (4, .int .i64 xt4)]) = σ := ov_self (by simp [h0, h3, h4])
    rw [e] at h
    exact h
def tb : List (List Nat × Spec) := [([0, 1, 0, 1, 1], l0T)]
theorem wp_eq (Aa0 : Option Addr) (na0 : Nat) (ca0 : Nat) (w : World) (Q : Ending → World → Prop) :
    wp Aa0 na0 ca0 w Q = codeW Tryd.prog hT 22 D (tab tb) [] body (topQ Tryd.prog hT 22 [.tmp 2] Q) (argsF [.slice Aa0 na0 ca0]) w := by kernel_rfl
theorem ok (Aa0 : Option Addr) (na0 : Nat) (ca0 : Nat) (w : World) (Q : Ending → World → Prop) (h : wp Aa0 na0 ca0 w Q) : Calls Tryd.prog 91 #[.slice Aa0 na0 ca0] w Q := by
  rw [wp_eq] at h
  exact calls_of_codeW (c := body) (rs := [.tmp 2]) Tryd.func91 (by kernel_rfl) (by kernel_rfl) (by kernel_rfl) (by kernel_rfl) (by kernel_rfl) (tab_snd (by
    intro x hx
    simp only [tb, List.mem_cons, List.not_mem_nil, or_false] at hx
    subst hx
    exact l0_snd)) (by kernel_rfl) h
end f_ref07_settled
namespace f_ref07_has
/-! skein/skeinref07.has: function 101 -/
noncomputable def body : Code := (Tryd.f101.body).getD .skip
def wp (Aa0_0 : Option Addr) (na0_0 : Nat) (ca0_0 : Nat) (Aa0_1 : Option Addr) (na0_1 : Nat) (ca0_1 : Nat) (ba0_2 : Bool) (w : World) (Q : Ending → World → Prop) : Prop :=
  alW w (.cells #[.slice Aa0_0 na0_0 ca0_0, .slice Aa0_1 na0_1 ca0_1, .bool ba0_2] 143) fun B1 w2 =>
  ldB w2 ((⟨B1, 0, Option.none⟩ : Addr).add 2) fun b3 =>
  sel b3 (
  ldS w2 ((⟨B1, 0, Option.none⟩ : Addr).add 1) fun A4 n4 c4 =>
  Q (.returned (.slice A4 n4 c4)) w2) (
  ldS w2 (⟨B1, 0, Option.none⟩ : Addr) fun A5 n5 c5 =>
  Q (.returned (.slice A5 n5 c5)) w2)
def D : Nat → Option DH := dtab []
def tb : List (List Nat × Spec) := []
theorem wp_eq (Aa0_0 : Option Addr) (na0_0 : Nat) (ca0_0 : Nat) (Aa0_1 : Option Addr) (na0_1 : Nat) (ca0_1 : Nat) (ba0_2 : Bool) (w : World) (Q : Ending → World → Prop) :
    wp Aa0_0 na0_0 ca0_0 Aa0_1 na0_1 ca0_1 ba0_2 w Q = codeW Tryd.prog hT 9 D (tab tb) [] body (topQ Tryd.prog hT 9 [.tmp 2] Q) (argsF [.agg #[.slice Aa0_0 na0_0 ca0_0, .slice Aa0_1 na0_1 ca0_1, .bool ba0_2]]) w := by cases ba0_2 <;> kernel_rfl
theorem ok (Aa0_0 : Option Addr) (na0_0 : Nat) (ca0_0 : Nat) (Aa0_1 : Option Addr) (na0_1 : Nat) (ca0_1 : Nat) (ba0_2 : Bool) (w : World) (Q : Ending → World → Prop) (h : wp Aa0_0 na0_0 ca0_0 Aa0_1 na0_1 ca0_1 ba0_2 w Q) : Calls Tryd.prog 101 #[.agg #[.slice Aa0_0 na0_0 ca0_0, .slice Aa0_1 na0_1 ca0_1, .bool ba0_2]] w Q := by
  rw [wp_eq] at h
  exact calls_of_codeW (c := body) (rs := [.tmp 2]) Tryd.func101 (by kernel_rfl) (by kernel_rfl) (by kernel_rfl) (by kernel_rfl) (by kernel_rfl) (tab_snd (by
    intro x hx
    simp only [tb, List.not_mem_nil] at hx
    )) (by kernel_rfl) h
end f_ref07_has
end Go.Proofs.YtpokaafedpnbdaaDoor.Rd
