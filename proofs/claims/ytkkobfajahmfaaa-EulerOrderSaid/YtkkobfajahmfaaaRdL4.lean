/- The printed readings of some functions: each function's code reckoned by the kernel to its predicate transformer. -/
import Derived.Test.YtkkobfajahmfaaaHint
namespace Go.Proofs.Ytkkobfajahmfaaa.Rd
open Go.Dn
set_option maxRecDepth 100000
set_option linter.unusedVariables false
namespace f_law16_EulerOrder
/-! skein/skeinlaw16.EulerOrder: function 4 -/
noncomputable def body : Code := (Try.f4.body).getD .skip
def l0 : Nat → Addr → Option Addr → Nat → Nat → Int → Int → World → (World → Prop) → Prop
  | 0, _, _, _, _, _, _, _, _ => False
  | k + 1, at9, At49, nt49, ct49, xt50, xt51, w, K0 =>
    sel (decide (xt51 < xt50)) (
    optB At49 fun a16 =>
    req (decide (0 ≤ xt51 ∧ xt51 < (nt49 : Int))) <|
    ldI w (a16.add (xt51.toNat * 5)) .i64 fun x17 =>
    ldI w ((a16.add (xt51.toNat * 5)).add 1) .i64 fun x18 =>
    ldI w ((a16.add (xt51.toNat * 5)).add 2) .i64 fun x19 =>
    ldI w ((a16.add (xt51.toNat * 5)).add 3) .i64 fun x20 =>
    ldB w ((a16.add (xt51.toNat * 5)).add 4) fun b21 =>
    alW w (.cells #[.int .i64 (0 : Int), .int .i64 (0 : Int), .int .i64 (0 : Int), .int .i64 (0 : Int), .bool false] 45) fun B22 w23 =>
    stW w23 (⟨B22, 0, Option.none⟩ : Addr) (.int .i64 x17) fun w24 =>
    stW w24 ((⟨B22, 0, Option.none⟩ : Addr).add 1) (.int .i64 x18) fun w25 =>
    stW w25 ((⟨B22, 0, Option.none⟩ : Addr).add 2) (.int .i64 x19) fun w26 =>
    stW w26 ((⟨B22, 0, Option.none⟩ : Addr).add 3) (.int .i64 x20) fun w27 =>
    stW w27 ((⟨B22, 0, Option.none⟩ : Addr).add 4) (.bool b21) fun w28 =>
    ldI w28 (⟨B22, 0, Option.none⟩ : Addr) .i64 fun x29 =>
    sel (x29 == (1 : Int)) (
    ldS w28 at9 fun A30 n30 c30 =>
    ldS w28 (at9.add 1) fun A31 n31 c31 =>
    ldS w28 (at9.add 2) fun A32 n32 c32 =>
    ldS w28 (at9.add 3) fun A33 n33 c33 =>
    ldI w28 ((⟨B22, 0, Option.none⟩ : Addr).add 2) .i64 fun x34 =>
    Calls Try.prog 20 #[.agg #[.slice A30 n30 c30, .slice A31 n31 c31, .slice A32 n32 c32, .slice A33 n33 c33], .int .i64 x34] w28 fun e35 w36 => ∃ (A37_0_0 : Option Addr) (n37_0_0 : Nat) (c37_0_0 : Nat) (A37_0_1 : Option Addr) (n37_0_1 : Nat) (c37_0_1 : Nat) (A37_0_2 : Option Addr) (n37_0_2 : Nat) (c37_0_2 : Nat) (A37_0_3 : Option Addr) (n37_0_3 : Nat) (c37_0_3 : Nat) (x37_1 : Int), e35 = .returned (.tuple #[.agg #[.slice A37_0_0 n37_0_0 c37_0_0, .slice A37_0_1 n37_0_1 c37_0_1, .slice A37_0_2 n37_0_2 c37_0_2, .slice A37_0_3 n37_0_3 c37_0_3], .int .i64 x37_1]) ∧ (
    alW w36 (.cells #[.slice none 0 0, .slice none 0 0, .slice none 0 0, .slice none 0 0] 43) fun B38 w39 =>
    stW w39 (⟨B38, 0, Option.none⟩ : Addr) (.slice A37_0_0 n37_0_0 c37_0_0) fun w40 =>
    stW w40 ((⟨B38, 0, Option.none⟩ : Addr).add 1) (.slice A37_0_1 n37_0_1 c37_0_1) fun w41 =>
    stW w41 ((⟨B38, 0, Option.none⟩ : Addr).add 2) (.slice A37_0_2 n37_0_2 c37_0_2) fun w42 =>
    stW w42 ((⟨B38, 0, Option.none⟩ : Addr).add 3) (.slice A37_0_3 n37_0_3 c37_0_3) fun w43 =>
    ldS w43 (⟨B38, 0, Option.none⟩ : Addr) fun A44 n44 c44 =>
    ldS w43 ((⟨B38, 0, Option.none⟩ : Addr).add 1) fun A45 n45 c45 =>
    ldS w43 ((⟨B38, 0, Option.none⟩ : Addr).add 2) fun A46 n46 c46 =>
    ldS w43 ((⟨B38, 0, Option.none⟩ : Addr).add 3) fun A47 n47 c47 =>
    stW w43 at9 (.slice A44 n44 c44) fun w48 =>
    stW w48 (at9.add 1) (.slice A45 n45 c45) fun w49 =>
    stW w49 (at9.add 2) (.slice A46 n46 c46) fun w50 =>
    stW w50 (at9.add 3) (.slice A47 n47 c47) fun w51 =>
    l0 k at9 At49 nt49 ct49 xt50 (IntKind.i64.wrap (xt51 + (1 : Int))) w51 K0)) (
    sel (x29 == (2 : Int)) (
    ldS w28 at9 fun A52 n52 c52 =>
    ldS w28 (at9.add 1) fun A53 n53 c53 =>
    ldS w28 (at9.add 2) fun A54 n54 c54 =>
    ldS w28 (at9.add 3) fun A55 n55 c55 =>
    ldI w28 ((⟨B22, 0, Option.none⟩ : Addr).add 2) .i64 fun x56 =>
    Calls Try.prog 21 #[.agg #[.slice A52 n52 c52, .slice A53 n53 c53, .slice A54 n54 c54, .slice A55 n55 c55], .int .i64 x56] w28 fun e57 w58 => ∃ (A59_0_0 : Option Addr) (n59_0_0 : Nat) (c59_0_0 : Nat) (A59_0_1 : Option Addr) (n59_0_1 : Nat) (c59_0_1 : Nat) (A59_0_2 : Option Addr) (n59_0_2 : Nat) (c59_0_2 : Nat) (A59_0_3 : Option Addr) (n59_0_3 : Nat) (c59_0_3 : Nat) (x59_1 : Int), e57 = .returned (.tuple #[.agg #[.slice A59_0_0 n59_0_0 c59_0_0, .slice A59_0_1 n59_0_1 c59_0_1, .slice A59_0_2 n59_0_2 c59_0_2, .slice A59_0_3 n59_0_3 c59_0_3], .int .i64 x59_1]) ∧ (
    alW w58 (.cells #[.slice none 0 0, .slice none 0 0, .slice none 0 0, .slice none 0 0] 43) fun B60 w61 =>
    stW w61 (⟨B60, 0, Option.none⟩ : Addr) (.slice A59_0_0 n59_0_0 c59_0_0) fun w62 =>
    stW w62 ((⟨B60, 0, Option.none⟩ : Addr).add 1) (.slice A59_0_1 n59_0_1 c59_0_1) fun w63 =>
    stW w63 ((⟨B60, 0, Option.none⟩ : Addr).add 2) (.slice A59_0_2 n59_0_2 c59_0_2) fun w64 =>
    stW w64 ((⟨B60, 0, Option.none⟩ : Addr).add 3) (.slice A59_0_3 n59_0_3 c59_0_3) fun w65 =>
    ldS w65 (⟨B60, 0, Option.none⟩ : Addr) fun A66 n66 c66 =>
    ldS w65 ((⟨B60, 0, Option.none⟩ : Addr).add 1) fun A67 n67 c67 =>
    ldS w65 ((⟨B60, 0, Option.none⟩ : Addr).add 2) fun A68 n68 c68 =>
    ldS w65 ((⟨B60, 0, Option.none⟩ : Addr).add 3) fun A69 n69 c69 =>
    stW w65 at9 (.slice A66 n66 c66) fun w70 =>
    stW w70 (at9.add 1) (.slice A67 n67 c67) fun w71 =>
    stW w71 (at9.add 2) (.slice A68 n68 c68) fun w72 =>
    stW w72 (at9.add 3) (.slice A69 n69 c69) fun w73 =>
    l0 k at9 At49 nt49 ct49 xt50 (IntKind.i64.wrap (xt51 + (1 : Int))) w73 K0)) (
    sel (x29 == (3 : Int)) (
    ldS w28 at9 fun A74 n74 c74 =>
    ldS w28 (at9.add 1) fun A75 n75 c75 =>
    ldS w28 (at9.add 2) fun A76 n76 c76 =>
    ldS w28 (at9.add 3) fun A77 n77 c77 =>
    ldI w28 ((⟨B22, 0, Option.none⟩ : Addr).add 1) .i64 fun x78 =>
    ldI w28 ((⟨B22, 0, Option.none⟩ : Addr).add 2) .i64 fun x79 =>
    ldI w28 ((⟨B22, 0, Option.none⟩ : Addr).add 3) .i64 fun x80 =>
    Calls Try.prog 22 #[.agg #[.slice A74 n74 c74, .slice A75 n75 c75, .slice A76 n76 c76, .slice A77 n77 c77], .agg #[.int .i64 x78, .int .i64 x79, .int .i64 x80, .int .i64 (0 : Int)]] w28 fun e81 w82 => ∃ (A83_0_0 : Option Addr) (n83_0_0 : Nat) (c83_0_0 : Nat) (A83_0_1 : Option Addr) (n83_0_1 : Nat) (c83_0_1 : Nat) (A83_0_2 : Option Addr) (n83_0_2 : Nat) (c83_0_2 : Nat) (A83_0_3 : Option Addr) (n83_0_3 : Nat) (c83_0_3 : Nat) (x83_1 : Int), e81 = .returned (.tuple #[.agg #[.slice A83_0_0 n83_0_0 c83_0_0, .slice A83_0_1 n83_0_1 c83_0_1, .slice A83_0_2 n83_0_2 c83_0_2, .slice A83_0_3 n83_0_3 c83_0_3], .int .i64 x83_1]) ∧ (
    alW w82 (.cells #[.slice none 0 0, .slice none 0 0, .slice none 0 0, .slice none 0 0] 43) fun B84 w85 =>
    stW w85 (⟨B84, 0, Option.none⟩ : Addr) (.slice A83_0_0 n83_0_0 c83_0_0) fun w86 =>
    stW w86 ((⟨B84, 0, Option.none⟩ : Addr).add 1) (.slice A83_0_1 n83_0_1 c83_0_1) fun w87 =>
    stW w87 ((⟨B84, 0, Option.none⟩ : Addr).add 2) (.slice A83_0_2 n83_0_2 c83_0_2) fun w88 =>
    stW w88 ((⟨B84, 0, Option.none⟩ : Addr).add 3) (.slice A83_0_3 n83_0_3 c83_0_3) fun w89 =>
    ldS w89 (⟨B84, 0, Option.none⟩ : Addr) fun A90 n90 c90 =>
    ldS w89 ((⟨B84, 0, Option.none⟩ : Addr).add 1) fun A91 n91 c91 =>
    ldS w89 ((⟨B84, 0, Option.none⟩ : Addr).add 2) fun A92 n92 c92 =>
    ldS w89 ((⟨B84, 0, Option.none⟩ : Addr).add 3) fun A93 n93 c93 =>
    stW w89 at9 (.slice A90 n90 c90) fun w94 =>
    stW w94 (at9.add 1) (.slice A91 n91 c91) fun w95 =>
    stW w95 (at9.add 2) (.slice A92 n92 c92) fun w96 =>
    stW w96 (at9.add 3) (.slice A93 n93 c93) fun w97 =>
    l0 k at9 At49 nt49 ct49 xt50 (IntKind.i64.wrap (xt51 + (1 : Int))) w97 K0)) (
    sel (x29 == (4 : Int)) (
    ldS w28 at9 fun A98 n98 c98 =>
    ldS w28 (at9.add 1) fun A99 n99 c99 =>
    ldS w28 (at9.add 2) fun A100 n100 c100 =>
    ldS w28 (at9.add 3) fun A101 n101 c101 =>
    ldI w28 ((⟨B22, 0, Option.none⟩ : Addr).add 1) .i64 fun x102 =>
    Calls Try.prog 23 #[.agg #[.slice A98 n98 c98, .slice A99 n99 c99, .slice A100 n100 c100, .slice A101 n101 c101], .int .i64 x102] w28 fun e103 w104 => ∃ (A105_0_0 : Option Addr) (n105_0_0 : Nat) (c105_0_0 : Nat) (A105_0_1 : Option Addr) (n105_0_1 : Nat) (c105_0_1 : Nat) (A105_0_2 : Option Addr) (n105_0_2 : Nat) (c105_0_2 : Nat) (A105_0_3 : Option Addr) (n105_0_3 : Nat) (c105_0_3 : Nat) (x105_1 : Int), e103 = .returned (.tuple #[.agg #[.slice A105_0_0 n105_0_0 c105_0_0, .slice A105_0_1 n105_0_1 c105_0_1, .slice A105_0_2 n105_0_2 c105_0_2, .slice A105_0_3 n105_0_3 c105_0_3], .int .i64 x105_1]) ∧ (
    alW w104 (.cells #[.slice none 0 0, .slice none 0 0, .slice none 0 0, .slice none 0 0] 43) fun B106 w107 =>
    stW w107 (⟨B106, 0, Option.none⟩ : Addr) (.slice A105_0_0 n105_0_0 c105_0_0) fun w108 =>
    stW w108 ((⟨B106, 0, Option.none⟩ : Addr).add 1) (.slice A105_0_1 n105_0_1 c105_0_1) fun w109 =>
    stW w109 ((⟨B106, 0, Option.none⟩ : Addr).add 2) (.slice A105_0_2 n105_0_2 c105_0_2) fun w110 =>
    stW w110 ((⟨B106, 0, Option.none⟩ : Addr).add 3) (.slice A105_0_3 n105_0_3 c105_0_3) fun w111 =>
    ldS w111 (⟨B106, 0, Option.none⟩ : Addr) fun A112 n112 c112 =>
    ldS w111 ((⟨B106, 0, Option.none⟩ : Addr).add 1) fun A113 n113 c113 =>
    ldS w111 ((⟨B106, 0, Option.none⟩ : Addr).add 2) fun A114 n114 c114 =>
    ldS w111 ((⟨B106, 0, Option.none⟩ : Addr).add 3) fun A115 n115 c115 =>
    stW w111 at9 (.slice A112 n112 c112) fun w116 =>
    stW w116 (at9.add 1) (.slice A113 n113 c113) fun w117 =>
    stW w117 (at9.add 2) (.slice A114 n114 c114) fun w118 =>
    stW w118 (at9.add 3) (.slice A115 n115 c115) fun w119 =>
    l0 k at9 At49 nt49 ct49 xt50 (IntKind.i64.wrap (xt51 + (1 : Int))) w119 K0)) (
    l0 k at9 At49 nt49 ct49 xt50 (IntKind.i64.wrap (xt51 + (1 : Int))) w28 K0))))) (
    K0  w)
def l1 : Nat → Option Addr → Addr → Int → World → (World → Prop) → (Bool → World → Prop) → Prop
  | 0, _, _, _, _, _, _ => False
  | k + 1, pt8, at9, xt20, w, K3, Kr =>
    sel (decide (xt20 ≥ (0 : Int))) (
    ldS w at9 fun A122 n122 c122 =>
    optB A122 fun a123 =>
    req (decide (0 ≤ xt20 ∧ xt20 < (n122 : Int))) <|
    ldI w (a123.add (xt20.toNat * 1)) .i64 fun x124 =>
    Calls Try.prog 24 #[.pointer pt8, .int .i64 x124] w fun e125 w126 => ∃ (x127 : Int), e125 = .returned (.int .i64 x127) ∧ (
    sel (x127 != (0 : Int)) (
    Kr false w126) (
    l1 k pt8 at9 (IntKind.i64.wrap (xt20 - (1 : Int))) w126 K3 Kr))) (
    K3  w)
def l2 : Nat → Option Addr → Addr → Int → World → (World → Prop) → (Bool → World → Prop) → Prop
  | 0, _, _, _, _, _, _ => False
  | k + 1, pt8, at9, xt21, w, K5, Kr =>
    sel (decide (xt21 ≥ (0 : Int))) (
    ldS w (at9.add 1) fun A130 n130 c130 =>
    optB A130 fun a131 =>
    req (decide (0 ≤ xt21 ∧ xt21 < (n130 : Int))) <|
    ldI w (a131.add (xt21.toNat * 4)) .i64 fun x132 =>
    ldI w ((a131.add (xt21.toNat * 4)).add 1) .i64 fun x133 =>
    ldI w ((a131.add (xt21.toNat * 4)).add 2) .i64 fun x134 =>
    ldI w ((a131.add (xt21.toNat * 4)).add 3) .i64 fun x135 =>
    alW w (.cells #[.int .i64 (0 : Int), .int .i64 (0 : Int), .int .i64 (0 : Int), .int .i64 (0 : Int)] 50) fun B136 w137 =>
    stW w137 (⟨B136, 0, Option.none⟩ : Addr) (.int .i64 x132) fun w138 =>
    stW w138 ((⟨B136, 0, Option.none⟩ : Addr).add 1) (.int .i64 x133) fun w139 =>
    stW w139 ((⟨B136, 0, Option.none⟩ : Addr).add 2) (.int .i64 x134) fun w140 =>
    stW w140 ((⟨B136, 0, Option.none⟩ : Addr).add 3) (.int .i64 x135) fun w141 =>
    ldI w141 (⟨B136, 0, Option.none⟩ : Addr) .i64 fun x142 =>
    ldI w141 ((⟨B136, 0, Option.none⟩ : Addr).add 2) .i64 fun x143 =>
    ldI w141 ((⟨B136, 0, Option.none⟩ : Addr).add 1) .i64 fun x144 =>
    Calls Try.prog 12 #[.pointer pt8, .int .i64 x142, .int .i64 x143, .int .i64 x144] w141 fun e145 w146 => ∃ (x147 : Int), e145 = .returned (.int .i64 x147) ∧ (
    sel (x147 != (0 : Int)) (
    Kr false w146) (
    l2 k pt8 at9 (IntKind.i64.wrap (xt21 - (1 : Int))) w146 K5 Kr))) (
    K5  w)
def l3 : Nat → Option Addr → Option Addr → Option Addr → Nat → Nat → Int → Int → World → (World → Prop) → (Bool → World → Prop) → Prop
  | 0, _, _, _, _, _, _, _, _, _, _ => False
  | k + 1, pt7, pt8, At147, nt147, ct147, xt148, xt149, w, K7, Kr =>
    sel (decide (xt149 < xt148)) (
    optB At147 fun a150 =>
    req (decide (0 ≤ xt149 ∧ xt149 < (nt147 : Int))) <|
    ldI w (a150.add (xt149.toNat * 1)) .i64 fun x151 =>
    sel (decide (xt149 > (40 : Int))) (
    K7  w) (
    Calls Try.prog 10 #[.pointer pt7, .int .i64 x151] w fun e152 w153 => ∃ (A154_0 : Option Addr) (n154_0 : Nat) (c154_0 : Nat) (x154_1 : Int), e152 = .returned (.tuple #[.slice A154_0 n154_0 c154_0, .int .i64 x154_1]) ∧ (
    Calls Try.prog 10 #[.pointer pt8, .int .i64 x151] w153 fun e155 w156 => ∃ (A157_0 : Option Addr) (n157_0 : Nat) (c157_0 : Nat) (x157_1 : Int), e155 = .returned (.tuple #[.slice A157_0 n157_0 c157_0, .int .i64 x157_1]) ∧ (
    Calls Try.prog 11 #[.pointer pt7, .int .i64 x151] w156 fun e158 w159 => ∃ (A160_0 : Option Addr) (n160_0 : Nat) (c160_0 : Nat) (x160_1 : Int), e158 = .returned (.tuple #[.slice A160_0 n160_0 c160_0, .int .i64 x160_1]) ∧ (
    Calls Try.prog 11 #[.pointer pt8, .int .i64 x151] w159 fun e161 w162 => ∃ (A163_0 : Option Addr) (n163_0 : Nat) (c163_0 : Nat) (x163_1 : Int), e161 = .returned (.tuple #[.slice A163_0 n163_0 c163_0, .int .i64 x163_1]) ∧ (
    sel (x154_1 != (0 : Int)) (
    Kr false w162) (
    sel (x157_1 != (0 : Int)) (
    Kr false w162) (
    sel (x160_1 != (0 : Int)) (
    Kr false w162) (
    sel (x163_1 != (0 : Int)) (
    Kr false w162) (
    Calls Try.prog 13 #[.slice A154_0 n154_0 c154_0, .slice A157_0 n157_0 c157_0] w162 fun e164 w165 => ∃ (b166 : Bool), e164 = .returned (.bool b166) ∧ (
    sel (!b166) (
    Kr false w165) (
    Calls Try.prog 13 #[.slice A160_0 n160_0 c160_0, .slice A163_0 n163_0 c163_0] w165 fun e167 w168 => ∃ (b169 : Bool), e167 = .returned (.bool b169) ∧ (
    sel (!b169) (
    Kr false w168) (
    l3 k pt7 pt8 At147 nt147 ct147 xt148 (IntKind.i64.wrap (xt149 + (1 : Int))) w168 K7 Kr)))))))))))))) (
    K7  w)
def wp (Aa0 : Option Addr) (na0 : Nat) (ca0 : Nat) (Aa1 : Option Addr) (na1 : Nat) (ca1 : Nat) (Aa2 : Option Addr) (na2 : Nat) (ca2 : Nat) (w : World) (Q : Ending → World → Prop) : Prop :=
  Calls Try.prog 8 #[.slice Aa0 na0 ca0, .slice Aa2 na2 ca2] w fun e1 w2 => ∃ (p3 : Option Addr), e1 = .returned (.pointer p3) ∧ (
  Calls Try.prog 19 #[.slice Aa1 na1 ca1] w2 fun e4 w5 => ∃ (p6 : Option Addr), e4 = .returned (.pointer p6) ∧ (
  sel p3.isNone (
  Q (.returned (.bool false)) w5) (
  sel p6.isNone (
  Q (.returned (.bool false)) w5) (
  Calls Try.prog 9 #[] w5 fun e7 w8 => ∃ (b9 : Bool), e7 = .returned (.bool b9) ∧ (
  sel (!b9) (
  Q (.returned (.bool false)) w8) (
  alW w8 (.cells #[.slice none 0 0, .slice none 0 0, .slice none 0 0, .slice none 0 0] 43) fun B10 w11 =>
  stW w11 (⟨B10, 0, Option.none⟩ : Addr) (.slice none 0 0) fun w12 =>
  stW w12 ((⟨B10, 0, Option.none⟩ : Addr).add 1) (.slice none 0 0) fun w13 =>
  stW w13 ((⟨B10, 0, Option.none⟩ : Addr).add 2) (.slice none 0 0) fun w14 =>
  stW w14 ((⟨B10, 0, Option.none⟩ : Addr).add 3) (.slice none 0 0) fun w15 =>
  ∃ k186 : Nat, l0 k186 (⟨B10, 0, Option.none⟩ : Addr) Aa2 na2 ca2 (na2 : Int) (0 : Int) w15 (fun (w120 : World) => ∀ _ : Fr,
  ldS w120 (⟨B10, 0, Option.none⟩ : Addr) fun A121 n121 c121 =>
  ∃ k185 : Nat, l1 k185 p6 (⟨B10, 0, Option.none⟩ : Addr) (IntKind.i64.wrap ((n121 : Int) - (1 : Int))) w120 (fun (w128 : World) => ∀ _ : Fr,
  ldS w128 ((⟨B10, 0, Option.none⟩ : Addr).add 1) fun A129 n129 c129 =>
  ∃ k182 : Nat, l2 k182 p6 (⟨B10, 0, Option.none⟩ : Addr) (IntKind.i64.wrap ((n129 : Int) - (1 : Int))) w128 (fun (w148 : World) => ∀ _ : Fr,
  ldS w148 (⟨B10, 0, Option.none⟩ : Addr) fun A149 n149 c149 =>
  ∃ k179 : Nat, l3 k179 p3 p6 A149 n149 c149 (n149 : Int) (0 : Int) w148 (fun (w170 : World) => ∀ _ : Fr,
  Calls Try.prog 25 #[.pointer p3] w170 fun e171 w172 => ∃ (x173 : Int), e171 = .returned (.int .i64 x173) ∧ (
  Calls Try.prog 25 #[.pointer p6] w172 fun e174 w175 => ∃ (x176 : Int), e174 = .returned (.int .i64 x176) ∧ (
  Q (.returned (.bool (x173 == x176))) w175))) (fun (b177 : Bool) (w178 : World) => ∀ _ : Fr,
  Q (.returned (.bool b177)) w178)) (fun (b180 : Bool) (w181 : World) => ∀ _ : Fr,
  Q (.returned (.bool b180)) w181)) (fun (b183 : Bool) (w184 : World) => ∀ _ : Fr,
  Q (.returned (.bool b183)) w184))))))))
def D : Nat → Option DH := dtab []
def l0LO : LO := ⟨[], [], [(0, [7, 8, 9])], []⟩
def l0Tk (k : Nat) : Spec := fun Q σ w =>
  gAd (σ 9) fun at9 =>
  gSlice (σ 49) fun At49 nt49 ct49 =>
  gInt .i64 (σ 50) fun xt50 =>
  gInt .i64 (σ 51) fun xt51 =>
  l0 k at9 At49 nt49 ct49 xt50 xt51 w (fun (w : World) => ∀ d : Fr, Q (.exit 0) (ov d [(7, σ 7), (8, σ 8), (9, .pointer (some at9))]) w)
def l0T : Spec := fun Q σ w => ∃ k, l0Tk k Q σ w
def l0tb : List (List Nat × Spec) := []
noncomputable def l0b : Code := (subC [0, 0, 1, 0, 1, 1, 1, 1, 1] body).getD .skip
theorem l0_eq (k : Nat) (at9 : Addr) (At49 : Option Addr) (nt49 : Nat) (ct49 : Nat) (xt50 : Int) (xt51 : Int) (Q : PQ) (σ : Fr) (w : World) :
    l0 (k + 1) at9 At49 nt49 ct49 xt50 xt51 w (fun (w : World) => ∀ d : Fr, Q (.exit 0) (ov d [(7, σ 7), (8, σ 8), (9, .pointer (some at9))]) w) = codeW Try.prog hT 212 D (tab l0tb) [0, 0, 1, 0, 1, 1, 1, 1, 1] l0b (thenQ (l0Tk k Q) (widen l0LO Q)) (ov σ [(9, .pointer (some at9)), (49, .slice At49 nt49 ct49), (50, .int .i64 xt50), (51, .int .i64 xt51)]) w := by kernel_rfl
theorem l0_snd : ∀ c, subC [0, 1, 0, 1, 1, 1, 1, 1] body = some c → Snd Try.prog 212 c l0T := by
  refine loop_of (hT := hT) (D := D) (l := l0tb) (b := l0b) (lo := l0LO) (by kernel_rfl) (by
    intro x hx
    simp only [l0tb, List.not_mem_nil] at hx
    ) (by kernel_rfl) (by kernel_rfl) ?_ ?_
  · intro Q σ w h
    unfold l0Tk at h
    obtain ⟨at9, h9, hn⟩ := gAd_elim h
    clear h
    have h := hn
    clear hn
    obtain ⟨At49, nt49, ct49, h49, hn⟩ := gSlice_elim h
    clear h
    have h := hn
    clear hn
    obtain ⟨xt50, h50, hn⟩ := gInt_elim h
    clear h
    have h := hn
    clear hn
    obtain ⟨xt51, h51, hn⟩ := gInt_elim h
    clear h
    have h := hn
    clear hn
    exact h
  · intro k Q σ w h
    unfold l0Tk at h
    obtain ⟨at9, h9, hn⟩ := gAd_elim h
    clear h
    have h := hn
    clear hn
    obtain ⟨At49, nt49, ct49, h49, hn⟩ := gSlice_elim h
    clear h
    have h := hn
    clear hn
    obtain ⟨xt50, h50, hn⟩ := gInt_elim h
    clear h
    have h := hn
    clear hn
    obtain ⟨xt51, h51, hn⟩ := gInt_elim h
    clear h
    have h := hn
    clear hn
    rw [l0_eq (σ := σ)] at h
    have e : (ov σ [(9, .pointer (some at9)), (49, .slice At49 nt49 ct49), (50, .int .i64 xt50), (51, .int .i64 xt51)]) = σ := ov_self (by simp [h9, h49, h50, h51])
    rw [e] at h
    exact h
def l1LO : LO := ⟨[], [6], [(3, [7, 8, 9])], []⟩
def l1Tk (k : Nat) : Spec := fun Q σ w =>
  gPtr (σ 8) fun pt8 =>
  gAd (σ 9) fun at9 =>
  gInt .i64 (σ 20) fun xt20 =>
  l1 k pt8 at9 xt20 w (fun (w : World) => ∀ d : Fr, Q (.exit 3) (ov d [(7, σ 7), (8, .pointer pt8), (9, .pointer (some at9))]) w) (fun (bq6 : Bool) (w : World) => ∀ d : Fr, Q .ret (ov d [(6, .bool bq6)]) w)
def l1T : Spec := fun Q σ w => ∃ k, l1Tk k Q σ w
def l1tb : List (List Nat × Spec) := []
noncomputable def l1b : Code := (subC [0, 0, 1, 0, 1, 1, 1, 1, 1, 1] body).getD .skip
theorem l1_eq (k : Nat) (pt8 : Option Addr) (at9 : Addr) (xt20 : Int) (Q : PQ) (σ : Fr) (w : World) :
    l1 (k + 1) pt8 at9 xt20 w (fun (w : World) => ∀ d : Fr, Q (.exit 3) (ov d [(7, σ 7), (8, .pointer pt8), (9, .pointer (some at9))]) w) (fun (bq6 : Bool) (w : World) => ∀ d : Fr, Q .ret (ov d [(6, .bool bq6)]) w) = codeW Try.prog hT 212 D (tab l1tb) [0, 0, 1, 0, 1, 1, 1, 1, 1, 1] l1b (thenQ (l1Tk k Q) (widen l1LO Q)) (ov σ [(8, .pointer pt8), (9, .pointer (some at9)), (20, .int .i64 xt20)]) w := by kernel_rfl
theorem l1_snd : ∀ c, subC [0, 1, 0, 1, 1, 1, 1, 1, 1] body = some c → Snd Try.prog 212 c l1T := by
  refine loop_of (hT := hT) (D := D) (l := l1tb) (b := l1b) (lo := l1LO) (by kernel_rfl) (by
    intro x hx
    simp only [l1tb, List.not_mem_nil] at hx
    ) (by kernel_rfl) (by kernel_rfl) ?_ ?_
  · intro Q σ w h
    unfold l1Tk at h
    obtain ⟨pt8, h8, hn⟩ := gPtr_elim h
    clear h
    have h := hn
    clear hn
    obtain ⟨at9, h9, hn⟩ := gAd_elim h
    clear h
    have h := hn
    clear hn
    obtain ⟨xt20, h20, hn⟩ := gInt_elim h
    clear h
    have h := hn
    clear hn
    exact h
  · intro k Q σ w h
    unfold l1Tk at h
    obtain ⟨pt8, h8, hn⟩ := gPtr_elim h
    clear h
    have h := hn
    clear hn
    obtain ⟨at9, h9, hn⟩ := gAd_elim h
    clear h
    have h := hn
    clear hn
    obtain ⟨xt20, h20, hn⟩ := gInt_elim h
    clear h
    have h := hn
    clear hn
    rw [l1_eq (σ := σ)] at h
    have e : (ov σ [(8, .pointer pt8), (9, .pointer (some at9)), (20, .int .i64 xt20)]) = σ := ov_self (by simp [h8, h9, h20])
    rw [e] at h
    exact h
def l2LO : LO := ⟨[], [6], [(5, [7, 8, 9])], []⟩
def l2Tk (k : Nat) : Spec := fun Q σ w =>
  gPtr (σ 8) fun pt8 =>
  gAd (σ 9) fun at9 =>
  gInt .i64 (σ 21) fun xt21 =>
  l2 k pt8 at9 xt21 w (fun (w : World) => ∀ d : Fr, Q (.exit 5) (ov d [(7, σ 7), (8, .pointer pt8), (9, .pointer (some at9))]) w) (fun (bq6 : Bool) (w : World) => ∀ d : Fr, Q .ret (ov d [(6, .bool bq6)]) w)
def l2T : Spec := fun Q σ w => ∃ k, l2Tk k Q σ w
def l2tb : List (List Nat × Spec) := []
noncomputable def l2b : Code := (subC [0, 0, 1, 0, 1, 1, 1, 1, 1, 1, 1] body).getD .skip
theorem l2_eq (k : Nat) (pt8 : Option Addr) (at9 : Addr) (xt21 : Int) (Q : PQ) (σ : Fr) (w : World) :
    l2 (k + 1) pt8 at9 xt21 w (fun (w : World) => ∀ d : Fr, Q (.exit 5) (ov d [(7, σ 7), (8, .pointer pt8), (9, .pointer (some at9))]) w) (fun (bq6 : Bool) (w : World) => ∀ d : Fr, Q .ret (ov d [(6, .bool bq6)]) w) = codeW Try.prog hT 212 D (tab l2tb) [0, 0, 1, 0, 1, 1, 1, 1, 1, 1, 1] l2b (thenQ (l2Tk k Q) (widen l2LO Q)) (ov σ [(8, .pointer pt8), (9, .pointer (some at9)), (21, .int .i64 xt21)]) w := by kernel_rfl
theorem l2_snd : ∀ c, subC [0, 1, 0, 1, 1, 1, 1, 1, 1, 1] body = some c → Snd Try.prog 212 c l2T := by
  refine loop_of (hT := hT) (D := D) (l := l2tb) (b := l2b) (lo := l2LO) (by kernel_rfl) (by
    intro x hx
    simp only [l2tb, List.not_mem_nil] at hx
    ) (by kernel_rfl) (by kernel_rfl) ?_ ?_
  · intro Q σ w h
    unfold l2Tk at h
    obtain ⟨pt8, h8, hn⟩ := gPtr_elim h
    clear h
    have h := hn
    clear hn
    obtain ⟨at9, h9, hn⟩ := gAd_elim h
    clear h
    have h := hn
    clear hn
    obtain ⟨xt21, h21, hn⟩ := gInt_elim h
    clear h
    have h := hn
    clear hn
    exact h
  · intro k Q σ w h
    unfold l2Tk at h
    obtain ⟨pt8, h8, hn⟩ := gPtr_elim h
    clear h
    have h := hn
    clear hn
    obtain ⟨at9, h9, hn⟩ := gAd_elim h
    clear h
    have h := hn
    clear hn
    obtain ⟨xt21, h21, hn⟩ := gInt_elim h
    clear h
    have h := hn
    clear hn
    rw [l2_eq (σ := σ)] at h
    have e : (ov σ [(8, .pointer pt8), (9, .pointer (some at9)), (21, .int .i64 xt21)]) = σ := ov_self (by simp [h8, h9, h21])
    rw [e] at h
    exact h
def l3LO : LO := ⟨[], [6], [(7, [7, 8])], []⟩
def l3Tk (k : Nat) : Spec := fun Q σ w =>
  gPtr (σ 7) fun pt7 =>
  gPtr (σ 8) fun pt8 =>
  gSlice (σ 147) fun At147 nt147 ct147 =>
  gInt .i64 (σ 148) fun xt148 =>
  gInt .i64 (σ 149) fun xt149 =>
  l3 k pt7 pt8 At147 nt147 ct147 xt148 xt149 w (fun (w : World) => ∀ d : Fr, Q (.exit 7) (ov d [(7, .pointer pt7), (8, .pointer pt8)]) w) (fun (bq6 : Bool) (w : World) => ∀ d : Fr, Q .ret (ov d [(6, .bool bq6)]) w)
def l3T : Spec := fun Q σ w => ∃ k, l3Tk k Q σ w
def l3tb : List (List Nat × Spec) := []
noncomputable def l3b : Code := (subC [0, 0, 1, 0, 1, 1, 1, 1, 1, 1, 1, 1] body).getD .skip
theorem l3_eq (k : Nat) (pt7 : Option Addr) (pt8 : Option Addr) (At147 : Option Addr) (nt147 : Nat) (ct147 : Nat) (xt148 : Int) (xt149 : Int) (Q : PQ) (σ : Fr) (w : World) :
    l3 (k + 1) pt7 pt8 At147 nt147 ct147 xt148 xt149 w (fun (w : World) => ∀ d : Fr, Q (.exit 7) (ov d [(7, .pointer pt7), (8, .pointer pt8)]) w) (fun (bq6 : Bool) (w : World) => ∀ d : Fr, Q .ret (ov d [(6, .bool bq6)]) w) = codeW Try.prog hT 212 D (tab l3tb) [0, 0, 1, 0, 1, 1, 1, 1, 1, 1, 1, 1] l3b (thenQ (l3Tk k Q) (widen l3LO Q)) (ov σ [(7, .pointer pt7), (8, .pointer pt8), (147, .slice At147 nt147 ct147), (148, .int .i64 xt148), (149, .int .i64 xt149)]) w := by kernel_rfl
theorem l3_snd : ∀ c, subC [0, 1, 0, 1, 1, 1, 1, 1, 1, 1, 1] body = some c → Snd Try.prog 212 c l3T := by
  refine loop_of (hT := hT) (D := D) (l := l3tb) (b := l3b) (lo := l3LO) (by kernel_rfl) (by
    intro x hx
    simp only [l3tb, List.not_mem_nil] at hx
    ) (by kernel_rfl) (by kernel_rfl) ?_ ?_
  · intro Q σ w h
    unfold l3Tk at h
    obtain ⟨pt7, h7, hn⟩ := gPtr_elim h
    clear h
    have h := hn
    clear hn
    obtain ⟨pt8, h8, hn⟩ := gPtr_elim h
    clear h
    have h := hn
    clear hn
    obtain ⟨At147, nt147, ct147, h147, hn⟩ := gSlice_elim h
    clear h
    have h := hn
    clear hn
    obtain ⟨xt148, h148, hn⟩ := gInt_elim h
    clear h
    have h := hn
    clear hn
    obtain ⟨xt149, h149, hn⟩ := gInt_elim h
    clear h
    have h := hn
    clear hn
    exact h
  · intro k Q σ w h
    unfold l3Tk at h
    obtain ⟨pt7, h7, hn⟩ := gPtr_elim h
    clear h
    have h := hn
    clear hn
    obtain ⟨pt8, h8, hn⟩ := gPtr_elim h
    clear h
    have h := hn
    clear hn
    obtain ⟨At147, nt147, ct147, h147, hn⟩ := gSlice_elim h
    clear h
    have h := hn
    clear hn
    obtain ⟨xt148, h148, hn⟩ := gInt_elim h
    clear h
    have h := hn
    clear hn
    obtain ⟨xt149, h149, hn⟩ := gInt_elim h
    clear h
    have h := hn
    clear hn
    rw [l3_eq (σ := σ)] at h
    have e : (ov σ [(7, .pointer pt7), (8, .pointer pt8), (147, .slice At147 nt147 ct147), (148, .int .i64 xt148), (149, .int .i64 xt149)]) = σ := ov_self (by simp [h7, h8, h147, h148, h149])
    rw [e] at h
    exact h
def tb : List (List Nat × Spec) := [([0, 1, 0, 1, 1, 1, 1, 1], l0T), ([0, 1, 0, 1, 1, 1, 1, 1, 1], l1T), ([0, 1, 0, 1, 1, 1, 1, 1, 1, 1], l2T), ([0, 1, 0, 1, 1, 1, 1, 1, 1, 1, 1], l3T)]
theorem wp_eq (Aa0 : Option Addr) (na0 : Nat) (ca0 : Nat) (Aa1 : Option Addr) (na1 : Nat) (ca1 : Nat) (Aa2 : Option Addr) (na2 : Nat) (ca2 : Nat) (w : World) (Q : Ending → World → Prop) :
    wp Aa0 na0 ca0 Aa1 na1 ca1 Aa2 na2 ca2 w Q = codeW Try.prog hT 212 D (tab tb) [] body (topQ Try.prog hT 212 [.tmp 6] Q) (argsF [.slice Aa0 na0 ca0, .slice Aa1 na1 ca1, .slice Aa2 na2 ca2]) w := by kernel_rfl
theorem ok (Aa0 : Option Addr) (na0 : Nat) (ca0 : Nat) (Aa1 : Option Addr) (na1 : Nat) (ca1 : Nat) (Aa2 : Option Addr) (na2 : Nat) (ca2 : Nat) (w : World) (Q : Ending → World → Prop) (h : wp Aa0 na0 ca0 Aa1 na1 ca1 Aa2 na2 ca2 w Q) : Calls Try.prog 4 #[.slice Aa0 na0 ca0, .slice Aa1 na1 ca1, .slice Aa2 na2 ca2] w Q := by
  rw [wp_eq] at h
  exact calls_of_codeW (c := body) (rs := [.tmp 6]) Try.func4 (by kernel_rfl) (by kernel_rfl) (by kernel_rfl) (by kernel_rfl) (by kernel_rfl) (tab_snd (by
    intro x hx
    simp only [tb, List.mem_cons, List.not_mem_nil, or_false] at hx
    rcases hx with rfl | rfl | rfl | rfl
    · exact l0_snd
    · exact l1_snd
    · exact l2_snd
    · exact l3_snd)) (by kernel_rfl) h
end f_law16_EulerOrder
end Go.Proofs.Ytkkobfajahmfaaa.Rd
