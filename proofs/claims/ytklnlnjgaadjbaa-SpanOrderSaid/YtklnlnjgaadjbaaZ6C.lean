/- The printed readings of some functions: each function's code reckoned by the kernel to its predicate transformer -/
import Derived.Test.YtklnlnjgaadjbaaZ6A
set_option linter.unusedSimpArgs false
set_option linter.unusedVariables false
namespace Go.Proofs.Ytklnlnjgaadjbaa.Rd
open Go.Dn
set_option maxRecDepth 100000
namespace f_law20_SpanOrder
noncomputable def body : Code := (Try.f6.body).getD .skip
def l0 : Nat → Addr → Option Addr → Nat → Nat → Int → Int → World → (World → Prop) → Prop | 0, _, _, _, _, _, _, _, _ => False | k + 1, at9, At42, nt42, ct42, xt43, xt44, w, K0 => sel (decide (xt44 < xt43)) (optB At42 fun a16 => req (decide (0 ≤ xt44 ∧ xt44 < (nt42 : Int))) <| ldI w (a16.add (xt44.toNat * 5)) .i64 fun x17 => ldI w ((a16.add (xt44.toNat * 5)).add 1) .i64 fun x18 => ldI w ((a16.add (xt44.toNat * 5)).add 2) .i64 fun x19 => ldI w ((a16.add (xt44.toNat * 5)).add 3) .i64 fun x20 => ldI w ((a16.add (xt44.toNat * 5)).add 4) .i64 fun x21 => alW w (.cells #[.int .i64 0, .int .i64 0, .int .i64 0, .int .i64 0, .int .i64 0] 35) fun B22 w23 => stW w23 ⟨B22, 0, none⟩ (.int .i64 x17) fun w24 => stW w24 (.add ⟨B22, 0, none⟩ 1) (.int .i64 x18) fun w25 => stW w25 (.add ⟨B22, 0, none⟩ 2) (.int .i64 x19) fun w26 => stW w26 (.add ⟨B22, 0, none⟩ 3) (.int .i64 x20) fun w27 => stW w27 (.add ⟨B22, 0, none⟩ 4) (.int .i64 x21) fun w28 => ldS w28 at9 fun A29 n29 c29 => ldS w28 (at9.add 1) fun A30 n30 c30 => ldS w28 (at9.add 2) fun A31 n31 c31 => ldS w28 (at9.add 3) fun A32 n32 c32 => alW w28 (.cells #[.slice none 0 0, .slice none 0 0, .slice none 0 0, .slice none 0 0] 31) fun B33 w34 => stW w34 ⟨B33, 0, none⟩ (.slice A29 n29 c29) fun w35 => stW w35 (.add ⟨B33, 0, none⟩ 1) (.slice A30 n30 c30) fun w36 => stW w36 (.add ⟨B33, 0, none⟩ 2) (.slice A31 n31 c31) fun w37 => stW w37 (.add ⟨B33, 0, none⟩ 3) (.slice A32 n32 c32) fun w38 => ldI w38 ⟨B22, 0, none⟩ .i64 fun x39 => sel (x39 == 1) (ldS w38 at9 fun A40 n40 c40 => ldS w38 (at9.add 1) fun A41 n41 c41 => ldS w38 (at9.add 2) fun A42 n42 c42 => ldS w38 (at9.add 3) fun A43 n43 c43 => ldI w38 (((⟨B22, 0, none⟩ : Addr).add 1).add 1) .i64 fun x44 => Calls Try.prog 18 #[.agg #[.slice A40 n40 c40, .slice A41 n41 c41, .slice A42 n42 c42, .slice A43 n43 c43], .int .i64 x44] w38 fun e45 w46 => ∃ A47_0_0 n47_0_0 c47_0_0 A47_0_1 n47_0_1 c47_0_1 A47_0_2 n47_0_2 c47_0_2 A47_0_3 n47_0_3 c47_0_3 x47_1, e45 = .returned (.tuple #[.agg #[.slice A47_0_0 n47_0_0 c47_0_0, .slice A47_0_1 n47_0_1 c47_0_1, .slice A47_0_2 n47_0_2 c47_0_2, .slice A47_0_3 n47_0_3 c47_0_3], .int .i64 x47_1]) ∧ (stW w46 ⟨B33, 0, none⟩ (.slice A47_0_0 n47_0_0 c47_0_0) fun w48 => stW w48 (.add ⟨B33, 0, none⟩ 1) (.slice A47_0_1 n47_0_1 c47_0_1) fun w49 => stW w49 (.add ⟨B33, 0, none⟩ 2) (.slice A47_0_2 n47_0_2 c47_0_2) fun w50 => stW w50 (.add ⟨B33, 0, none⟩ 3) (.slice A47_0_3 n47_0_3 c47_0_3) fun w51 => ldS w51 ⟨B33, 0, none⟩ fun A52 n52 c52 => ldS w51 (.add ⟨B33, 0, none⟩ 1) fun A53 n53 c53 => ldS w51 (.add ⟨B33, 0, none⟩ 2) fun A54 n54 c54 => ldS w51 (.add ⟨B33, 0, none⟩ 3) fun A55 n55 c55 => stW w51 at9 (.slice A52 n52 c52) fun w56 => stW w56 (at9.add 1) (.slice A53 n53 c53) fun w57 => stW w57 (at9.add 2) (.slice A54 n54 c54) fun w58 => stW w58 (at9.add 3) (.slice A55 n55 c55) fun w59 => l0 k at9 At42 nt42 ct42 xt43 (IntKind.i64.wrap (xt44 + 1)) w59 K0)) (sel (x39 == 2) (ldS w38 at9 fun A60 n60 c60 => ldS w38 (at9.add 1) fun A61 n61 c61 => ldS w38 (at9.add 2) fun A62 n62 c62 => ldS w38 (at9.add 3) fun A63 n63 c63 => ldI w38 (((⟨B22, 0, none⟩ : Addr).add 1).add 1) .i64 fun x64 => Calls Try.prog 19 #[.agg #[.slice A60 n60 c60, .slice A61 n61 c61, .slice A62 n62 c62, .slice A63 n63 c63], .int .i64 x64] w38 fun e65 w66 => ∃ A67_0_0 n67_0_0 c67_0_0 A67_0_1 n67_0_1 c67_0_1 A67_0_2 n67_0_2 c67_0_2 A67_0_3 n67_0_3 c67_0_3 x67_1, e65 = .returned (.tuple #[.agg #[.slice A67_0_0 n67_0_0 c67_0_0, .slice A67_0_1 n67_0_1 c67_0_1, .slice A67_0_2 n67_0_2 c67_0_2, .slice A67_0_3 n67_0_3 c67_0_3], .int .i64 x67_1]) ∧ (stW w66 ⟨B33, 0, none⟩ (.slice A67_0_0 n67_0_0 c67_0_0) fun w68 => stW w68 (.add ⟨B33, 0, none⟩ 1) (.slice A67_0_1 n67_0_1 c67_0_1) fun w69 => stW w69 (.add ⟨B33, 0, none⟩ 2) (.slice A67_0_2 n67_0_2 c67_0_2) fun w70 => stW w70 (.add ⟨B33, 0, none⟩ 3) (.slice A67_0_3 n67_0_3 c67_0_3) fun w71 => ldS w71 ⟨B33, 0, none⟩ fun A72 n72 c72 => ldS w71 (.add ⟨B33, 0, none⟩ 1) fun A73 n73 c73 => ldS w71 (.add ⟨B33, 0, none⟩ 2) fun A74 n74 c74 => ldS w71 (.add ⟨B33, 0, none⟩ 3) fun A75 n75 c75 => stW w71 at9 (.slice A72 n72 c72) fun w76 => stW w76 (at9.add 1) (.slice A73 n73 c73) fun w77 => stW w77 (at9.add 2) (.slice A74 n74 c74) fun w78 => stW w78 (at9.add 3) (.slice A75 n75 c75) fun w79 => l0 k at9 At42 nt42 ct42 xt43 (IntKind.i64.wrap (xt44 + 1)) w79 K0)) (sel (x39 == 3) (ldS w38 at9 fun A80 n80 c80 => ldS w38 (at9.add 1) fun A81 n81 c81 => ldS w38 (at9.add 2) fun A82 n82 c82 => ldS w38 (at9.add 3) fun A83 n83 c83 => ldI w38 (.add ⟨B22, 0, none⟩ 1) .i64 fun x84 => ldI w38 (((⟨B22, 0, none⟩ : Addr).add 1).add 1) .i64 fun x85 => ldI w38 (((⟨B22, 0, none⟩ : Addr).add 1).add 2) .i64 fun x86 => ldI w38 (((⟨B22, 0, none⟩ : Addr).add 1).add 3) .i64 fun x87 => Calls Try.prog 20 #[.agg #[.slice A80 n80 c80, .slice A81 n81 c81, .slice A82 n82 c82, .slice A83 n83 c83], .agg #[.int .i64 x84, .int .i64 x85, .int .i64 x86, .int .i64 x87]] w38 fun e88 w89 => ∃ A90_0_0 n90_0_0 c90_0_0 A90_0_1 n90_0_1 c90_0_1 A90_0_2 n90_0_2 c90_0_2 A90_0_3 n90_0_3 c90_0_3 x90_1, e88 = .returned (.tuple #[.agg #[.slice A90_0_0 n90_0_0 c90_0_0, .slice A90_0_1 n90_0_1 c90_0_1, .slice A90_0_2 n90_0_2 c90_0_2, .slice A90_0_3 n90_0_3 c90_0_3], .int .i64 x90_1]) ∧ (stW w89 ⟨B33, 0, none⟩ (.slice A90_0_0 n90_0_0 c90_0_0) fun w91 => stW w91 (.add ⟨B33, 0, none⟩ 1) (.slice A90_0_1 n90_0_1 c90_0_1) fun w92 => stW w92 (.add ⟨B33, 0, none⟩ 2) (.slice A90_0_2 n90_0_2 c90_0_2) fun w93 => stW w93 (.add ⟨B33, 0, none⟩ 3) (.slice A90_0_3 n90_0_3 c90_0_3) fun w94 => ldS w94 ⟨B33, 0, none⟩ fun A95 n95 c95 => ldS w94 (.add ⟨B33, 0, none⟩ 1) fun A96 n96 c96 => ldS w94 (.add ⟨B33, 0, none⟩ 2) fun A97 n97 c97 => ldS w94 (.add ⟨B33, 0, none⟩ 3) fun A98 n98 c98 => stW w94 at9 (.slice A95 n95 c95) fun w99 => stW w99 (at9.add 1) (.slice A96 n96 c96) fun w100 => stW w100 (at9.add 2) (.slice A97 n97 c97) fun w101 => stW w101 (at9.add 3) (.slice A98 n98 c98) fun w102 => l0 k at9 At42 nt42 ct42 xt43 (IntKind.i64.wrap (xt44 + 1)) w102 K0)) (sel (x39 == 4) (ldS w38 at9 fun A103 n103 c103 => ldS w38 (at9.add 1) fun A104 n104 c104 => ldS w38 (at9.add 2) fun A105 n105 c105 => ldS w38 (at9.add 3) fun A106 n106 c106 => ldI w38 (.add ⟨B22, 0, none⟩ 1) .i64 fun x107 => Calls Try.prog 21 #[.agg #[.slice A103 n103 c103, .slice A104 n104 c104, .slice A105 n105 c105, .slice A106 n106 c106], .int .i64 x107] w38 fun e108 w109 => ∃ A110_0_0 n110_0_0 c110_0_0 A110_0_1 n110_0_1 c110_0_1 A110_0_2 n110_0_2 c110_0_2 A110_0_3 n110_0_3 c110_0_3 x110_1, e108 = .returned (.tuple #[.agg #[.slice A110_0_0 n110_0_0 c110_0_0, .slice A110_0_1 n110_0_1 c110_0_1, .slice A110_0_2 n110_0_2 c110_0_2, .slice A110_0_3 n110_0_3 c110_0_3], .int .i64 x110_1]) ∧ (stW w109 ⟨B33, 0, none⟩ (.slice A110_0_0 n110_0_0 c110_0_0) fun w111 => stW w111 (.add ⟨B33, 0, none⟩ 1) (.slice A110_0_1 n110_0_1 c110_0_1) fun w112 => stW w112 (.add ⟨B33, 0, none⟩ 2) (.slice A110_0_2 n110_0_2 c110_0_2) fun w113 => stW w113 (.add ⟨B33, 0, none⟩ 3) (.slice A110_0_3 n110_0_3 c110_0_3) fun w114 => ldS w114 ⟨B33, 0, none⟩ fun A115 n115 c115 => ldS w114 (.add ⟨B33, 0, none⟩ 1) fun A116 n116 c116 => ldS w114 (.add ⟨B33, 0, none⟩ 2) fun A117 n117 c117 => ldS w114 (.add ⟨B33, 0, none⟩ 3) fun A118 n118 c118 => stW w114 at9 (.slice A115 n115 c115) fun w119 => stW w119 (at9.add 1) (.slice A116 n116 c116) fun w120 => stW w120 (at9.add 2) (.slice A117 n117 c117) fun w121 => stW w121 (at9.add 3) (.slice A118 n118 c118) fun w122 => l0 k at9 At42 nt42 ct42 xt43 (IntKind.i64.wrap (xt44 + 1)) w122 K0)) (ldS w38 ⟨B33, 0, none⟩ fun A123 n123 c123 => ldS w38 (.add ⟨B33, 0, none⟩ 1) fun A124 n124 c124 => ldS w38 (.add ⟨B33, 0, none⟩ 2) fun A125 n125 c125 => ldS w38 (.add ⟨B33, 0, none⟩ 3) fun A126 n126 c126 => stW w38 at9 (.slice A123 n123 c123) fun w127 => stW w127 (at9.add 1) (.slice A124 n124 c124) fun w128 => stW w128 (at9.add 2) (.slice A125 n125 c125) fun w129 => stW w129 (at9.add 3) (.slice A126 n126 c126) fun w130 => l0 k at9 At42 nt42 ct42 xt43 (IntKind.i64.wrap (xt44 + 1)) w130 K0))))) (K0 w)
def l1 : Nat → Option Addr → Addr → Int → World → (World → Prop) → (Bool → World → Prop) → Prop | 0, _, _, _, _, _, _ => False | k + 1, pt8, at9, xt13, w, K3, Kr => sel (decide (xt13 ≥ 0)) (ldS w at9 fun A133 n133 c133 => optB A133 fun a134 => req (decide (0 ≤ xt13 ∧ xt13 < (n133 : Int))) <| ldI w (a134.add (xt13.toNat * 1)) .i64 fun x135 => Calls Try.prog 22 #[.pointer pt8, .int .i64 x135] w fun e136 w137 => ∃ x138, e136 = .returned (.int .i64 x138) ∧ (sel (x138 != 0) (Kr false w137) (l1 k pt8 at9 (IntKind.i64.wrap (xt13 - 1)) w137 K3 Kr))) (K3 w)
def l2 : Nat → Option Addr → Addr → Int → World → (World → Prop) → (Bool → World → Prop) → Prop | 0, _, _, _, _, _, _ => False | k + 1, pt8, at9, xt14, w, K5, Kr => sel (decide (xt14 ≥ 0)) (ldS w (at9.add 1) fun A141 n141 c141 => optB A141 fun a142 => req (decide (0 ≤ xt14 ∧ xt14 < (n141 : Int))) <| ldI w (a142.add (xt14.toNat * 4)) .i64 fun x143 => ldI w ((a142.add (xt14.toNat * 4)).add 1) .i64 fun x144 => ldI w ((a142.add (xt14.toNat * 4)).add 2) .i64 fun x145 => ldI w ((a142.add (xt14.toNat * 4)).add 3) .i64 fun x146 => alW w (.cells #[.int .i64 0, .int .i64 0, .int .i64 0, .int .i64 0] 33) fun B147 w148 => stW w148 ⟨B147, 0, none⟩ (.int .i64 x143) fun w149 => stW w149 (.add ⟨B147, 0, none⟩ 1) (.int .i64 x144) fun w150 => stW w150 (.add ⟨B147, 0, none⟩ 2) (.int .i64 x145) fun w151 => stW w151 (.add ⟨B147, 0, none⟩ 3) (.int .i64 x146) fun w152 => ldI w152 ⟨B147, 0, none⟩ .i64 fun x153 => ldI w152 (.add ⟨B147, 0, none⟩ 2) .i64 fun x154 => ldI w152 (.add ⟨B147, 0, none⟩ 1) .i64 fun x155 => ldI w152 (.add ⟨B147, 0, none⟩ 3) .i64 fun x156 => Calls Try.prog 16 #[.pointer pt8, .agg #[.int .i64 x153, .int .i64 x154, .int .i64 x155, .int .i64 x156]] w152 fun e157 w158 => ∃ x159, e157 = .returned (.int .i64 x159) ∧ (sel (x159 != 0) (Kr false w158) (l2 k pt8 at9 (IntKind.i64.wrap (xt14 - 1)) w158 K5 Kr))) (K5 w)
def l3 : Nat → Option Addr → Option Addr → Addr → Option Addr → Nat → Nat → Int → Int → World → (World → Prop) → (Bool → World → Prop) → Prop | 0, _, _, _, _, _, _, _, _, _, _, _ => False | k + 1, pt7, pt8, at9, At139, nt139, ct139, xt140, xt141, w, K7, Kr => sel (decide (xt141 < xt140)) (optB At139 fun a162 => req (decide (0 ≤ xt141 ∧ xt141 < (nt139 : Int))) <| ldI w (a162.add (xt141.toNat * 1)) .i64 fun x163 => Calls Try.prog 13 #[.pointer pt7, .int .i64 x163] w fun e164 w165 => ∃ x166_0 x166_1, e164 = .returned (.tuple #[.int .i64 x166_0, .int .i64 x166_1]) ∧ (Calls Try.prog 13 #[.pointer pt8, .int .i64 x163] w165 fun e167 w168 => ∃ x169_0 x169_1, e167 = .returned (.tuple #[.int .i64 x169_0, .int .i64 x169_1]) ∧ (ldS w168 at9 fun A170 n170 c170 => optB A170 fun a171 => req (decide (0 ≤ (0 : Int) ∧ 0 < (n170 : Int))) <| ldI w168 (a171.add ((0 : Int).toNat * 1)) .i64 fun x172 => Calls Try.prog 15 #[.pointer pt7, .int .i64 x163, .int .i64 x172] w168 fun e173 w174 => ∃ x175_0 x175_1, e173 = .returned (.tuple #[.int .i64 x175_0, .int .i64 x175_1]) ∧ (ldS w174 at9 fun A176 n176 c176 => optB A176 fun a177 => req (decide (0 ≤ (0 : Int) ∧ 0 < (n176 : Int))) <| ldI w174 (a177.add ((0 : Int).toNat * 1)) .i64 fun x178 => Calls Try.prog 15 #[.pointer pt8, .int .i64 x163, .int .i64 x178] w174 fun e179 w180 => ∃ x181_0 x181_1, e179 = .returned (.tuple #[.int .i64 x181_0, .int .i64 x181_1]) ∧ (sel (decide (xt141 < 40)) (sel (x166_1 != 0) (Kr false w180) (sel (x169_1 != 0) (Kr false w180) (sel (x166_0 != x169_0) (Kr false w180) (sel (x175_0 != x181_0) (Kr false w180) (sel (x175_1 != x181_1) (Kr false w180) (l3 k pt7 pt8 at9 At139 nt139 ct139 xt140 (IntKind.i64.wrap (xt141 + 1)) w180 K7 Kr)))))) (l3 k pt7 pt8 at9 At139 nt139 ct139 xt140 (IntKind.i64.wrap (xt141 + 1)) w180 K7 Kr)))))) (K7 w)
def wp (Aa0 : Option Addr) (na0 ca0 : Nat) (Aa1 : Option Addr) (na1 ca1 : Nat) (Aa2 : Option Addr) (na2 ca2 : Nat) (w : World) (Q : Ending → World → Prop) : Prop := Calls Try.prog 12 #[.slice Aa0 na0 ca0, .slice Aa2 na2 ca2] w fun e1 w2 => ∃ p3, e1 = .returned (.pointer p3) ∧ (Calls Try.prog 7 #[.slice Aa1 na1 ca1] w2 fun e4 w5 => ∃ p6, e4 = .returned (.pointer p6) ∧ (sel p3.isNone (Q (.returned (.bool false)) w5) (sel p6.isNone (Q (.returned (.bool false)) w5) (Calls Try.prog 8 #[] w5 fun e7 w8 => ∃ b9, e7 = .returned (.bool b9) ∧ (sel (!b9) (Q (.returned (.bool false)) w8) (alW w8 (.cells #[.slice none 0 0, .slice none 0 0, .slice none 0 0, .slice none 0 0] 31) fun B10 w11 => stW w11 ⟨B10, 0, none⟩ (.slice none 0 0) fun w12 => stW w12 (.add ⟨B10, 0, none⟩ 1) (.slice none 0 0) fun w13 => stW w13 (.add ⟨B10, 0, none⟩ 2) (.slice none 0 0) fun w14 => stW w14 (.add ⟨B10, 0, none⟩ 3) (.slice none 0 0) fun w15 => ∃ k192, l0 k192 ⟨B10, 0, none⟩ Aa2 na2 ca2 (na2 : Int) 0 w15 (fun w131 => ∀ _ : Fr, ldS w131 ⟨B10, 0, none⟩ fun A132 n132 c132 => ∃ k191, l1 k191 p6 ⟨B10, 0, none⟩ (IntKind.i64.wrap ((n132 : Int) - 1)) w131 (fun w139 => ∀ _ : Fr, ldS w139 (.add ⟨B10, 0, none⟩ 1) fun A140 n140 c140 => ∃ k188, l2 k188 p6 ⟨B10, 0, none⟩ (IntKind.i64.wrap ((n140 : Int) - 1)) w139 (fun w160 => ∀ _ : Fr, ldS w160 ⟨B10, 0, none⟩ fun A161 n161 c161 => ∃ k185, l3 k185 p3 p6 ⟨B10, 0, none⟩ A161 n161 c161 (n161 : Int) 0 w160 (fun w182 => ∀ _ : Fr, Q (.returned (.bool true)) w182) (fun b183 w184 => ∀ _ : Fr, Q (.returned (.bool b183)) w184)) (fun b186 w187 => ∀ _ : Fr, Q (.returned (.bool b186)) w187)) (fun b189 w190 => ∀ _ : Fr, Q (.returned (.bool b189)) w190))))))))
def D : Nat → Option DH := dtab []
def l0LO : LO := ⟨[], [], [(0, [7, 8, 9])], []⟩
def l0Tk (k : Nat) : Spec := fun Q σ w => gAd (σ 9) fun at9 => gSlice (σ 42) fun At42 nt42 ct42 => gInt .i64 (σ 43) fun xt43 => gInt .i64 (σ 44) fun xt44 => l0 k at9 At42 nt42 ct42 xt43 xt44 w (fun w => ∀ d : Fr, Q (.exit 0) (ov d [(7, σ 7), (8, σ 8), (9, .pointer (some at9))]) w)
def l0T : Spec := fun Q σ w => ∃ k, l0Tk k Q σ w
def l0tb : List (List Nat × Spec) := []
noncomputable def l0b : Code := (subC [0, 0, 1, 0, 1, 1, 1, 1, 1] body).getD .skip
theorem l0_eq (k : Nat) (at9 : Addr) (At42 : Option Addr) (nt42 ct42 : Nat) (xt43 xt44 : Int) (Q : PQ) (σ : Fr) (w : World) : l0 (k + 1) at9 At42 nt42 ct42 xt43 xt44 w (fun w => ∀ d : Fr, Q (.exit 0) (ov d [(7, σ 7), (8, σ 8), (9, .pointer (some at9))]) w) = codeW Try.prog hT 206 D (tab l0tb) [0, 0, 1, 0, 1, 1, 1, 1, 1] l0b (thenQ (l0Tk k Q) (widen l0LO Q)) (ov σ [(9, .pointer (some at9)), (42, .slice At42 nt42 ct42), (43, .int .i64 xt43), (44, .int .i64 xt44)]) w := by kernel_rfl
theorem l0_snd : ∀ c, subC [0, 1, 0, 1, 1, 1, 1, 1] body = some c → Snd Try.prog 206 c l0T := by
  refine loop_of (hT := hT) (D := D) (l := l0tb) (b := l0b) (lo := l0LO) (by kernel_rfl) (by
    intro x hx
    simp only [l0tb, List.not_mem_nil] at hx
    ) (by kernel_rfl) (by kernel_rfl) ?_ ?_
  · intro Q σ w h
    unfold l0Tk at h
    obtain ⟨_, _, h⟩ := gAd_elim h
    obtain ⟨_, _, _, _, h⟩ := gSlice_elim h
    obtain ⟨_, _, h⟩ := gInt_elim h
    obtain ⟨_, _, h⟩ := gInt_elim h
    exact h
  · intro k Q σ w h
    unfold l0Tk at h
    obtain ⟨at9, h9, h⟩ := gAd_elim h
    obtain ⟨At42, nt42, ct42, h42, h⟩ := gSlice_elim h
    obtain ⟨xt43, h43, h⟩ := gInt_elim h
    obtain ⟨xt44, h44, h⟩ := gInt_elim h
    rw [l0_eq (σ := σ)] at h
    have e : (ov σ [(9, .pointer (some at9)), (42, .slice At42 nt42 ct42), (43, .int .i64 xt43), (44, .int .i64 xt44)]) = σ := ov_self (by simp [h9, h42, h43, h44])
    rw [e] at h
    exact h
def l1LO : LO := ⟨[], [6], [(3, [7, 8, 9])], []⟩
def l1Tk (k : Nat) : Spec := fun Q σ w => gPtr (σ 8) fun pt8 => gAd (σ 9) fun at9 => gInt .i64 (σ 13) fun xt13 => l1 k pt8 at9 xt13 w (fun w => ∀ d : Fr, Q (.exit 3) (ov d [(7, σ 7), (8, .pointer pt8), (9, .pointer (some at9))]) w) (fun bq6 w => ∀ d : Fr, Q .ret (ov d [(6, .bool bq6)]) w)
def l1T : Spec := fun Q σ w => ∃ k, l1Tk k Q σ w
def l1tb : List (List Nat × Spec) := []
noncomputable def l1b : Code := (subC [0, 0, 1, 0, 1, 1, 1, 1, 1, 1] body).getD .skip
theorem l1_eq (k : Nat) (pt8 : Option Addr) (at9 : Addr) (xt13 : Int) (Q : PQ) (σ : Fr) (w : World) : l1 (k + 1) pt8 at9 xt13 w (fun w => ∀ d : Fr, Q (.exit 3) (ov d [(7, σ 7), (8, .pointer pt8), (9, .pointer (some at9))]) w) (fun bq6 w => ∀ d : Fr, Q .ret (ov d [(6, .bool bq6)]) w) = codeW Try.prog hT 206 D (tab l1tb) [0, 0, 1, 0, 1, 1, 1, 1, 1, 1] l1b (thenQ (l1Tk k Q) (widen l1LO Q)) (ov σ [(8, .pointer pt8), (9, .pointer (some at9)), (13, .int .i64 xt13)]) w := by kernel_rfl
theorem l1_snd : ∀ c, subC [0, 1, 0, 1, 1, 1, 1, 1, 1] body = some c → Snd Try.prog 206 c l1T := by
  refine loop_of (hT := hT) (D := D) (l := l1tb) (b := l1b) (lo := l1LO) (by kernel_rfl) (by
    intro x hx
    simp only [l1tb, List.not_mem_nil] at hx
    ) (by kernel_rfl) (by kernel_rfl) ?_ ?_
  · intro Q σ w h
    unfold l1Tk at h
    obtain ⟨_, _, h⟩ := gPtr_elim h
    obtain ⟨_, _, h⟩ := gAd_elim h
    obtain ⟨_, _, h⟩ := gInt_elim h
    exact h
  · intro k Q σ w h
    unfold l1Tk at h
    obtain ⟨pt8, h8, h⟩ := gPtr_elim h
    obtain ⟨at9, h9, h⟩ := gAd_elim h
    obtain ⟨xt13, h13, h⟩ := gInt_elim h
    rw [l1_eq (σ := σ)] at h
    have e : (ov σ [(8, .pointer pt8), (9, .pointer (some at9)), (13, .int .i64 xt13)]) = σ := ov_self (by simp [h8, h9, h13])
    rw [e] at h
    exact h
def l2LO : LO := ⟨[], [6], [(5, [7, 8, 9])], []⟩
def l2Tk (k : Nat) : Spec := fun Q σ w => gPtr (σ 8) fun pt8 => gAd (σ 9) fun at9 => gInt .i64 (σ 14) fun xt14 => l2 k pt8 at9 xt14 w (fun w => ∀ d : Fr, Q (.exit 5) (ov d [(7, σ 7), (8, .pointer pt8), (9, .pointer (some at9))]) w) (fun bq6 w => ∀ d : Fr, Q .ret (ov d [(6, .bool bq6)]) w)
def l2T : Spec := fun Q σ w => ∃ k, l2Tk k Q σ w
def l2tb : List (List Nat × Spec) := []
noncomputable def l2b : Code := (subC [0, 0, 1, 0, 1, 1, 1, 1, 1, 1, 1] body).getD .skip
theorem l2_eq (k : Nat) (pt8 : Option Addr) (at9 : Addr) (xt14 : Int) (Q : PQ) (σ : Fr) (w : World) : l2 (k + 1) pt8 at9 xt14 w (fun w => ∀ d : Fr, Q (.exit 5) (ov d [(7, σ 7), (8, .pointer pt8), (9, .pointer (some at9))]) w) (fun bq6 w => ∀ d : Fr, Q .ret (ov d [(6, .bool bq6)]) w) = codeW Try.prog hT 206 D (tab l2tb) [0, 0, 1, 0, 1, 1, 1, 1, 1, 1, 1] l2b (thenQ (l2Tk k Q) (widen l2LO Q)) (ov σ [(8, .pointer pt8), (9, .pointer (some at9)), (14, .int .i64 xt14)]) w := by kernel_rfl
theorem l2_snd : ∀ c, subC [0, 1, 0, 1, 1, 1, 1, 1, 1, 1] body = some c → Snd Try.prog 206 c l2T := by
  refine loop_of (hT := hT) (D := D) (l := l2tb) (b := l2b) (lo := l2LO) (by kernel_rfl) (by
    intro x hx
    simp only [l2tb, List.not_mem_nil] at hx
    ) (by kernel_rfl) (by kernel_rfl) ?_ ?_
  · intro Q σ w h
    unfold l2Tk at h
    obtain ⟨_, _, h⟩ := gPtr_elim h
    obtain ⟨_, _, h⟩ := gAd_elim h
    obtain ⟨_, _, h⟩ := gInt_elim h
    exact h
  · intro k Q σ w h
    unfold l2Tk at h
    obtain ⟨pt8, h8, h⟩ := gPtr_elim h
    obtain ⟨at9, h9, h⟩ := gAd_elim h
    obtain ⟨xt14, h14, h⟩ := gInt_elim h
    rw [l2_eq (σ := σ)] at h
    have e : (ov σ [(8, .pointer pt8), (9, .pointer (some at9)), (14, .int .i64 xt14)]) = σ := ov_self (by simp [h8, h9, h14])
    rw [e] at h
    exact h
def l3LO : LO := ⟨[], [6], [(7, [])], []⟩
def l3Tk (k : Nat) : Spec := fun Q σ w => gPtr (σ 7) fun pt7 => gPtr (σ 8) fun pt8 => gAd (σ 9) fun at9 => gSlice (σ 139) fun At139 nt139 ct139 => gInt .i64 (σ 140) fun xt140 => gInt .i64 (σ 141) fun xt141 => l3 k pt7 pt8 at9 At139 nt139 ct139 xt140 xt141 w (fun w => ∀ d : Fr, Q (.exit 7) (ov d []) w) (fun bq6 w => ∀ d : Fr, Q .ret (ov d [(6, .bool bq6)]) w)
def l3T : Spec := fun Q σ w => ∃ k, l3Tk k Q σ w
def l3tb : List (List Nat × Spec) := []
noncomputable def l3b : Code := (subC [0, 0, 1, 0, 1, 1, 1, 1, 1, 1, 1, 1] body).getD .skip
theorem l3_eq (k : Nat) (pt7 pt8 : Option Addr) (at9 : Addr) (At139 : Option Addr) (nt139 ct139 : Nat) (xt140 xt141 : Int) (Q : PQ) (σ : Fr) (w : World) : l3 (k + 1) pt7 pt8 at9 At139 nt139 ct139 xt140 xt141 w (fun w => ∀ d : Fr, Q (.exit 7) (ov d []) w) (fun bq6 w => ∀ d : Fr, Q .ret (ov d [(6, .bool bq6)]) w) = codeW Try.prog hT 206 D (tab l3tb) [0, 0, 1, 0, 1, 1, 1, 1, 1, 1, 1, 1] l3b (thenQ (l3Tk k Q) (widen l3LO Q)) (ov σ [(7, .pointer pt7), (8, .pointer pt8), (9, .pointer (some at9)), (139, .slice At139 nt139 ct139), (140, .int .i64 xt140), (141, .int .i64 xt141)]) w := by kernel_rfl
theorem l3_snd : ∀ c, subC [0, 1, 0, 1, 1, 1, 1, 1, 1, 1, 1] body = some c → Snd Try.prog 206 c l3T := by
  refine loop_of (hT := hT) (D := D) (l := l3tb) (b := l3b) (lo := l3LO) (by kernel_rfl) (by
    intro x hx
    simp only [l3tb, List.not_mem_nil] at hx
    ) (by kernel_rfl) (by kernel_rfl) ?_ ?_
  · intro Q σ w h
    unfold l3Tk at h
    obtain ⟨_, _, h⟩ := gPtr_elim h
    obtain ⟨_, _, h⟩ := gPtr_elim h
    obtain ⟨_, _, h⟩ := gAd_elim h
    obtain ⟨_, _, _, _, h⟩ := gSlice_elim h
    obtain ⟨_, _, h⟩ := gInt_elim h
    obtain ⟨_, _, h⟩ := gInt_elim h
    exact h
  · intro k Q σ w h
    unfold l3Tk at h
    obtain ⟨pt7, h7, h⟩ := gPtr_elim h
    obtain ⟨pt8, h8, h⟩ := gPtr_elim h
    obtain ⟨at9, h9, h⟩ := gAd_elim h
    obtain ⟨At139, nt139, ct139, h139, h⟩ := gSlice_elim h
    obtain ⟨xt140, h140, h⟩ := gInt_elim h
    obtain ⟨xt141, h141, h⟩ := gInt_elim h
    rw [l3_eq (σ := σ)] at h
    have e : (ov σ [(7, .pointer pt7), (8, .pointer pt8), (9, .pointer (some at9)), (139, .slice At139 nt139 ct139), (140, .int .i64 xt140), (141, .int .i64 xt141)]) = σ := ov_self (by simp [h7, h8, h9, h139, h140, h141])
    rw [e] at h
    exact h
def tb : List (List Nat × Spec) := [([0, 1, 0, 1, 1, 1, 1, 1], l0T), ([0, 1, 0, 1, 1, 1, 1, 1, 1], l1T), ([0, 1, 0, 1, 1, 1, 1, 1, 1, 1], l2T), ([0, 1, 0, 1, 1, 1, 1, 1, 1, 1, 1], l3T)]
variable (Aa0 : Option Addr) (na0 ca0 : Nat) (Aa1 : Option Addr) (na1 ca1 : Nat) (Aa2 : Option Addr) (na2 ca2 : Nat) (w : World) (Q : Ending → World → Prop)
theorem wp_eq : wp Aa0 na0 ca0 Aa1 na1 ca1 Aa2 na2 ca2 w Q = codeW Try.prog hT 206 D (tab tb) [] body (topQ Try.prog hT 206 [.tmp 6] Q) (argsF [.slice Aa0 na0 ca0, .slice Aa1 na1 ca1, .slice Aa2 na2 ca2]) w := by kernel_rfl
theorem ok (h : wp Aa0 na0 ca0 Aa1 na1 ca1 Aa2 na2 ca2 w Q) : Calls Try.prog 6 #[.slice Aa0 na0 ca0, .slice Aa1 na1 ca1, .slice Aa2 na2 ca2] w Q := by
  rw [wp_eq] at h
  refine calls_of_codeW (c := body) (rs := [.tmp 6]) Try.func6 ?_ ?_ ?_ ?_ ?_ (tab_snd (by
    intro x hx
    simp only [tb, List.mem_cons, List.not_mem_nil, or_false] at hx
    rcases hx with rfl | rfl | rfl | rfl
    · exact l0_snd
    · exact l1_snd
    · exact l2_snd
    · exact l3_snd)) ?_ h <;> kernel_rfl
end f_law20_SpanOrder
end Go.Proofs.Ytklnlnjgaadjbaa.Rd
