/- The printed readings of some functions: each function's code reckoned by the kernel to its predicate transformer. -/
import Derived.Test.YtkkobfajahmfaaaHint
namespace Go.Proofs.Ytkkobfajahmfaaa.Rd
open Go.Dn
set_option maxRecDepth 100000
set_option linter.unusedVariables false
namespace f_law16_EulerBack
/-! skein/skeinlaw16.EulerBack: function 3 -/
noncomputable def body : Code := (Try.f3.body).getD .skip
def l0 : Nat → Option Addr → Nat → Nat → Option Addr → Nat → Nat → Option Addr → Nat → Nat → Int → Int → World → ((Option Addr) → Nat → Nat → World → Prop) → (Bool → World → Prop) → Prop
  | 0, _, _, _, _, _, _, _, _, _, _, _, _, _, _ => False
  | k + 1, At14, nt14, ct14, At25, nt25, ct25, At103, nt103, ct103, xt104, xt105, w, K0, Kr =>
    sel (decide (xt105 < xt104)) (
    optB At103 fun a31 =>
    req (decide (0 ≤ xt105 ∧ xt105 < (nt103 : Int))) <|
    ldI w (a31.add (xt105.toNat * 1)) .i64 fun x32 =>
    Calls Try.prog 15 #[.slice At14 nt14 ct14, .int .i64 x32] w fun e33 w34 => ∃ (b35 : Bool), e33 = .returned (.bool b35) ∧ (
    sel b35 (
    Kr false w34) (
    Calls Try.prog 16 #[.slice At25 nt25 ct25, .int .i64 x32] w34 fun e36 w37 => ∃ (A38 : Option Addr) (n38 : Nat) (c38 : Nat), e36 = .returned (.slice A38 n38 c38) ∧ (
    l0 k At14 nt14 ct14 A38 n38 c38 At103 nt103 ct103 xt104 (IntKind.i64.wrap (xt105 + (1 : Int))) w37 K0 Kr)))) (
    K0 At25 nt25 ct25 w)
def j1 (xt3 : Int) (xt4 : Int) (xt5 : Int) (pt13 : Option Addr) (At14 : Option Addr) (nt14 : Nat) (ct14 : Nat) (At16 : Option Addr) (nt16 : Nat) (ct16 : Nat) (At18 : Option Addr) (nt18 : Nat) (ct18 : Nat) (At20 : Option Addr) (nt20 : Nat) (ct20 : Nat) (w : World) (Kr : Bool → World → Prop) : Prop :=
  Calls Try.prog 10 #[.pointer pt13, .int .i64 xt3] w fun e68 w69 => ∃ (A70_0 : Option Addr) (n70_0 : Nat) (c70_0 : Nat) (x70_1 : Int), e68 = .returned (.tuple #[.slice A70_0 n70_0 c70_0, .int .i64 x70_1]) ∧ (
  Calls Try.prog 10 #[.pointer pt13, .int .i64 xt4] w69 fun e71 w72 => ∃ (A73_0 : Option Addr) (n73_0 : Nat) (c73_0 : Nat) (x73_1 : Int), e71 = .returned (.tuple #[.slice A73_0 n73_0 c73_0, .int .i64 x73_1]) ∧ (
  Calls Try.prog 10 #[.pointer pt13, .int .i64 xt5] w72 fun e74 w75 => ∃ (A76_0 : Option Addr) (n76_0 : Nat) (c76_0 : Nat) (x76_1 : Int), e74 = .returned (.tuple #[.slice A76_0 n76_0 c76_0, .int .i64 x76_1]) ∧ (
  Calls Try.prog 11 #[.pointer pt13, .int .i64 xt3] w75 fun e77 w78 => ∃ (A79_0 : Option Addr) (n79_0 : Nat) (c79_0 : Nat) (x79_1 : Int), e77 = .returned (.tuple #[.slice A79_0 n79_0 c79_0, .int .i64 x79_1]) ∧ (
  Calls Try.prog 13 #[.slice A70_0 n70_0 c70_0, .slice At14 nt14 ct14] w78 fun e80 w81 => ∃ (b82 : Bool), e80 = .returned (.bool b82) ∧ (
  sel b82 (
  Calls Try.prog 13 #[.slice A73_0 n73_0 c73_0, .slice At16 nt16 ct16] w81 fun e83 w84 => ∃ (b85 : Bool), e83 = .returned (.bool b85) ∧ (
  sel b85 (
  Calls Try.prog 13 #[.slice A76_0 n76_0 c76_0, .slice At18 nt18 ct18] w84 fun e86 w87 => ∃ (b88 : Bool), e86 = .returned (.bool b88) ∧ (
  sel b88 (
  Calls Try.prog 13 #[.slice At20 nt20 ct20, .slice A79_0 n79_0 c79_0] w87 fun e89 w90 => ∃ (b91 : Bool), e89 = .returned (.bool b91) ∧ (
  Kr b91 w90)) (
  Kr false w87))) (
  Kr false w84))) (
  Kr false w81))))))
def wp (Aa0 : Option Addr) (na0 : Nat) (ca0 : Nat) (Aa1 : Option Addr) (na1 : Nat) (ca1 : Nat) (xa2 : Int) (xa3 : Int) (xa4 : Int) (xa5 : Int) (w : World) (Q : Ending → World → Prop) : Prop :=
  Calls Try.prog 8 #[.slice Aa0 na0 ca0, .slice Aa1 na1 ca1] w fun e1 w2 => ∃ (p3 : Option Addr), e1 = .returned (.pointer p3) ∧ (
  sel p3.isNone (
  Q (.returned (.bool false)) w2) (
  Calls Try.prog 9 #[] w2 fun e4 w5 => ∃ (b6 : Bool), e4 = .returned (.bool b6) ∧ (
  sel (!b6) (
  Q (.returned (.bool false)) w5) (
  Calls Try.prog 10 #[.pointer p3, .int .i64 xa3] w5 fun e7 w8 => ∃ (A9_0 : Option Addr) (n9_0 : Nat) (c9_0 : Nat) (x9_1 : Int), e7 = .returned (.tuple #[.slice A9_0 n9_0 c9_0, .int .i64 x9_1]) ∧ (
  Calls Try.prog 10 #[.pointer p3, .int .i64 xa4] w8 fun e10 w11 => ∃ (A12_0 : Option Addr) (n12_0 : Nat) (c12_0 : Nat) (x12_1 : Int), e10 = .returned (.tuple #[.slice A12_0 n12_0 c12_0, .int .i64 x12_1]) ∧ (
  Calls Try.prog 10 #[.pointer p3, .int .i64 xa5] w11 fun e13 w14 => ∃ (A15_0 : Option Addr) (n15_0 : Nat) (c15_0 : Nat) (x15_1 : Int), e13 = .returned (.tuple #[.slice A15_0 n15_0 c15_0, .int .i64 x15_1]) ∧ (
  Calls Try.prog 11 #[.pointer p3, .int .i64 xa3] w14 fun e16 w17 => ∃ (A18_0 : Option Addr) (n18_0 : Nat) (c18_0 : Nat) (x18_1 : Int), e16 = .returned (.tuple #[.slice A18_0 n18_0 c18_0, .int .i64 x18_1]) ∧ (
  Calls Try.prog 12 #[.pointer p3, .int .i64 xa2, .int .i64 xa3, .int .i64 xa4] w17 fun e19 w20 => ∃ (x21 : Int), e19 = .returned (.int .i64 x21) ∧ (
  sel (x21 != (0 : Int)) (
  Calls Try.prog 10 #[.pointer p3, .int .i64 xa5] w20 fun e22 w23 => ∃ (A24_0 : Option Addr) (n24_0 : Nat) (c24_0 : Nat) (x24_1 : Int), e22 = .returned (.tuple #[.slice A24_0 n24_0 c24_0, .int .i64 x24_1]) ∧ (
  Calls Try.prog 13 #[.slice A24_0 n24_0 c24_0, .slice A15_0 n15_0 c15_0] w23 fun e25 w26 => ∃ (b27 : Bool), e25 = .returned (.bool b27) ∧ (
  sel b27 (
  sel (x21 != (51 : Int)) (
  Q (.returned (.bool true)) w26) (
  sel (x9_1 != (0 : Int)) (
  Q (.returned (.bool true)) w26) (
  Q (.returned (.bool (x12_1 != (0 : Int)))) w26))) (
  Q (.returned (.bool false)) w26)))) (
  Calls Try.prog 14 #[.slice A9_0 n9_0 c9_0] w20 fun e28 w29 => ∃ (A30 : Option Addr) (n30 : Nat) (c30 : Nat), e28 = .returned (.slice A30 n30 c30) ∧ (
  ∃ k172 : Nat, l0 k172 A9_0 n9_0 c9_0 A30 n30 c30 A12_0 n12_0 c12_0 (n12_0 : Int) (0 : Int) w29 (fun (A39 : Option Addr) (n39 : Nat) (c39 : Nat) (w40 : World) => ∀ _ : Fr,
  Calls Try.prog 10 #[.pointer p3, .int .i64 xa4] w40 fun e41 w42 => ∃ (A43_0 : Option Addr) (n43_0 : Nat) (c43_0 : Nat) (x43_1 : Int), e41 = .returned (.tuple #[.slice A43_0 n43_0 c43_0, .int .i64 x43_1]) ∧ (
  Calls Try.prog 10 #[.pointer p3, .int .i64 xa5] w42 fun e44 w45 => ∃ (A46_0 : Option Addr) (n46_0 : Nat) (c46_0 : Nat) (x46_1 : Int), e44 = .returned (.tuple #[.slice A46_0 n46_0 c46_0, .int .i64 x46_1]) ∧ (
  Calls Try.prog 13 #[.slice A43_0 n43_0 c43_0, .slice A39 n39 c39] w45 fun e47 w48 => ∃ (b49 : Bool), e47 = .returned (.bool b49) ∧ (
  sel (!b49) (
  Q (.returned (.bool false)) w48) (
  sel (x46_1 != x15_1) (
  Q (.returned (.bool false)) w48) (
  sel (x15_1 == (0 : Int)) (
  Calls Try.prog 15 #[.slice A39 n39 c39, .int .i64 xa5] w48 fun e50 w51 => ∃ (b52 : Bool), e50 = .returned (.bool b52) ∧ (
  sel (!b52) (
  Calls Try.prog 13 #[.slice A46_0 n46_0 c46_0, .slice A15_0 n15_0 c15_0] w51 fun e53 w54 => ∃ (b55 : Bool), e53 = .returned (.bool b55) ∧ (
  sel (!b55) (
  Q (.returned (.bool false)) w54) (
  sel (x15_1 == (0 : Int)) (
  Calls Try.prog 15 #[.slice A39 n39 c39, .int .i64 xa5] w54 fun e56 w57 => ∃ (b58 : Bool), e56 = .returned (.bool b58) ∧ (
  sel b58 (
  Calls Try.prog 13 #[.slice A46_0 n46_0 c46_0, .slice A39 n39 c39] w57 fun e59 w60 => ∃ (b61 : Bool), e59 = .returned (.bool b61) ∧ (
  sel (!b61) (
  Q (.returned (.bool false)) w60) (
  Calls Try.prog 17 #[.pointer p3, .int .i64 xa2] w60 fun e62 w63 => ∃ (x64 : Int), e62 = .returned (.int .i64 x64) ∧ (
  sel (x64 != (0 : Int)) (
  Q (.returned (.bool false)) w63) (
  Calls Try.prog 18 #[.pointer p3, .int .i64 xa2] w63 fun e65 w66 => ∃ (b67 : Bool), e65 = .returned (.bool b67) ∧ (
  sel b67 (
  Q (.returned (.bool false)) w66) (
  j1 xa3 xa4 xa5 p3 A9_0 n9_0 c9_0 A12_0 n12_0 c12_0 A15_0 n15_0 c15_0 A18_0 n18_0 c18_0 w66 (fun (b92 : Bool) (w93 : World) => ∀ _ : Fr,
  Q (.returned (.bool b92)) w93)))))))) (
  Calls Try.prog 17 #[.pointer p3, .int .i64 xa2] w57 fun e94 w95 => ∃ (x96 : Int), e94 = .returned (.int .i64 x96) ∧ (
  sel (x96 != (0 : Int)) (
  Q (.returned (.bool false)) w95) (
  Calls Try.prog 18 #[.pointer p3, .int .i64 xa2] w95 fun e97 w98 => ∃ (b99 : Bool), e97 = .returned (.bool b99) ∧ (
  sel b99 (
  Q (.returned (.bool false)) w98) (
  j1 xa3 xa4 xa5 p3 A9_0 n9_0 c9_0 A12_0 n12_0 c12_0 A15_0 n15_0 c15_0 A18_0 n18_0 c18_0 w98 (fun (b100 : Bool) (w101 : World) => ∀ _ : Fr,
  Q (.returned (.bool b100)) w101)))))))) (
  Calls Try.prog 17 #[.pointer p3, .int .i64 xa2] w54 fun e102 w103 => ∃ (x104 : Int), e102 = .returned (.int .i64 x104) ∧ (
  sel (x104 != (0 : Int)) (
  Q (.returned (.bool false)) w103) (
  Calls Try.prog 18 #[.pointer p3, .int .i64 xa2] w103 fun e105 w106 => ∃ (b107 : Bool), e105 = .returned (.bool b107) ∧ (
  sel b107 (
  Q (.returned (.bool false)) w106) (
  j1 xa3 xa4 xa5 p3 A9_0 n9_0 c9_0 A12_0 n12_0 c12_0 A15_0 n15_0 c15_0 A18_0 n18_0 c18_0 w106 (fun (b108 : Bool) (w109 : World) => ∀ _ : Fr,
  Q (.returned (.bool b108)) w109))))))))) (
  sel (x15_1 == (0 : Int)) (
  Calls Try.prog 15 #[.slice A39 n39 c39, .int .i64 xa5] w51 fun e110 w111 => ∃ (b112 : Bool), e110 = .returned (.bool b112) ∧ (
  sel b112 (
  Calls Try.prog 13 #[.slice A46_0 n46_0 c46_0, .slice A39 n39 c39] w111 fun e113 w114 => ∃ (b115 : Bool), e113 = .returned (.bool b115) ∧ (
  sel (!b115) (
  Q (.returned (.bool false)) w114) (
  Calls Try.prog 17 #[.pointer p3, .int .i64 xa2] w114 fun e116 w117 => ∃ (x118 : Int), e116 = .returned (.int .i64 x118) ∧ (
  sel (x118 != (0 : Int)) (
  Q (.returned (.bool false)) w117) (
  Calls Try.prog 18 #[.pointer p3, .int .i64 xa2] w117 fun e119 w120 => ∃ (b121 : Bool), e119 = .returned (.bool b121) ∧ (
  sel b121 (
  Q (.returned (.bool false)) w120) (
  j1 xa3 xa4 xa5 p3 A9_0 n9_0 c9_0 A12_0 n12_0 c12_0 A15_0 n15_0 c15_0 A18_0 n18_0 c18_0 w120 (fun (b122 : Bool) (w123 : World) => ∀ _ : Fr,
  Q (.returned (.bool b122)) w123)))))))) (
  Calls Try.prog 17 #[.pointer p3, .int .i64 xa2] w111 fun e124 w125 => ∃ (x126 : Int), e124 = .returned (.int .i64 x126) ∧ (
  sel (x126 != (0 : Int)) (
  Q (.returned (.bool false)) w125) (
  Calls Try.prog 18 #[.pointer p3, .int .i64 xa2] w125 fun e127 w128 => ∃ (b129 : Bool), e127 = .returned (.bool b129) ∧ (
  sel b129 (
  Q (.returned (.bool false)) w128) (
  j1 xa3 xa4 xa5 p3 A9_0 n9_0 c9_0 A12_0 n12_0 c12_0 A15_0 n15_0 c15_0 A18_0 n18_0 c18_0 w128 (fun (b130 : Bool) (w131 : World) => ∀ _ : Fr,
  Q (.returned (.bool b130)) w131)))))))) (
  Calls Try.prog 17 #[.pointer p3, .int .i64 xa2] w51 fun e132 w133 => ∃ (x134 : Int), e132 = .returned (.int .i64 x134) ∧ (
  sel (x134 != (0 : Int)) (
  Q (.returned (.bool false)) w133) (
  Calls Try.prog 18 #[.pointer p3, .int .i64 xa2] w133 fun e135 w136 => ∃ (b137 : Bool), e135 = .returned (.bool b137) ∧ (
  sel b137 (
  Q (.returned (.bool false)) w136) (
  j1 xa3 xa4 xa5 p3 A9_0 n9_0 c9_0 A12_0 n12_0 c12_0 A15_0 n15_0 c15_0 A18_0 n18_0 c18_0 w136 (fun (b138 : Bool) (w139 : World) => ∀ _ : Fr,
  Q (.returned (.bool b138)) w139))))))))) (
  sel (x15_1 == (0 : Int)) (
  Calls Try.prog 15 #[.slice A39 n39 c39, .int .i64 xa5] w48 fun e140 w141 => ∃ (b142 : Bool), e140 = .returned (.bool b142) ∧ (
  sel b142 (
  Calls Try.prog 13 #[.slice A46_0 n46_0 c46_0, .slice A39 n39 c39] w141 fun e143 w144 => ∃ (b145 : Bool), e143 = .returned (.bool b145) ∧ (
  sel (!b145) (
  Q (.returned (.bool false)) w144) (
  Calls Try.prog 17 #[.pointer p3, .int .i64 xa2] w144 fun e146 w147 => ∃ (x148 : Int), e146 = .returned (.int .i64 x148) ∧ (
  sel (x148 != (0 : Int)) (
  Q (.returned (.bool false)) w147) (
  Calls Try.prog 18 #[.pointer p3, .int .i64 xa2] w147 fun e149 w150 => ∃ (b151 : Bool), e149 = .returned (.bool b151) ∧ (
  sel b151 (
  Q (.returned (.bool false)) w150) (
  j1 xa3 xa4 xa5 p3 A9_0 n9_0 c9_0 A12_0 n12_0 c12_0 A15_0 n15_0 c15_0 A18_0 n18_0 c18_0 w150 (fun (b152 : Bool) (w153 : World) => ∀ _ : Fr,
  Q (.returned (.bool b152)) w153)))))))) (
  Calls Try.prog 17 #[.pointer p3, .int .i64 xa2] w141 fun e154 w155 => ∃ (x156 : Int), e154 = .returned (.int .i64 x156) ∧ (
  sel (x156 != (0 : Int)) (
  Q (.returned (.bool false)) w155) (
  Calls Try.prog 18 #[.pointer p3, .int .i64 xa2] w155 fun e157 w158 => ∃ (b159 : Bool), e157 = .returned (.bool b159) ∧ (
  sel b159 (
  Q (.returned (.bool false)) w158) (
  j1 xa3 xa4 xa5 p3 A9_0 n9_0 c9_0 A12_0 n12_0 c12_0 A15_0 n15_0 c15_0 A18_0 n18_0 c18_0 w158 (fun (b160 : Bool) (w161 : World) => ∀ _ : Fr,
  Q (.returned (.bool b160)) w161)))))))) (
  Calls Try.prog 17 #[.pointer p3, .int .i64 xa2] w48 fun e162 w163 => ∃ (x164 : Int), e162 = .returned (.int .i64 x164) ∧ (
  sel (x164 != (0 : Int)) (
  Q (.returned (.bool false)) w163) (
  Calls Try.prog 18 #[.pointer p3, .int .i64 xa2] w163 fun e165 w166 => ∃ (b167 : Bool), e165 = .returned (.bool b167) ∧ (
  sel b167 (
  Q (.returned (.bool false)) w166) (
  j1 xa3 xa4 xa5 p3 A9_0 n9_0 c9_0 A12_0 n12_0 c12_0 A15_0 n15_0 c15_0 A18_0 n18_0 c18_0 w166 (fun (b168 : Bool) (w169 : World) => ∀ _ : Fr,
  Q (.returned (.bool b168)) w169))))))))))))) (fun (b170 : Bool) (w171 : World) => ∀ _ : Fr,
  Q (.returned (.bool b170)) w171))))))))))))
def D : Nat → Option DH := dtab []
def l0LO : LO := ⟨[], [12], [(0, [2, 3, 4, 5, 13, 14, 16, 18, 19, 20, 25])], []⟩
def l0Tk (k : Nat) : Spec := fun Q σ w =>
  gSlice (σ 14) fun At14 nt14 ct14 =>
  gSlice (σ 25) fun At25 nt25 ct25 =>
  gSlice (σ 103) fun At103 nt103 ct103 =>
  gInt .i64 (σ 104) fun xt104 =>
  gInt .i64 (σ 105) fun xt105 =>
  l0 k At14 nt14 ct14 At25 nt25 ct25 At103 nt103 ct103 xt104 xt105 w (fun (Aq25 : Option Addr) (nq25 : Nat) (cq25 : Nat) (w : World) => ∀ d : Fr, Q (.exit 0) (ov d [(2, σ 2), (3, σ 3), (4, σ 4), (5, σ 5), (13, σ 13), (14, .slice At14 nt14 ct14), (16, σ 16), (18, σ 18), (19, σ 19), (20, σ 20), (25, .slice Aq25 nq25 cq25)]) w) (fun (bq12 : Bool) (w : World) => ∀ d : Fr, Q .ret (ov d [(12, .bool bq12)]) w)
def l0T : Spec := fun Q σ w => ∃ k, l0Tk k Q σ w
def l0tb : List (List Nat × Spec) := []
noncomputable def l0b : Code := (subC [0, 0, 1, 0, 1, 1, 1, 1, 1, 1, 1, 1, 1, 1] body).getD .skip
theorem l0_eq (k : Nat) (At14 : Option Addr) (nt14 : Nat) (ct14 : Nat) (At25 : Option Addr) (nt25 : Nat) (ct25 : Nat) (At103 : Option Addr) (nt103 : Nat) (ct103 : Nat) (xt104 : Int) (xt105 : Int) (Q : PQ) (σ : Fr) (w : World) :
    l0 (k + 1) At14 nt14 ct14 At25 nt25 ct25 At103 nt103 ct103 xt104 xt105 w (fun (Aq25 : Option Addr) (nq25 : Nat) (cq25 : Nat) (w : World) => ∀ d : Fr, Q (.exit 0) (ov d [(2, σ 2), (3, σ 3), (4, σ 4), (5, σ 5), (13, σ 13), (14, .slice At14 nt14 ct14), (16, σ 16), (18, σ 18), (19, σ 19), (20, σ 20), (25, .slice Aq25 nq25 cq25)]) w) (fun (bq12 : Bool) (w : World) => ∀ d : Fr, Q .ret (ov d [(12, .bool bq12)]) w) = codeW Try.prog hT 219 D (tab l0tb) [0, 0, 1, 0, 1, 1, 1, 1, 1, 1, 1, 1, 1, 1] l0b (thenQ (l0Tk k Q) (widen l0LO Q)) (ov σ [(14, .slice At14 nt14 ct14), (25, .slice At25 nt25 ct25), (103, .slice At103 nt103 ct103), (104, .int .i64 xt104), (105, .int .i64 xt105)]) w := by kernel_rfl
theorem l0_snd : ∀ c, subC [0, 1, 0, 1, 1, 1, 1, 1, 1, 1, 1, 1, 1] body = some c → Snd Try.prog 219 c l0T := by
  refine loop_of (hT := hT) (D := D) (l := l0tb) (b := l0b) (lo := l0LO) (by kernel_rfl) (by
    intro x hx
    simp only [l0tb, List.not_mem_nil] at hx
    ) (by kernel_rfl) (by kernel_rfl) ?_ ?_
  · intro Q σ w h
    unfold l0Tk at h
    obtain ⟨At14, nt14, ct14, h14, hn⟩ := gSlice_elim h
    clear h
    have h := hn
    clear hn
    obtain ⟨At25, nt25, ct25, h25, hn⟩ := gSlice_elim h
    clear h
    have h := hn
    clear hn
    obtain ⟨At103, nt103, ct103, h103, hn⟩ := gSlice_elim h
    clear h
    have h := hn
    clear hn
    obtain ⟨xt104, h104, hn⟩ := gInt_elim h
    clear h
    have h := hn
    clear hn
    obtain ⟨xt105, h105, hn⟩ := gInt_elim h
    clear h
    have h := hn
    clear hn
    exact h
  · intro k Q σ w h
    unfold l0Tk at h
    obtain ⟨At14, nt14, ct14, h14, hn⟩ := gSlice_elim h
    clear h
    have h := hn
    clear hn
    obtain ⟨At25, nt25, ct25, h25, hn⟩ := gSlice_elim h
    clear h
    have h := hn
    clear hn
    obtain ⟨At103, nt103, ct103, h103, hn⟩ := gSlice_elim h
    clear h
    have h := hn
    clear hn
    obtain ⟨xt104, h104, hn⟩ := gInt_elim h
    clear h
    have h := hn
    clear hn
    obtain ⟨xt105, h105, hn⟩ := gInt_elim h
    clear h
    have h := hn
    clear hn
    rw [l0_eq (σ := σ)] at h
    have e : (ov σ [(14, .slice At14 nt14 ct14), (25, .slice At25 nt25 ct25), (103, .slice At103 nt103 ct103), (104, .int .i64 xt104), (105, .int .i64 xt105)]) = σ := ov_self (by simp [h14, h25, h103, h104, h105])
    rw [e] at h
    exact h
def j1LO : LO := ⟨[], [12], [], []⟩
def j1T : Spec := fun Q σ w =>
  gInt .i64 (σ 3) fun xt3 =>
  gInt .i64 (σ 4) fun xt4 =>
  gInt .i64 (σ 5) fun xt5 =>
  gPtr (σ 13) fun pt13 =>
  gSlice (σ 14) fun At14 nt14 ct14 =>
  gSlice (σ 16) fun At16 nt16 ct16 =>
  gSlice (σ 18) fun At18 nt18 ct18 =>
  gSlice (σ 20) fun At20 nt20 ct20 =>
  j1 xt3 xt4 xt5 pt13 At14 nt14 ct14 At16 nt16 ct16 At18 nt18 ct18 At20 nt20 ct20 w (fun (bq12 : Bool) (w : World) => ∀ d : Fr, Q .ret (ov d [(12, .bool bq12)]) w)
def j1tb : List (List Nat × Spec) := []
noncomputable def j1b : Code := (subC [1, 1, 1, 1, 1, 1, 1, 1, 1, 1, 1, 1, 1, 1, 1] body).getD .skip
theorem j1_eq (xt3 : Int) (xt4 : Int) (xt5 : Int) (pt13 : Option Addr) (At14 : Option Addr) (nt14 : Nat) (ct14 : Nat) (At16 : Option Addr) (nt16 : Nat) (ct16 : Nat) (At18 : Option Addr) (nt18 : Nat) (ct18 : Nat) (At20 : Option Addr) (nt20 : Nat) (ct20 : Nat) (Q : PQ) (σ : Fr) (w : World) :
    j1 xt3 xt4 xt5 pt13 At14 nt14 ct14 At16 nt16 ct16 At18 nt18 ct18 At20 nt20 ct20 w (fun (bq12 : Bool) (w : World) => ∀ d : Fr, Q .ret (ov d [(12, .bool bq12)]) w) = codeW Try.prog hT 219 D (tab j1tb) [1, 1, 1, 1, 1, 1, 1, 1, 1, 1, 1, 1, 1, 1, 1] j1b (widen j1LO Q) (ov σ [(3, .int .i64 xt3), (4, .int .i64 xt4), (5, .int .i64 xt5), (13, .pointer pt13), (14, .slice At14 nt14 ct14), (16, .slice At16 nt16 ct16), (18, .slice At18 nt18 ct18), (20, .slice At20 nt20 ct20)]) w := by kernel_rfl
theorem j1_snd : ∀ c, subC [1, 1, 1, 1, 1, 1, 1, 1, 1, 1, 1, 1, 1, 1, 1] body = some c → Snd Try.prog 219 c j1T := by
  refine cut_of (hT := hT) (D := D) (l := j1tb) (b := j1b) (lo := j1LO) (by kernel_rfl) (by
    intro x hx
    simp only [j1tb, List.not_mem_nil] at hx
    ) (by kernel_rfl) (by kernel_rfl) ?_
  intro Q σ w h
  unfold j1T at h
  obtain ⟨xt3, h3, hn⟩ := gInt_elim h
  clear h
  have h := hn
  clear hn
  obtain ⟨xt4, h4, hn⟩ := gInt_elim h
  clear h
  have h := hn
  clear hn
  obtain ⟨xt5, h5, hn⟩ := gInt_elim h
  clear h
  have h := hn
  clear hn
  obtain ⟨pt13, h13, hn⟩ := gPtr_elim h
  clear h
  have h := hn
  clear hn
  obtain ⟨At14, nt14, ct14, h14, hn⟩ := gSlice_elim h
  clear h
  have h := hn
  clear hn
  obtain ⟨At16, nt16, ct16, h16, hn⟩ := gSlice_elim h
  clear h
  have h := hn
  clear hn
  obtain ⟨At18, nt18, ct18, h18, hn⟩ := gSlice_elim h
  clear h
  have h := hn
  clear hn
  obtain ⟨At20, nt20, ct20, h20, hn⟩ := gSlice_elim h
  clear h
  have h := hn
  clear hn
  rw [j1_eq (σ := σ)] at h
  have e : (ov σ [(3, .int .i64 xt3), (4, .int .i64 xt4), (5, .int .i64 xt5), (13, .pointer pt13), (14, .slice At14 nt14 ct14), (16, .slice At16 nt16 ct16), (18, .slice At18 nt18 ct18), (20, .slice At20 nt20 ct20)]) = σ := ov_self (by simp [h3, h4, h5, h13, h14, h16, h18, h20])
  rw [e] at h
  exact h
def tb : List (List Nat × Spec) := [([0, 1, 0, 1, 1, 1, 1, 1, 1, 1, 1, 1, 1], l0T), ([1, 1, 1, 1, 1, 1, 1, 1, 1, 1, 1, 1, 1, 1, 1], j1T)]
theorem wp_eq (Aa0 : Option Addr) (na0 : Nat) (ca0 : Nat) (Aa1 : Option Addr) (na1 : Nat) (ca1 : Nat) (xa2 : Int) (xa3 : Int) (xa4 : Int) (xa5 : Int) (w : World) (Q : Ending → World → Prop) :
    wp Aa0 na0 ca0 Aa1 na1 ca1 xa2 xa3 xa4 xa5 w Q = codeW Try.prog hT 219 D (tab tb) [] body (topQ Try.prog hT 219 [.tmp 12] Q) (argsF [.slice Aa0 na0 ca0, .slice Aa1 na1 ca1, .int .i64 xa2, .int .i64 xa3, .int .i64 xa4, .int .i64 xa5]) w := by kernel_rfl
theorem ok (Aa0 : Option Addr) (na0 : Nat) (ca0 : Nat) (Aa1 : Option Addr) (na1 : Nat) (ca1 : Nat) (xa2 : Int) (xa3 : Int) (xa4 : Int) (xa5 : Int) (w : World) (Q : Ending → World → Prop) (h : wp Aa0 na0 ca0 Aa1 na1 ca1 xa2 xa3 xa4 xa5 w Q) : Calls Try.prog 3 #[.slice Aa0 na0 ca0, .slice Aa1 na1 ca1, .int .i64 xa2, .int .i64 xa3, .int .i64 xa4, .int .i64 xa5] w Q := by
  rw [wp_eq] at h
  exact calls_of_codeW (c := body) (rs := [.tmp 12]) Try.func3 (by kernel_rfl) (by kernel_rfl) (by kernel_rfl) (by kernel_rfl) (by kernel_rfl) (tab_snd (by
    intro x hx
    simp only [tb, List.mem_cons, List.not_mem_nil, or_false] at hx
    rcases hx with rfl | rfl
    · exact l0_snd
    · exact j1_snd)) (by kernel_rfl) h
end f_law16_EulerBack
end Go.Proofs.Ytkkobfajahmfaaa.Rd
