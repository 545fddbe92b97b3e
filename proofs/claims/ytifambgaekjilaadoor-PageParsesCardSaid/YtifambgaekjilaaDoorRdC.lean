/- The printed readings of some functions: each function's code reckoned by the kernel to its predicate transformer. -/
import Derived.Test.YtifambgaekjilaaDoorHint
namespace Go.Proofs.YtifambgaekjilaaDoor.Rd
open Go.Dn
set_option maxRecDepth 100000
set_option linter.unusedVariables false
namespace f_law08_alive
/-! skein/skeinlaw08.alive: function 7 -/
noncomputable def body : Code := (Tryd.f7.body).getD .skip
def wp  (w : World) (Q : Ending → World → Prop) : Prop :=
  Calls Tryd.prog 28 #[.int .i64 (1 : Int), .int .u32 (7 : Int)] w fun e1 w2 => ∃ (p3 : Option Addr), e1 = .returned (.pointer p3) ∧ (
  sel p3.isNone (
  Q (.returned (.bool false)) w2) (
  Calls Tryd.prog 18 #[.pointer p3] w2 fun e4 w5 => ∃ (x6 : Int), e4 = .returned (.int .i64 x6) ∧ (
  sel (x6 != (200 : Int)) (
  Q (.returned (.bool false)) w5) (
  alW w5 (.cells #[.int .u8 (98 : Int)] 5) fun B7 w8 =>
  Runs Tryd.prog (Go.convert 22 22 (.slice (some (⟨B7, 0, Option.none⟩ : Addr)) 1 1)) w8 fun v10 w9 => ∃ (A11 : Option Addr) (n11 : Nat) (c11 : Nat), v10 = (.slice A11 n11 c11) ∧ (
  Calls Tryd.prog 20 #[.pointer p3, .int .i64 (0 : Int), .slice A11 n11 c11] w9 fun e12 w13 => ∃ (x14 : Int), e12 = .returned (.int .i64 x14) ∧ (
  sel (x14 != (0 : Int)) (
  Q (.returned (.bool false)) w13) (
  alW w13 (.cells #[.int .u8 (97 : Int)] 5) fun B15 w16 =>
  Runs Tryd.prog (Go.convert 22 22 (.slice (some (⟨B15, 0, Option.none⟩ : Addr)) 1 1)) w16 fun v18 w17 => ∃ (A19 : Option Addr) (n19 : Nat) (c19 : Nat), v18 = (.slice A19 n19 c19) ∧ (
  Calls Tryd.prog 20 #[.pointer p3, .int .i64 (0 : Int), .slice A19 n19 c19] w17 fun e20 w21 => ∃ (x22 : Int), e20 = .returned (.int .i64 x22) ∧ (
  sel (x22 != (0 : Int)) (
  Q (.returned (.bool false)) w21) (
  Calls Tryd.prog 19 #[.pointer p3] w21 fun e23 w24 => ∃ (x25 : Int), e23 = .returned (.int .i64 x25) ∧ (
  sel (x25 != (2 : Int)) (
  Q (.returned (.bool false)) w24) (
  Calls Tryd.prog 21 #[.pointer p3, .int .i64 (1 : Int)] w24 fun e26 w27 => ∃ (A28_0 : Option Addr) (n28_0 : Nat) (c28_0 : Nat) (x28_1 : Int), e26 = .returned (.tuple #[.slice A28_0 n28_0 c28_0, .int .i64 x28_1]) ∧ (
  Calls Tryd.prog 15 #[.pointer p3] w27 fun e29 w30 => ∃ (A31 : Option Addr) (n31 : Nat) (c31 : Nat), e29 = .returned (.slice A31 n31 c31) ∧ (
  Calls Tryd.prog 9 #[.slice A31 n31 c31] w30 fun e32 w33 => ∃ (p34_0 : Option Addr) (x34_1 : Int), e32 = .returned (.tuple #[.pointer p34_0, .int .i64 x34_1]) ∧ (
  sel (x28_1 == (0 : Int)) (
  Runs Tryd.prog (Go.convert 22 9 (.slice A28_0 n28_0 c28_0)) w33 fun v36 w35 => ∃ (s37 : ByteArray), v36 = (.string s37) ∧ (
  sel (s37.toList == (⟨#[98]⟩ : ByteArray).toList) (
  sel ((n31 : Int) == (512 : Int)) (
  optB A31 fun a38 =>
  req (decide (0 ≤ (17 : Int) ∧ (17 : Int) < (n31 : Int))) <|
  ldI w35 (a38.add ((17 : Int).toNat * 1)) .u8 fun x39 =>
  sel (x39 == (2 : Int)) (
  req (decide (0 ≤ (22 : Int) ∧ (22 : Int) ≤ (c31 : Int))) <|
  alW w35 (.cells #[.int .u8 (255 : Int), .int .u8 (1 : Int), .int .u8 (254 : Int), .int .u8 (1 : Int)] 5) fun B40 w41 =>
  Calls Tryd.prog 14 #[.slice (slA A31 18 c31 1) (22 - 18) (c31 - 18), .slice (some (⟨B40, 0, Option.none⟩ : Addr)) 4 4] w41 fun e42 w43 => ∃ (b44 : Bool), e42 = .returned (.bool b44) ∧ (
  sel b44 (
  req (decide (0 ≤ (510 : Int) ∧ (510 : Int) ≤ (n31 : Int))) <|
  Runs Tryd.prog (Go.convert 22 9 (.slice (slA A31 510 c31 1) (n31 - 510) (c31 - 510))) w43 fun v46 w45 => ∃ (s47 : ByteArray), v46 = (.string s47) ∧ (
  sel (s47.toList == (⟨#[98, 97]⟩ : ByteArray).toList) (
  sel (x34_1 == (0 : Int)) (
  sel (!p34_0.isNone) (
  Calls Tryd.prog 29 #[.pointer p34_0] w45 fun e48 w49 => ∃ (x50 : Int), e48 = .returned (.int .i64 x50) ∧ (
  sel (x50 == (1 : Int)) (
  Calls Tryd.prog 27 #[.pointer p34_0] w49 fun e51 w52 => ∃ (x53 : Int), e51 = .returned (.int .u32 x53) ∧ (
  Q (.returned (.bool (x53 == (7 : Int)))) w52)) (
  Q (.returned (.bool false)) w49))) (
  Q (.returned (.bool false)) w45)) (
  Q (.returned (.bool false)) w45)) (
  Q (.returned (.bool false)) w45))) (
  Q (.returned (.bool false)) w43))) (
  Q (.returned (.bool false)) w35)) (
  Q (.returned (.bool false)) w35)) (
  Q (.returned (.bool false)) w35))) (
  Q (.returned (.bool false)) w33))))))))))))))))
def D : Nat → Option DH := dtab []
def tb : List (List Nat × Spec) := []
theorem wp_eq  (w : World) (Q : Ending → World → Prop) :
    wp  w Q = codeW Tryd.prog hT 94 D (tab tb) [] body (topQ Tryd.prog hT 94 [.tmp 0] Q) (argsF []) w := by kernel_rfl
theorem ok  (w : World) (Q : Ending → World → Prop) (h : wp  w Q) : Calls Tryd.prog 7 #[] w Q := by
  rw [wp_eq] at h
  exact calls_of_codeW (c := body) (rs := [.tmp 0]) Tryd.func7 (by kernel_rfl) (by kernel_rfl) (by kernel_rfl) (by kernel_rfl) (by kernel_rfl) (tab_snd (by
    intro x hx
    simp only [tb, List.not_mem_nil] at hx
    )) (by kernel_rfl) h
end f_law08_alive
namespace f_ref08_Parse
/-! skein/skeinref08.Parse: function 10 -/
noncomputable def body : Code := (Tryd.f10.body).getD .skip
def od6 : OD := ⟨[0], [1, 4, 5, 7, 10, 11], fun i => ([⟨false, [], [], fun ps vs => match ps, vs with | [.slice Ap0 np0 cp0], [] => .slice Ap0 np0 cp0 | _, _ => undef⟩,
  ⟨true, [], [0], fun _ _ => undef⟩,
  ⟨false, [1], [1], fun ps vs => match ps, vs with | [.slice Ap0 np0 cp0], [.int _ xe1] => .int .i64 (IntKind.i64.wrap xe1) | _, _ => undef⟩,
  ⟨false, [], [], fun ps vs => match ps, vs with | [.slice Ap0 np0 cp0], [] => .slice Ap0 np0 cp0 | _, _ => undef⟩,
  ⟨true, [], [3], fun _ _ => undef⟩,
  ⟨true, [4], [4], fun _ _ => undef⟩,
  ⟨false, [], [], fun ps vs => match ps, vs with | [.slice Ap0 np0 cp0], [] => .slice Ap0 np0 cp0 | _, _ => undef⟩,
  ⟨true, [1], [6], fun _ _ => undef⟩,
  ⟨false, [1, 7], [7], fun ps vs => match ps, vs with | [.slice Ap0 np0 cp0], [.int _ xe1, .int _ xe7] => .int .u32 (IntKind.u32.wrap xe7) | _, _ => undef⟩,
  ⟨false, [1, 4, 5, 7], [2, 5, 8], fun ps vs => match ps, vs with | [.slice Ap0 np0 cp0], [.int _ xe1, .pointer (some ae4), .int _ xe5, .int _ xe7] => .agg #[.int .i64 (IntKind.i64.wrap xe1), .int .u8 xe5, .int .u32 (IntKind.u32.wrap xe7), .slice none 0 0] | _, _ => undef⟩,
  ⟨true, [], [], fun _ _ => undef⟩,
  ⟨true, [1, 4, 5, 7, 10], [9, 10], fun _ _ => undef⟩] : List OI).getD i ⟨true, [], [], fun _ _ => undef⟩, fun i => ([.one (.sc .any), (.one (.sc (.int .u64))), .one (.sc .any), .one (.sc .any), (.one (.sc .ad)), (.one (.sc (.int .u8))), .one (.sc .any), (.one (.sc (.int .u64))), .one (.sc .any), .one (.sc .any), (.one (.sc .ad)), (.tup [])] : List OS).getD i (.one (.sc .any))⟩
def h6 (Ap0 : Option Addr) (np0 : Nat) (cp0 : Nat) : Prop :=
  (∀ (_ : Fr) (w : World),
  w = w ∧ (.slice Ap0 np0 cp0 : Value) = (.slice Ap0 np0 cp0)) ∧
  (∀ (_ : Fr) (w : World),
  ∀ (xe1 : Int),
  w = w ∧ (.int .i64 (IntKind.i64.wrap xe1) : Value) = (.int .i64 (IntKind.i64.wrap xe1))) ∧
  (∀ (_ : Fr) (w : World),
  w = w ∧ (.slice Ap0 np0 cp0 : Value) = (.slice Ap0 np0 cp0)) ∧
  (∀ (_ : Fr) (w : World),
  w = w ∧ (.slice Ap0 np0 cp0 : Value) = (.slice Ap0 np0 cp0)) ∧
  (∀ (_ : Fr) (w : World),
  ∀ (xe1 : Int),
  ∀ (xe7 : Int),
  w = w ∧ (.int .u32 (IntKind.u32.wrap xe7) : Value) = (.int .u32 (IntKind.u32.wrap xe7))) ∧
  (∀ (_ : Fr) (w : World),
  ∀ (xe1 : Int),
  ∀ (ae4 : Addr),
  ∀ (xe5 : Int),
  ∀ (xe7 : Int),
  w = w ∧ (.agg #[.int .i64 (IntKind.i64.wrap xe1), .int .u8 xe5, .int .u32 (IntKind.u32.wrap xe7), .slice none 0 0] : Value) = (.agg #[.int .i64 (IntKind.i64.wrap xe1), .int .u8 xe5, .int .u32 (IntKind.u32.wrap xe7), .slice none 0 0])) ∧
  True
theorem h6_ok (Ap0 : Option Addr) (np0 : Nat) (cp0 : Nat) : h6 Ap0 np0 cp0 := ⟨fun _ w => ⟨rfl, rfl⟩, fun _ w _ => ⟨rfl, rfl⟩, fun _ w => ⟨rfl, rfl⟩, fun _ w => ⟨rfl, rfl⟩, fun _ w _ _ => ⟨rfl, rfl⟩, fun _ w _ _ _ _ => ⟨rfl, rfl⟩, trivial⟩
def l0 : Nat → Option Addr → Nat → Nat → Addr → Addr → Int → Int → Int → World → (Int → World → Prop) → (Bool → World → Prop) → Prop
  | 0, _, _, _, _, _, _, _, _, _, _, _ => False
  | k + 1, At0, nt0, ct0, at2, at6, xt7, xt8, xt9, w, K0, Kr =>
    sel (decide (xt9 < xt7)) (
    Calls Tryd.prog 36 #[.slice At0 nt0 ct0, .int .i64 (IntKind.i64.wrap ((18 : Int) + (IntKind.i64.wrap ((2 : Int) * xt9)))), .int .i64 (2 : Int)] w fun e88 w89 => ∃ (x90 : Int), e88 = .returned (.int .u64 x90) ∧ (
    sel (decide ((IntKind.i64.wrap x90) > xt8)) (
    stW w89 at2 (.int .i64 (0 : Int)) fun w91 =>
    stW w91 (at2.add 1) (.int .u8 (0 : Int)) fun w92 =>
    stW w92 (at2.add 2) (.int .u32 (0 : Int)) fun w93 =>
    stW w93 (at2.add 3) (.slice none 0 0) fun w94 =>
    Kr false w94) (
    sel (decide ((IntKind.i64.wrap x90) < (IntKind.i64.wrap ((18 : Int) + (IntKind.i64.wrap ((2 : Int) * xt7)))))) (
    stW w89 at2 (.int .i64 (0 : Int)) fun w95 =>
    stW w95 (at2.add 1) (.int .u8 (0 : Int)) fun w96 =>
    stW w96 (at2.add 2) (.int .u32 (0 : Int)) fun w97 =>
    stW w97 (at2.add 3) (.slice none 0 0) fun w98 =>
    Kr false w98) (
    sel (decide ((IntKind.i64.wrap (xt8 - (IntKind.i64.wrap x90))) > (200 : Int))) (
    stW w89 at2 (.int .i64 (0 : Int)) fun w99 =>
    stW w99 (at2.add 1) (.int .u8 (0 : Int)) fun w100 =>
    stW w100 (at2.add 2) (.int .u32 (0 : Int)) fun w101 =>
    stW w101 (at2.add 3) (.slice none 0 0) fun w102 =>
    Kr false w102) (
    drW w89 fun w103 =>
    ∃ S104 : World → Prop, S104 w103 ∧ (
    hdS S104 (at6.add 3) fun A105 n105 c105 =>
    Calls Tryd.prog 37 #[.slice At0 nt0 ct0, .int .i64 (IntKind.i64.wrap x90), .int .i64 xt8] w103 fun e106 w107 => ∃ (A108 : Option Addr) (n108 : Nat) (c108 : Nat), e106 = .returned (.slice A108 n108 c108) ∧ (
    S104 w107 ∧ (
    alW w107 (.cells #[.slice A108 n108 c108] 22) fun B109 w110 =>
    S104 w110 ∧ (
    Runs Tryd.prog (Builtin.append_ #[30, 30] 30 #[.slice A105 n105 c105, .slice (some (⟨B109, 0, Option.none⟩ : Addr)) 1 1]) w110 fun v112 w111 => ∃ (A113 : Option Addr) (n113 : Nat) (c113 : Nat), v112 = (.slice A113 n113 c113) ∧ (
    stW w111 (at6.add 3) (.slice A113 n113 c113) fun w114 =>
    l0 k At0 nt0 ct0 at2 at6 xt7 (IntKind.i64.wrap x90) (IntKind.i64.wrap (xt9 + (1 : Int))) w114 K0 Kr)))))))))) (
    K0 xt8 w)
def l1 : Nat → Option Addr → Nat → Nat → Addr → Int → Int → World → (World → Prop) → (Bool → World → Prop) → Prop
  | 0, _, _, _, _, _, _, _, _, _ => False
  | k + 1, At0, nt0, ct0, at2, xt8, xt11, w, K2, Kr =>
    sel (decide (xt11 < xt8)) (
    optB At0 fun a117 =>
    req (decide (0 ≤ xt11 ∧ xt11 < (nt0 : Int))) <|
    ldI w (a117.add (xt11.toNat * 1)) .u8 fun x118 =>
    sel (x118 != (0 : Int)) (
    stW w at2 (.int .i64 (0 : Int)) fun w119 =>
    stW w119 (at2.add 1) (.int .u8 (0 : Int)) fun w120 =>
    stW w120 (at2.add 2) (.int .u32 (0 : Int)) fun w121 =>
    stW w121 (at2.add 3) (.slice none 0 0) fun w122 =>
    Kr false w122) (
    l1 k At0 nt0 ct0 at2 xt8 (IntKind.i64.wrap (xt11 + (1 : Int))) w K2 Kr)) (
    K2  w)
def wp (Aa0 : Option Addr) (na0 : Nat) (ca0 : Nat) (w : World) (Q : Ending → World → Prop) : Prop :=
  alW w (.cells #[.int .i64 (0 : Int), .int .u8 (0 : Int), .int .u32 (0 : Int), .slice none 0 0] 32) fun B1 w2 =>
  sel ((na0 : Int) != (512 : Int)) (
  stW w2 (⟨B1, 0, Option.none⟩ : Addr) (.int .i64 (0 : Int)) fun w3 =>
  stW w3 ((⟨B1, 0, Option.none⟩ : Addr).add 1) (.int .u8 (0 : Int)) fun w4 =>
  stW w4 ((⟨B1, 0, Option.none⟩ : Addr).add 2) (.int .u32 (0 : Int)) fun w5 =>
  stW w5 ((⟨B1, 0, Option.none⟩ : Addr).add 3) (.slice none 0 0) fun w6 =>
  ldI w6 (⟨B1, 0, Option.none⟩ : Addr) .i64 fun x7 =>
  ldI w6 ((⟨B1, 0, Option.none⟩ : Addr).add 1) .u8 fun x8 =>
  ldI w6 ((⟨B1, 0, Option.none⟩ : Addr).add 2) .u32 fun x9 =>
  ldS w6 ((⟨B1, 0, Option.none⟩ : Addr).add 3) fun A10 n10 c10 =>
  Q (.returned (.tuple #[.agg #[.int .i64 x7, .int .u8 x8, .int .u32 x9, .slice A10 n10 c10], .bool false])) w6) (
  Calls Tryd.prog 35 #[.slice Aa0 na0 ca0] w2 fun e11 w12 => ∃ (A13_0 : Option Addr) (n13_0 : Nat) (c13_0 : Nat) (b13_1 : Bool), e11 = .returned (.tuple #[.slice A13_0 n13_0 c13_0, .bool b13_1]) ∧ (
  sel (!b13_1) (
  stW w12 (⟨B1, 0, Option.none⟩ : Addr) (.int .i64 (0 : Int)) fun w14 =>
  stW w14 ((⟨B1, 0, Option.none⟩ : Addr).add 1) (.int .u8 (0 : Int)) fun w15 =>
  stW w15 ((⟨B1, 0, Option.none⟩ : Addr).add 2) (.int .u32 (0 : Int)) fun w16 =>
  stW w16 ((⟨B1, 0, Option.none⟩ : Addr).add 3) (.slice none 0 0) fun w17 =>
  ldI w17 (⟨B1, 0, Option.none⟩ : Addr) .i64 fun x18 =>
  ldI w17 ((⟨B1, 0, Option.none⟩ : Addr).add 1) .u8 fun x19 =>
  ldI w17 ((⟨B1, 0, Option.none⟩ : Addr).add 2) .u32 fun x20 =>
  ldS w17 ((⟨B1, 0, Option.none⟩ : Addr).add 3) fun A21 n21 c21 =>
  Q (.returned (.tuple #[.agg #[.int .i64 x18, .int .u8 x19, .int .u32 x20, .slice A21 n21 c21], .bool false])) w17) (
  optB Aa0 fun a22 =>
  req (decide (0 ≤ (11 : Int) ∧ (11 : Int) < (na0 : Int))) <|
  ldI w12 (a22.add ((11 : Int).toNat * 1)) .u8 fun x23 =>
  sel (decide (x23 > (127 : Int))) (
  stW w12 (⟨B1, 0, Option.none⟩ : Addr) (.int .i64 (0 : Int)) fun w24 =>
  stW w24 ((⟨B1, 0, Option.none⟩ : Addr).add 1) (.int .u8 (0 : Int)) fun w25 =>
  stW w25 ((⟨B1, 0, Option.none⟩ : Addr).add 2) (.int .u32 (0 : Int)) fun w26 =>
  stW w26 ((⟨B1, 0, Option.none⟩ : Addr).add 3) (.slice none 0 0) fun w27 =>
  ldI w27 (⟨B1, 0, Option.none⟩ : Addr) .i64 fun x28 =>
  ldI w27 ((⟨B1, 0, Option.none⟩ : Addr).add 1) .u8 fun x29 =>
  ldI w27 ((⟨B1, 0, Option.none⟩ : Addr).add 2) .u32 fun x30 =>
  ldS w27 ((⟨B1, 0, Option.none⟩ : Addr).add 3) fun A31 n31 c31 =>
  Q (.returned (.tuple #[.agg #[.int .i64 x28, .int .u8 x29, .int .u32 x30, .slice A31 n31 c31], .bool false])) w27) (
  optB Aa0 fun a32 =>
  req (decide (0 ≤ (17 : Int) ∧ (17 : Int) < (na0 : Int))) <|
  ldI w12 (a32.add ((17 : Int).toNat * 1)) .u8 fun x33 =>
  sel (decide (x33 > (100 : Int))) (
  stW w12 (⟨B1, 0, Option.none⟩ : Addr) (.int .i64 (0 : Int)) fun w34 =>
  stW w34 ((⟨B1, 0, Option.none⟩ : Addr).add 1) (.int .u8 (0 : Int)) fun w35 =>
  stW w35 ((⟨B1, 0, Option.none⟩ : Addr).add 2) (.int .u32 (0 : Int)) fun w36 =>
  stW w36 ((⟨B1, 0, Option.none⟩ : Addr).add 3) (.slice none 0 0) fun w37 =>
  ldI w37 (⟨B1, 0, Option.none⟩ : Addr) .i64 fun x38 =>
  ldI w37 ((⟨B1, 0, Option.none⟩ : Addr).add 1) .u8 fun x39 =>
  ldI w37 ((⟨B1, 0, Option.none⟩ : Addr).add 2) .u32 fun x40 =>
  ldS w37 ((⟨B1, 0, Option.none⟩ : Addr).add 3) fun A41 n41 c41 =>
  Q (.returned (.tuple #[.agg #[.int .i64 x38, .int .u8 x39, .int .u32 x40, .slice A41 n41 c41], .bool false])) w37) (
  drW w12 fun w42 =>
  h6 Aa0 na0 ca0 ∧
  ∃ (I43 : (Nat → Bool) → (Nat → Value) → World → Prop), I43 (fun _ => false) (fun _ => undef) w42 ∧ (
  (∀ (_ : Fr) (ls : Nat → Bool) (vv : Nat → Value) (w65 : World), ls 1 = false → I43 ls vv w65 →
  (
  Calls Tryd.prog 36 #[.slice Aa0 na0 ca0, .int .i64 (4 : Int), .int .i64 (8 : Int)] w65 fun e66 w67 => ∃ (x68 : Int), e66 = .returned (.int .u64 x68) ∧ (
  I43 (upB ls 1) (upV vv 1 (.int .u64 x68)) w67))) ∧
  (∀ (_ : Fr) (ls : Nat → Bool) (vv : Nat → Value) (w69 : World), ls 4 = false → I43 ls vv w69 →
  (
  optB Aa0 fun a70 =>
  req (decide (0 ≤ (12 : Int) ∧ (12 : Int) < (na0 : Int))) <|
  I43 (upB ls 4) (upV vv 4 (.pointer (some (a70.add ((12 : Int).toNat * 1))))) w69)) ∧
  (∀ (_ : Fr) (ls : Nat → Bool) (vv : Nat → Value) (w71 : World), ls 5 = false → I43 ls vv w71 →
  ∀ (ae4 : Addr),
  (ls 4 = true ∧ vv 4 = .pointer (some ae4)) →
  (
  ldI w71 ae4 .u8 fun x72 =>
  I43 (upB ls 5) (upV vv 5 (.int .u8 x72)) w71)) ∧
  (∀ (_ : Fr) (ls : Nat → Bool) (vv : Nat → Value) (w73 : World), ls 7 = false → I43 ls vv w73 →
  ∀ (xe1 : Int),
  (ls 1 = true ∧ vv 1 = .int .u64 xe1) →
  (
  Calls Tryd.prog 36 #[.slice Aa0 na0 ca0, .int .i64 (13 : Int), .int .i64 (4 : Int)] w73 fun e74 w75 => ∃ (x76 : Int), e74 = .returned (.int .u64 x76) ∧ (
  I43 (upB ls 7) (upV vv 7 (.int .u64 x76)) w75))) ∧
  (∀ (_ : Fr) (ls : Nat → Bool) (vv : Nat → Value) (w77 : World), ls 10 = false → I43 ls vv w77 →
  (
  alW w77 (.cells #[.int .i64 (0 : Int), .int .u8 (0 : Int), .int .u32 (0 : Int), .slice none 0 0] 32) fun B78 w79 =>
  I43 (upB ls 10) (upV vv 10 (.pointer (some (⟨B78, 0, Option.none⟩ : Addr)))) w79)) ∧
  (∀ (_ : Fr) (ls : Nat → Bool) (vv : Nat → Value) (w80 : World), ls 11 = false → I43 ls vv w80 →
  ∀ (xe1 : Int),
  (ls 1 = true ∧ vv 1 = .int .u64 xe1) →
  ∀ (ae4 : Addr),
  (ls 4 = true ∧ vv 4 = .pointer (some ae4)) →
  ∀ (xe5 : Int),
  (ls 5 = true ∧ vv 5 = .int .u8 xe5) →
  ∀ (xe7 : Int),
  (ls 7 = true ∧ vv 7 = .int .u64 xe7) →
  ∀ (ae10 : Addr),
  (ls 10 = true ∧ vv 10 = .pointer (some ae10)) →
  (
  stW w80 ae10 (.int .i64 (IntKind.i64.wrap xe1)) fun w81 =>
  stW w81 (ae10.add 1) (.int .u8 xe5) fun w82 =>
  stW w82 (ae10.add 2) (.int .u32 (IntKind.u32.wrap xe7)) fun w83 =>
  stW w83 (ae10.add 3) (.slice none 0 0) fun w84 =>
  I43 (upB ls 11) (upV vv 11 (.tuple #[])) w84)) ∧ True) ∧
  ∀ (ls : Nat → Bool) (vv : Nat → Value) (w85 : World), I43 ls vv w85 →
  ∀ (xe1 : Int),
  (ls 1 = true ∧ vv 1 = .int .u64 xe1) →
  ∀ (ae4 : Addr),
  (ls 4 = true ∧ vv 4 = .pointer (some ae4)) →
  ∀ (xe5 : Int),
  (ls 5 = true ∧ vv 5 = .int .u8 xe5) →
  ∀ (xe7 : Int),
  (ls 7 = true ∧ vv 7 = .int .u64 xe7) →
  ∀ (ae10 : Addr),
  (ls 10 = true ∧ vv 10 = .pointer (some ae10)) →
  (ls 11 = true ∧ vv 11 = .tuple #[]) →
  (
  optB Aa0 fun a86 =>
  req (decide (0 ≤ (17 : Int) ∧ (17 : Int) < (na0 : Int))) <|
  ldI w85 (a86.add ((17 : Int).toNat * 1)) .u8 fun x87 =>
  ∃ k149 : Nat, l0 k149 Aa0 na0 ca0 (⟨B1, 0, Option.none⟩ : Addr) ae10 (IntKind.i64.wrap x87) (512 : Int) (0 : Int) w85 (fun (x115 : Int) (w116 : World) => ∀ _ : Fr,
  ∃ k142 : Nat, l1 k142 Aa0 na0 ca0 (⟨B1, 0, Option.none⟩ : Addr) x115 (IntKind.i64.wrap ((18 : Int) + (IntKind.i64.wrap ((2 : Int) * (IntKind.i64.wrap x87))))) w116 (fun (w123 : World) => ∀ _ : Fr,
  ldI w123 ae10 .i64 fun x124 =>
  ldI w123 (ae10.add 1) .u8 fun x125 =>
  ldI w123 (ae10.add 2) .u32 fun x126 =>
  ldS w123 (ae10.add 3) fun A127 n127 c127 =>
  stW w123 (⟨B1, 0, Option.none⟩ : Addr) (.int .i64 x124) fun w128 =>
  stW w128 ((⟨B1, 0, Option.none⟩ : Addr).add 1) (.int .u8 x125) fun w129 =>
  stW w129 ((⟨B1, 0, Option.none⟩ : Addr).add 2) (.int .u32 x126) fun w130 =>
  stW w130 ((⟨B1, 0, Option.none⟩ : Addr).add 3) (.slice A127 n127 c127) fun w131 =>
  ldI w131 (⟨B1, 0, Option.none⟩ : Addr) .i64 fun x132 =>
  ldI w131 ((⟨B1, 0, Option.none⟩ : Addr).add 1) .u8 fun x133 =>
  ldI w131 ((⟨B1, 0, Option.none⟩ : Addr).add 2) .u32 fun x134 =>
  ldS w131 ((⟨B1, 0, Option.none⟩ : Addr).add 3) fun A135 n135 c135 =>
  Q (.returned (.tuple #[.agg #[.int .i64 x132, .int .u8 x133, .int .u32 x134, .slice A135 n135 c135], .bool true])) w131) (fun (b136 : Bool) (w137 : World) => ∀ _ : Fr,
  ldI w137 (⟨B1, 0, Option.none⟩ : Addr) .i64 fun x138 =>
  ldI w137 ((⟨B1, 0, Option.none⟩ : Addr).add 1) .u8 fun x139 =>
  ldI w137 ((⟨B1, 0, Option.none⟩ : Addr).add 2) .u32 fun x140 =>
  ldS w137 ((⟨B1, 0, Option.none⟩ : Addr).add 3) fun A141 n141 c141 =>
  Q (.returned (.tuple #[.agg #[.int .i64 x138, .int .u8 x139, .int .u32 x140, .slice A141 n141 c141], .bool b136])) w137)) (fun (b143 : Bool) (w144 : World) => ∀ _ : Fr,
  ldI w144 (⟨B1, 0, Option.none⟩ : Addr) .i64 fun x145 =>
  ldI w144 ((⟨B1, 0, Option.none⟩ : Addr).add 1) .u8 fun x146 =>
  ldI w144 ((⟨B1, 0, Option.none⟩ : Addr).add 2) .u32 fun x147 =>
  ldS w144 ((⟨B1, 0, Option.none⟩ : Addr).add 3) fun A148 n148 c148 =>
  Q (.returned (.tuple #[.agg #[.int .i64 x145, .int .u8 x146, .int .u32 x147, .slice A148 n148 c148], .bool b143])) w144)))))))
def D : Nat → Option DH := dtab [(6, .opi od6), (15, .held [.fst 0, .fst 1, .fst 2, .fst 3, .fst 4, .eff 5, .eff 6] [.eff 7, .fst 8, .eff 9])]
def l0LO : LO := ⟨[], [2, 3], [(0, [0, 2, 6, 7, 8])], []⟩
def l0Tk (k : Nat) : Spec := fun Q σ w =>
  gSlice (σ 0) fun At0 nt0 ct0 =>
  gAd (σ 2) fun at2 =>
  gAd (σ 6) fun at6 =>
  gInt .i64 (σ 7) fun xt7 =>
  gInt .i64 (σ 8) fun xt8 =>
  gInt .i64 (σ 9) fun xt9 =>
  l0 k At0 nt0 ct0 at2 at6 xt7 xt8 xt9 w (fun (xq8 : Int) (w : World) => ∀ d : Fr, Q (.exit 0) (ov d [(0, .slice At0 nt0 ct0), (2, .pointer (some at2)), (6, .pointer (some at6)), (7, .int .i64 xt7), (8, .int .i64 xq8)]) w) (fun (bq3 : Bool) (w : World) => ∀ d : Fr, Q .ret (ov d [(2, .pointer (some at2)), (3, .bool bq3)]) w)
def l0T : Spec := fun Q σ w => ∃ k, l0Tk k Q σ w
def l0tb : List (List Nat × Spec) := []
noncomputable def l0b : Code := (subC [0, 0, 1, 0, 1, 1, 1, 1, 1, 1, 1] body).getD .skip
theorem l0_eq (k : Nat) (At0 : Option Addr) (nt0 : Nat) (ct0 : Nat) (at2 : Addr) (at6 : Addr) (xt7 : Int) (xt8 : Int) (xt9 : Int) (Q : PQ) (σ : Fr) (w : World) :
    l0 (k + 1) At0 nt0 ct0 at2 at6 xt7 xt8 xt9 w (fun (xq8 : Int) (w : World) => ∀ d : Fr, Q (.exit 0) (ov d [(0, .slice At0 nt0 ct0), (2, .pointer (some at2)), (6, .pointer (some at6)), (7, .int .i64 xt7), (8, .int .i64 xq8)]) w) (fun (bq3 : Bool) (w : World) => ∀ d : Fr, Q .ret (ov d [(2, .pointer (some at2)), (3, .bool bq3)]) w) = codeW Tryd.prog hT 103 D (tab l0tb) [0, 0, 1, 0, 1, 1, 1, 1, 1, 1, 1] l0b (thenQ (l0Tk k Q) (widen l0LO Q)) (ov σ [(0, .slice At0 nt0 ct0), (2, .pointer (some at2)), (6, .pointer (some at6)), (7, .int .i64 xt7), (8, .int .i64 xt8), (9, .int .i64 xt9)]) w := by kernel_rfl
theorem l0_snd : ∀ c, subC [0, 1, 0, 1, 1, 1, 1, 1, 1, 1] body = some c → Snd Tryd.prog 103 c l0T := by
  refine loop_of (hT := hT) (D := D) (l := l0tb) (b := l0b) (lo := l0LO) (by kernel_rfl) (by
    intro x hx
    simp only [l0tb, List.not_mem_nil] at hx
    ) (by kernel_rfl) (by kernel_rfl) ?_ ?_
  · intro Q σ w h
    unfold l0Tk at h
    obtain ⟨At0, nt0, ct0, h0, hn⟩ := gSlice_elim h
    clear h
    have h := hn
    clear hn
    obtain ⟨at2, h2, hn⟩ := gAd_elim h
    clear h
    have h := hn
    clear hn
    obtain ⟨at6, h6, hn⟩ := gAd_elim h
    clear h
    have h := hn
    clear hn
    obtain ⟨xt7, h7, hn⟩ := gInt_elim h
    clear h
    have h := hn
    clear hn
    obtain ⟨xt8, h8, hn⟩ := gInt_elim h
    clear h
    have h := hn
    clear hn
    obtain ⟨xt9, h9, hn⟩ := gInt_elim h
    clear h
    have h := hn
    clear hn
    exact h
  · intro k Q σ w h
    unfold l0Tk at h
    obtain ⟨At0, nt0, ct0, h0, hn⟩ := gSlice_elim h
    clear h
    have h := hn
    clear hn
    obtain ⟨at2, h2, hn⟩ := gAd_elim h
    clear h
    have h := hn
    clear hn
    obtain ⟨at6, h6, hn⟩ := gAd_elim h
    clear h
    have h := hn
    clear hn
    obtain ⟨xt7, h7, hn⟩ := gInt_elim h
    clear h
    have h := hn
    clear hn
    obtain ⟨xt8, h8, hn⟩ := gInt_elim h
    clear h
    have h := hn
    clear hn
    obtain ⟨xt9, h9, hn⟩ := gInt_elim h
    clear h
    have h := hn
    clear hn
    rw [l0_eq (σ := σ)] at h
    have e : (ov σ [(0, .slice At0 nt0 ct0), (2, .pointer (some at2)), (6, .pointer (some at6)), (7, .int .i64 xt7), (8, .int .i64 xt8), (9, .int .i64 xt9)]) = σ := ov_self (by simp [h0, h2, h6, h7, h8, h9])
    rw [e] at h
    exact h
def l1LO : LO := ⟨[], [2, 3], [(2, [2, 6])], []⟩
def l1Tk (k : Nat) : Spec := fun Q σ w =>
  gSlice (σ 0) fun At0 nt0 ct0 =>
  gAd (σ 2) fun at2 =>
  gInt .i64 (σ 8) fun xt8 =>
  gInt .i64 (σ 11) fun xt11 =>
  l1 k At0 nt0 ct0 at2 xt8 xt11 w (fun (w : World) => ∀ d : Fr, Q (.exit 2) (ov d [(2, .pointer (some at2)), (6, σ 6)]) w) (fun (bq3 : Bool) (w : World) => ∀ d : Fr, Q .ret (ov d [(2, .pointer (some at2)), (3, .bool bq3)]) w)
def l1T : Spec := fun Q σ w => ∃ k, l1Tk k Q σ w
def l1tb : List (List Nat × Spec) := []
noncomputable def l1b : Code := (subC [0, 0, 1, 0, 1, 1, 1, 1, 1, 1, 1, 1] body).getD .skip
theorem l1_eq (k : Nat) (At0 : Option Addr) (nt0 : Nat) (ct0 : Nat) (at2 : Addr) (xt8 : Int) (xt11 : Int) (Q : PQ) (σ : Fr) (w : World) :
    l1 (k + 1) At0 nt0 ct0 at2 xt8 xt11 w (fun (w : World) => ∀ d : Fr, Q (.exit 2) (ov d [(2, .pointer (some at2)), (6, σ 6)]) w) (fun (bq3 : Bool) (w : World) => ∀ d : Fr, Q .ret (ov d [(2, .pointer (some at2)), (3, .bool bq3)]) w) = codeW Tryd.prog hT 103 D (tab l1tb) [0, 0, 1, 0, 1, 1, 1, 1, 1, 1, 1, 1] l1b (thenQ (l1Tk k Q) (widen l1LO Q)) (ov σ [(0, .slice At0 nt0 ct0), (2, .pointer (some at2)), (8, .int .i64 xt8), (11, .int .i64 xt11)]) w := by kernel_rfl
theorem l1_snd : ∀ c, subC [0, 1, 0, 1, 1, 1, 1, 1, 1, 1, 1] body = some c → Snd Tryd.prog 103 c l1T := by
  refine loop_of (hT := hT) (D := D) (l := l1tb) (b := l1b) (lo := l1LO) (by kernel_rfl) (by
    intro x hx
    simp only [l1tb, List.not_mem_nil] at hx
    ) (by kernel_rfl) (by kernel_rfl) ?_ ?_
  · intro Q σ w h
    unfold l1Tk at h
    obtain ⟨At0, nt0, ct0, h0, hn⟩ := gSlice_elim h
    clear h
    have h := hn
    clear hn
    obtain ⟨at2, h2, hn⟩ := gAd_elim h
    clear h
    have h := hn
    clear hn
    obtain ⟨xt8, h8, hn⟩ := gInt_elim h
    clear h
    have h := hn
    clear hn
    obtain ⟨xt11, h11, hn⟩ := gInt_elim h
    clear h
    have h := hn
    clear hn
    exact h
  · intro k Q σ w h
    unfold l1Tk at h
    obtain ⟨At0, nt0, ct0, h0, hn⟩ := gSlice_elim h
    clear h
    have h := hn
    clear hn
    obtain ⟨at2, h2, hn⟩ := gAd_elim h
    clear h
    have h := hn
    clear hn
    obtain ⟨xt8, h8, hn⟩ := gInt_elim h
    clear h
    have h := hn
    clear hn
    obtain ⟨xt11, h11, hn⟩ := gInt_elim h
    clear h
    have h := hn
    clear hn
    rw [l1_eq (σ := σ)] at h
    have e : (ov σ [(0, .slice At0 nt0 ct0), (2, .pointer (some at2)), (8, .int .i64 xt8), (11, .int .i64 xt11)]) = σ := ov_self (by simp [h0, h2, h8, h11])
    rw [e] at h
    exact h
def tb : List (List Nat × Spec) := [([0, 1, 0, 1, 1, 1, 1, 1, 1, 1], l0T), ([0, 1, 0, 1, 1, 1, 1, 1, 1, 1, 1], l1T)]
theorem wp_eq (Aa0 : Option Addr) (na0 : Nat) (ca0 : Nat) (w : World) (Q : Ending → World → Prop) :
    wp Aa0 na0 ca0 w Q = codeW Tryd.prog hT 103 D (tab tb) [] body (topQ Tryd.prog hT 103 [.cell 2 32, .tmp 3] Q) (argsF [.slice Aa0 na0 ca0]) w := by kernel_rfl
theorem ok (Aa0 : Option Addr) (na0 : Nat) (ca0 : Nat) (w : World) (Q : Ending → World → Prop) (h : wp Aa0 na0 ca0 w Q) : Calls Tryd.prog 10 #[.slice Aa0 na0 ca0] w Q := by
  rw [wp_eq] at h
  exact calls_of_codeW (c := body) (rs := [.cell 2 32, .tmp 3]) Tryd.func10 (by kernel_rfl) (by kernel_rfl) (by kernel_rfl) (by kernel_rfl) (by kernel_rfl) (tab_snd (by
    intro x hx
    simp only [tb, List.mem_cons, List.not_mem_nil, or_false] at hx
    rcases hx with rfl | rfl
    · exact l0_snd
    · exact l1_snd)) (by kernel_rfl) h
end f_ref08_Parse
namespace f_law08_stands
/-! skein/skeinlaw08.stands: function 13 -/
noncomputable def body : Code := (Tryd.f13.body).getD .skip
def wp (pa0 : Option Addr) (xa1_0 : Int) (xa1_1 : Int) (xa1_2 : Int) (Aa1_3 : Option Addr) (na1_3 : Nat) (ca1_3 : Nat) (w : World) (Q : Ending → World → Prop) : Prop :=
  alW w (.cells #[.int .i64 xa1_0, .int .u8 xa1_1, .int .u32 xa1_2, .slice Aa1_3 na1_3 ca1_3] 32) fun B1 w2 =>
  drW w2 fun w3 =>
  ∃ S4 : World → Prop, S4 w3 ∧ (
  hdS S4 ((⟨B1, 0, Option.none⟩ : Addr).add 3) fun A5 n5 c5 =>
  Calls Tryd.prog 19 #[.pointer pa0] w3 fun e6 w7 => ∃ (x8 : Int), e6 = .returned (.int .i64 x8) ∧ (
  S4 w7 ∧ (
  sel (x8 == (n5 : Int)) (
  hdI S4 (⟨B1, 0, Option.none⟩ : Addr) .i64 fun x9 =>
  hdI S4 ((⟨B1, 0, Option.none⟩ : Addr).add 1) .u8 fun x10 =>
  hdI S4 ((⟨B1, 0, Option.none⟩ : Addr).add 2) .u32 fun x11 =>
  hdS S4 ((⟨B1, 0, Option.none⟩ : Addr).add 3) fun A12 n12 c12 =>
  Calls Tryd.prog 18 #[.pointer pa0] w7 fun e13 w14 => ∃ (x15 : Int), e13 = .returned (.int .i64 x15) ∧ (
  S4 w14 ∧ (
  Calls Tryd.prog 38 #[.agg #[.int .i64 x9, .int .u8 x10, .int .u32 x11, .slice A12 n12 c12]] w14 fun e16 w17 => ∃ (x18 : Int), e16 = .returned (.int .i64 x18) ∧ (
  S4 w17 ∧ (
  sel (x15 == x18) (
  hdI S4 ((⟨B1, 0, Option.none⟩ : Addr).add 1) .u8 fun x19 =>
  Calls Tryd.prog 29 #[.pointer pa0] w17 fun e20 w21 => ∃ (x22 : Int), e20 = .returned (.int .i64 x22) ∧ (
  S4 w21 ∧ (
  sel (x22 == (IntKind.i64.wrap x19)) (
  hdI S4 ((⟨B1, 0, Option.none⟩ : Addr).add 2) .u32 fun x23 =>
  Calls Tryd.prog 27 #[.pointer pa0] w21 fun e24 w25 => ∃ (x26 : Int), e24 = .returned (.int .u32 x26) ∧ (
  S4 w25 ∧ (
  sel (x26 == x23) (
  hdI S4 (⟨B1, 0, Option.none⟩ : Addr) .i64 fun x27 =>
  Calls Tryd.prog 26 #[.pointer pa0] w25 fun e28 w29 => ∃ (x30 : Int), e28 = .returned (.int .i64 x30) ∧ (
  S4 w29 ∧ (
  sel (x30 == x27) (
  hdI S4 (⟨B1, 0, Option.none⟩ : Addr) .i64 fun x31 =>
  hdI S4 ((⟨B1, 0, Option.none⟩ : Addr).add 1) .u8 fun x32 =>
  hdI S4 ((⟨B1, 0, Option.none⟩ : Addr).add 2) .u32 fun x33 =>
  hdS S4 ((⟨B1, 0, Option.none⟩ : Addr).add 3) fun A34 n34 c34 =>
  Calls Tryd.prog 15 #[.pointer pa0] w29 fun e35 w36 => ∃ (A37 : Option Addr) (n37 : Nat) (c37 : Nat), e35 = .returned (.slice A37 n37 c37) ∧ (
  S4 w36 ∧ (
  Calls Tryd.prog 39 #[.agg #[.int .i64 x31, .int .u8 x32, .int .u32 x33, .slice A34 n34 c34]] w36 fun e38 w39 => ∃ (A40 : Option Addr) (n40 : Nat) (c40 : Nat), e38 = .returned (.slice A40 n40 c40) ∧ (
  Calls Tryd.prog 14 #[.slice A37 n37 c37, .slice A40 n40 c40] w39 fun e41 w42 => ∃ (b43 : Bool), e41 = .returned (.bool b43) ∧ (
  Q (.returned (.bool b43)) w42))))) (
  S4 w29 ∧ (
  Q (.returned (.bool false)) w29))))) (
  S4 w25 ∧ (
  S4 w25 ∧ (
  Q (.returned (.bool false)) w25)))))) (
  S4 w21 ∧ (
  S4 w21 ∧ (
  S4 w21 ∧ (
  Q (.returned (.bool false)) w21))))))) (
  S4 w17 ∧ (
  S4 w17 ∧ (
  S4 w17 ∧ (
  S4 w17 ∧ (
  Q (.returned (.bool false)) w17)))))))))) (
  S4 w7 ∧ (
  S4 w7 ∧ (
  S4 w7 ∧ (
  S4 w7 ∧ (
  S4 w7 ∧ (
  S4 w7 ∧ (
  Q (.returned (.bool false)) w7))))))))))
def D : Nat → Option DH := dtab [(1, .held [.fst 0, .fst 2, .fst 3, .fst 4, .eff 1, .fst 5, .fst 6, .fst 7, .fst 9, .eff 8, .eff 10, .fst 11, .fst 12, .fst 13, .fst 14, .fst 16, .fst 17, .fst 18, .eff 15, .fst 19, .fst 20, .fst 21, .fst 22, .fst 24, .fst 25, .eff 23, .fst 26, .fst 27, .fst 28, .fst 29, .fst 31, .fst 32, .eff 30, .fst 33, .fst 34, .fst 35, .fst 36, .fst 38, .eff 37] [.eff 39, .eff 40, .fst 41, .fst 42])]
def tb : List (List Nat × Spec) := []
theorem wp_eq (pa0 : Option Addr) (xa1_0 : Int) (xa1_1 : Int) (xa1_2 : Int) (Aa1_3 : Option Addr) (na1_3 : Nat) (ca1_3 : Nat) (w : World) (Q : Ending → World → Prop) :
    wp pa0 xa1_0 xa1_1 xa1_2 Aa1_3 na1_3 ca1_3 w Q = codeW Tryd.prog hT 47 D (tab tb) [] body (topQ Tryd.prog hT 47 [.tmp 4] Q) (argsF [.pointer pa0, .agg #[.int .i64 xa1_0, .int .u8 xa1_1, .int .u32 xa1_2, .slice Aa1_3 na1_3 ca1_3]]) w := by kernel_rfl
theorem ok (pa0 : Option Addr) (xa1_0 : Int) (xa1_1 : Int) (xa1_2 : Int) (Aa1_3 : Option Addr) (na1_3 : Nat) (ca1_3 : Nat) (w : World) (Q : Ending → World → Prop) (h : wp pa0 xa1_0 xa1_1 xa1_2 Aa1_3 na1_3 ca1_3 w Q) : Calls Tryd.prog 13 #[.pointer pa0, .agg #[.int .i64 xa1_0, .int .u8 xa1_1, .int .u32 xa1_2, .slice Aa1_3 na1_3 ca1_3]] w Q := by
  rw [wp_eq] at h
  exact calls_of_codeW (c := body) (rs := [.tmp 4]) Tryd.func13 (by kernel_rfl) (by kernel_rfl) (by kernel_rfl) (by kernel_rfl) (by kernel_rfl) (tab_snd (by
    intro x hx
    simp only [tb, List.not_mem_nil] at hx
    )) (by kernel_rfl) h
end f_law08_stands
namespace f_law08_filled
/-! skein/skeinlaw08.filled: function 16 -/
noncomputable def body : Code := (Tryd.f16.body).getD .skip
def l0 : Nat → Option Addr → Nat → Nat → Option Addr → Int → World → (World → Prop) → Prop
  | 0, _, _, _, _, _, _, _ => False
  | k + 1, At0, nt0, ct0, pt3, xt4, w, K0 =>
    sel (!pt3.isNone) (
    sel (decide (xt4 < (nt0 : Int))) (
    optB At0 fun a4 =>
    req (decide (0 ≤ xt4 ∧ xt4 < (nt0 : Int))) <|
    ldI w (a4.add (xt4.toNat * 3)) .i64 fun x5 =>
    ldI w ((a4.add (xt4.toNat * 3)).add 1) .i64 fun x6 =>
    ldS w ((a4.add (xt4.toNat * 3)).add 2) fun A7 n7 c7 =>
    Calls Tryd.prog 25 #[.pointer pt3, .agg #[.int .i64 (0 : Int), .int .u8 (0 : Int), .int .u32 (0 : Int), .slice none 0 0], .agg #[.int .i64 x5, .int .i64 x6, .slice A7 n7 c7]] w fun e8 w9 => ∃ (x10_0_0 : Int) (x10_0_1 : Int) (x10_0_2 : Int) (A10_0_3 : Option Addr) (n10_0_3 : Nat) (c10_0_3 : Nat) (b10_1 : Bool), e8 = .returned (.tuple #[.agg #[.int .i64 x10_0_0, .int .u8 x10_0_1, .int .u32 x10_0_2, .slice A10_0_3 n10_0_3 c10_0_3], .bool b10_1]) ∧ (
    l0 k At0 nt0 ct0 pt3 (IntKind.i64.wrap (xt4 + (1 : Int))) w9 K0)) (
    K0  w)) (
    K0  w)
def wp (Aa0 : Option Addr) (na0 : Nat) (ca0 : Nat) (w : World) (Q : Ending → World → Prop) : Prop :=
  Calls Tryd.prog 28 #[.int .i64 (3 : Int), .int .u32 (9 : Int)] w fun e1 w2 => ∃ (p3 : Option Addr), e1 = .returned (.pointer p3) ∧ (
  ∃ k12 : Nat, l0 k12 Aa0 na0 ca0 p3 (0 : Int) w2 (fun (w11 : World) => ∀ _ : Fr,
  Q (.returned (.pointer p3)) w11))
def D : Nat → Option DH := dtab []
def l0LO : LO := ⟨[], [], [(0, [3])], []⟩
def l0Tk (k : Nat) : Spec := fun Q σ w =>
  gSlice (σ 0) fun At0 nt0 ct0 =>
  gPtr (σ 3) fun pt3 =>
  gInt .i64 (σ 4) fun xt4 =>
  l0 k At0 nt0 ct0 pt3 xt4 w (fun (w : World) => ∀ d : Fr, Q (.exit 0) (ov d [(3, .pointer pt3)]) w)
def l0T : Spec := fun Q σ w => ∃ k, l0Tk k Q σ w
def l0tb : List (List Nat × Spec) := []
noncomputable def l0b : Code := (subC [0, 0, 1, 0, 1, 1] body).getD .skip
theorem l0_eq (k : Nat) (At0 : Option Addr) (nt0 : Nat) (ct0 : Nat) (pt3 : Option Addr) (xt4 : Int) (Q : PQ) (σ : Fr) (w : World) :
    l0 (k + 1) At0 nt0 ct0 pt3 xt4 w (fun (w : World) => ∀ d : Fr, Q (.exit 0) (ov d [(3, .pointer pt3)]) w) = codeW Tryd.prog hT 24 D (tab l0tb) [0, 0, 1, 0, 1, 1] l0b (thenQ (l0Tk k Q) (widen l0LO Q)) (ov σ [(0, .slice At0 nt0 ct0), (3, .pointer pt3), (4, .int .i64 xt4)]) w := by kernel_rfl
theorem l0_snd : ∀ c, subC [0, 1, 0, 1, 1] body = some c → Snd Tryd.prog 24 c l0T := by
  refine loop_of (hT := hT) (D := D) (l := l0tb) (b := l0b) (lo := l0LO) (by kernel_rfl) (by
    intro x hx
    simp only [l0tb, List.not_mem_nil] at hx
    ) (by kernel_rfl) (by kernel_rfl) ?_ ?_
  · intro Q σ w h
    unfold l0Tk at h
    obtain ⟨At0, nt0, ct0, h0, hn⟩ := gSlice_elim h
    clear h
    have h := hn
    clear hn
    obtain ⟨pt3, h3, hn⟩ := gPtr_elim h
    clear h
    have h := hn
    clear hn
    obtain ⟨xt4, h4, hn⟩ := gInt_elim h
    clear h
    have h := hn
    clear hn
    exact h
  · intro k Q σ w h
    unfold l0Tk at h
    obtain ⟨At0, nt0, ct0, h0, hn⟩ := gSlice_elim h
    clear h
    have h := hn
    clear hn
    obtain ⟨pt3, h3, hn⟩ := gPtr_elim h
    clear h
    have h := hn
    clear hn
    obtain ⟨xt4, h4, hn⟩ := gInt_elim h
    clear h
    have h := hn
    clear hn
    rw [l0_eq (σ := σ)] at h
    have e : (ov σ [(0, .slice At0 nt0 ct0), (3, .pointer pt3), (4, .int .i64 xt4)]) = σ := ov_self (by simp [h0, h3, h4])
    rw [e] at h
    exact h
def tb : List (List Nat × Spec) := [([0, 1, 0, 1, 1], l0T)]
theorem wp_eq (Aa0 : Option Addr) (na0 : Nat) (ca0 : Nat) (w : World) (Q : Ending → World → Prop) :
    wp Aa0 na0 ca0 w Q = codeW Tryd.prog hT 24 D (tab tb) [] body (topQ Tryd.prog hT 24 [.tmp 2] Q) (argsF [.slice Aa0 na0 ca0]) w := by kernel_rfl
theorem ok (Aa0 : Option Addr) (na0 : Nat) (ca0 : Nat) (w : World) (Q : Ending → World → Prop) (h : wp Aa0 na0 ca0 w Q) : Calls Tryd.prog 16 #[.slice Aa0 na0 ca0] w Q := by
  rw [wp_eq] at h
  exact calls_of_codeW (c := body) (rs := [.tmp 2]) Tryd.func16 (by kernel_rfl) (by kernel_rfl) (by kernel_rfl) (by kernel_rfl) (by kernel_rfl) (tab_snd (by
    intro x hx
    simp only [tb, List.mem_cons, List.not_mem_nil, or_false] at hx
    subst hx
    exact l0_snd)) (by kernel_rfl) h
end f_law08_filled
namespace f_law08_items
/-! skein/skeinlaw08.items: function 17 -/
noncomputable def body : Code := (Tryd.f17.body).getD .skip
def l0 : Nat → Option Addr → Option Addr → Nat → Nat → Int → World → ((Option Addr) → Nat → Nat → World → Prop) → Prop
  | 0, _, _, _, _, _, _, _ => False
  | k + 1, pt0, At3, nt3, ct3, xt4, w, K0 =>
    Calls Tryd.prog 19 #[.pointer pt0] w fun e3 w4 => ∃ (x5 : Int), e3 = .returned (.int .i64 x5) ∧ (
    sel (decide (xt4 < x5)) (
    Calls Tryd.prog 21 #[.pointer pt0, .int .i64 xt4] w4 fun e6 w7 => ∃ (A8_0 : Option Addr) (n8_0 : Nat) (c8_0 : Nat) (x8_1 : Int), e6 = .returned (.tuple #[.slice A8_0 n8_0 c8_0, .int .i64 x8_1]) ∧ (
    alW w7 (.cells #[.slice A8_0 n8_0 c8_0] 22) fun B9 w10 =>
    Runs Tryd.prog (Builtin.append_ #[30, 30] 30 #[.slice At3 nt3 ct3, .slice (some (⟨B9, 0, Option.none⟩ : Addr)) 1 1]) w10 fun v12 w11 => ∃ (A13 : Option Addr) (n13 : Nat) (c13 : Nat), v12 = (.slice A13 n13 c13) ∧ (
    l0 k pt0 A13 n13 c13 (IntKind.i64.wrap (xt4 + (1 : Int))) w11 K0))) (
    K0 At3 nt3 ct3 w4))
def wp (pa0 : Option Addr) (w : World) (Q : Ending → World → Prop) : Prop :=
  alW w (.cells #[] 22) fun B1 w2 =>
  ∃ k16 : Nat, l0 k16 pa0 (some (⟨B1, 0, Option.none⟩ : Addr)) 0 0 (0 : Int) w2 (fun (A14 : Option Addr) (n14 : Nat) (c14 : Nat) (w15 : World) => ∀ _ : Fr,
  Q (.returned (.slice A14 n14 c14)) w15)
def D : Nat → Option DH := dtab []
def l0LO : LO := ⟨[], [], [(0, [3])], []⟩
def l0Tk (k : Nat) : Spec := fun Q σ w =>
  gPtr (σ 0) fun pt0 =>
  gSlice (σ 3) fun At3 nt3 ct3 =>
  gInt .i64 (σ 4) fun xt4 =>
  l0 k pt0 At3 nt3 ct3 xt4 w (fun (Aq3 : Option Addr) (nq3 : Nat) (cq3 : Nat) (w : World) => ∀ d : Fr, Q (.exit 0) (ov d [(3, .slice Aq3 nq3 cq3)]) w)
def l0T : Spec := fun Q σ w => ∃ k, l0Tk k Q σ w
def l0tb : List (List Nat × Spec) := []
noncomputable def l0b : Code := (subC [0, 0, 1, 0, 1, 1] body).getD .skip
theorem l0_eq (k : Nat) (pt0 : Option Addr) (At3 : Option Addr) (nt3 : Nat) (ct3 : Nat) (xt4 : Int) (Q : PQ) (σ : Fr) (w : World) :
    l0 (k + 1) pt0 At3 nt3 ct3 xt4 w (fun (Aq3 : Option Addr) (nq3 : Nat) (cq3 : Nat) (w : World) => ∀ d : Fr, Q (.exit 0) (ov d [(3, .slice Aq3 nq3 cq3)]) w) = codeW Tryd.prog hT 25 D (tab l0tb) [0, 0, 1, 0, 1, 1] l0b (thenQ (l0Tk k Q) (widen l0LO Q)) (ov σ [(0, .pointer pt0), (3, .slice At3 nt3 ct3), (4, .int .i64 xt4)]) w := by kernel_rfl
theorem l0_snd : ∀ c, subC [0, 1, 0, 1, 1] body = some c → Snd Tryd.prog 25 c l0T := by
  refine loop_of (hT := hT) (D := D) (l := l0tb) (b := l0b) (lo := l0LO) (by kernel_rfl) (by
    intro x hx
    simp only [l0tb, List.not_mem_nil] at hx
    ) (by kernel_rfl) (by kernel_rfl) ?_ ?_
  · intro Q σ w h
    unfold l0Tk at h
    obtain ⟨pt0, h0, hn⟩ := gPtr_elim h
    clear h
    have h := hn
    clear hn
    obtain ⟨At3, nt3, ct3, h3, hn⟩ := gSlice_elim h
    clear h
    have h := hn
    clear hn
    obtain ⟨xt4, h4, hn⟩ := gInt_elim h
    clear h
    have h := hn
    clear hn
    exact h
  · intro k Q σ w h
    unfold l0Tk at h
    obtain ⟨pt0, h0, hn⟩ := gPtr_elim h
    clear h
    have h := hn
    clear hn
    obtain ⟨At3, nt3, ct3, h3, hn⟩ := gSlice_elim h
    clear h
    have h := hn
    clear hn
    obtain ⟨xt4, h4, hn⟩ := gInt_elim h
    clear h
    have h := hn
    clear hn
    rw [l0_eq (σ := σ)] at h
    have e : (ov σ [(0, .pointer pt0), (3, .slice At3 nt3 ct3), (4, .int .i64 xt4)]) = σ := ov_self (by simp [h0, h3, h4])
    rw [e] at h
    exact h
def tb : List (List Nat × Spec) := [([0, 1, 0, 1, 1], l0T)]
theorem wp_eq (pa0 : Option Addr) (w : World) (Q : Ending → World → Prop) :
    wp pa0 w Q = codeW Tryd.prog hT 25 D (tab tb) [] body (topQ Tryd.prog hT 25 [.tmp 2] Q) (argsF [.pointer pa0]) w := by kernel_rfl
theorem ok (pa0 : Option Addr) (w : World) (Q : Ending → World → Prop) (h : wp pa0 w Q) : Calls Tryd.prog 17 #[.pointer pa0] w Q := by
  rw [wp_eq] at h
  exact calls_of_codeW (c := body) (rs := [.tmp 2]) Tryd.func17 (by kernel_rfl) (by kernel_rfl) (by kernel_rfl) (by kernel_rfl) (by kernel_rfl) (tab_snd (by
    intro x hx
    simp only [tb, List.mem_cons, List.not_mem_nil, or_false] at hx
    subst hx
    exact l0_snd)) (by kernel_rfl) h
end f_law08_items
namespace f_ref08_Same
/-! skein/skeinref08.Same: function 23 -/
noncomputable def body : Code := (Tryd.f23.body).getD .skip
def l0 : Nat → Option Addr → Nat → Nat → Option Addr → Nat → Nat → Int → World → (World → Prop) → (Bool → World → Prop) → Prop
  | 0, _, _, _, _, _, _, _, _, _, _ => False
  | k + 1, At0, nt0, ct0, At1, nt1, ct1, xt5, w, K0, Kr =>
    sel (decide (xt5 < (nt0 : Int))) (
    drW w fun w1 =>
    optB At0 fun a3 =>
    req (decide (0 ≤ xt5 ∧ xt5 < (nt0 : Int))) <|
    ldS w1 (a3.add (xt5.toNat * 1)) fun A4 n4 c4 =>
    optB At1 fun a5 =>
    req (decide (0 ≤ xt5 ∧ xt5 < (nt1 : Int))) <|
    ldS w1 (a5.add (xt5.toNat * 1)) fun A6 n6 c6 =>
    Calls Tryd.prog 14 #[.slice A4 n4 c4, .slice A6 n6 c6] w1 fun e7 w8 => ∃ (b9 : Bool), e7 = .returned (.bool b9) ∧ (
    sel (!b9) (
    Kr false w8) (
    l0 k At0 nt0 ct0 At1 nt1 ct1 (IntKind.i64.wrap (xt5 + (1 : Int))) w8 K0 Kr))) (
    K0  w)
def wp (Aa0 : Option Addr) (na0 : Nat) (ca0 : Nat) (Aa1 : Option Addr) (na1 : Nat) (ca1 : Nat) (w : World) (Q : Ending → World → Prop) : Prop :=
  sel ((na0 : Int) != (na1 : Int)) (
  Q (.returned (.bool false)) w) (
  ∃ k13 : Nat, l0 k13 Aa0 na0 ca0 Aa1 na1 ca1 (0 : Int) w (fun (w10 : World) => ∀ _ : Fr,
  Q (.returned (.bool true)) w10) (fun (b11 : Bool) (w12 : World) => ∀ _ : Fr,
  Q (.returned (.bool b11)) w12))
def D : Nat → Option DH := dtab [(6, .simple [.fst 0, .fst 1, .fst 2, .fst 3, .fst 4, .fst 5, .fst 6, .fst 7] [.eff 8, .fst 9])]
def l0LO : LO := ⟨[], [4], [(0, [])], []⟩
def l0Tk (k : Nat) : Spec := fun Q σ w =>
  gSlice (σ 0) fun At0 nt0 ct0 =>
  gSlice (σ 1) fun At1 nt1 ct1 =>
  gInt .i64 (σ 5) fun xt5 =>
  l0 k At0 nt0 ct0 At1 nt1 ct1 xt5 w (fun (w : World) => ∀ d : Fr, Q (.exit 0) (ov d []) w) (fun (bq4 : Bool) (w : World) => ∀ d : Fr, Q .ret (ov d [(4, .bool bq4)]) w)
def l0T : Spec := fun Q σ w => ∃ k, l0Tk k Q σ w
def l0tb : List (List Nat × Spec) := []
noncomputable def l0b : Code := (subC [0, 0, 1, 0, 1, 1] body).getD .skip
theorem l0_eq (k : Nat) (At0 : Option Addr) (nt0 : Nat) (ct0 : Nat) (At1 : Option Addr) (nt1 : Nat) (ct1 : Nat) (xt5 : Int) (Q : PQ) (σ : Fr) (w : World) :
    l0 (k + 1) At0 nt0 ct0 At1 nt1 ct1 xt5 w (fun (w : World) => ∀ d : Fr, Q (.exit 0) (ov d []) w) (fun (bq4 : Bool) (w : World) => ∀ d : Fr, Q .ret (ov d [(4, .bool bq4)]) w) = codeW Tryd.prog hT 27 D (tab l0tb) [0, 0, 1, 0, 1, 1] l0b (thenQ (l0Tk k Q) (widen l0LO Q)) (ov σ [(0, .slice At0 nt0 ct0), (1, .slice At1 nt1 ct1), (5, .int .i64 xt5)]) w := by kernel_rfl
theorem l0_snd : ∀ c, subC [0, 1, 0, 1, 1] body = some c → Snd Tryd.prog 27 c l0T := by
  refine loop_of (hT := hT) (D := D) (l := l0tb) (b := l0b) (lo := l0LO) (by kernel_rfl) (by
    intro x hx
    simp only [l0tb, List.not_mem_nil] at hx
    ) (by kernel_rfl) (by kernel_rfl) ?_ ?_
  · intro Q σ w h
    unfold l0Tk at h
    obtain ⟨At0, nt0, ct0, h0, hn⟩ := gSlice_elim h
    clear h
    have h := hn
    clear hn
    obtain ⟨At1, nt1, ct1, h1, hn⟩ := gSlice_elim h
    clear h
    have h := hn
    clear hn
    obtain ⟨xt5, h5, hn⟩ := gInt_elim h
    clear h
    have h := hn
    clear hn
    exact h
  · intro k Q σ w h
    unfold l0Tk at h
    obtain ⟨At0, nt0, ct0, h0, hn⟩ := gSlice_elim h
    clear h
    have h := hn
    clear hn
    obtain ⟨At1, nt1, ct1, h1, hn⟩ := gSlice_elim h
    clear h
    have h := hn
    clear hn
    obtain ⟨xt5, h5, hn⟩ := gInt_elim h
    clear h
    have h := hn
    clear hn
    rw [l0_eq (σ := σ)] at h
    have e : (ov σ [(0, .slice At0 nt0 ct0), (1, .slice At1 nt1 ct1), (5, .int .i64 xt5)]) = σ := ov_self (by simp [h0, h1, h5])
    rw [e] at h
    exact h
def tb : List (List Nat × Spec) := [([0, 1, 0, 1, 1], l0T)]
theorem wp_eq (Aa0 : Option Addr) (na0 : Nat) (ca0 : Nat) (Aa1 : Option Addr) (na1 : Nat) (ca1 : Nat) (w : World) (Q : Ending → World → Prop) :
    wp Aa0 na0 ca0 Aa1 na1 ca1 w Q = codeW Tryd.prog hT 27 D (tab tb) [] body (topQ Tryd.prog hT 27 [.tmp 4] Q) (argsF [.slice Aa0 na0 ca0, .slice Aa1 na1 ca1]) w := by kernel_rfl
theorem ok (Aa0 : Option Addr) (na0 : Nat) (ca0 : Nat) (Aa1 : Option Addr) (na1 : Nat) (ca1 : Nat) (w : World) (Q : Ending → World → Prop) (h : wp Aa0 na0 ca0 Aa1 na1 ca1 w Q) : Calls Tryd.prog 23 #[.slice Aa0 na0 ca0, .slice Aa1 na1 ca1] w Q := by
  rw [wp_eq] at h
  exact calls_of_codeW (c := body) (rs := [.tmp 4]) Tryd.func23 (by kernel_rfl) (by kernel_rfl) (by kernel_rfl) (by kernel_rfl) (by kernel_rfl) (tab_snd (by
    intro x hx
    simp only [tb, List.mem_cons, List.not_mem_nil, or_false] at hx
    subst hx
    exact l0_snd)) (by kernel_rfl) h
end f_ref08_Same
namespace f_law08_asks
/-! skein/skeinlaw08.asks: function 25 -/
noncomputable def body : Code := (Tryd.f25.body).getD .skip
def j1 (at5 : Addr) (at6 : Addr) (At8 : Option Addr) (nt8 : Nat) (ct8 : Nat) (xt9 : Int) (xt10 : Int) (at11 : Addr) (w : World) (Kr : Bool → World → Prop) : Prop :=
  ldS w (at5.add 2) fun A43 n43 c43 =>
  Calls Tryd.prog 11 #[.slice At8 nt8 ct8, .slice A43 n43 c43] w fun e44 w45 => ∃ (b46 : Bool), e44 = .returned (.bool b46) ∧ (
  Calls Tryd.prog 12 #[.slice At8 nt8 ct8] w45 fun e47 w48 => e47 = .returned (.tuple #[]) ∧ (
  ldI w48 at11 .i64 fun x49 =>
  ldI w48 (at11.add 1) .u8 fun x50 =>
  ldI w48 (at11.add 2) .u32 fun x51 =>
  ldS w48 (at11.add 3) fun A52 n52 c52 =>
  sel b46 (
  stW w48 at6 (.int .i64 x49) fun w53 =>
  stW w53 (at6.add 1) (.int .u8 x50) fun w54 =>
  stW w54 (at6.add 2) (.int .u32 x51) fun w55 =>
  stW w55 (at6.add 3) (.slice A52 n52 c52) fun w56 =>
  Kr (xt9 == xt10) w56) (
  stW w48 at6 (.int .i64 x49) fun w57 =>
  stW w57 (at6.add 1) (.int .u8 x50) fun w58 =>
  stW w58 (at6.add 2) (.int .u32 x51) fun w59 =>
  stW w59 (at6.add 3) (.slice A52 n52 c52) fun w60 =>
  Kr false w60)))
def j0 (at0 : Addr) (at4 : Addr) (at5 : Addr) (at6 : Addr) (xt21 : Int) (bt22 : Bool) (w : World) (Kn : World → Prop) (Kr : Bool → World → Prop) : Prop :=
  sel bt22 (
  ldS w (at5.add 2) fun A8 n8 c8 =>
  Calls Tryd.prog 8 #[.slice A8 n8 c8] w fun e9 w10 => ∃ (A11 : Option Addr) (n11 : Nat) (c11 : Nat), e9 = .returned (.slice A11 n11 c11) ∧ (
  ldI w10 at4 .i64 fun x12 =>
  ldI w10 (at4.add 1) .u8 fun x13 =>
  ldI w10 (at4.add 2) .u32 fun x14 =>
  ldS w10 (at4.add 3) fun A15 n15 c15 =>
  alW w10 (.cells #[.int .i64 (0 : Int), .int .u8 (0 : Int), .int .u32 (0 : Int), .slice none 0 0] 32) fun B16 w17 =>
  stW w17 (⟨B16, 0, Option.none⟩ : Addr) (.int .i64 x12) fun w18 =>
  stW w18 ((⟨B16, 0, Option.none⟩ : Addr).add 1) (.int .u8 x13) fun w19 =>
  stW w19 ((⟨B16, 0, Option.none⟩ : Addr).add 2) (.int .u32 x14) fun w20 =>
  stW w20 ((⟨B16, 0, Option.none⟩ : Addr).add 3) (.slice A15 n15 c15) fun w21 =>
  ldI w21 at5 .i64 fun x22 =>
  sel (x22 == (1 : Int)) (
  drW w21 fun w23 =>
  ldI w23 (at5.add 1) .i64 fun x25 =>
  ldS w23 (at5.add 2) fun A26 n26 c26 =>
  req (decide (0 ≤ (n26 : Int) ∧ (n26 : Int) ≤ (c11 : Int))) <|
  Calls Tryd.prog 20 #[.pointer (some at0), .int .i64 x25, .slice (slA A11 0 c11 1) ((n26 : Int).toNat - 0) (c11 - 0)] w23 fun e27 w28 => ∃ (x29 : Int), e27 = .returned (.int .i64 x29) ∧ (
  ldI w28 at4 .i64 fun x30 =>
  ldI w28 (at4.add 1) .u8 fun x31 =>
  ldI w28 (at4.add 2) .u32 fun x32 =>
  ldS w28 (at4.add 3) fun A33 n33 c33 =>
  ldI w28 (at5.add 1) .i64 fun x34 =>
  ldS w28 (at5.add 2) fun A35 n35 c35 =>
  Calls Tryd.prog 46 #[.agg #[.int .i64 x30, .int .u8 x31, .int .u32 x32, .slice A33 n33 c33], .int .i64 x34, .slice A35 n35 c35] w28 fun e36 w37 => ∃ (x38_0_0 : Int) (x38_0_1 : Int) (x38_0_2 : Int) (A38_0_3 : Option Addr) (n38_0_3 : Nat) (c38_0_3 : Nat) (x38_1 : Int), e36 = .returned (.tuple #[.agg #[.int .i64 x38_0_0, .int .u8 x38_0_1, .int .u32 x38_0_2, .slice A38_0_3 n38_0_3 c38_0_3], .int .i64 x38_1]) ∧ (
  stW w37 (⟨B16, 0, Option.none⟩ : Addr) (.int .i64 x38_0_0) fun w39 =>
  stW w39 ((⟨B16, 0, Option.none⟩ : Addr).add 1) (.int .u8 x38_0_1) fun w40 =>
  stW w40 ((⟨B16, 0, Option.none⟩ : Addr).add 2) (.int .u32 x38_0_2) fun w41 =>
  stW w41 ((⟨B16, 0, Option.none⟩ : Addr).add 3) (.slice A38_0_3 n38_0_3 c38_0_3) fun w42 =>
  j1 at5 at6 A11 n11 c11 x29 x38_1 (⟨B16, 0, Option.none⟩ : Addr) w42 (fun (b61 : Bool) (w62 : World) => ∀ _ : Fr,
  Kr b61 w62)))) (
  drW w21 fun w63 =>
  ldI w63 (at5.add 1) .i64 fun x65 =>
  ldS w63 (at5.add 2) fun A66 n66 c66 =>
  req (decide (0 ≤ (n66 : Int) ∧ (n66 : Int) ≤ (c11 : Int))) <|
  Calls Tryd.prog 24 #[.pointer (some at0), .int .i64 x65, .slice (slA A11 0 c11 1) ((n66 : Int).toNat - 0) (c11 - 0)] w63 fun e67 w68 => ∃ (x69 : Int), e67 = .returned (.int .i64 x69) ∧ (
  ldI w68 at4 .i64 fun x70 =>
  ldI w68 (at4.add 1) .u8 fun x71 =>
  ldI w68 (at4.add 2) .u32 fun x72 =>
  ldS w68 (at4.add 3) fun A73 n73 c73 =>
  ldI w68 (at5.add 1) .i64 fun x74 =>
  ldS w68 (at5.add 2) fun A75 n75 c75 =>
  Calls Tryd.prog 47 #[.agg #[.int .i64 x70, .int .u8 x71, .int .u32 x72, .slice A73 n73 c73], .int .i64 x74, .slice A75 n75 c75] w68 fun e76 w77 => ∃ (x78_0_0 : Int) (x78_0_1 : Int) (x78_0_2 : Int) (A78_0_3 : Option Addr) (n78_0_3 : Nat) (c78_0_3 : Nat) (x78_1 : Int), e76 = .returned (.tuple #[.agg #[.int .i64 x78_0_0, .int .u8 x78_0_1, .int .u32 x78_0_2, .slice A78_0_3 n78_0_3 c78_0_3], .int .i64 x78_1]) ∧ (
  stW w77 (⟨B16, 0, Option.none⟩ : Addr) (.int .i64 x78_0_0) fun w79 =>
  stW w79 ((⟨B16, 0, Option.none⟩ : Addr).add 1) (.int .u8 x78_0_1) fun w80 =>
  stW w80 ((⟨B16, 0, Option.none⟩ : Addr).add 2) (.int .u32 x78_0_2) fun w81 =>
  stW w81 ((⟨B16, 0, Option.none⟩ : Addr).add 3) (.slice A78_0_3 n78_0_3 c78_0_3) fun w82 =>
  j1 at5 at6 A11 n11 c11 x69 x78_1 (⟨B16, 0, Option.none⟩ : Addr) w82 (fun (b83 : Bool) (w84 : World) => ∀ _ : Fr,
  Kr b83 w84)))))) (
  sel (xt21 == (3 : Int)) (
  ldI w (at5.add 1) .i64 fun x85 =>
  Calls Tryd.prog 22 #[.pointer (some at0), .int .i64 x85] w fun e86 w87 => ∃ (x88 : Int), e86 = .returned (.int .i64 x88) ∧ (
  ldI w87 at4 .i64 fun x89 =>
  ldI w87 (at4.add 1) .u8 fun x90 =>
  ldI w87 (at4.add 2) .u32 fun x91 =>
  ldS w87 (at4.add 3) fun A92 n92 c92 =>
  ldI w87 (at5.add 1) .i64 fun x93 =>
  Calls Tryd.prog 48 #[.agg #[.int .i64 x89, .int .u8 x90, .int .u32 x91, .slice A92 n92 c92], .int .i64 x93] w87 fun e94 w95 => ∃ (x96_0_0 : Int) (x96_0_1 : Int) (x96_0_2 : Int) (A96_0_3 : Option Addr) (n96_0_3 : Nat) (c96_0_3 : Nat) (x96_1 : Int), e94 = .returned (.tuple #[.agg #[.int .i64 x96_0_0, .int .u8 x96_0_1, .int .u32 x96_0_2, .slice A96_0_3 n96_0_3 c96_0_3], .int .i64 x96_1]) ∧ (
  alW w95 (.cells #[.int .i64 (0 : Int), .int .u8 (0 : Int), .int .u32 (0 : Int), .slice none 0 0] 32) fun B97 w98 =>
  stW w98 (⟨B97, 0, Option.none⟩ : Addr) (.int .i64 x96_0_0) fun w99 =>
  stW w99 ((⟨B97, 0, Option.none⟩ : Addr).add 1) (.int .u8 x96_0_1) fun w100 =>
  stW w100 ((⟨B97, 0, Option.none⟩ : Addr).add 2) (.int .u32 x96_0_2) fun w101 =>
  stW w101 ((⟨B97, 0, Option.none⟩ : Addr).add 3) (.slice A96_0_3 n96_0_3 c96_0_3) fun w102 =>
  ldI w102 (⟨B97, 0, Option.none⟩ : Addr) .i64 fun x103 =>
  ldI w102 ((⟨B97, 0, Option.none⟩ : Addr).add 1) .u8 fun x104 =>
  ldI w102 ((⟨B97, 0, Option.none⟩ : Addr).add 2) .u32 fun x105 =>
  ldS w102 ((⟨B97, 0, Option.none⟩ : Addr).add 3) fun A106 n106 c106 =>
  stW w102 at6 (.int .i64 x103) fun w107 =>
  stW w107 (at6.add 1) (.int .u8 x104) fun w108 =>
  stW w108 (at6.add 2) (.int .u32 x105) fun w109 =>
  stW w109 (at6.add 3) (.slice A106 n106 c106) fun w110 =>
  Kr (x88 == x96_1) w110))) (
  sel (xt21 == (4 : Int)) (
  ldI w (at5.add 1) .i64 fun x111 =>
  Calls Tryd.prog 21 #[.pointer (some at0), .int .i64 x111] w fun e112 w113 => ∃ (A114_0 : Option Addr) (n114_0 : Nat) (c114_0 : Nat) (x114_1 : Int), e112 = .returned (.tuple #[.slice A114_0 n114_0 c114_0, .int .i64 x114_1]) ∧ (
  ldI w113 (at5.add 1) .i64 fun x115 =>
  Calls Tryd.prog 21 #[.pointer (some at0), .int .i64 x115] w113 fun e116 w117 => ∃ (A118_0 : Option Addr) (n118_0 : Nat) (c118_0 : Nat) (x118_1 : Int), e116 = .returned (.tuple #[.slice A118_0 n118_0 c118_0, .int .i64 x118_1]) ∧ (
  ldI w117 (at5.add 1) .i64 fun x119 =>
  sel (decide (x119 < (0 : Int))) (
  ldI w117 at4 .i64 fun x120 =>
  ldI w117 (at4.add 1) .u8 fun x121 =>
  ldI w117 (at4.add 2) .u32 fun x122 =>
  ldS w117 (at4.add 3) fun A123 n123 c123 =>
  sel (x114_1 == (82 : Int)) (
  stW w117 at6 (.int .i64 x120) fun w124 =>
  stW w124 (at6.add 1) (.int .u8 x121) fun w125 =>
  stW w125 (at6.add 2) (.int .u32 x122) fun w126 =>
  stW w126 (at6.add 3) (.slice A123 n123 c123) fun w127 =>
  Kr ((n114_0 : Int) == (0 : Int)) w127) (
  stW w117 at6 (.int .i64 x120) fun w128 =>
  stW w128 (at6.add 1) (.int .u8 x121) fun w129 =>
  stW w129 (at6.add 2) (.int .u32 x122) fun w130 =>
  stW w130 (at6.add 3) (.slice A123 n123 c123) fun w131 =>
  Kr false w131)) (
  ldI w117 (at5.add 1) .i64 fun x132 =>
  ldS w117 (at4.add 3) fun A133 n133 c133 =>
  sel (decide (x132 ≥ (n133 : Int))) (
  ldI w117 at4 .i64 fun x134 =>
  ldI w117 (at4.add 1) .u8 fun x135 =>
  ldI w117 (at4.add 2) .u32 fun x136 =>
  ldS w117 (at4.add 3) fun A137 n137 c137 =>
  sel (x114_1 == (82 : Int)) (
  stW w117 at6 (.int .i64 x134) fun w138 =>
  stW w138 (at6.add 1) (.int .u8 x135) fun w139 =>
  stW w139 (at6.add 2) (.int .u32 x136) fun w140 =>
  stW w140 (at6.add 3) (.slice A137 n137 c137) fun w141 =>
  Kr ((n114_0 : Int) == (0 : Int)) w141) (
  stW w117 at6 (.int .i64 x134) fun w142 =>
  stW w142 (at6.add 1) (.int .u8 x135) fun w143 =>
  stW w143 (at6.add 2) (.int .u32 x136) fun w144 =>
  stW w144 (at6.add 3) (.slice A137 n137 c137) fun w145 =>
  Kr false w145)) (
  drW w117 fun w146 =>
  ∃ S147 : World → Prop, S147 w146 ∧ (
  hdI S147 at4 .i64 fun x148 =>
  hdI S147 (at4.add 1) .u8 fun x149 =>
  hdI S147 (at4.add 2) .u32 fun x150 =>
  hdS S147 (at4.add 3) fun A151 n151 c151 =>
  sel (x114_1 == (0 : Int)) (
  hdS S147 (at4.add 3) fun A152 n152 c152 =>
  hdI S147 (at5.add 1) .i64 fun x153 =>
  optB A152 fun a154 =>
  req (decide (0 ≤ x153 ∧ x153 < (n152 : Int))) <|
  hdS S147 (a154.add (x153.toNat * 1)) fun A155 n155 c155 =>
  Calls Tryd.prog 49 #[.slice A114_0 n114_0 c114_0, .slice A118_0 n118_0 c118_0, .slice A155 n155 c155] w146 fun e156 w157 => ∃ (b158 : Bool), e156 = .returned (.bool b158) ∧ (
  S147 w157 ∧ (
  stW w157 at6 (.int .i64 x148) fun w159 =>
  stW w159 (at6.add 1) (.int .u8 x149) fun w160 =>
  stW w160 (at6.add 2) (.int .u32 x150) fun w161 =>
  stW w161 (at6.add 3) (.slice A151 n151 c151) fun w162 =>
  S147 w162 ∧ (
  Kr b158 w162)))) (
  S147 w146 ∧ (
  stW w146 at6 (.int .i64 x148) fun w163 =>
  stW w163 (at6.add 1) (.int .u8 x149) fun w164 =>
  stW w164 (at6.add 2) (.int .u32 x150) fun w165 =>
  stW w165 (at6.add 3) (.slice A151 n151 c151) fun w166 =>
  S147 w166 ∧ (
  Kr false w166))))))))) (
  sel (xt21 == (5 : Int)) (
  ldI w (at5.add 1) .i64 fun x167 =>
  Calls Tryd.prog 50 #[.pointer (some at0), .int .u32 (IntKind.u32.wrap x167)] w fun e168 w169 => e168 = .returned (.tuple #[]) ∧ (
  ldI w169 (at5.add 1) .i64 fun x170 =>
  stW w169 (at4.add 2) (.int .u32 (IntKind.u32.wrap x170)) fun w171 =>
  Kn  w171)) (
  sel (xt21 == (6 : Int)) (
  ldI w (at5.add 1) .i64 fun x172 =>
  Calls Tryd.prog 51 #[.pointer (some at0), .int .i64 x172] w fun e173 w174 => e173 = .returned (.tuple #[]) ∧ (
  ldI w174 (at5.add 1) .i64 fun x175 =>
  stW w174 at4 (.int .i64 (if (0 : Int) > x175 then (0 : Int) else x175)) fun w176 =>
  Kn  w176)) (
  Kn  w)))))
def wp (aa0 : Addr) (xa1_0 : Int) (xa1_1 : Int) (xa1_2 : Int) (Aa1_3 : Option Addr) (na1_3 : Nat) (ca1_3 : Nat) (xa2_0 : Int) (xa2_1 : Int) (Aa2_2 : Option Addr) (na2_2 : Nat) (ca2_2 : Nat) (w : World) (Q : Ending → World → Prop) : Prop :=
  alW w (.cells #[.int .i64 xa1_0, .int .u8 xa1_1, .int .u32 xa1_2, .slice Aa1_3 na1_3 ca1_3] 32) fun B1 w2 =>
  alW w2 (.cells #[.int .i64 xa2_0, .int .i64 xa2_1, .slice Aa2_2 na2_2 ca2_2] 51) fun B3 w4 =>
  alW w4 (.cells #[.int .i64 (0 : Int), .int .u8 (0 : Int), .int .u32 (0 : Int), .slice none 0 0] 32) fun B5 w6 =>
  ldI w6 (⟨B3, 0, Option.none⟩ : Addr) .i64 fun x7 =>
  sel (x7 == (1 : Int)) (
  j0 aa0 (⟨B1, 0, Option.none⟩ : Addr) (⟨B3, 0, Option.none⟩ : Addr) (⟨B5, 0, Option.none⟩ : Addr) x7 (x7 == (1 : Int)) w6 (fun (w177 : World) => ∀ _ : Fr,
  ldI w177 (⟨B1, 0, Option.none⟩ : Addr) .i64 fun x178 =>
  ldI w177 ((⟨B1, 0, Option.none⟩ : Addr).add 1) .u8 fun x179 =>
  ldI w177 ((⟨B1, 0, Option.none⟩ : Addr).add 2) .u32 fun x180 =>
  ldS w177 ((⟨B1, 0, Option.none⟩ : Addr).add 3) fun A181 n181 c181 =>
  stW w177 (⟨B5, 0, Option.none⟩ : Addr) (.int .i64 x178) fun w182 =>
  stW w182 ((⟨B5, 0, Option.none⟩ : Addr).add 1) (.int .u8 x179) fun w183 =>
  stW w183 ((⟨B5, 0, Option.none⟩ : Addr).add 2) (.int .u32 x180) fun w184 =>
  stW w184 ((⟨B5, 0, Option.none⟩ : Addr).add 3) (.slice A181 n181 c181) fun w185 =>
  ldI w185 (⟨B5, 0, Option.none⟩ : Addr) .i64 fun x186 =>
  ldI w185 ((⟨B5, 0, Option.none⟩ : Addr).add 1) .u8 fun x187 =>
  ldI w185 ((⟨B5, 0, Option.none⟩ : Addr).add 2) .u32 fun x188 =>
  ldS w185 ((⟨B5, 0, Option.none⟩ : Addr).add 3) fun A189 n189 c189 =>
  Q (.returned (.tuple #[.agg #[.int .i64 x186, .int .u8 x187, .int .u32 x188, .slice A189 n189 c189], .bool true])) w185) (fun (b190 : Bool) (w191 : World) => ∀ _ : Fr,
  ldI w191 (⟨B5, 0, Option.none⟩ : Addr) .i64 fun x192 =>
  ldI w191 ((⟨B5, 0, Option.none⟩ : Addr).add 1) .u8 fun x193 =>
  ldI w191 ((⟨B5, 0, Option.none⟩ : Addr).add 2) .u32 fun x194 =>
  ldS w191 ((⟨B5, 0, Option.none⟩ : Addr).add 3) fun A195 n195 c195 =>
  Q (.returned (.tuple #[.agg #[.int .i64 x192, .int .u8 x193, .int .u32 x194, .slice A195 n195 c195], .bool b190])) w191)) (
  j0 aa0 (⟨B1, 0, Option.none⟩ : Addr) (⟨B3, 0, Option.none⟩ : Addr) (⟨B5, 0, Option.none⟩ : Addr) x7 (x7 == (2 : Int)) w6 (fun (w196 : World) => ∀ _ : Fr,
  ldI w196 (⟨B1, 0, Option.none⟩ : Addr) .i64 fun x197 =>
  ldI w196 ((⟨B1, 0, Option.none⟩ : Addr).add 1) .u8 fun x198 =>
  ldI w196 ((⟨B1, 0, Option.none⟩ : Addr).add 2) .u32 fun x199 =>
  ldS w196 ((⟨B1, 0, Option.none⟩ : Addr).add 3) fun A200 n200 c200 =>
  stW w196 (⟨B5, 0, Option.none⟩ : Addr) (.int .i64 x197) fun w201 =>
  stW w201 ((⟨B5, 0, Option.none⟩ : Addr).add 1) (.int .u8 x198) fun w202 =>
  stW w202 ((⟨B5, 0, Option.none⟩ : Addr).add 2) (.int .u32 x199) fun w203 =>
  stW w203 ((⟨B5, 0, Option.none⟩ : Addr).add 3) (.slice A200 n200 c200) fun w204 =>
  ldI w204 (⟨B5, 0, Option.none⟩ : Addr) .i64 fun x205 =>
  ldI w204 ((⟨B5, 0, Option.none⟩ : Addr).add 1) .u8 fun x206 =>
  ldI w204 ((⟨B5, 0, Option.none⟩ : Addr).add 2) .u32 fun x207 =>
  ldS w204 ((⟨B5, 0, Option.none⟩ : Addr).add 3) fun A208 n208 c208 =>
  Q (.returned (.tuple #[.agg #[.int .i64 x205, .int .u8 x206, .int .u32 x207, .slice A208 n208 c208], .bool true])) w204) (fun (b209 : Bool) (w210 : World) => ∀ _ : Fr,
  ldI w210 (⟨B5, 0, Option.none⟩ : Addr) .i64 fun x211 =>
  ldI w210 ((⟨B5, 0, Option.none⟩ : Addr).add 1) .u8 fun x212 =>
  ldI w210 ((⟨B5, 0, Option.none⟩ : Addr).add 2) .u32 fun x213 =>
  ldS w210 ((⟨B5, 0, Option.none⟩ : Addr).add 3) fun A214 n214 c214 =>
  Q (.returned (.tuple #[.agg #[.int .i64 x211, .int .u8 x212, .int .u32 x213, .slice A214 n214 c214], .bool b209])) w210))
def D : Nat → Option DH := dtab [(9, .simple [.fst 0, .fst 1, .fst 2, .fst 3, .fst 4, .fst 5, .fst 6, .fst 7] [.eff 8, .fst 9]), (11, .simple [.fst 0, .fst 1, .fst 2, .fst 3, .fst 4, .fst 5, .fst 6, .fst 7] [.eff 8, .fst 9]), (25, .held [.fst 0, .fst 1, .fst 2, .fst 3, .fst 4, .fst 5, .fst 6, .fst 7, .fst 8, .fst 9, .fst 10, .fst 11, .eff 12, .fst 13, .eff 14] [.fst 15])]
def j1LO : LO := ⟨[], [6, 7], [], []⟩
def j1T : Spec := fun Q σ w =>
  gAd (σ 5) fun at5 =>
  gAd (σ 6) fun at6 =>
  gSlice (σ 8) fun At8 nt8 ct8 =>
  gInt .i64 (σ 9) fun xt9 =>
  gInt .i64 (σ 10) fun xt10 =>
  gAd (σ 11) fun at11 =>
  j1 at5 at6 At8 nt8 ct8 xt9 xt10 at11 w (fun (bq7 : Bool) (w : World) => ∀ d : Fr, Q .ret (ov d [(6, .pointer (some at6)), (7, .bool bq7)]) w)
def j1tb : List (List Nat × Spec) := []
noncomputable def j1b : Code := (subC [1, 1, 1, 1, 1, 0, 1, 0, 1, 0, 1] body).getD .skip
theorem j1_eq (at5 : Addr) (at6 : Addr) (At8 : Option Addr) (nt8 : Nat) (ct8 : Nat) (xt9 : Int) (xt10 : Int) (at11 : Addr) (Q : PQ) (σ : Fr) (w : World) :
    j1 at5 at6 At8 nt8 ct8 xt9 xt10 at11 w (fun (bq7 : Bool) (w : World) => ∀ d : Fr, Q .ret (ov d [(6, .pointer (some at6)), (7, .bool bq7)]) w) = codeW Tryd.prog hT 169 D (tab j1tb) [1, 1, 1, 1, 1, 0, 1, 0, 1, 0, 1] j1b (widen j1LO Q) (ov σ [(5, .pointer (some at5)), (6, .pointer (some at6)), (8, .slice At8 nt8 ct8), (9, .int .i64 xt9), (10, .int .i64 xt10), (11, .pointer (some at11))]) w := by kernel_rfl
theorem j1_snd : ∀ c, subC [1, 1, 1, 1, 1, 0, 1, 0, 1, 0, 1] body = some c → Snd Tryd.prog 169 c j1T := by
  refine cut_of (hT := hT) (D := D) (l := j1tb) (b := j1b) (lo := j1LO) (by kernel_rfl) (by
    intro x hx
    simp only [j1tb, List.not_mem_nil] at hx
    ) (by kernel_rfl) (by kernel_rfl) ?_
  intro Q σ w h
  unfold j1T at h
  obtain ⟨at5, h5, hn⟩ := gAd_elim h
  clear h
  have h := hn
  clear hn
  obtain ⟨at6, h6, hn⟩ := gAd_elim h
  clear h
  have h := hn
  clear hn
  obtain ⟨At8, nt8, ct8, h8, hn⟩ := gSlice_elim h
  clear h
  have h := hn
  clear hn
  obtain ⟨xt9, h9, hn⟩ := gInt_elim h
  clear h
  have h := hn
  clear hn
  obtain ⟨xt10, h10, hn⟩ := gInt_elim h
  clear h
  have h := hn
  clear hn
  obtain ⟨at11, h11, hn⟩ := gAd_elim h
  clear h
  have h := hn
  clear hn
  rw [j1_eq (σ := σ)] at h
  have e : (ov σ [(5, .pointer (some at5)), (6, .pointer (some at6)), (8, .slice At8 nt8 ct8), (9, .int .i64 xt9), (10, .int .i64 xt10), (11, .pointer (some at11))]) = σ := ov_self (by simp [h5, h6, h8, h9, h10, h11])
  rw [e] at h
  exact h
def j0LO : LO := ⟨[4, 6], [6, 7], [], []⟩
def j0T : Spec := fun Q σ w =>
  gAd (σ 0) fun at0 =>
  gAd (σ 4) fun at4 =>
  gAd (σ 5) fun at5 =>
  gAd (σ 6) fun at6 =>
  gInt .i64 (σ 21) fun xt21 =>
  gBool (σ 22) fun bt22 =>
  j0 at0 at4 at5 at6 xt21 bt22 w (fun (w : World) => ∀ d : Fr, Q .normal (ov d [(4, .pointer (some at4)), (6, .pointer (some at6))]) w) (fun (bq7 : Bool) (w : World) => ∀ d : Fr, Q .ret (ov d [(6, .pointer (some at6)), (7, .bool bq7)]) w)
def j0tb : List (List Nat × Spec) := [([1, 1, 1, 1, 1, 0, 1, 0, 1, 0, 1], j1T)]
noncomputable def j0b : Code := (subC [1, 0, 1, 0, 1] body).getD .skip
theorem j0_eq (at0 : Addr) (at4 : Addr) (at5 : Addr) (at6 : Addr) (xt21 : Int) (bt22 : Bool) (Q : PQ) (σ : Fr) (w : World) :
    j0 at0 at4 at5 at6 xt21 bt22 w (fun (w : World) => ∀ d : Fr, Q .normal (ov d [(4, .pointer (some at4)), (6, .pointer (some at6))]) w) (fun (bq7 : Bool) (w : World) => ∀ d : Fr, Q .ret (ov d [(6, .pointer (some at6)), (7, .bool bq7)]) w) = codeW Tryd.prog hT 169 D (tab j0tb) [1, 0, 1, 0, 1] j0b (widen j0LO Q) (ov σ [(0, .pointer (some at0)), (4, .pointer (some at4)), (5, .pointer (some at5)), (6, .pointer (some at6)), (21, .int .i64 xt21), (22, .bool bt22)]) w := by cases bt22 <;> kernel_rfl
theorem j0_snd : ∀ c, subC [1, 0, 1, 0, 1] body = some c → Snd Tryd.prog 169 c j0T := by
  refine cut_of (hT := hT) (D := D) (l := j0tb) (b := j0b) (lo := j0LO) (by kernel_rfl) (by
    intro x hx
    simp only [j0tb, List.mem_cons, List.not_mem_nil, or_false] at hx
    subst hx
    exact j1_snd) (by kernel_rfl) (by kernel_rfl) ?_
  intro Q σ w h
  unfold j0T at h
  obtain ⟨at0, h0, hn⟩ := gAd_elim h
  clear h
  have h := hn
  clear hn
  obtain ⟨at4, h4, hn⟩ := gAd_elim h
  clear h
  have h := hn
  clear hn
  obtain ⟨at5, h5, hn⟩ := gAd_elim h
  clear h
  have h := hn
  clear hn
  obtain ⟨at6, h6, hn⟩ := gAd_elim h
  clear h
  have h := hn
  clear hn
  obtain ⟨xt21, h21, hn⟩ := gInt_elim h
  clear h
  have h := hn
  clear hn
  obtain ⟨bt22, h22, hn⟩ := gBool_elim h
  clear h
  have h := hn
  clear hn
  rw [j0_eq (σ := σ)] at h
  have e : (ov σ [(0, .pointer (some at0)), (4, .pointer (some at4)), (5, .pointer (some at5)), (6, .pointer (some at6)), (21, .int .i64 xt21), (22, .bool bt22)]) = σ := ov_self (by simp [h0, h4, h5, h6, h21, h22])
  rw [e] at h
  exact h
def tb : List (List Nat × Spec) := [([1, 1, 1, 1, 1, 0, 1, 0, 1, 0, 1], j1T), ([1, 0, 1, 0, 1], j0T)]
theorem wp_eq (aa0 : Addr) (xa1_0 : Int) (xa1_1 : Int) (xa1_2 : Int) (Aa1_3 : Option Addr) (na1_3 : Nat) (ca1_3 : Nat) (xa2_0 : Int) (xa2_1 : Int) (Aa2_2 : Option Addr) (na2_2 : Nat) (ca2_2 : Nat) (w : World) (Q : Ending → World → Prop) :
    wp aa0 xa1_0 xa1_1 xa1_2 Aa1_3 na1_3 ca1_3 xa2_0 xa2_1 Aa2_2 na2_2 ca2_2 w Q = codeW Tryd.prog hT 169 D (tab tb) [] body (topQ Tryd.prog hT 169 [.cell 6 32, .tmp 7] Q) (argsF [.pointer (some aa0), .agg #[.int .i64 xa1_0, .int .u8 xa1_1, .int .u32 xa1_2, .slice Aa1_3 na1_3 ca1_3], .agg #[.int .i64 xa2_0, .int .i64 xa2_1, .slice Aa2_2 na2_2 ca2_2]]) w := by kernel_rfl
theorem ok (aa0 : Addr) (xa1_0 : Int) (xa1_1 : Int) (xa1_2 : Int) (Aa1_3 : Option Addr) (na1_3 : Nat) (ca1_3 : Nat) (xa2_0 : Int) (xa2_1 : Int) (Aa2_2 : Option Addr) (na2_2 : Nat) (ca2_2 : Nat) (w : World) (Q : Ending → World → Prop) (h : wp aa0 xa1_0 xa1_1 xa1_2 Aa1_3 na1_3 ca1_3 xa2_0 xa2_1 Aa2_2 na2_2 ca2_2 w Q) : Calls Tryd.prog 25 #[.pointer (some aa0), .agg #[.int .i64 xa1_0, .int .u8 xa1_1, .int .u32 xa1_2, .slice Aa1_3 na1_3 ca1_3], .agg #[.int .i64 xa2_0, .int .i64 xa2_1, .slice Aa2_2 na2_2 ca2_2]] w Q := by
  rw [wp_eq] at h
  exact calls_of_codeW (c := body) (rs := [.cell 6 32, .tmp 7]) Tryd.func25 (by kernel_rfl) (by kernel_rfl) (by kernel_rfl) (by kernel_rfl) (by kernel_rfl) (tab_snd (by
    intro x hx
    simp only [tb, List.mem_cons, List.not_mem_nil, or_false] at hx
    rcases hx with rfl | rfl
    · exact j1_snd
    · exact j0_snd)) (by kernel_rfl) h
end f_law08_asks
namespace f_ref08_value
/-! skein/skeinref08.value: function 36 -/
noncomputable def body : Code := (Tryd.f36.body).getD .skip
def l0 : Nat → Option Addr → Nat → Nat → Int → Int → Int → World → (Int → World → Prop) → Prop
  | 0, _, _, _, _, _, _, _, _ => False
  | k + 1, At0, nt0, ct0, xt1, xt7, xt8, w, K0 =>
    sel (decide (xt8 ≥ xt1)) (
    optB At0 fun a1 =>
    req (decide (0 ≤ xt8 ∧ xt8 < (nt0 : Int))) <|
    ldI w (a1.add (xt8.toNat * 1)) .u8 fun x2 =>
    l0 k At0 nt0 ct0 xt1 (IntKind.u64.wrap ((IntKind.u64.wrap (xt7 * (256 : Int))) + (IntKind.u64.wrap x2))) (IntKind.i64.wrap (xt8 - (1 : Int))) w K0) (
    K0 xt7 w)
def wp (Aa0 : Option Addr) (na0 : Nat) (ca0 : Nat) (xa1 : Int) (xa2 : Int) (w : World) (Q : Ending → World → Prop) : Prop :=
  ∃ k5 : Nat, l0 k5 Aa0 na0 ca0 xa1 (0 : Int) (IntKind.i64.wrap ((IntKind.i64.wrap (xa1 + xa2)) - (1 : Int))) w (fun (x3 : Int) (w4 : World) => ∀ _ : Fr,
  Q (.returned (.int .u64 x3)) w4)
def D : Nat → Option DH := dtab []
def l0LO : LO := ⟨[], [], [(0, [7])], []⟩
def l0Tk (k : Nat) : Spec := fun Q σ w =>
  gSlice (σ 0) fun At0 nt0 ct0 =>
  gInt .i64 (σ 1) fun xt1 =>
  gInt .u64 (σ 7) fun xt7 =>
  gInt .i64 (σ 8) fun xt8 =>
  l0 k At0 nt0 ct0 xt1 xt7 xt8 w (fun (xq7 : Int) (w : World) => ∀ d : Fr, Q (.exit 0) (ov d [(7, .int .u64 xq7)]) w)
def l0T : Spec := fun Q σ w => ∃ k, l0Tk k Q σ w
def l0tb : List (List Nat × Spec) := []
noncomputable def l0b : Code := (subC [0, 0, 1, 0, 1, 1] body).getD .skip
theorem l0_eq (k : Nat) (At0 : Option Addr) (nt0 : Nat) (ct0 : Nat) (xt1 : Int) (xt7 : Int) (xt8 : Int) (Q : PQ) (σ : Fr) (w : World) :
    l0 (k + 1) At0 nt0 ct0 xt1 xt7 xt8 w (fun (xq7 : Int) (w : World) => ∀ d : Fr, Q (.exit 0) (ov d [(7, .int .u64 xq7)]) w) = codeW Tryd.prog hT 27 D (tab l0tb) [0, 0, 1, 0, 1, 1] l0b (thenQ (l0Tk k Q) (widen l0LO Q)) (ov σ [(0, .slice At0 nt0 ct0), (1, .int .i64 xt1), (7, .int .u64 xt7), (8, .int .i64 xt8)]) w := by kernel_rfl
theorem l0_snd : ∀ c, subC [0, 1, 0, 1, 1] body = some c → Snd Tryd.prog 27 c l0T := by
  refine loop_of (hT := hT) (D := D) (l := l0tb) (b := l0b) (lo := l0LO) (by kernel_rfl) (by
    intro x hx
    simp only [l0tb, List.not_mem_nil] at hx
    ) (by kernel_rfl) (by kernel_rfl) ?_ ?_
  · intro Q σ w h
    unfold l0Tk at h
    obtain ⟨At0, nt0, ct0, h0, hn⟩ := gSlice_elim h
    clear h
    have h := hn
    clear hn
    obtain ⟨xt1, h1, hn⟩ := gInt_elim h
    clear h
    have h := hn
    clear hn
    obtain ⟨xt7, h7, hn⟩ := gInt_elim h
    clear h
    have h := hn
    clear hn
    obtain ⟨xt8, h8, hn⟩ := gInt_elim h
    clear h
    have h := hn
    clear hn
    exact h
  · intro k Q σ w h
    unfold l0Tk at h
    obtain ⟨At0, nt0, ct0, h0, hn⟩ := gSlice_elim h
    clear h
    have h := hn
    clear hn
    obtain ⟨xt1, h1, hn⟩ := gInt_elim h
    clear h
    have h := hn
    clear hn
    obtain ⟨xt7, h7, hn⟩ := gInt_elim h
    clear h
    have h := hn
    clear hn
    obtain ⟨xt8, h8, hn⟩ := gInt_elim h
    clear h
    have h := hn
    clear hn
    rw [l0_eq (σ := σ)] at h
    have e : (ov σ [(0, .slice At0 nt0 ct0), (1, .int .i64 xt1), (7, .int .u64 xt7), (8, .int .i64 xt8)]) = σ := ov_self (by simp [h0, h1, h7, h8])
    rw [e] at h
    exact h
def tb : List (List Nat × Spec) := [([0, 1, 0, 1, 1], l0T)]
theorem wp_eq (Aa0 : Option Addr) (na0 : Nat) (ca0 : Nat) (xa1 : Int) (xa2 : Int) (w : World) (Q : Ending → World → Prop) :
    wp Aa0 na0 ca0 xa1 xa2 w Q = codeW Tryd.prog hT 27 D (tab tb) [] body (topQ Tryd.prog hT 27 [.tmp 6] Q) (argsF [.slice Aa0 na0 ca0, .int .i64 xa1, .int .i64 xa2]) w := by kernel_rfl
theorem ok (Aa0 : Option Addr) (na0 : Nat) (ca0 : Nat) (xa1 : Int) (xa2 : Int) (w : World) (Q : Ending → World → Prop) (h : wp Aa0 na0 ca0 xa1 xa2 w Q) : Calls Tryd.prog 36 #[.slice Aa0 na0 ca0, .int .i64 xa1, .int .i64 xa2] w Q := by
  rw [wp_eq] at h
  exact calls_of_codeW (c := body) (rs := [.tmp 6]) Tryd.func36 (by kernel_rfl) (by kernel_rfl) (by kernel_rfl) (by kernel_rfl) (by kernel_rfl) (tab_snd (by
    intro x hx
    simp only [tb, List.mem_cons, List.not_mem_nil, or_false] at hx
    subst hx
    exact l0_snd)) (by kernel_rfl) h
end f_ref08_value
namespace f_ref08_Room
/-! skein/skeinref08.Room: function 38 -/
noncomputable def body : Code := (Tryd.f38.body).getD .skip
def wp (xa0_0 : Int) (xa0_1 : Int) (xa0_2 : Int) (Aa0_3 : Option Addr) (na0_3 : Nat) (ca0_3 : Nat) (w : World) (Q : Ending → World → Prop) : Prop :=
  alW w (.cells #[.int .i64 xa0_0, .int .u8 xa0_1, .int .u32 xa0_2, .slice Aa0_3 na0_3 ca0_3] 32) fun B1 w2 =>
  ldI w2 (⟨B1, 0, Option.none⟩ : Addr) .i64 fun x3 =>
  ldI w2 ((⟨B1, 0, Option.none⟩ : Addr).add 1) .u8 fun x4 =>
  ldI w2 ((⟨B1, 0, Option.none⟩ : Addr).add 2) .u32 fun x5 =>
  ldS w2 ((⟨B1, 0, Option.none⟩ : Addr).add 3) fun A6 n6 c6 =>
  Calls Tryd.prog 63 #[.agg #[.int .i64 x3, .int .u8 x4, .int .u32 x5, .slice A6 n6 c6]] w2 fun e7 w8 => ∃ (x9 : Int), e7 = .returned (.int .i64 x9) ∧ (
  ldS w8 ((⟨B1, 0, Option.none⟩ : Addr).add 3) fun A10 n10 c10 =>
  sel (decide ((n10 : Int) ≥ (100 : Int))) (
  Q (.returned (.int .i64 (-1 : Int))) w8) (
  sel (decide ((IntKind.i64.wrap ((IntKind.i64.wrap ((512 : Int) - x9)) - (2 : Int))) < (0 : Int))) (
  Q (.returned (.int .i64 (-1 : Int))) w8) (
  sel (decide ((IntKind.i64.wrap ((IntKind.i64.wrap ((512 : Int) - x9)) - (2 : Int))) > (200 : Int))) (
  Q (.returned (.int .i64 (200 : Int))) w8) (
  Q (.returned (.int .i64 (IntKind.i64.wrap ((IntKind.i64.wrap ((512 : Int) - x9)) - (2 : Int))))) w8))))
def D : Nat → Option DH := dtab []
def tb : List (List Nat × Spec) := []
theorem wp_eq (xa0_0 : Int) (xa0_1 : Int) (xa0_2 : Int) (Aa0_3 : Option Addr) (na0_3 : Nat) (ca0_3 : Nat) (w : World) (Q : Ending → World → Prop) :
    wp xa0_0 xa0_1 xa0_2 Aa0_3 na0_3 ca0_3 w Q = codeW Tryd.prog hT 19 D (tab tb) [] body (topQ Tryd.prog hT 19 [.tmp 2] Q) (argsF [.agg #[.int .i64 xa0_0, .int .u8 xa0_1, .int .u32 xa0_2, .slice Aa0_3 na0_3 ca0_3]]) w := by kernel_rfl
theorem ok (xa0_0 : Int) (xa0_1 : Int) (xa0_2 : Int) (Aa0_3 : Option Addr) (na0_3 : Nat) (ca0_3 : Nat) (w : World) (Q : Ending → World → Prop) (h : wp xa0_0 xa0_1 xa0_2 Aa0_3 na0_3 ca0_3 w Q) : Calls Tryd.prog 38 #[.agg #[.int .i64 xa0_0, .int .u8 xa0_1, .int .u32 xa0_2, .slice Aa0_3 na0_3 ca0_3]] w Q := by
  rw [wp_eq] at h
  exact calls_of_codeW (c := body) (rs := [.tmp 2]) Tryd.func38 (by kernel_rfl) (by kernel_rfl) (by kernel_rfl) (by kernel_rfl) (by kernel_rfl) (tab_snd (by
    intro x hx
    simp only [tb, List.not_mem_nil] at hx
    )) (by kernel_rfl) h
end f_ref08_Room
namespace f_ref08_Insert
/-! skein/skeinref08.Insert: function 46 -/
noncomputable def body : Code := (Tryd.f46.body).getD .skip
def j1 (at3 : Addr) (At8 : Option Addr) (nt8 : Nat) (ct8 : Nat) (xt9 : Int) (w : World) (Kn : (Option Addr) → Nat → Nat → World → Prop) : Prop :=
  ldS w (at3.add 3) fun A72 n72 c72 =>
  sel (decide (xt9 < (n72 : Int))) (
  ldS w (at3.add 3) fun A73 n73 c73 =>
  optB A73 fun a74 =>
  req (decide (0 ≤ xt9 ∧ xt9 < (n73 : Int))) <|
  ldS w (a74.add (xt9.toNat * 1)) fun A75 n75 c75 =>
  alW w (.cells #[.slice A75 n75 c75] 22) fun B76 w77 =>
  Runs Tryd.prog (Builtin.append_ #[30, 30] 30 #[.slice At8 nt8 ct8, .slice (some (⟨B76, 0, Option.none⟩ : Addr)) 1 1]) w77 fun v79 w78 => ∃ (A80 : Option Addr) (n80 : Nat) (c80 : Nat), v79 = (.slice A80 n80 c80) ∧ (
  Kn A80 n80 c80 w78)) (
  Kn At8 nt8 ct8 w)
def l0 : Nat → Int → Option Addr → Nat → Nat → Addr → Option Addr → Nat → Nat → Int → World → ((Option Addr) → Nat → Nat → World → Prop) → Prop
  | 0, _, _, _, _, _, _, _, _, _, _, _ => False
  | k + 1, xt1, At2, nt2, ct2, at3, At8, nt8, ct8, xt9, w, K0 =>
    ldS w (at3.add 3) fun A63 n63 c63 =>
    sel (decide (xt9 ≤ (n63 : Int))) (
    sel (xt9 == xt1) (
    Calls Tryd.prog 30 #[.slice At2 nt2 ct2] w fun e64 w65 => ∃ (A66 : Option Addr) (n66 : Nat) (c66 : Nat), e64 = .returned (.slice A66 n66 c66) ∧ (
    alW w65 (.cells #[.slice A66 n66 c66] 22) fun B67 w68 =>
    Runs Tryd.prog (Builtin.append_ #[30, 30] 30 #[.slice At8 nt8 ct8, .slice (some (⟨B67, 0, Option.none⟩ : Addr)) 1 1]) w68 fun v70 w69 => ∃ (A71 : Option Addr) (n71 : Nat) (c71 : Nat), v70 = (.slice A71 n71 c71) ∧ (
    j1 at3 A71 n71 c71 xt9 w69 (fun (A81 : Option Addr) (n81 : Nat) (c81 : Nat) (w82 : World) => ∀ _ : Fr,
    l0 k xt1 At2 nt2 ct2 at3 A81 n81 c81 (IntKind.i64.wrap (xt9 + (1 : Int))) w82 K0)))) (
    j1 at3 At8 nt8 ct8 xt9 w (fun (A83 : Option Addr) (n83 : Nat) (c83 : Nat) (w84 : World) => ∀ _ : Fr,
    l0 k xt1 At2 nt2 ct2 at3 A83 n83 c83 (IntKind.i64.wrap (xt9 + (1 : Int))) w84 K0))) (
    K0 At8 nt8 ct8 w)
def wp (xa0_0 : Int) (xa0_1 : Int) (xa0_2 : Int) (Aa0_3 : Option Addr) (na0_3 : Nat) (ca0_3 : Nat) (xa1 : Int) (Aa2 : Option Addr) (na2 : Nat) (ca2 : Nat) (w : World) (Q : Ending → World → Prop) : Prop :=
  alW w (.cells #[.int .i64 xa0_0, .int .u8 xa0_1, .int .u32 xa0_2, .slice Aa0_3 na0_3 ca0_3] 32) fun B1 w2 =>
  alW w2 (.cells #[.int .i64 (0 : Int), .int .u8 (0 : Int), .int .u32 (0 : Int), .slice none 0 0] 32) fun B3 w4 =>
  sel (decide (xa1 < (0 : Int))) (
  ldI w4 (⟨B1, 0, Option.none⟩ : Addr) .i64 fun x5 =>
  ldI w4 ((⟨B1, 0, Option.none⟩ : Addr).add 1) .u8 fun x6 =>
  ldI w4 ((⟨B1, 0, Option.none⟩ : Addr).add 2) .u32 fun x7 =>
  ldS w4 ((⟨B1, 0, Option.none⟩ : Addr).add 3) fun A8 n8 c8 =>
  stW w4 (⟨B3, 0, Option.none⟩ : Addr) (.int .i64 x5) fun w9 =>
  stW w9 ((⟨B3, 0, Option.none⟩ : Addr).add 1) (.int .u8 x6) fun w10 =>
  stW w10 ((⟨B3, 0, Option.none⟩ : Addr).add 2) (.int .u32 x7) fun w11 =>
  stW w11 ((⟨B3, 0, Option.none⟩ : Addr).add 3) (.slice A8 n8 c8) fun w12 =>
  ldI w12 (⟨B3, 0, Option.none⟩ : Addr) .i64 fun x13 =>
  ldI w12 ((⟨B3, 0, Option.none⟩ : Addr).add 1) .u8 fun x14 =>
  ldI w12 ((⟨B3, 0, Option.none⟩ : Addr).add 2) .u32 fun x15 =>
  ldS w12 ((⟨B3, 0, Option.none⟩ : Addr).add 3) fun A16 n16 c16 =>
  Q (.returned (.tuple #[.agg #[.int .i64 x13, .int .u8 x14, .int .u32 x15, .slice A16 n16 c16], .int .i64 (82 : Int)])) w12) (
  ldS w4 ((⟨B1, 0, Option.none⟩ : Addr).add 3) fun A17 n17 c17 =>
  sel (decide (xa1 > (n17 : Int))) (
  ldI w4 (⟨B1, 0, Option.none⟩ : Addr) .i64 fun x18 =>
  ldI w4 ((⟨B1, 0, Option.none⟩ : Addr).add 1) .u8 fun x19 =>
  ldI w4 ((⟨B1, 0, Option.none⟩ : Addr).add 2) .u32 fun x20 =>
  ldS w4 ((⟨B1, 0, Option.none⟩ : Addr).add 3) fun A21 n21 c21 =>
  stW w4 (⟨B3, 0, Option.none⟩ : Addr) (.int .i64 x18) fun w22 =>
  stW w22 ((⟨B3, 0, Option.none⟩ : Addr).add 1) (.int .u8 x19) fun w23 =>
  stW w23 ((⟨B3, 0, Option.none⟩ : Addr).add 2) (.int .u32 x20) fun w24 =>
  stW w24 ((⟨B3, 0, Option.none⟩ : Addr).add 3) (.slice A21 n21 c21) fun w25 =>
  ldI w25 (⟨B3, 0, Option.none⟩ : Addr) .i64 fun x26 =>
  ldI w25 ((⟨B3, 0, Option.none⟩ : Addr).add 1) .u8 fun x27 =>
  ldI w25 ((⟨B3, 0, Option.none⟩ : Addr).add 2) .u32 fun x28 =>
  ldS w25 ((⟨B3, 0, Option.none⟩ : Addr).add 3) fun A29 n29 c29 =>
  Q (.returned (.tuple #[.agg #[.int .i64 x26, .int .u8 x27, .int .u32 x28, .slice A29 n29 c29], .int .i64 (82 : Int)])) w25) (
  sel (decide ((na2 : Int) > (200 : Int))) (
  ldI w4 (⟨B1, 0, Option.none⟩ : Addr) .i64 fun x30 =>
  ldI w4 ((⟨B1, 0, Option.none⟩ : Addr).add 1) .u8 fun x31 =>
  ldI w4 ((⟨B1, 0, Option.none⟩ : Addr).add 2) .u32 fun x32 =>
  ldS w4 ((⟨B1, 0, Option.none⟩ : Addr).add 3) fun A33 n33 c33 =>
  stW w4 (⟨B3, 0, Option.none⟩ : Addr) (.int .i64 x30) fun w34 =>
  stW w34 ((⟨B3, 0, Option.none⟩ : Addr).add 1) (.int .u8 x31) fun w35 =>
  stW w35 ((⟨B3, 0, Option.none⟩ : Addr).add 2) (.int .u32 x32) fun w36 =>
  stW w36 ((⟨B3, 0, Option.none⟩ : Addr).add 3) (.slice A33 n33 c33) fun w37 =>
  ldI w37 (⟨B3, 0, Option.none⟩ : Addr) .i64 fun x38 =>
  ldI w37 ((⟨B3, 0, Option.none⟩ : Addr).add 1) .u8 fun x39 =>
  ldI w37 ((⟨B3, 0, Option.none⟩ : Addr).add 2) .u32 fun x40 =>
  ldS w37 ((⟨B3, 0, Option.none⟩ : Addr).add 3) fun A41 n41 c41 =>
  Q (.returned (.tuple #[.agg #[.int .i64 x38, .int .u8 x39, .int .u32 x40, .slice A41 n41 c41], .int .i64 (4 : Int)])) w37) (
  ldI w4 (⟨B1, 0, Option.none⟩ : Addr) .i64 fun x42 =>
  ldI w4 ((⟨B1, 0, Option.none⟩ : Addr).add 1) .u8 fun x43 =>
  ldI w4 ((⟨B1, 0, Option.none⟩ : Addr).add 2) .u32 fun x44 =>
  ldS w4 ((⟨B1, 0, Option.none⟩ : Addr).add 3) fun A45 n45 c45 =>
  Calls Tryd.prog 38 #[.agg #[.int .i64 x42, .int .u8 x43, .int .u32 x44, .slice A45 n45 c45]] w4 fun e46 w47 => ∃ (x48 : Int), e46 = .returned (.int .i64 x48) ∧ (
  sel (decide ((na2 : Int) > x48)) (
  ldI w47 (⟨B1, 0, Option.none⟩ : Addr) .i64 fun x49 =>
  ldI w47 ((⟨B1, 0, Option.none⟩ : Addr).add 1) .u8 fun x50 =>
  ldI w47 ((⟨B1, 0, Option.none⟩ : Addr).add 2) .u32 fun x51 =>
  ldS w47 ((⟨B1, 0, Option.none⟩ : Addr).add 3) fun A52 n52 c52 =>
  stW w47 (⟨B3, 0, Option.none⟩ : Addr) (.int .i64 x49) fun w53 =>
  stW w53 ((⟨B3, 0, Option.none⟩ : Addr).add 1) (.int .u8 x50) fun w54 =>
  stW w54 ((⟨B3, 0, Option.none⟩ : Addr).add 2) (.int .u32 x51) fun w55 =>
  stW w55 ((⟨B3, 0, Option.none⟩ : Addr).add 3) (.slice A52 n52 c52) fun w56 =>
  ldI w56 (⟨B3, 0, Option.none⟩ : Addr) .i64 fun x57 =>
  ldI w56 ((⟨B3, 0, Option.none⟩ : Addr).add 1) .u8 fun x58 =>
  ldI w56 ((⟨B3, 0, Option.none⟩ : Addr).add 2) .u32 fun x59 =>
  ldS w56 ((⟨B3, 0, Option.none⟩ : Addr).add 3) fun A60 n60 c60 =>
  Q (.returned (.tuple #[.agg #[.int .i64 x57, .int .u8 x58, .int .u32 x59, .slice A60 n60 c60], .int .i64 (81 : Int)])) w56) (
  alW w47 (.cells #[] 22) fun B61 w62 =>
  ∃ k100 : Nat, l0 k100 xa1 Aa2 na2 ca2 (⟨B1, 0, Option.none⟩ : Addr) (some (⟨B61, 0, Option.none⟩ : Addr)) 0 0 (0 : Int) w62 (fun (A85 : Option Addr) (n85 : Nat) (c85 : Nat) (w86 : World) => ∀ _ : Fr,
  stW w86 ((⟨B1, 0, Option.none⟩ : Addr).add 3) (.slice A85 n85 c85) fun w87 =>
  ldI w87 (⟨B1, 0, Option.none⟩ : Addr) .i64 fun x88 =>
  ldI w87 ((⟨B1, 0, Option.none⟩ : Addr).add 1) .u8 fun x89 =>
  ldI w87 ((⟨B1, 0, Option.none⟩ : Addr).add 2) .u32 fun x90 =>
  ldS w87 ((⟨B1, 0, Option.none⟩ : Addr).add 3) fun A91 n91 c91 =>
  stW w87 (⟨B3, 0, Option.none⟩ : Addr) (.int .i64 x88) fun w92 =>
  stW w92 ((⟨B3, 0, Option.none⟩ : Addr).add 1) (.int .u8 x89) fun w93 =>
  stW w93 ((⟨B3, 0, Option.none⟩ : Addr).add 2) (.int .u32 x90) fun w94 =>
  stW w94 ((⟨B3, 0, Option.none⟩ : Addr).add 3) (.slice A91 n91 c91) fun w95 =>
  ldI w95 (⟨B3, 0, Option.none⟩ : Addr) .i64 fun x96 =>
  ldI w95 ((⟨B3, 0, Option.none⟩ : Addr).add 1) .u8 fun x97 =>
  ldI w95 ((⟨B3, 0, Option.none⟩ : Addr).add 2) .u32 fun x98 =>
  ldS w95 ((⟨B3, 0, Option.none⟩ : Addr).add 3) fun A99 n99 c99 =>
  Q (.returned (.tuple #[.agg #[.int .i64 x96, .int .u8 x97, .int .u32 x98, .slice A99 n99 c99], .int .i64 (0 : Int)])) w95))))))
def D : Nat → Option DH := dtab []
def j1LO : LO := ⟨[1, 2, 3, 6, 8, 9], [], [], []⟩
def j1T : Spec := fun Q σ w =>
  gAd (σ 3) fun at3 =>
  gSlice (σ 8) fun At8 nt8 ct8 =>
  gInt .i64 (σ 9) fun xt9 =>
  j1 at3 At8 nt8 ct8 xt9 w (fun (Aq8 : Option Addr) (nq8 : Nat) (cq8 : Nat) (w : World) => ∀ d : Fr, Q .normal (ov d [(1, σ 1), (2, σ 2), (3, .pointer (some at3)), (6, σ 6), (8, .slice Aq8 nq8 cq8), (9, .int .i64 xt9)]) w)
def j1tb : List (List Nat × Spec) := []
noncomputable def j1b : Code := (subC [1, 0, 0, 1, 0, 0, 1, 0, 1, 1, 1, 1, 1] body).getD .skip
theorem j1_eq (at3 : Addr) (At8 : Option Addr) (nt8 : Nat) (ct8 : Nat) (xt9 : Int) (Q : PQ) (σ : Fr) (w : World) :
    j1 at3 At8 nt8 ct8 xt9 w (fun (Aq8 : Option Addr) (nq8 : Nat) (cq8 : Nat) (w : World) => ∀ d : Fr, Q .normal (ov d [(1, σ 1), (2, σ 2), (3, .pointer (some at3)), (6, σ 6), (8, .slice Aq8 nq8 cq8), (9, .int .i64 xt9)]) w) = codeW Tryd.prog hT 62 D (tab j1tb) [1, 0, 0, 1, 0, 0, 1, 0, 1, 1, 1, 1, 1] j1b (widen j1LO Q) (ov σ [(3, .pointer (some at3)), (8, .slice At8 nt8 ct8), (9, .int .i64 xt9)]) w := by kernel_rfl
theorem j1_snd : ∀ c, subC [1, 0, 0, 1, 0, 0, 1, 0, 1, 1, 1, 1, 1] body = some c → Snd Tryd.prog 62 c j1T := by
  refine cut_of (hT := hT) (D := D) (l := j1tb) (b := j1b) (lo := j1LO) (by kernel_rfl) (by
    intro x hx
    simp only [j1tb, List.not_mem_nil] at hx
    ) (by kernel_rfl) (by kernel_rfl) ?_
  intro Q σ w h
  unfold j1T at h
  obtain ⟨at3, h3, hn⟩ := gAd_elim h
  clear h
  have h := hn
  clear hn
  obtain ⟨At8, nt8, ct8, h8, hn⟩ := gSlice_elim h
  clear h
  have h := hn
  clear hn
  obtain ⟨xt9, h9, hn⟩ := gInt_elim h
  clear h
  have h := hn
  clear hn
  rw [j1_eq (σ := σ)] at h
  have e : (ov σ [(3, .pointer (some at3)), (8, .slice At8 nt8 ct8), (9, .int .i64 xt9)]) = σ := ov_self (by simp [h3, h8, h9])
  rw [e] at h
  exact h
def l0LO : LO := ⟨[], [], [(0, [3, 6, 8])], []⟩
def l0Tk (k : Nat) : Spec := fun Q σ w =>
  gInt .i64 (σ 1) fun xt1 =>
  gSlice (σ 2) fun At2 nt2 ct2 =>
  gAd (σ 3) fun at3 =>
  gSlice (σ 8) fun At8 nt8 ct8 =>
  gInt .i64 (σ 9) fun xt9 =>
  l0 k xt1 At2 nt2 ct2 at3 At8 nt8 ct8 xt9 w (fun (Aq8 : Option Addr) (nq8 : Nat) (cq8 : Nat) (w : World) => ∀ d : Fr, Q (.exit 0) (ov d [(3, .pointer (some at3)), (6, σ 6), (8, .slice Aq8 nq8 cq8)]) w)
def l0T : Spec := fun Q σ w => ∃ k, l0Tk k Q σ w
def l0tb : List (List Nat × Spec) := [([1, 0, 0, 1, 0, 0, 1, 0, 1, 1, 1, 1, 1], j1T)]
noncomputable def l0b : Code := (subC [0, 0, 1, 0, 1, 1, 1, 1, 1] body).getD .skip
theorem l0_eq (k : Nat) (xt1 : Int) (At2 : Option Addr) (nt2 : Nat) (ct2 : Nat) (at3 : Addr) (At8 : Option Addr) (nt8 : Nat) (ct8 : Nat) (xt9 : Int) (Q : PQ) (σ : Fr) (w : World) :
    l0 (k + 1) xt1 At2 nt2 ct2 at3 At8 nt8 ct8 xt9 w (fun (Aq8 : Option Addr) (nq8 : Nat) (cq8 : Nat) (w : World) => ∀ d : Fr, Q (.exit 0) (ov d [(3, .pointer (some at3)), (6, σ 6), (8, .slice Aq8 nq8 cq8)]) w) = codeW Tryd.prog hT 62 D (tab l0tb) [0, 0, 1, 0, 1, 1, 1, 1, 1] l0b (thenQ (l0Tk k Q) (widen l0LO Q)) (ov σ [(1, .int .i64 xt1), (2, .slice At2 nt2 ct2), (3, .pointer (some at3)), (8, .slice At8 nt8 ct8), (9, .int .i64 xt9)]) w := by kernel_rfl
theorem l0_snd : ∀ c, subC [0, 1, 0, 1, 1, 1, 1, 1] body = some c → Snd Tryd.prog 62 c l0T := by
  refine loop_of (hT := hT) (D := D) (l := l0tb) (b := l0b) (lo := l0LO) (by kernel_rfl) (by
    intro x hx
    simp only [l0tb, List.mem_cons, List.not_mem_nil, or_false] at hx
    subst hx
    exact j1_snd) (by kernel_rfl) (by kernel_rfl) ?_ ?_
  · intro Q σ w h
    unfold l0Tk at h
    obtain ⟨xt1, h1, hn⟩ := gInt_elim h
    clear h
    have h := hn
    clear hn
    obtain ⟨At2, nt2, ct2, h2, hn⟩ := gSlice_elim h
    clear h
    have h := hn
    clear hn
    obtain ⟨at3, h3, hn⟩ := gAd_elim h
    clear h
    have h := hn
    clear hn
    obtain ⟨At8, nt8, ct8, h8, hn⟩ := gSlice_elim h
    clear h
    have h := hn
    clear hn
    obtain ⟨xt9, h9, hn⟩ := gInt_elim h
    clear h
    have h := hn
    clear hn
    exact h
  · intro k Q σ w h
    unfold l0Tk at h
    obtain ⟨xt1, h1, hn⟩ := gInt_elim h
    clear h
    have h := hn
    clear hn
    obtain ⟨At2, nt2, ct2, h2, hn⟩ := gSlice_elim h
    clear h
    have h := hn
    clear hn
    obtain ⟨at3, h3, hn⟩ := gAd_elim h
    clear h
    have h := hn
    clear hn
    obtain ⟨At8, nt8, ct8, h8, hn⟩ := gSlice_elim h
    clear h
    have h := hn
    clear hn
    obtain ⟨xt9, h9, hn⟩ := gInt_elim h
    clear h
    have h := hn
    clear hn
    rw [l0_eq (σ := σ)] at h
    have e : (ov σ [(1, .int .i64 xt1), (2, .slice At2 nt2 ct2), (3, .pointer (some at3)), (8, .slice At8 nt8 ct8), (9, .int .i64 xt9)]) = σ := ov_self (by simp [h1, h2, h3, h8, h9])
    rw [e] at h
    exact h
def tb : List (List Nat × Spec) := [([1, 0, 0, 1, 0, 0, 1, 0, 1, 1, 1, 1, 1], j1T), ([0, 1, 0, 1, 1, 1, 1, 1], l0T)]
theorem wp_eq (xa0_0 : Int) (xa0_1 : Int) (xa0_2 : Int) (Aa0_3 : Option Addr) (na0_3 : Nat) (ca0_3 : Nat) (xa1 : Int) (Aa2 : Option Addr) (na2 : Nat) (ca2 : Nat) (w : World) (Q : Ending → World → Prop) :
    wp xa0_0 xa0_1 xa0_2 Aa0_3 na0_3 ca0_3 xa1 Aa2 na2 ca2 w Q = codeW Tryd.prog hT 62 D (tab tb) [] body (topQ Tryd.prog hT 62 [.cell 6 32, .tmp 7] Q) (argsF [.agg #[.int .i64 xa0_0, .int .u8 xa0_1, .int .u32 xa0_2, .slice Aa0_3 na0_3 ca0_3], .int .i64 xa1, .slice Aa2 na2 ca2]) w := by kernel_rfl
theorem ok (xa0_0 : Int) (xa0_1 : Int) (xa0_2 : Int) (Aa0_3 : Option Addr) (na0_3 : Nat) (ca0_3 : Nat) (xa1 : Int) (Aa2 : Option Addr) (na2 : Nat) (ca2 : Nat) (w : World) (Q : Ending → World → Prop) (h : wp xa0_0 xa0_1 xa0_2 Aa0_3 na0_3 ca0_3 xa1 Aa2 na2 ca2 w Q) : Calls Tryd.prog 46 #[.agg #[.int .i64 xa0_0, .int .u8 xa0_1, .int .u32 xa0_2, .slice Aa0_3 na0_3 ca0_3], .int .i64 xa1, .slice Aa2 na2 ca2] w Q := by
  rw [wp_eq] at h
  exact calls_of_codeW (c := body) (rs := [.cell 6 32, .tmp 7]) Tryd.func46 (by kernel_rfl) (by kernel_rfl) (by kernel_rfl) (by kernel_rfl) (by kernel_rfl) (tab_snd (by
    intro x hx
    simp only [tb, List.mem_cons, List.not_mem_nil, or_false] at hx
    rcases hx with rfl | rfl
    · exact j1_snd
    · exact l0_snd)) (by kernel_rfl) h
end f_ref08_Insert
namespace f_ref08_Replace
/-! skein/skeinref08.Replace: function 47 -/
noncomputable def body : Code := (Tryd.f47.body).getD .skip
def wp (xa0_0 : Int) (xa0_1 : Int) (xa0_2 : Int) (Aa0_3 : Option Addr) (na0_3 : Nat) (ca0_3 : Nat) (xa1 : Int) (Aa2 : Option Addr) (na2 : Nat) (ca2 : Nat) (w : World) (Q : Ending → World → Prop) : Prop :=
  alW w (.cells #[.int .i64 xa0_0, .int .u8 xa0_1, .int .u32 xa0_2, .slice Aa0_3 na0_3 ca0_3] 32) fun B1 w2 =>
  alW w2 (.cells #[.int .i64 (0 : Int), .int .u8 (0 : Int), .int .u32 (0 : Int), .slice none 0 0] 32) fun B3 w4 =>
  ldI w4 (⟨B1, 0, Option.none⟩ : Addr) .i64 fun x5 =>
  ldI w4 ((⟨B1, 0, Option.none⟩ : Addr).add 1) .u8 fun x6 =>
  ldI w4 ((⟨B1, 0, Option.none⟩ : Addr).add 2) .u32 fun x7 =>
  ldS w4 ((⟨B1, 0, Option.none⟩ : Addr).add 3) fun A8 n8 c8 =>
  Calls Tryd.prog 48 #[.agg #[.int .i64 x5, .int .u8 x6, .int .u32 x7, .slice A8 n8 c8], .int .i64 xa1] w4 fun e9 w10 => ∃ (x11_0_0 : Int) (x11_0_1 : Int) (x11_0_2 : Int) (A11_0_3 : Option Addr) (n11_0_3 : Nat) (c11_0_3 : Nat) (x11_1 : Int), e9 = .returned (.tuple #[.agg #[.int .i64 x11_0_0, .int .u8 x11_0_1, .int .u32 x11_0_2, .slice A11_0_3 n11_0_3 c11_0_3], .int .i64 x11_1]) ∧ (
  alW w10 (.cells #[.int .i64 (0 : Int), .int .u8 (0 : Int), .int .u32 (0 : Int), .slice none 0 0] 32) fun B12 w13 =>
  stW w13 (⟨B12, 0, Option.none⟩ : Addr) (.int .i64 x11_0_0) fun w14 =>
  stW w14 ((⟨B12, 0, Option.none⟩ : Addr).add 1) (.int .u8 x11_0_1) fun w15 =>
  stW w15 ((⟨B12, 0, Option.none⟩ : Addr).add 2) (.int .u32 x11_0_2) fun w16 =>
  stW w16 ((⟨B12, 0, Option.none⟩ : Addr).add 3) (.slice A11_0_3 n11_0_3 c11_0_3) fun w17 =>
  sel (x11_1 != (0 : Int)) (
  ldI w17 (⟨B1, 0, Option.none⟩ : Addr) .i64 fun x18 =>
  ldI w17 ((⟨B1, 0, Option.none⟩ : Addr).add 1) .u8 fun x19 =>
  ldI w17 ((⟨B1, 0, Option.none⟩ : Addr).add 2) .u32 fun x20 =>
  ldS w17 ((⟨B1, 0, Option.none⟩ : Addr).add 3) fun A21 n21 c21 =>
  stW w17 (⟨B3, 0, Option.none⟩ : Addr) (.int .i64 x18) fun w22 =>
  stW w22 ((⟨B3, 0, Option.none⟩ : Addr).add 1) (.int .u8 x19) fun w23 =>
  stW w23 ((⟨B3, 0, Option.none⟩ : Addr).add 2) (.int .u32 x20) fun w24 =>
  stW w24 ((⟨B3, 0, Option.none⟩ : Addr).add 3) (.slice A21 n21 c21) fun w25 =>
  ldI w25 (⟨B3, 0, Option.none⟩ : Addr) .i64 fun x26 =>
  ldI w25 ((⟨B3, 0, Option.none⟩ : Addr).add 1) .u8 fun x27 =>
  ldI w25 ((⟨B3, 0, Option.none⟩ : Addr).add 2) .u32 fun x28 =>
  ldS w25 ((⟨B3, 0, Option.none⟩ : Addr).add 3) fun A29 n29 c29 =>
  Q (.returned (.tuple #[.agg #[.int .i64 x26, .int .u8 x27, .int .u32 x28, .slice A29 n29 c29], .int .i64 x11_1])) w25) (
  ldI w17 (⟨B12, 0, Option.none⟩ : Addr) .i64 fun x30 =>
  ldI w17 ((⟨B12, 0, Option.none⟩ : Addr).add 1) .u8 fun x31 =>
  ldI w17 ((⟨B12, 0, Option.none⟩ : Addr).add 2) .u32 fun x32 =>
  ldS w17 ((⟨B12, 0, Option.none⟩ : Addr).add 3) fun A33 n33 c33 =>
  Calls Tryd.prog 46 #[.agg #[.int .i64 x30, .int .u8 x31, .int .u32 x32, .slice A33 n33 c33], .int .i64 xa1, .slice Aa2 na2 ca2] w17 fun e34 w35 => ∃ (x36_0_0 : Int) (x36_0_1 : Int) (x36_0_2 : Int) (A36_0_3 : Option Addr) (n36_0_3 : Nat) (c36_0_3 : Nat) (x36_1 : Int), e34 = .returned (.tuple #[.agg #[.int .i64 x36_0_0, .int .u8 x36_0_1, .int .u32 x36_0_2, .slice A36_0_3 n36_0_3 c36_0_3], .int .i64 x36_1]) ∧ (
  alW w35 (.cells #[.int .i64 (0 : Int), .int .u8 (0 : Int), .int .u32 (0 : Int), .slice none 0 0] 32) fun B37 w38 =>
  stW w38 (⟨B37, 0, Option.none⟩ : Addr) (.int .i64 x36_0_0) fun w39 =>
  stW w39 ((⟨B37, 0, Option.none⟩ : Addr).add 1) (.int .u8 x36_0_1) fun w40 =>
  stW w40 ((⟨B37, 0, Option.none⟩ : Addr).add 2) (.int .u32 x36_0_2) fun w41 =>
  stW w41 ((⟨B37, 0, Option.none⟩ : Addr).add 3) (.slice A36_0_3 n36_0_3 c36_0_3) fun w42 =>
  sel (x36_1 != (0 : Int)) (
  ldI w42 (⟨B1, 0, Option.none⟩ : Addr) .i64 fun x43 =>
  ldI w42 ((⟨B1, 0, Option.none⟩ : Addr).add 1) .u8 fun x44 =>
  ldI w42 ((⟨B1, 0, Option.none⟩ : Addr).add 2) .u32 fun x45 =>
  ldS w42 ((⟨B1, 0, Option.none⟩ : Addr).add 3) fun A46 n46 c46 =>
  stW w42 (⟨B3, 0, Option.none⟩ : Addr) (.int .i64 x43) fun w47 =>
  stW w47 ((⟨B3, 0, Option.none⟩ : Addr).add 1) (.int .u8 x44) fun w48 =>
  stW w48 ((⟨B3, 0, Option.none⟩ : Addr).add 2) (.int .u32 x45) fun w49 =>
  stW w49 ((⟨B3, 0, Option.none⟩ : Addr).add 3) (.slice A46 n46 c46) fun w50 =>
  ldI w50 (⟨B3, 0, Option.none⟩ : Addr) .i64 fun x51 =>
  ldI w50 ((⟨B3, 0, Option.none⟩ : Addr).add 1) .u8 fun x52 =>
  ldI w50 ((⟨B3, 0, Option.none⟩ : Addr).add 2) .u32 fun x53 =>
  ldS w50 ((⟨B3, 0, Option.none⟩ : Addr).add 3) fun A54 n54 c54 =>
  Q (.returned (.tuple #[.agg #[.int .i64 x51, .int .u8 x52, .int .u32 x53, .slice A54 n54 c54], .int .i64 x36_1])) w50) (
  ldI w42 (⟨B37, 0, Option.none⟩ : Addr) .i64 fun x55 =>
  ldI w42 ((⟨B37, 0, Option.none⟩ : Addr).add 1) .u8 fun x56 =>
  ldI w42 ((⟨B37, 0, Option.none⟩ : Addr).add 2) .u32 fun x57 =>
  ldS w42 ((⟨B37, 0, Option.none⟩ : Addr).add 3) fun A58 n58 c58 =>
  stW w42 (⟨B3, 0, Option.none⟩ : Addr) (.int .i64 x55) fun w59 =>
  stW w59 ((⟨B3, 0, Option.none⟩ : Addr).add 1) (.int .u8 x56) fun w60 =>
  stW w60 ((⟨B3, 0, Option.none⟩ : Addr).add 2) (.int .u32 x57) fun w61 =>
  stW w61 ((⟨B3, 0, Option.none⟩ : Addr).add 3) (.slice A58 n58 c58) fun w62 =>
  ldI w62 (⟨B3, 0, Option.none⟩ : Addr) .i64 fun x63 =>
  ldI w62 ((⟨B3, 0, Option.none⟩ : Addr).add 1) .u8 fun x64 =>
  ldI w62 ((⟨B3, 0, Option.none⟩ : Addr).add 2) .u32 fun x65 =>
  ldS w62 ((⟨B3, 0, Option.none⟩ : Addr).add 3) fun A66 n66 c66 =>
  Q (.returned (.tuple #[.agg #[.int .i64 x63, .int .u8 x64, .int .u32 x65, .slice A66 n66 c66], .int .i64 (0 : Int)])) w62))))
def D : Nat → Option DH := dtab []
def tb : List (List Nat × Spec) := []
theorem wp_eq (xa0_0 : Int) (xa0_1 : Int) (xa0_2 : Int) (Aa0_3 : Option Addr) (na0_3 : Nat) (ca0_3 : Nat) (xa1 : Int) (Aa2 : Option Addr) (na2 : Nat) (ca2 : Nat) (w : World) (Q : Ending → World → Prop) :
    wp xa0_0 xa0_1 xa0_2 Aa0_3 na0_3 ca0_3 xa1 Aa2 na2 ca2 w Q = codeW Tryd.prog hT 34 D (tab tb) [] body (topQ Tryd.prog hT 34 [.cell 6 32, .tmp 7] Q) (argsF [.agg #[.int .i64 xa0_0, .int .u8 xa0_1, .int .u32 xa0_2, .slice Aa0_3 na0_3 ca0_3], .int .i64 xa1, .slice Aa2 na2 ca2]) w := by kernel_rfl
theorem ok (xa0_0 : Int) (xa0_1 : Int) (xa0_2 : Int) (Aa0_3 : Option Addr) (na0_3 : Nat) (ca0_3 : Nat) (xa1 : Int) (Aa2 : Option Addr) (na2 : Nat) (ca2 : Nat) (w : World) (Q : Ending → World → Prop) (h : wp xa0_0 xa0_1 xa0_2 Aa0_3 na0_3 ca0_3 xa1 Aa2 na2 ca2 w Q) : Calls Tryd.prog 47 #[.agg #[.int .i64 xa0_0, .int .u8 xa0_1, .int .u32 xa0_2, .slice Aa0_3 na0_3 ca0_3], .int .i64 xa1, .slice Aa2 na2 ca2] w Q := by
  rw [wp_eq] at h
  exact calls_of_codeW (c := body) (rs := [.cell 6 32, .tmp 7]) Tryd.func47 (by kernel_rfl) (by kernel_rfl) (by kernel_rfl) (by kernel_rfl) (by kernel_rfl) (tab_snd (by
    intro x hx
    simp only [tb, List.not_mem_nil] at hx
    )) (by kernel_rfl) h
end f_ref08_Replace
namespace f_ref08_Remove
/-! skein/skeinref08.Remove: function 48 -/
noncomputable def body : Code := (Tryd.f48.body).getD .skip
def l0 : Nat → Int → Addr → Option Addr → Nat → Nat → Int → World → ((Option Addr) → Nat → Nat → World → Prop) → Prop
  | 0, _, _, _, _, _, _, _, _ => False
  | k + 1, xt1, at2, At6, nt6, ct6, xt7, w, K0 =>
    ldS w (at2.add 3) fun A32 n32 c32 =>
    sel (decide (xt7 < (n32 : Int))) (
    sel (xt7 != xt1) (
    ldS w (at2.add 3) fun A33 n33 c33 =>
    optB A33 fun a34 =>
    req (decide (0 ≤ xt7 ∧ xt7 < (n33 : Int))) <|
    ldS w (a34.add (xt7.toNat * 1)) fun A35 n35 c35 =>
    alW w (.cells #[.slice A35 n35 c35] 22) fun B36 w37 =>
    Runs Tryd.prog (Builtin.append_ #[30, 30] 30 #[.slice At6 nt6 ct6, .slice (some (⟨B36, 0, Option.none⟩ : Addr)) 1 1]) w37 fun v39 w38 => ∃ (A40 : Option Addr) (n40 : Nat) (c40 : Nat), v39 = (.slice A40 n40 c40) ∧ (
    l0 k xt1 at2 A40 n40 c40 (IntKind.i64.wrap (xt7 + (1 : Int))) w38 K0)) (
    l0 k xt1 at2 At6 nt6 ct6 (IntKind.i64.wrap (xt7 + (1 : Int))) w K0)) (
    K0 At6 nt6 ct6 w)
def wp (xa0_0 : Int) (xa0_1 : Int) (xa0_2 : Int) (Aa0_3 : Option Addr) (na0_3 : Nat) (ca0_3 : Nat) (xa1 : Int) (w : World) (Q : Ending → World → Prop) : Prop :=
  alW w (.cells #[.int .i64 xa0_0, .int .u8 xa0_1, .int .u32 xa0_2, .slice Aa0_3 na0_3 ca0_3] 32) fun B1 w2 =>
  alW w2 (.cells #[.int .i64 (0 : Int), .int .u8 (0 : Int), .int .u32 (0 : Int), .slice none 0 0] 32) fun B3 w4 =>
  sel (decide (xa1 < (0 : Int))) (
  ldI w4 (⟨B1, 0, Option.none⟩ : Addr) .i64 fun x5 =>
  ldI w4 ((⟨B1, 0, Option.none⟩ : Addr).add 1) .u8 fun x6 =>
  ldI w4 ((⟨B1, 0, Option.none⟩ : Addr).add 2) .u32 fun x7 =>
  ldS w4 ((⟨B1, 0, Option.none⟩ : Addr).add 3) fun A8 n8 c8 =>
  stW w4 (⟨B3, 0, Option.none⟩ : Addr) (.int .i64 x5) fun w9 =>
  stW w9 ((⟨B3, 0, Option.none⟩ : Addr).add 1) (.int .u8 x6) fun w10 =>
  stW w10 ((⟨B3, 0, Option.none⟩ : Addr).add 2) (.int .u32 x7) fun w11 =>
  stW w11 ((⟨B3, 0, Option.none⟩ : Addr).add 3) (.slice A8 n8 c8) fun w12 =>
  ldI w12 (⟨B3, 0, Option.none⟩ : Addr) .i64 fun x13 =>
  ldI w12 ((⟨B3, 0, Option.none⟩ : Addr).add 1) .u8 fun x14 =>
  ldI w12 ((⟨B3, 0, Option.none⟩ : Addr).add 2) .u32 fun x15 =>
  ldS w12 ((⟨B3, 0, Option.none⟩ : Addr).add 3) fun A16 n16 c16 =>
  Q (.returned (.tuple #[.agg #[.int .i64 x13, .int .u8 x14, .int .u32 x15, .slice A16 n16 c16], .int .i64 (82 : Int)])) w12) (
  ldS w4 ((⟨B1, 0, Option.none⟩ : Addr).add 3) fun A17 n17 c17 =>
  sel (decide (xa1 ≥ (n17 : Int))) (
  ldI w4 (⟨B1, 0, Option.none⟩ : Addr) .i64 fun x18 =>
  ldI w4 ((⟨B1, 0, Option.none⟩ : Addr).add 1) .u8 fun x19 =>
  ldI w4 ((⟨B1, 0, Option.none⟩ : Addr).add 2) .u32 fun x20 =>
  ldS w4 ((⟨B1, 0, Option.none⟩ : Addr).add 3) fun A21 n21 c21 =>
  stW w4 (⟨B3, 0, Option.none⟩ : Addr) (.int .i64 x18) fun w22 =>
  stW w22 ((⟨B3, 0, Option.none⟩ : Addr).add 1) (.int .u8 x19) fun w23 =>
  stW w23 ((⟨B3, 0, Option.none⟩ : Addr).add 2) (.int .u32 x20) fun w24 =>
  stW w24 ((⟨B3, 0, Option.none⟩ : Addr).add 3) (.slice A21 n21 c21) fun w25 =>
  ldI w25 (⟨B3, 0, Option.none⟩ : Addr) .i64 fun x26 =>
  ldI w25 ((⟨B3, 0, Option.none⟩ : Addr).add 1) .u8 fun x27 =>
  ldI w25 ((⟨B3, 0, Option.none⟩ : Addr).add 2) .u32 fun x28 =>
  ldS w25 ((⟨B3, 0, Option.none⟩ : Addr).add 3) fun A29 n29 c29 =>
  Q (.returned (.tuple #[.agg #[.int .i64 x26, .int .u8 x27, .int .u32 x28, .slice A29 n29 c29], .int .i64 (82 : Int)])) w25) (
  alW w4 (.cells #[] 22) fun B30 w31 =>
  ∃ k56 : Nat, l0 k56 xa1 (⟨B1, 0, Option.none⟩ : Addr) (some (⟨B30, 0, Option.none⟩ : Addr)) 0 0 (0 : Int) w31 (fun (A41 : Option Addr) (n41 : Nat) (c41 : Nat) (w42 : World) => ∀ _ : Fr,
  stW w42 ((⟨B1, 0, Option.none⟩ : Addr).add 3) (.slice A41 n41 c41) fun w43 =>
  ldI w43 (⟨B1, 0, Option.none⟩ : Addr) .i64 fun x44 =>
  ldI w43 ((⟨B1, 0, Option.none⟩ : Addr).add 1) .u8 fun x45 =>
  ldI w43 ((⟨B1, 0, Option.none⟩ : Addr).add 2) .u32 fun x46 =>
  ldS w43 ((⟨B1, 0, Option.none⟩ : Addr).add 3) fun A47 n47 c47 =>
  stW w43 (⟨B3, 0, Option.none⟩ : Addr) (.int .i64 x44) fun w48 =>
  stW w48 ((⟨B3, 0, Option.none⟩ : Addr).add 1) (.int .u8 x45) fun w49 =>
  stW w49 ((⟨B3, 0, Option.none⟩ : Addr).add 2) (.int .u32 x46) fun w50 =>
  stW w50 ((⟨B3, 0, Option.none⟩ : Addr).add 3) (.slice A47 n47 c47) fun w51 =>
  ldI w51 (⟨B3, 0, Option.none⟩ : Addr) .i64 fun x52 =>
  ldI w51 ((⟨B3, 0, Option.none⟩ : Addr).add 1) .u8 fun x53 =>
  ldI w51 ((⟨B3, 0, Option.none⟩ : Addr).add 2) .u32 fun x54 =>
  ldS w51 ((⟨B3, 0, Option.none⟩ : Addr).add 3) fun A55 n55 c55 =>
  Q (.returned (.tuple #[.agg #[.int .i64 x52, .int .u8 x53, .int .u32 x54, .slice A55 n55 c55], .int .i64 (0 : Int)])) w51)))
def D : Nat → Option DH := dtab []
def l0LO : LO := ⟨[], [], [(0, [2, 4, 6])], []⟩
def l0Tk (k : Nat) : Spec := fun Q σ w =>
  gInt .i64 (σ 1) fun xt1 =>
  gAd (σ 2) fun at2 =>
  gSlice (σ 6) fun At6 nt6 ct6 =>
  gInt .i64 (σ 7) fun xt7 =>
  l0 k xt1 at2 At6 nt6 ct6 xt7 w (fun (Aq6 : Option Addr) (nq6 : Nat) (cq6 : Nat) (w : World) => ∀ d : Fr, Q (.exit 0) (ov d [(2, .pointer (some at2)), (4, σ 4), (6, .slice Aq6 nq6 cq6)]) w)
def l0T : Spec := fun Q σ w => ∃ k, l0Tk k Q σ w
def l0tb : List (List Nat × Spec) := []
noncomputable def l0b : Code := (subC [0, 0, 1, 0, 1, 1, 1] body).getD .skip
theorem l0_eq (k : Nat) (xt1 : Int) (at2 : Addr) (At6 : Option Addr) (nt6 : Nat) (ct6 : Nat) (xt7 : Int) (Q : PQ) (σ : Fr) (w : World) :
    l0 (k + 1) xt1 at2 At6 nt6 ct6 xt7 w (fun (Aq6 : Option Addr) (nq6 : Nat) (cq6 : Nat) (w : World) => ∀ d : Fr, Q (.exit 0) (ov d [(2, .pointer (some at2)), (4, σ 4), (6, .slice Aq6 nq6 cq6)]) w) = codeW Tryd.prog hT 40 D (tab l0tb) [0, 0, 1, 0, 1, 1, 1] l0b (thenQ (l0Tk k Q) (widen l0LO Q)) (ov σ [(1, .int .i64 xt1), (2, .pointer (some at2)), (6, .slice At6 nt6 ct6), (7, .int .i64 xt7)]) w := by kernel_rfl
theorem l0_snd : ∀ c, subC [0, 1, 0, 1, 1, 1] body = some c → Snd Tryd.prog 40 c l0T := by
  refine loop_of (hT := hT) (D := D) (l := l0tb) (b := l0b) (lo := l0LO) (by kernel_rfl) (by
    intro x hx
    simp only [l0tb, List.not_mem_nil] at hx
    ) (by kernel_rfl) (by kernel_rfl) ?_ ?_
  · intro Q σ w h
    unfold l0Tk at h
    obtain ⟨xt1, h1, hn⟩ := gInt_elim h
    clear h
    have h := hn
    clear hn
    obtain ⟨at2, h2, hn⟩ := gAd_elim h
    clear h
    have h := hn
    clear hn
    obtain ⟨At6, nt6, ct6, h6, hn⟩ := gSlice_elim h
    clear h
    have h := hn
    clear hn
    obtain ⟨xt7, h7, hn⟩ := gInt_elim h
    clear h
    have h := hn
    clear hn
    exact h
  · intro k Q σ w h
    unfold l0Tk at h
    obtain ⟨xt1, h1, hn⟩ := gInt_elim h
    clear h
    have h := hn
    clear hn
    obtain ⟨at2, h2, hn⟩ := gAd_elim h
    clear h
    have h := hn
    clear hn
    obtain ⟨At6, nt6, ct6, h6, hn⟩ := gSlice_elim h
    clear h
    have h := hn
    clear hn
    obtain ⟨xt7, h7, hn⟩ := gInt_elim h
    clear h
    have h := hn
    clear hn
    rw [l0_eq (σ := σ)] at h
    have e : (ov σ [(1, .int .i64 xt1), (2, .pointer (some at2)), (6, .slice At6 nt6 ct6), (7, .int .i64 xt7)]) = σ := ov_self (by simp [h1, h2, h6, h7])
    rw [e] at h
    exact h
def tb : List (List Nat × Spec) := [([0, 1, 0, 1, 1, 1], l0T)]
theorem wp_eq (xa0_0 : Int) (xa0_1 : Int) (xa0_2 : Int) (Aa0_3 : Option Addr) (na0_3 : Nat) (ca0_3 : Nat) (xa1 : Int) (w : World) (Q : Ending → World → Prop) :
    wp xa0_0 xa0_1 xa0_2 Aa0_3 na0_3 ca0_3 xa1 w Q = codeW Tryd.prog hT 40 D (tab tb) [] body (topQ Tryd.prog hT 40 [.cell 4 32, .tmp 5] Q) (argsF [.agg #[.int .i64 xa0_0, .int .u8 xa0_1, .int .u32 xa0_2, .slice Aa0_3 na0_3 ca0_3], .int .i64 xa1]) w := by kernel_rfl
theorem ok (xa0_0 : Int) (xa0_1 : Int) (xa0_2 : Int) (Aa0_3 : Option Addr) (na0_3 : Nat) (ca0_3 : Nat) (xa1 : Int) (w : World) (Q : Ending → World → Prop) (h : wp xa0_0 xa0_1 xa0_2 Aa0_3 na0_3 ca0_3 xa1 w Q) : Calls Tryd.prog 48 #[.agg #[.int .i64 xa0_0, .int .u8 xa0_1, .int .u32 xa0_2, .slice Aa0_3 na0_3 ca0_3], .int .i64 xa1] w Q := by
  rw [wp_eq] at h
  exact calls_of_codeW (c := body) (rs := [.cell 4 32, .tmp 5]) Tryd.func48 (by kernel_rfl) (by kernel_rfl) (by kernel_rfl) (by kernel_rfl) (by kernel_rfl) (tab_snd (by
    intro x hx
    simp only [tb, List.mem_cons, List.not_mem_nil, or_false] at hx
    subst hx
    exact l0_snd)) (by kernel_rfl) h
end f_ref08_Remove
namespace f_ref08_Used
/-! skein/skeinref08.Used: function 63 -/
noncomputable def body : Code := (Tryd.f63.body).getD .skip
def l0 : Nat → Addr → Int → Int → World → (Int → World → Prop) → Prop
  | 0, _, _, _, _, _ => False
  | k + 1, at1, xt3, xt4, w, K0 =>
    ldS w (at1.add 3) fun A3 n3 c3 =>
    sel (decide (xt4 < (n3 : Int))) (
    ldS w (at1.add 3) fun A4 n4 c4 =>
    optB A4 fun a5 =>
    req (decide (0 ≤ xt4 ∧ xt4 < (n4 : Int))) <|
    ldS w (a5.add (xt4.toNat * 1)) fun A6 n6 c6 =>
    l0 k at1 (IntKind.i64.wrap ((IntKind.i64.wrap (xt3 + (2 : Int))) + (n6 : Int))) (IntKind.i64.wrap (xt4 + (1 : Int))) w K0) (
    K0 xt3 w)
def wp (xa0_0 : Int) (xa0_1 : Int) (xa0_2 : Int) (Aa0_3 : Option Addr) (na0_3 : Nat) (ca0_3 : Nat) (w : World) (Q : Ending → World → Prop) : Prop :=
  alW w (.cells #[.int .i64 xa0_0, .int .u8 xa0_1, .int .u32 xa0_2, .slice Aa0_3 na0_3 ca0_3] 32) fun B1 w2 =>
  ∃ k9 : Nat, l0 k9 (⟨B1, 0, Option.none⟩ : Addr) (18 : Int) (0 : Int) w2 (fun (x7 : Int) (w8 : World) => ∀ _ : Fr,
  Q (.returned (.int .i64 x7)) w8)
def D : Nat → Option DH := dtab []
def l0LO : LO := ⟨[], [], [(0, [3])], []⟩
def l0Tk (k : Nat) : Spec := fun Q σ w =>
  gAd (σ 1) fun at1 =>
  gInt .i64 (σ 3) fun xt3 =>
  gInt .i64 (σ 4) fun xt4 =>
  l0 k at1 xt3 xt4 w (fun (xq3 : Int) (w : World) => ∀ d : Fr, Q (.exit 0) (ov d [(3, .int .i64 xq3)]) w)
def l0T : Spec := fun Q σ w => ∃ k, l0Tk k Q σ w
def l0tb : List (List Nat × Spec) := []
noncomputable def l0b : Code := (subC [0, 0, 1, 0, 1, 1] body).getD .skip
theorem l0_eq (k : Nat) (at1 : Addr) (xt3 : Int) (xt4 : Int) (Q : PQ) (σ : Fr) (w : World) :
    l0 (k + 1) at1 xt3 xt4 w (fun (xq3 : Int) (w : World) => ∀ d : Fr, Q (.exit 0) (ov d [(3, .int .i64 xq3)]) w) = codeW Tryd.prog hT 22 D (tab l0tb) [0, 0, 1, 0, 1, 1] l0b (thenQ (l0Tk k Q) (widen l0LO Q)) (ov σ [(1, .pointer (some at1)), (3, .int .i64 xt3), (4, .int .i64 xt4)]) w := by kernel_rfl
theorem l0_snd : ∀ c, subC [0, 1, 0, 1, 1] body = some c → Snd Tryd.prog 22 c l0T := by
  refine loop_of (hT := hT) (D := D) (l := l0tb) (b := l0b) (lo := l0LO) (by kernel_rfl) (by
    intro x hx
    simp only [l0tb, List.not_mem_nil] at hx
    ) (by kernel_rfl) (by kernel_rfl) ?_ ?_
  · intro Q σ w h
    unfold l0Tk at h
    obtain ⟨at1, h1, hn⟩ := gAd_elim h
    clear h
    have h := hn
    clear hn
    obtain ⟨xt3, h3, hn⟩ := gInt_elim h
    clear h
    have h := hn
    clear hn
    obtain ⟨xt4, h4, hn⟩ := gInt_elim h
    clear h
    have h := hn
    clear hn
    exact h
  · intro k Q σ w h
    unfold l0Tk at h
    obtain ⟨at1, h1, hn⟩ := gAd_elim h
    clear h
    have h := hn
    clear hn
    obtain ⟨xt3, h3, hn⟩ := gInt_elim h
    clear h
    have h := hn
    clear hn
    obtain ⟨xt4, h4, hn⟩ := gInt_elim h
    clear h
    have h := hn
    clear hn
    rw [l0_eq (σ := σ)] at h
    have e : (ov σ [(1, .pointer (some at1)), (3, .int .i64 xt3), (4, .int .i64 xt4)]) = σ := ov_self (by simp [h1, h3, h4])
    rw [e] at h
    exact h
def tb : List (List Nat × Spec) := [([0, 1, 0, 1, 1], l0T)]
theorem wp_eq (xa0_0 : Int) (xa0_1 : Int) (xa0_2 : Int) (Aa0_3 : Option Addr) (na0_3 : Nat) (ca0_3 : Nat) (w : World) (Q : Ending → World → Prop) :
    wp xa0_0 xa0_1 xa0_2 Aa0_3 na0_3 ca0_3 w Q = codeW Tryd.prog hT 22 D (tab tb) [] body (topQ Tryd.prog hT 22 [.tmp 2] Q) (argsF [.agg #[.int .i64 xa0_0, .int .u8 xa0_1, .int .u32 xa0_2, .slice Aa0_3 na0_3 ca0_3]]) w := by kernel_rfl
theorem ok (xa0_0 : Int) (xa0_1 : Int) (xa0_2 : Int) (Aa0_3 : Option Addr) (na0_3 : Nat) (ca0_3 : Nat) (w : World) (Q : Ending → World → Prop) (h : wp xa0_0 xa0_1 xa0_2 Aa0_3 na0_3 ca0_3 w Q) : Calls Tryd.prog 63 #[.agg #[.int .i64 xa0_0, .int .u8 xa0_1, .int .u32 xa0_2, .slice Aa0_3 na0_3 ca0_3]] w Q := by
  rw [wp_eq] at h
  exact calls_of_codeW (c := body) (rs := [.tmp 2]) Tryd.func63 (by kernel_rfl) (by kernel_rfl) (by kernel_rfl) (by kernel_rfl) (by kernel_rfl) (tab_snd (by
    intro x hx
    simp only [tb, List.mem_cons, List.not_mem_nil, or_false] at hx
    subst hx
    exact l0_snd)) (by kernel_rfl) h
end f_ref08_Used
namespace f_ref08_low
/-! skein/skeinref08.low: function 65 -/
noncomputable def body : Code := (Tryd.f65.body).getD .skip
def l0 : Nat → Int → Int → Option Addr → Nat → Nat → Int → World → ((Option Addr) → Nat → Nat → World → Prop) → Prop
  | 0, _, _, _, _, _, _, _, _ => False
  | k + 1, xt0, xt1, At5, nt5, ct5, xt6, w, K0 =>
    sel (decide (xt6 < xt1)) (
    alW w (.cells #[.int .u8 (IntKind.u8.wrap (xt0.tmod (256 : Int)))] 5) fun B3 w4 =>
    Runs Tryd.prog (Builtin.append_ #[22, 22] 22 #[.slice At5 nt5 ct5, .slice (some (⟨B3, 0, Option.none⟩ : Addr)) 1 1]) w4 fun v6 w5 => ∃ (A7 : Option Addr) (n7 : Nat) (c7 : Nat), v6 = (.slice A7 n7 c7) ∧ (
    l0 k (IntKind.u64.wrap (xt0.tdiv (256 : Int))) xt1 A7 n7 c7 (IntKind.i64.wrap (xt6 + (1 : Int))) w5 K0)) (
    K0 At5 nt5 ct5 w)
def wp (xa0 : Int) (xa1 : Int) (w : World) (Q : Ending → World → Prop) : Prop :=
  alW w (.cells #[] 5) fun B1 w2 =>
  ∃ k10 : Nat, l0 k10 xa0 xa1 (some (⟨B1, 0, Option.none⟩ : Addr)) 0 0 (0 : Int) w2 (fun (A8 : Option Addr) (n8 : Nat) (c8 : Nat) (w9 : World) => ∀ _ : Fr,
  Q (.returned (.slice A8 n8 c8)) w9)
def D : Nat → Option DH := dtab []
def l0LO : LO := ⟨[], [], [(0, [5])], []⟩
def l0Tk (k : Nat) : Spec := fun Q σ w =>
  gInt .u64 (σ 0) fun xt0 =>
  gInt .i64 (σ 1) fun xt1 =>
  gSlice (σ 5) fun At5 nt5 ct5 =>
  gInt .i64 (σ 6) fun xt6 =>
  l0 k xt0 xt1 At5 nt5 ct5 xt6 w (fun (Aq5 : Option Addr) (nq5 : Nat) (cq5 : Nat) (w : World) => ∀ d : Fr, Q (.exit 0) (ov d [(5, .slice Aq5 nq5 cq5)]) w)
def l0T : Spec := fun Q σ w => ∃ k, l0Tk k Q σ w
def l0tb : List (List Nat × Spec) := []
noncomputable def l0b : Code := (subC [0, 0, 1, 0, 1, 1] body).getD .skip
theorem l0_eq (k : Nat) (xt0 : Int) (xt1 : Int) (At5 : Option Addr) (nt5 : Nat) (ct5 : Nat) (xt6 : Int) (Q : PQ) (σ : Fr) (w : World) :
    l0 (k + 1) xt0 xt1 At5 nt5 ct5 xt6 w (fun (Aq5 : Option Addr) (nq5 : Nat) (cq5 : Nat) (w : World) => ∀ d : Fr, Q (.exit 0) (ov d [(5, .slice Aq5 nq5 cq5)]) w) = codeW Tryd.prog hT 22 D (tab l0tb) [0, 0, 1, 0, 1, 1] l0b (thenQ (l0Tk k Q) (widen l0LO Q)) (ov σ [(0, .int .u64 xt0), (1, .int .i64 xt1), (5, .slice At5 nt5 ct5), (6, .int .i64 xt6)]) w := by kernel_rfl
theorem l0_snd : ∀ c, subC [0, 1, 0, 1, 1] body = some c → Snd Tryd.prog 22 c l0T := by
  refine loop_of (hT := hT) (D := D) (l := l0tb) (b := l0b) (lo := l0LO) (by kernel_rfl) (by
    intro x hx
    simp only [l0tb, List.not_mem_nil] at hx
    ) (by kernel_rfl) (by kernel_rfl) ?_ ?_
  · intro Q σ w h
    unfold l0Tk at h
    obtain ⟨xt0, h0, hn⟩ := gInt_elim h
    clear h
    have h := hn
    clear hn
    obtain ⟨xt1, h1, hn⟩ := gInt_elim h
    clear h
    have h := hn
    clear hn
    obtain ⟨At5, nt5, ct5, h5, hn⟩ := gSlice_elim h
    clear h
    have h := hn
    clear hn
    obtain ⟨xt6, h6, hn⟩ := gInt_elim h
    clear h
    have h := hn
    clear hn
    exact h
  · intro k Q σ w h
    unfold l0Tk at h
    obtain ⟨xt0, h0, hn⟩ := gInt_elim h
    clear h
    have h := hn
    clear hn
    obtain ⟨xt1, h1, hn⟩ := gInt_elim h
    clear h
    have h := hn
    clear hn
    obtain ⟨At5, nt5, ct5, h5, hn⟩ := gSlice_elim h
    clear h
    have h := hn
    clear hn
    obtain ⟨xt6, h6, hn⟩ := gInt_elim h
    clear h
    have h := hn
    clear hn
    rw [l0_eq (σ := σ)] at h
    have e : (ov σ [(0, .int .u64 xt0), (1, .int .i64 xt1), (5, .slice At5 nt5 ct5), (6, .int .i64 xt6)]) = σ := ov_self (by simp [h0, h1, h5, h6])
    rw [e] at h
    exact h
def tb : List (List Nat × Spec) := [([0, 1, 0, 1, 1], l0T)]
theorem wp_eq (xa0 : Int) (xa1 : Int) (w : World) (Q : Ending → World → Prop) :
    wp xa0 xa1 w Q = codeW Tryd.prog hT 22 D (tab tb) [] body (topQ Tryd.prog hT 22 [.tmp 4] Q) (argsF [.int .u64 xa0, .int .i64 xa1]) w := by kernel_rfl
theorem ok (xa0 : Int) (xa1 : Int) (w : World) (Q : Ending → World → Prop) (h : wp xa0 xa1 w Q) : Calls Tryd.prog 65 #[.int .u64 xa0, .int .i64 xa1] w Q := by
  rw [wp_eq] at h
  exact calls_of_codeW (c := body) (rs := [.tmp 4]) Tryd.func65 (by kernel_rfl) (by kernel_rfl) (by kernel_rfl) (by kernel_rfl) (by kernel_rfl) (tab_snd (by
    intro x hx
    simp only [tb, List.mem_cons, List.not_mem_nil, or_false] at hx
    subst hx
    exact l0_snd)) (by kernel_rfl) h
end f_ref08_low
end Go.Proofs.YtifambgaekjilaaDoor.Rd
