/- The printed readings of some functions: each function's code reckoned by the kernel to its predicate transformer. -/
import Derived.Test.YtakgoekfnhkgaaaDoorHint
namespace Go.Proofs.YtakgoekfnhkgaaaDoor.Rd
open Go.Dn
set_option maxRecDepth 100000
set_option linter.unusedVariables false
namespace f_keys_Elem
/-! skein/keys.Elem: function 8 -/
noncomputable def body : Code := (Tryd.f8.body).getD .skip
def od3 : OD := ⟨[1], [0, 1, 3, 5, 6, 7], fun i => ([⟨true, [], [], fun _ _ => undef⟩,
  ⟨true, [0], [0], fun _ _ => undef⟩,
  ⟨false, [0, 1], [1], fun ps vs => match ps, vs with | [.pointer (some ap1)], [.agg ⟨[.bool be0_0, .int _ xe0_1]⟩, .int _ xe1] => .int .u8 (IntKind.u8.wrap ((1 : Int) + xe1)) | _, _ => undef⟩,
  ⟨true, [0, 1], [2], fun _ _ => undef⟩,
  ⟨false, [], [], fun ps vs => match ps, vs with | [.pointer (some ap1)], [] => .pointer (some (ap1.add 1)) | _, _ => undef⟩,
  ⟨true, [], [4], fun _ _ => undef⟩,
  ⟨true, [0, 1, 5], [5], fun _ _ => undef⟩,
  ⟨true, [0, 1, 3, 5, 6], [3, 6], fun _ _ => undef⟩,
  ⟨false, [0, 1, 3, 5, 6, 7], [7], fun ps vs => match ps, vs with | [.pointer (some ap1)], [.agg ⟨[.bool be0_0, .int _ xe0_1]⟩, .int _ xe1, .slice Ae3 ne3 ce3, .int _ xe5, .slice Ae6 ne6 ce6, .slice Ae7 ne7 ce7] => .slice Ae7 ne7 ce7 | _, _ => undef⟩,
  ⟨false, [0, 1, 3, 5, 6, 7], [], fun ps vs => match ps, vs with | [.pointer (some ap1)], [.agg ⟨[.bool be0_0, .int _ xe0_1]⟩, .int _ xe1, .slice Ae3 ne3 ce3, .int _ xe5, .slice Ae6 ne6 ce6, .slice Ae7 ne7 ce7] => .int .i64 (0 : Int) | _, _ => undef⟩] : List OI).getD i ⟨true, [], [], fun _ _ => undef⟩, fun i => ([(.one (.agg [.bool, (.int .i64)])), (.one (.sc (.int .u8))), .one (.sc .any), (.one (.sc .slice)), .one (.sc .any), (.one (.sc (.int .i64))), (.one (.sc .slice)), (.one (.sc .slice)), .one (.sc .any), .one (.sc .any)] : List OS).getD i (.one (.sc .any))⟩
def h3 (ap1 : Addr) : Prop :=
  (∀ (_ : Fr) (w : World),
  ∀ (be0_0 : Bool) (xe0_1 : Int),
  ∀ (xe1 : Int),
  w = w ∧ (.int .u8 (IntKind.u8.wrap ((1 : Int) + xe1)) : Value) = (.int .u8 (IntKind.u8.wrap ((1 : Int) + xe1)))) ∧
  (∀ (_ : Fr) (w : World),
  w = w ∧ (.pointer (some (ap1.add 1)) : Value) = (.pointer (some (ap1.add 1)))) ∧
  (∀ (_ : Fr) (w : World),
  ∀ (be0_0 : Bool) (xe0_1 : Int),
  ∀ (xe1 : Int),
  ∀ (Ae3 : Option Addr) (ne3 : Nat) (ce3 : Nat),
  ∀ (xe5 : Int),
  ∀ (Ae6 : Option Addr) (ne6 : Nat) (ce6 : Nat),
  ∀ (Ae7 : Option Addr) (ne7 : Nat) (ce7 : Nat),
  w = w ∧ (.slice Ae7 ne7 ce7 : Value) = (.slice Ae7 ne7 ce7)) ∧
  (∀ (_ : Fr) (w : World),
  ∀ (be0_0 : Bool) (xe0_1 : Int),
  ∀ (xe1 : Int),
  ∀ (Ae3 : Option Addr) (ne3 : Nat) (ce3 : Nat),
  ∀ (xe5 : Int),
  ∀ (Ae6 : Option Addr) (ne6 : Nat) (ce6 : Nat),
  ∀ (Ae7 : Option Addr) (ne7 : Nat) (ce7 : Nat),
  w = w ∧ (.int .i64 (0 : Int) : Value) = (.int .i64 (0 : Int))) ∧
  True
theorem h3_ok (ap1 : Addr) : h3 ap1 := ⟨fun _ w _ _ _ => ⟨rfl, rfl⟩, fun _ w => ⟨rfl, rfl⟩, fun _ w _ _ _ _ _ _ _ _ _ _ _ _ _ => ⟨rfl, rfl⟩, fun _ w _ _ _ _ _ _ _ _ _ _ _ _ _ => ⟨rfl, rfl⟩, trivial⟩
def wp (ba0_0 : Bool) (xa0_1 : Int) (w : World) (Q : Ending → World → Prop) : Prop :=
  alW w (.cells #[.bool ba0_0, .int .i64 xa0_1] 23) fun B1 w2 =>
  ldI w2 ((⟨B1, 0, Option.none⟩ : Addr).add 1) .i64 fun x3 =>
  Calls Tryd.prog 31 #[.int .i64 x3] w2 fun e4 w5 => ∃ (b6 : Bool), e4 = .returned (.bool b6) ∧ (
  sel b6 (
  Q (.returned (.tuple #[.slice none 0 0, .int .i64 (1 : Int)])) w5) (
  drW w5 fun w7 =>
  h3 (⟨B1, 0, Option.none⟩ : Addr) ∧
  ∃ (I8 : (Nat → Bool) → (Nat → Value) → World → Prop), I8 (fun _ => false) (fun _ => undef) w7 ∧ (
  (∀ (_ : Fr) (ls : Nat → Bool) (vv : Nat → Value) (w30 : World), ls 0 = false → I8 ls vv w30 →
  (
  ldB w30 (⟨B1, 0, Option.none⟩ : Addr) fun b31 =>
  ldI w30 ((⟨B1, 0, Option.none⟩ : Addr).add 1) .i64 fun x32 =>
  I8 (upB ls 0) (upV vv 0 (.agg #[.bool b31, .int .i64 x32])) w30)) ∧
  (∀ (_ : Fr) (ls : Nat → Bool) (vv : Nat → Value) (w33 : World), ls 1 = false → I8 ls vv w33 →
  ∀ (be0_0 : Bool) (xe0_1 : Int),
  (ls 0 = true ∧ vv 0 = .agg #[.bool be0_0, .int .i64 xe0_1]) →
  (
  Calls Tryd.prog 32 #[.agg #[.bool be0_0, .int .i64 xe0_1]] w33 fun e34 w35 => ∃ (x36 : Int), e34 = .returned (.int .u8 x36) ∧ (
  I8 (upB ls 1) (upV vv 1 (.int .u8 x36)) w35))) ∧
  (∀ (_ : Fr) (ls : Nat → Bool) (vv : Nat → Value) (w37 : World), ls 3 = false → I8 ls vv w37 →
  ∀ (be0_0 : Bool) (xe0_1 : Int),
  (ls 0 = true ∧ vv 0 = .agg #[.bool be0_0, .int .i64 xe0_1]) →
  ∀ (xe1 : Int),
  (ls 1 = true ∧ vv 1 = .int .u8 xe1) →
  (
  alW w37 (.cells #[.int .u8 (IntKind.u8.wrap ((1 : Int) + xe1))] 5) fun B38 w39 =>
  I8 (upB ls 3) (upV vv 3 (.slice (some (⟨B38, 0, Option.none⟩ : Addr)) 1 1)) w39)) ∧
  (∀ (_ : Fr) (ls : Nat → Bool) (vv : Nat → Value) (w40 : World), ls 5 = false → I8 ls vv w40 →
  (
  ldI w40 ((⟨B1, 0, Option.none⟩ : Addr).add 1) .i64 fun x41 =>
  I8 (upB ls 5) (upV vv 5 (.int .i64 x41)) w40)) ∧
  (∀ (_ : Fr) (ls : Nat → Bool) (vv : Nat → Value) (w42 : World), ls 6 = false → I8 ls vv w42 →
  ∀ (be0_0 : Bool) (xe0_1 : Int),
  (ls 0 = true ∧ vv 0 = .agg #[.bool be0_0, .int .i64 xe0_1]) →
  ∀ (xe1 : Int),
  (ls 1 = true ∧ vv 1 = .int .u8 xe1) →
  ∀ (xe5 : Int),
  (ls 5 = true ∧ vv 5 = .int .i64 xe5) →
  (
  Calls Tryd.prog 33 #[.int .i64 xe5] w42 fun e43 w44 => ∃ (A45 : Option Addr) (n45 : Nat) (c45 : Nat), e43 = .returned (.slice A45 n45 c45) ∧ (
  I8 (upB ls 6) (upV vv 6 (.slice A45 n45 c45)) w44))) ∧
  (∀ (_ : Fr) (ls : Nat → Bool) (vv : Nat → Value) (w46 : World), ls 7 = false → I8 ls vv w46 →
  ∀ (be0_0 : Bool) (xe0_1 : Int),
  (ls 0 = true ∧ vv 0 = .agg #[.bool be0_0, .int .i64 xe0_1]) →
  ∀ (xe1 : Int),
  (ls 1 = true ∧ vv 1 = .int .u8 xe1) →
  ∀ (Ae3 : Option Addr) (ne3 : Nat) (ce3 : Nat),
  (ls 3 = true ∧ vv 3 = .slice Ae3 ne3 ce3) →
  ∀ (xe5 : Int),
  (ls 5 = true ∧ vv 5 = .int .i64 xe5) →
  ∀ (Ae6 : Option Addr) (ne6 : Nat) (ce6 : Nat),
  (ls 6 = true ∧ vv 6 = .slice Ae6 ne6 ce6) →
  (
  Runs Tryd.prog (Builtin.append_ #[24, 24] 24 #[.slice Ae3 ne3 ce3, .slice Ae6 ne6 ce6]) w46 fun v48 w47 => ∃ (A49 : Option Addr) (n49 : Nat) (c49 : Nat), v48 = (.slice A49 n49 c49) ∧ (
  I8 (upB ls 7) (upV vv 7 (.slice A49 n49 c49)) w47))) ∧ True) ∧
  ∀ (ls : Nat → Bool) (vv : Nat → Value) (w50 : World), I8 ls vv w50 →
  ∀ (be0_0 : Bool) (xe0_1 : Int),
  (ls 0 = true ∧ vv 0 = .agg #[.bool be0_0, .int .i64 xe0_1]) →
  ∀ (xe1 : Int),
  (ls 1 = true ∧ vv 1 = .int .u8 xe1) →
  ∀ (Ae3 : Option Addr) (ne3 : Nat) (ce3 : Nat),
  (ls 3 = true ∧ vv 3 = .slice Ae3 ne3 ce3) →
  ∀ (xe5 : Int),
  (ls 5 = true ∧ vv 5 = .int .i64 xe5) →
  ∀ (Ae6 : Option Addr) (ne6 : Nat) (ce6 : Nat),
  (ls 6 = true ∧ vv 6 = .slice Ae6 ne6 ce6) →
  ∀ (Ae7 : Option Addr) (ne7 : Nat) (ce7 : Nat),
  (ls 7 = true ∧ vv 7 = .slice Ae7 ne7 ce7) →
  (
  Q (.returned (.tuple #[.slice Ae7 ne7 ce7, .int .i64 (0 : Int)])) w50)))
def D : Nat → Option DH := dtab [(3, .opi od3)]
def tb : List (List Nat × Spec) := []
theorem wp_eq (ba0_0 : Bool) (xa0_1 : Int) (w : World) (Q : Ending → World → Prop) :
    wp ba0_0 xa0_1 w Q = codeW Tryd.prog hT 15 D (tab tb) [] body (topQ Tryd.prog hT 15 [.tmp 2, .tmp 3] Q) (argsF [.agg #[.bool ba0_0, .int .i64 xa0_1]]) w := by cases ba0_0 <;> kernel_rfl
theorem ok (ba0_0 : Bool) (xa0_1 : Int) (w : World) (Q : Ending → World → Prop) (h : wp ba0_0 xa0_1 w Q) : Calls Tryd.prog 8 #[.agg #[.bool ba0_0, .int .i64 xa0_1]] w Q := by
  rw [wp_eq] at h
  exact calls_of_codeW (c := body) (rs := [.tmp 2, .tmp 3]) Tryd.func8 (by kernel_rfl) (by kernel_rfl) (by kernel_rfl) (by kernel_rfl) (by kernel_rfl) (tab_snd (by
    intro x hx
    simp only [tb, List.not_mem_nil] at hx
    )) (by kernel_rfl) h
end f_keys_Elem
namespace f_ref04_Elem
/-! skein/skeinref04.Elem: function 9 -/
noncomputable def body : Code := (Tryd.f9.body).getD .skip
def od3 : OD := ⟨[1], [0, 1, 3, 5, 6, 7], fun i => ([⟨true, [], [], fun _ _ => undef⟩,
  ⟨true, [0], [0], fun _ _ => undef⟩,
  ⟨false, [0, 1], [1], fun ps vs => match ps, vs with | [.pointer (some ap1)], [.agg ⟨[.bool be0_0, .int _ xe0_1]⟩, .int _ xe1] => .int .u8 (IntKind.u8.wrap ((1 : Int) + xe1)) | _, _ => undef⟩,
  ⟨true, [0, 1], [2], fun _ _ => undef⟩,
  ⟨false, [], [], fun ps vs => match ps, vs with | [.pointer (some ap1)], [] => .pointer (some (ap1.add 1)) | _, _ => undef⟩,
  ⟨true, [], [4], fun _ _ => undef⟩,
  ⟨true, [0, 1, 5], [5], fun _ _ => undef⟩,
  ⟨true, [0, 1, 3, 5, 6], [3, 6], fun _ _ => undef⟩,
  ⟨false, [0, 1, 3, 5, 6, 7], [7], fun ps vs => match ps, vs with | [.pointer (some ap1)], [.agg ⟨[.bool be0_0, .int _ xe0_1]⟩, .int _ xe1, .slice Ae3 ne3 ce3, .int _ xe5, .slice Ae6 ne6 ce6, .slice Ae7 ne7 ce7] => .slice Ae7 ne7 ce7 | _, _ => undef⟩,
  ⟨false, [0, 1, 3, 5, 6, 7], [], fun ps vs => match ps, vs with | [.pointer (some ap1)], [.agg ⟨[.bool be0_0, .int _ xe0_1]⟩, .int _ xe1, .slice Ae3 ne3 ce3, .int _ xe5, .slice Ae6 ne6 ce6, .slice Ae7 ne7 ce7] => .int .i64 (0 : Int) | _, _ => undef⟩] : List OI).getD i ⟨true, [], [], fun _ _ => undef⟩, fun i => ([(.one (.agg [.bool, (.int .i64)])), (.one (.sc (.int .u8))), .one (.sc .any), (.one (.sc .slice)), .one (.sc .any), (.one (.sc (.int .i64))), (.one (.sc .slice)), (.one (.sc .slice)), .one (.sc .any), .one (.sc .any)] : List OS).getD i (.one (.sc .any))⟩
def h3 (ap1 : Addr) : Prop :=
  (∀ (_ : Fr) (w : World),
  ∀ (be0_0 : Bool) (xe0_1 : Int),
  ∀ (xe1 : Int),
  w = w ∧ (.int .u8 (IntKind.u8.wrap ((1 : Int) + xe1)) : Value) = (.int .u8 (IntKind.u8.wrap ((1 : Int) + xe1)))) ∧
  (∀ (_ : Fr) (w : World),
  w = w ∧ (.pointer (some (ap1.add 1)) : Value) = (.pointer (some (ap1.add 1)))) ∧
  (∀ (_ : Fr) (w : World),
  ∀ (be0_0 : Bool) (xe0_1 : Int),
  ∀ (xe1 : Int),
  ∀ (Ae3 : Option Addr) (ne3 : Nat) (ce3 : Nat),
  ∀ (xe5 : Int),
  ∀ (Ae6 : Option Addr) (ne6 : Nat) (ce6 : Nat),
  ∀ (Ae7 : Option Addr) (ne7 : Nat) (ce7 : Nat),
  w = w ∧ (.slice Ae7 ne7 ce7 : Value) = (.slice Ae7 ne7 ce7)) ∧
  (∀ (_ : Fr) (w : World),
  ∀ (be0_0 : Bool) (xe0_1 : Int),
  ∀ (xe1 : Int),
  ∀ (Ae3 : Option Addr) (ne3 : Nat) (ce3 : Nat),
  ∀ (xe5 : Int),
  ∀ (Ae6 : Option Addr) (ne6 : Nat) (ce6 : Nat),
  ∀ (Ae7 : Option Addr) (ne7 : Nat) (ce7 : Nat),
  w = w ∧ (.int .i64 (0 : Int) : Value) = (.int .i64 (0 : Int))) ∧
  True
theorem h3_ok (ap1 : Addr) : h3 ap1 := ⟨fun _ w _ _ _ => ⟨rfl, rfl⟩, fun _ w => ⟨rfl, rfl⟩, fun _ w _ _ _ _ _ _ _ _ _ _ _ _ _ => ⟨rfl, rfl⟩, fun _ w _ _ _ _ _ _ _ _ _ _ _ _ _ => ⟨rfl, rfl⟩, trivial⟩
def wp (ba0_0 : Bool) (xa0_1 : Int) (w : World) (Q : Ending → World → Prop) : Prop :=
  alW w (.cells #[.bool ba0_0, .int .i64 xa0_1] 23) fun B1 w2 =>
  ldI w2 ((⟨B1, 0, Option.none⟩ : Addr).add 1) .i64 fun x3 =>
  sel (decide (x3 < (1 : Int))) (
  Q (.returned (.tuple #[.slice none 0 0, .int .i64 (1 : Int)])) w2) (
  ldI w2 ((⟨B1, 0, Option.none⟩ : Addr).add 1) .i64 fun x4 =>
  sel (decide (x4 > (2147483647 : Int))) (
  Q (.returned (.tuple #[.slice none 0 0, .int .i64 (1 : Int)])) w2) (
  drW w2 fun w5 =>
  h3 (⟨B1, 0, Option.none⟩ : Addr) ∧
  ∃ (G6 : World → World → Prop) (Φ7 : Nat → Value → World → Prop), (∀ w, G6 w w) ∧ (∀ a b c, G6 a b → G6 b c → G6 a c) ∧ (∀ i v a b, G6 w5 a → G6 a b → Φ7 i v a → Φ7 i v b) ∧ (
  (∀ (_ : Fr) (w8 : World), G6 w5 w8 →
  (
  ldB w8 (⟨B1, 0, Option.none⟩ : Addr) fun b9 =>
  ldI w8 ((⟨B1, 0, Option.none⟩ : Addr).add 1) .i64 fun x10 =>
  G6 w8 w8 ∧ Φ7 0 (.agg #[.bool b9, .int .i64 x10]) w8)) ∧
  (∀ (_ : Fr) (w11 : World), G6 w5 w11 →
  ∀ (be0_0 : Bool) (xe0_1 : Int),
  Φ7 0 (.agg #[.bool be0_0, .int .i64 xe0_1]) w11 →
  (
  Calls Tryd.prog 35 #[.agg #[.bool be0_0, .int .i64 xe0_1]] w11 fun e12 w13 => ∃ (x14 : Int), e12 = .returned (.int .u8 x14) ∧ (
  G6 w11 w13 ∧ Φ7 1 (.int .u8 x14) w13))) ∧
  (∀ (_ : Fr) (w15 : World), G6 w5 w15 →
  ∀ (be0_0 : Bool) (xe0_1 : Int),
  Φ7 0 (.agg #[.bool be0_0, .int .i64 xe0_1]) w15 →
  ∀ (xe1 : Int),
  Φ7 1 (.int .u8 xe1) w15 →
  (
  alW w15 (.cells #[.int .u8 (IntKind.u8.wrap ((1 : Int) + xe1))] 5) fun B16 w17 =>
  G6 w15 w17 ∧ Φ7 3 (.slice (some (⟨B16, 0, Option.none⟩ : Addr)) 1 1) w17)) ∧
  (∀ (_ : Fr) (w18 : World), G6 w5 w18 →
  (
  ldI w18 ((⟨B1, 0, Option.none⟩ : Addr).add 1) .i64 fun x19 =>
  G6 w18 w18 ∧ Φ7 5 (.int .i64 x19) w18)) ∧
  (∀ (_ : Fr) (w20 : World), G6 w5 w20 →
  ∀ (be0_0 : Bool) (xe0_1 : Int),
  Φ7 0 (.agg #[.bool be0_0, .int .i64 xe0_1]) w20 →
  ∀ (xe1 : Int),
  Φ7 1 (.int .u8 xe1) w20 →
  ∀ (xe5 : Int),
  Φ7 5 (.int .i64 xe5) w20 →
  (
  Calls Tryd.prog 36 #[.int .i64 xe5] w20 fun e21 w22 => ∃ (A23 : Option Addr) (n23 : Nat) (c23 : Nat), e21 = .returned (.slice A23 n23 c23) ∧ (
  G6 w20 w22 ∧ Φ7 6 (.slice A23 n23 c23) w22))) ∧
  (∀ (_ : Fr) (w24 : World), G6 w5 w24 →
  ∀ (be0_0 : Bool) (xe0_1 : Int),
  Φ7 0 (.agg #[.bool be0_0, .int .i64 xe0_1]) w24 →
  ∀ (xe1 : Int),
  Φ7 1 (.int .u8 xe1) w24 →
  ∀ (Ae3 : Option Addr) (ne3 : Nat) (ce3 : Nat),
  Φ7 3 (.slice Ae3 ne3 ce3) w24 →
  ∀ (xe5 : Int),
  Φ7 5 (.int .i64 xe5) w24 →
  ∀ (Ae6 : Option Addr) (ne6 : Nat) (ce6 : Nat),
  Φ7 6 (.slice Ae6 ne6 ce6) w24 →
  (
  Calls Tryd.prog 34 #[.slice Ae3 ne3 ce3, .slice Ae6 ne6 ce6] w24 fun e25 w26 => ∃ (A27 : Option Addr) (n27 : Nat) (c27 : Nat), e25 = .returned (.slice A27 n27 c27) ∧ (
  G6 w24 w26 ∧ Φ7 7 (.slice A27 n27 c27) w26))) ∧ True) ∧
  ∀ w28, G6 w5 w28 →
  ∀ (be0_0 : Bool) (xe0_1 : Int),
  Φ7 0 (.agg #[.bool be0_0, .int .i64 xe0_1]) w28 →
  ∀ (xe1 : Int),
  Φ7 1 (.int .u8 xe1) w28 →
  ∀ (Ae3 : Option Addr) (ne3 : Nat) (ce3 : Nat),
  Φ7 3 (.slice Ae3 ne3 ce3) w28 →
  ∀ (xe5 : Int),
  Φ7 5 (.int .i64 xe5) w28 →
  ∀ (Ae6 : Option Addr) (ne6 : Nat) (ce6 : Nat),
  Φ7 6 (.slice Ae6 ne6 ce6) w28 →
  ∀ (Ae7 : Option Addr) (ne7 : Nat) (ce7 : Nat),
  Φ7 7 (.slice Ae7 ne7 ce7) w28 →
  (
  Q (.returned (.tuple #[.slice Ae7 ne7 ce7, .int .i64 (0 : Int)])) w28)))
def D : Nat → Option DH := dtab [(3, .opn od3)]
def tb : List (List Nat × Spec) := []
theorem wp_eq (ba0_0 : Bool) (xa0_1 : Int) (w : World) (Q : Ending → World → Prop) :
    wp ba0_0 xa0_1 w Q = codeW Tryd.prog hT 20 D (tab tb) [] body (topQ Tryd.prog hT 20 [.tmp 2, .tmp 3] Q) (argsF [.agg #[.bool ba0_0, .int .i64 xa0_1]]) w := by cases ba0_0 <;> kernel_rfl
theorem ok (ba0_0 : Bool) (xa0_1 : Int) (w : World) (Q : Ending → World → Prop) (h : wp ba0_0 xa0_1 w Q) : Calls Tryd.prog 9 #[.agg #[.bool ba0_0, .int .i64 xa0_1]] w Q := by
  rw [wp_eq] at h
  exact calls_of_codeW (c := body) (rs := [.tmp 2, .tmp 3]) Tryd.func9 (by kernel_rfl) (by kernel_rfl) (by kernel_rfl) (by kernel_rfl) (by kernel_rfl) (tab_snd (by
    intro x hx
    simp only [tb, List.not_mem_nil] at hx
    )) (by kernel_rfl) h
end f_ref04_Elem
namespace f_keys_Prop
/-! skein/keys.Prop: function 10 -/
noncomputable def body : Code := (Tryd.f10.body).getD .skip
def od5 : OD := ⟨[1, 2], [0, 1, 2, 4, 5, 6, 8], fun i => ([⟨true, [], [], fun _ _ => undef⟩,
  ⟨true, [0], [0], fun _ _ => undef⟩,
  ⟨true, [0, 1], [1], fun _ _ => undef⟩,
  ⟨false, [], [], fun ps vs => match ps, vs with | [.string sp1, .pointer (some ap2)], [] => .pointer (some (ap2.add 1)) | _, _ => undef⟩,
  ⟨true, [], [3], fun _ _ => undef⟩,
  ⟨true, [0, 1, 4], [4], fun _ _ => undef⟩,
  ⟨true, [0, 1, 2, 4, 5], [2, 5], fun _ _ => undef⟩,
  ⟨false, [], [], fun ps vs => match ps, vs with | [.string sp1, .pointer (some ap2)], [] => .string sp1 | _, _ => undef⟩,
  ⟨true, [0, 1, 2, 4, 5, 6], [6, 7], fun _ _ => undef⟩,
  ⟨false, [0, 1, 2, 4, 5, 6, 8], [8], fun ps vs => match ps, vs with | [.string sp1, .pointer (some ap2)], [.agg ⟨[.bool be0_0, .int _ xe0_1]⟩, .int _ xe1, .slice Ae2 ne2 ce2, .int _ xe4, .slice Ae5 ne5 ce5, .slice Ae6 ne6 ce6, .slice Ae8 ne8 ce8] => .slice Ae8 ne8 ce8 | _, _ => undef⟩,
  ⟨false, [0, 1, 2, 4, 5, 6, 8], [], fun ps vs => match ps, vs with | [.string sp1, .pointer (some ap2)], [.agg ⟨[.bool be0_0, .int _ xe0_1]⟩, .int _ xe1, .slice Ae2 ne2 ce2, .int _ xe4, .slice Ae5 ne5 ce5, .slice Ae6 ne6 ce6, .slice Ae8 ne8 ce8] => .int .i64 (0 : Int) | _, _ => undef⟩] : List OI).getD i ⟨true, [], [], fun _ _ => undef⟩, fun i => ([(.one (.agg [.bool, (.int .i64)])), (.one (.sc (.int .u8))), (.one (.sc .slice)), .one (.sc .any), (.one (.sc (.int .i64))), (.one (.sc .slice)), (.one (.sc .slice)), .one (.sc .any), (.one (.sc .slice)), .one (.sc .any), .one (.sc .any)] : List OS).getD i (.one (.sc .any))⟩
def h5 (sp1 : ByteArray) (ap2 : Addr) : Prop :=
  (∀ (_ : Fr) (w : World),
  w = w ∧ (.pointer (some (ap2.add 1)) : Value) = (.pointer (some (ap2.add 1)))) ∧
  (∀ (_ : Fr) (w : World),
  w = w ∧ (.string sp1 : Value) = (.string sp1)) ∧
  (∀ (_ : Fr) (w : World),
  ∀ (be0_0 : Bool) (xe0_1 : Int),
  ∀ (xe1 : Int),
  ∀ (Ae2 : Option Addr) (ne2 : Nat) (ce2 : Nat),
  ∀ (xe4 : Int),
  ∀ (Ae5 : Option Addr) (ne5 : Nat) (ce5 : Nat),
  ∀ (Ae6 : Option Addr) (ne6 : Nat) (ce6 : Nat),
  ∀ (Ae8 : Option Addr) (ne8 : Nat) (ce8 : Nat),
  w = w ∧ (.slice Ae8 ne8 ce8 : Value) = (.slice Ae8 ne8 ce8)) ∧
  (∀ (_ : Fr) (w : World),
  ∀ (be0_0 : Bool) (xe0_1 : Int),
  ∀ (xe1 : Int),
  ∀ (Ae2 : Option Addr) (ne2 : Nat) (ce2 : Nat),
  ∀ (xe4 : Int),
  ∀ (Ae5 : Option Addr) (ne5 : Nat) (ce5 : Nat),
  ∀ (Ae6 : Option Addr) (ne6 : Nat) (ce6 : Nat),
  ∀ (Ae8 : Option Addr) (ne8 : Nat) (ce8 : Nat),
  w = w ∧ (.int .i64 (0 : Int) : Value) = (.int .i64 (0 : Int))) ∧
  True
theorem h5_ok (sp1 : ByteArray) (ap2 : Addr) : h5 sp1 ap2 := ⟨fun _ w => ⟨rfl, rfl⟩, fun _ w => ⟨rfl, rfl⟩, fun _ w _ _ _ _ _ _ _ _ _ _ _ _ _ _ _ _ => ⟨rfl, rfl⟩, fun _ w _ _ _ _ _ _ _ _ _ _ _ _ _ _ _ _ => ⟨rfl, rfl⟩, trivial⟩
def wp (ba0_0 : Bool) (xa0_1 : Int) (sa1 : ByteArray) (w : World) (Q : Ending → World → Prop) : Prop :=
  alW w (.cells #[.bool ba0_0, .int .i64 xa0_1] 23) fun B1 w2 =>
  ldI w2 ((⟨B1, 0, Option.none⟩ : Addr).add 1) .i64 fun x3 =>
  Calls Tryd.prog 31 #[.int .i64 x3] w2 fun e4 w5 => ∃ (b6 : Bool), e4 = .returned (.bool b6) ∧ (
  sel b6 (
  Q (.returned (.tuple #[.slice none 0 0, .int .i64 (1 : Int)])) w5) (
  Calls Tryd.prog 13 #[.string sa1] w5 fun e7 w8 => ∃ (b9 : Bool), e7 = .returned (.bool b9) ∧ (
  sel (!b9) (
  Q (.returned (.tuple #[.slice none 0 0, .int .i64 (54 : Int)])) w8) (
  drW w8 fun w10 =>
  h5 sa1 (⟨B1, 0, Option.none⟩ : Addr) ∧
  ∃ (I11 : (Nat → Bool) → (Nat → Value) → World → Prop), I11 (fun _ => false) (fun _ => undef) w10 ∧ (
  (∀ (_ : Fr) (ls : Nat → Bool) (vv : Nat → Value) (w37 : World), ls 0 = false → I11 ls vv w37 →
  (
  ldB w37 (⟨B1, 0, Option.none⟩ : Addr) fun b38 =>
  ldI w37 ((⟨B1, 0, Option.none⟩ : Addr).add 1) .i64 fun x39 =>
  I11 (upB ls 0) (upV vv 0 (.agg #[.bool b38, .int .i64 x39])) w37)) ∧
  (∀ (_ : Fr) (ls : Nat → Bool) (vv : Nat → Value) (w40 : World), ls 1 = false → I11 ls vv w40 →
  ∀ (be0_0 : Bool) (xe0_1 : Int),
  (ls 0 = true ∧ vv 0 = .agg #[.bool be0_0, .int .i64 xe0_1]) →
  (
  Calls Tryd.prog 32 #[.agg #[.bool be0_0, .int .i64 xe0_1]] w40 fun e41 w42 => ∃ (x43 : Int), e41 = .returned (.int .u8 x43) ∧ (
  I11 (upB ls 1) (upV vv 1 (.int .u8 x43)) w42))) ∧
  (∀ (_ : Fr) (ls : Nat → Bool) (vv : Nat → Value) (w44 : World), ls 2 = false → I11 ls vv w44 →
  ∀ (be0_0 : Bool) (xe0_1 : Int),
  (ls 0 = true ∧ vv 0 = .agg #[.bool be0_0, .int .i64 xe0_1]) →
  ∀ (xe1 : Int),
  (ls 1 = true ∧ vv 1 = .int .u8 xe1) →
  (
  alW w44 (.cells #[.int .u8 (3 : Int), .int .u8 xe1] 5) fun B45 w46 =>
  I11 (upB ls 2) (upV vv 2 (.slice (some (⟨B45, 0, Option.none⟩ : Addr)) 2 2)) w46)) ∧
  (∀ (_ : Fr) (ls : Nat → Bool) (vv : Nat → Value) (w47 : World), ls 4 = false → I11 ls vv w47 →
  (
  ldI w47 ((⟨B1, 0, Option.none⟩ : Addr).add 1) .i64 fun x48 =>
  I11 (upB ls 4) (upV vv 4 (.int .i64 x48)) w47)) ∧
  (∀ (_ : Fr) (ls : Nat → Bool) (vv : Nat → Value) (w49 : World), ls 5 = false → I11 ls vv w49 →
  ∀ (be0_0 : Bool) (xe0_1 : Int),
  (ls 0 = true ∧ vv 0 = .agg #[.bool be0_0, .int .i64 xe0_1]) →
  ∀ (xe1 : Int),
  (ls 1 = true ∧ vv 1 = .int .u8 xe1) →
  ∀ (xe4 : Int),
  (ls 4 = true ∧ vv 4 = .int .i64 xe4) →
  (
  Calls Tryd.prog 33 #[.int .i64 xe4] w49 fun e50 w51 => ∃ (A52 : Option Addr) (n52 : Nat) (c52 : Nat), e50 = .returned (.slice A52 n52 c52) ∧ (
  I11 (upB ls 5) (upV vv 5 (.slice A52 n52 c52)) w51))) ∧
  (∀ (_ : Fr) (ls : Nat → Bool) (vv : Nat → Value) (w53 : World), ls 6 = false → I11 ls vv w53 →
  ∀ (be0_0 : Bool) (xe0_1 : Int),
  (ls 0 = true ∧ vv 0 = .agg #[.bool be0_0, .int .i64 xe0_1]) →
  ∀ (xe1 : Int),
  (ls 1 = true ∧ vv 1 = .int .u8 xe1) →
  ∀ (Ae2 : Option Addr) (ne2 : Nat) (ce2 : Nat),
  (ls 2 = true ∧ vv 2 = .slice Ae2 ne2 ce2) →
  ∀ (xe4 : Int),
  (ls 4 = true ∧ vv 4 = .int .i64 xe4) →
  ∀ (Ae5 : Option Addr) (ne5 : Nat) (ce5 : Nat),
  (ls 5 = true ∧ vv 5 = .slice Ae5 ne5 ce5) →
  (
  Runs Tryd.prog (Builtin.append_ #[24, 24] 24 #[.slice Ae2 ne2 ce2, .slice Ae5 ne5 ce5]) w53 fun v55 w54 => ∃ (A56 : Option Addr) (n56 : Nat) (c56 : Nat), v55 = (.slice A56 n56 c56) ∧ (
  I11 (upB ls 6) (upV vv 6 (.slice A56 n56 c56)) w54))) ∧
  (∀ (_ : Fr) (ls : Nat → Bool) (vv : Nat → Value) (w57 : World), ls 8 = false → I11 ls vv w57 →
  ∀ (be0_0 : Bool) (xe0_1 : Int),
  (ls 0 = true ∧ vv 0 = .agg #[.bool be0_0, .int .i64 xe0_1]) →
  ∀ (xe1 : Int),
  (ls 1 = true ∧ vv 1 = .int .u8 xe1) →
  ∀ (Ae2 : Option Addr) (ne2 : Nat) (ce2 : Nat),
  (ls 2 = true ∧ vv 2 = .slice Ae2 ne2 ce2) →
  ∀ (xe4 : Int),
  (ls 4 = true ∧ vv 4 = .int .i64 xe4) →
  ∀ (Ae5 : Option Addr) (ne5 : Nat) (ce5 : Nat),
  (ls 5 = true ∧ vv 5 = .slice Ae5 ne5 ce5) →
  ∀ (Ae6 : Option Addr) (ne6 : Nat) (ce6 : Nat),
  (ls 6 = true ∧ vv 6 = .slice Ae6 ne6 ce6) →
  (
  Runs Tryd.prog (Builtin.append_ #[24, 9] 24 #[.slice Ae6 ne6 ce6, .string sa1]) w57 fun v59 w58 => ∃ (A60 : Option Addr) (n60 : Nat) (c60 : Nat), v59 = (.slice A60 n60 c60) ∧ (
  I11 (upB ls 8) (upV vv 8 (.slice A60 n60 c60)) w58))) ∧ True) ∧
  ∀ (ls : Nat → Bool) (vv : Nat → Value) (w61 : World), I11 ls vv w61 →
  ∀ (be0_0 : Bool) (xe0_1 : Int),
  (ls 0 = true ∧ vv 0 = .agg #[.bool be0_0, .int .i64 xe0_1]) →
  ∀ (xe1 : Int),
  (ls 1 = true ∧ vv 1 = .int .u8 xe1) →
  ∀ (Ae2 : Option Addr) (ne2 : Nat) (ce2 : Nat),
  (ls 2 = true ∧ vv 2 = .slice Ae2 ne2 ce2) →
  ∀ (xe4 : Int),
  (ls 4 = true ∧ vv 4 = .int .i64 xe4) →
  ∀ (Ae5 : Option Addr) (ne5 : Nat) (ce5 : Nat),
  (ls 5 = true ∧ vv 5 = .slice Ae5 ne5 ce5) →
  ∀ (Ae6 : Option Addr) (ne6 : Nat) (ce6 : Nat),
  (ls 6 = true ∧ vv 6 = .slice Ae6 ne6 ce6) →
  ∀ (Ae8 : Option Addr) (ne8 : Nat) (ce8 : Nat),
  (ls 8 = true ∧ vv 8 = .slice Ae8 ne8 ce8) →
  (
  Q (.returned (.tuple #[.slice Ae8 ne8 ce8, .int .i64 (0 : Int)])) w61)))))
def D : Nat → Option DH := dtab [(5, .opi od5)]
def tb : List (List Nat × Spec) := []
theorem wp_eq (ba0_0 : Bool) (xa0_1 : Int) (sa1 : ByteArray) (w : World) (Q : Ending → World → Prop) :
    wp ba0_0 xa0_1 sa1 w Q = codeW Tryd.prog hT 23 D (tab tb) [] body (topQ Tryd.prog hT 23 [.tmp 4, .tmp 5] Q) (argsF [.agg #[.bool ba0_0, .int .i64 xa0_1], .string sa1]) w := by cases ba0_0 <;> kernel_rfl
theorem ok (ba0_0 : Bool) (xa0_1 : Int) (sa1 : ByteArray) (w : World) (Q : Ending → World → Prop) (h : wp ba0_0 xa0_1 sa1 w Q) : Calls Tryd.prog 10 #[.agg #[.bool ba0_0, .int .i64 xa0_1], .string sa1] w Q := by
  rw [wp_eq] at h
  exact calls_of_codeW (c := body) (rs := [.tmp 4, .tmp 5]) Tryd.func10 (by kernel_rfl) (by kernel_rfl) (by kernel_rfl) (by kernel_rfl) (by kernel_rfl) (tab_snd (by
    intro x hx
    simp only [tb, List.not_mem_nil] at hx
    )) (by kernel_rfl) h
end f_keys_Prop
namespace f_ref04_Prop
/-! skein/skeinref04.Prop: function 11 -/
noncomputable def body : Code := (Tryd.f11.body).getD .skip
def od5 : OD := ⟨[1, 2], [0, 1, 2, 4, 5, 6, 8, 9], fun i => ([⟨true, [], [], fun _ _ => undef⟩,
  ⟨true, [0], [0], fun _ _ => undef⟩,
  ⟨true, [0, 1], [1], fun _ _ => undef⟩,
  ⟨false, [], [], fun ps vs => match ps, vs with | [.string sp1, .pointer (some ap2)], [] => .pointer (some (ap2.add 1)) | _, _ => undef⟩,
  ⟨true, [], [3], fun _ _ => undef⟩,
  ⟨true, [0, 1, 4], [4], fun _ _ => undef⟩,
  ⟨true, [0, 1, 2, 4, 5], [2, 5], fun _ _ => undef⟩,
  ⟨false, [], [], fun ps vs => match ps, vs with | [.string sp1, .pointer (some ap2)], [] => .string sp1 | _, _ => undef⟩,
  ⟨true, [], [7], fun _ _ => undef⟩,
  ⟨true, [0, 1, 2, 4, 5, 6, 8], [6, 8], fun _ _ => undef⟩,
  ⟨false, [0, 1, 2, 4, 5, 6, 8, 9], [9], fun ps vs => match ps, vs with | [.string sp1, .pointer (some ap2)], [.agg ⟨[.bool be0_0, .int _ xe0_1]⟩, .int _ xe1, .slice Ae2 ne2 ce2, .int _ xe4, .slice Ae5 ne5 ce5, .slice Ae6 ne6 ce6, .slice Ae8 ne8 ce8, .slice Ae9 ne9 ce9] => .slice Ae9 ne9 ce9 | _, _ => undef⟩,
  ⟨false, [0, 1, 2, 4, 5, 6, 8, 9], [], fun ps vs => match ps, vs with | [.string sp1, .pointer (some ap2)], [.agg ⟨[.bool be0_0, .int _ xe0_1]⟩, .int _ xe1, .slice Ae2 ne2 ce2, .int _ xe4, .slice Ae5 ne5 ce5, .slice Ae6 ne6 ce6, .slice Ae8 ne8 ce8, .slice Ae9 ne9 ce9] => .int .i64 (0 : Int) | _, _ => undef⟩] : List OI).getD i ⟨true, [], [], fun _ _ => undef⟩, fun i => ([(.one (.agg [.bool, (.int .i64)])), (.one (.sc (.int .u8))), (.one (.sc .slice)), .one (.sc .any), (.one (.sc (.int .i64))), (.one (.sc .slice)), (.one (.sc .slice)), .one (.sc .any), (.one (.sc .slice)), (.one (.sc .slice)), .one (.sc .any), .one (.sc .any)] : List OS).getD i (.one (.sc .any))⟩
def h5 (sp1 : ByteArray) (ap2 : Addr) : Prop :=
  (∀ (_ : Fr) (w : World),
  w = w ∧ (.pointer (some (ap2.add 1)) : Value) = (.pointer (some (ap2.add 1)))) ∧
  (∀ (_ : Fr) (w : World),
  w = w ∧ (.string sp1 : Value) = (.string sp1)) ∧
  (∀ (_ : Fr) (w : World),
  ∀ (be0_0 : Bool) (xe0_1 : Int),
  ∀ (xe1 : Int),
  ∀ (Ae2 : Option Addr) (ne2 : Nat) (ce2 : Nat),
  ∀ (xe4 : Int),
  ∀ (Ae5 : Option Addr) (ne5 : Nat) (ce5 : Nat),
  ∀ (Ae6 : Option Addr) (ne6 : Nat) (ce6 : Nat),
  ∀ (Ae8 : Option Addr) (ne8 : Nat) (ce8 : Nat),
  ∀ (Ae9 : Option Addr) (ne9 : Nat) (ce9 : Nat),
  w = w ∧ (.slice Ae9 ne9 ce9 : Value) = (.slice Ae9 ne9 ce9)) ∧
  (∀ (_ : Fr) (w : World),
  ∀ (be0_0 : Bool) (xe0_1 : Int),
  ∀ (xe1 : Int),
  ∀ (Ae2 : Option Addr) (ne2 : Nat) (ce2 : Nat),
  ∀ (xe4 : Int),
  ∀ (Ae5 : Option Addr) (ne5 : Nat) (ce5 : Nat),
  ∀ (Ae6 : Option Addr) (ne6 : Nat) (ce6 : Nat),
  ∀ (Ae8 : Option Addr) (ne8 : Nat) (ce8 : Nat),
  ∀ (Ae9 : Option Addr) (ne9 : Nat) (ce9 : Nat),
  w = w ∧ (.int .i64 (0 : Int) : Value) = (.int .i64 (0 : Int))) ∧
  True
theorem h5_ok (sp1 : ByteArray) (ap2 : Addr) : h5 sp1 ap2 := ⟨fun _ w => ⟨rfl, rfl⟩, fun _ w => ⟨rfl, rfl⟩, fun _ w _ _ _ _ _ _ _ _ _ _ _ _ _ _ _ _ _ _ _ => ⟨rfl, rfl⟩, fun _ w _ _ _ _ _ _ _ _ _ _ _ _ _ _ _ _ _ _ _ => ⟨rfl, rfl⟩, trivial⟩
def wp (ba0_0 : Bool) (xa0_1 : Int) (sa1 : ByteArray) (w : World) (Q : Ending → World → Prop) : Prop :=
  alW w (.cells #[.bool ba0_0, .int .i64 xa0_1] 23) fun B1 w2 =>
  ldI w2 ((⟨B1, 0, Option.none⟩ : Addr).add 1) .i64 fun x3 =>
  sel (decide (x3 < (1 : Int))) (
  Q (.returned (.tuple #[.slice none 0 0, .int .i64 (1 : Int)])) w2) (
  ldI w2 ((⟨B1, 0, Option.none⟩ : Addr).add 1) .i64 fun x4 =>
  sel (decide (x4 > (2147483647 : Int))) (
  Q (.returned (.tuple #[.slice none 0 0, .int .i64 (1 : Int)])) w2) (
  Calls Tryd.prog 14 #[.string sa1] w2 fun e5 w6 => ∃ (b7 : Bool), e5 = .returned (.bool b7) ∧ (
  sel (!b7) (
  Q (.returned (.tuple #[.slice none 0 0, .int .i64 (54 : Int)])) w6) (
  drW w6 fun w8 =>
  h5 sa1 (⟨B1, 0, Option.none⟩ : Addr) ∧
  ∃ (G9 : World → World → Prop) (Φ10 : Nat → Value → World → Prop), (∀ w, G9 w w) ∧ (∀ a b c, G9 a b → G9 b c → G9 a c) ∧ (∀ i v a b, G9 w8 a → G9 a b → Φ10 i v a → Φ10 i v b) ∧ (
  (∀ (_ : Fr) (w11 : World), G9 w8 w11 →
  (
  ldB w11 (⟨B1, 0, Option.none⟩ : Addr) fun b12 =>
  ldI w11 ((⟨B1, 0, Option.none⟩ : Addr).add 1) .i64 fun x13 =>
  G9 w11 w11 ∧ Φ10 0 (.agg #[.bool b12, .int .i64 x13]) w11)) ∧
  (∀ (_ : Fr) (w14 : World), G9 w8 w14 →
  ∀ (be0_0 : Bool) (xe0_1 : Int),
  Φ10 0 (.agg #[.bool be0_0, .int .i64 xe0_1]) w14 →
  (
  Calls Tryd.prog 35 #[.agg #[.bool be0_0, .int .i64 xe0_1]] w14 fun e15 w16 => ∃ (x17 : Int), e15 = .returned (.int .u8 x17) ∧ (
  G9 w14 w16 ∧ Φ10 1 (.int .u8 x17) w16))) ∧
  (∀ (_ : Fr) (w18 : World), G9 w8 w18 →
  ∀ (be0_0 : Bool) (xe0_1 : Int),
  Φ10 0 (.agg #[.bool be0_0, .int .i64 xe0_1]) w18 →
  ∀ (xe1 : Int),
  Φ10 1 (.int .u8 xe1) w18 →
  (
  alW w18 (.cells #[.int .u8 (3 : Int), .int .u8 xe1] 5) fun B19 w20 =>
  G9 w18 w20 ∧ Φ10 2 (.slice (some (⟨B19, 0, Option.none⟩ : Addr)) 2 2) w20)) ∧
  (∀ (_ : Fr) (w21 : World), G9 w8 w21 →
  (
  ldI w21 ((⟨B1, 0, Option.none⟩ : Addr).add 1) .i64 fun x22 =>
  G9 w21 w21 ∧ Φ10 4 (.int .i64 x22) w21)) ∧
  (∀ (_ : Fr) (w23 : World), G9 w8 w23 →
  ∀ (be0_0 : Bool) (xe0_1 : Int),
  Φ10 0 (.agg #[.bool be0_0, .int .i64 xe0_1]) w23 →
  ∀ (xe1 : Int),
  Φ10 1 (.int .u8 xe1) w23 →
  ∀ (xe4 : Int),
  Φ10 4 (.int .i64 xe4) w23 →
  (
  Calls Tryd.prog 36 #[.int .i64 xe4] w23 fun e24 w25 => ∃ (A26 : Option Addr) (n26 : Nat) (c26 : Nat), e24 = .returned (.slice A26 n26 c26) ∧ (
  G9 w23 w25 ∧ Φ10 5 (.slice A26 n26 c26) w25))) ∧
  (∀ (_ : Fr) (w27 : World), G9 w8 w27 →
  ∀ (be0_0 : Bool) (xe0_1 : Int),
  Φ10 0 (.agg #[.bool be0_0, .int .i64 xe0_1]) w27 →
  ∀ (xe1 : Int),
  Φ10 1 (.int .u8 xe1) w27 →
  ∀ (Ae2 : Option Addr) (ne2 : Nat) (ce2 : Nat),
  Φ10 2 (.slice Ae2 ne2 ce2) w27 →
  ∀ (xe4 : Int),
  Φ10 4 (.int .i64 xe4) w27 →
  ∀ (Ae5 : Option Addr) (ne5 : Nat) (ce5 : Nat),
  Φ10 5 (.slice Ae5 ne5 ce5) w27 →
  (
  Calls Tryd.prog 34 #[.slice Ae2 ne2 ce2, .slice Ae5 ne5 ce5] w27 fun e28 w29 => ∃ (A30 : Option Addr) (n30 : Nat) (c30 : Nat), e28 = .returned (.slice A30 n30 c30) ∧ (
  G9 w27 w29 ∧ Φ10 6 (.slice A30 n30 c30) w29))) ∧
  (∀ (_ : Fr) (w31 : World), G9 w8 w31 →
  (
  Runs Tryd.prog (Go.convert 9 24 (.string sa1)) w31 fun v33 w32 => ∃ (A34 : Option Addr) (n34 : Nat) (c34 : Nat), v33 = (.slice A34 n34 c34) ∧ (
  G9 w31 w32 ∧ Φ10 8 (.slice A34 n34 c34) w32))) ∧
  (∀ (_ : Fr) (w35 : World), G9 w8 w35 →
  ∀ (be0_0 : Bool) (xe0_1 : Int),
  Φ10 0 (.agg #[.bool be0_0, .int .i64 xe0_1]) w35 →
  ∀ (xe1 : Int),
  Φ10 1 (.int .u8 xe1) w35 →
  ∀ (Ae2 : Option Addr) (ne2 : Nat) (ce2 : Nat),
  Φ10 2 (.slice Ae2 ne2 ce2) w35 →
  ∀ (xe4 : Int),
  Φ10 4 (.int .i64 xe4) w35 →
  ∀ (Ae5 : Option Addr) (ne5 : Nat) (ce5 : Nat),
  Φ10 5 (.slice Ae5 ne5 ce5) w35 →
  ∀ (Ae6 : Option Addr) (ne6 : Nat) (ce6 : Nat),
  Φ10 6 (.slice Ae6 ne6 ce6) w35 →
  ∀ (Ae8 : Option Addr) (ne8 : Nat) (ce8 : Nat),
  Φ10 8 (.slice Ae8 ne8 ce8) w35 →
  (
  Calls Tryd.prog 34 #[.slice Ae6 ne6 ce6, .slice Ae8 ne8 ce8] w35 fun e36 w37 => ∃ (A38 : Option Addr) (n38 : Nat) (c38 : Nat), e36 = .returned (.slice A38 n38 c38) ∧ (
  G9 w35 w37 ∧ Φ10 9 (.slice A38 n38 c38) w37))) ∧ True) ∧
  ∀ w39, G9 w8 w39 →
  ∀ (be0_0 : Bool) (xe0_1 : Int),
  Φ10 0 (.agg #[.bool be0_0, .int .i64 xe0_1]) w39 →
  ∀ (xe1 : Int),
  Φ10 1 (.int .u8 xe1) w39 →
  ∀ (Ae2 : Option Addr) (ne2 : Nat) (ce2 : Nat),
  Φ10 2 (.slice Ae2 ne2 ce2) w39 →
  ∀ (xe4 : Int),
  Φ10 4 (.int .i64 xe4) w39 →
  ∀ (Ae5 : Option Addr) (ne5 : Nat) (ce5 : Nat),
  Φ10 5 (.slice Ae5 ne5 ce5) w39 →
  ∀ (Ae6 : Option Addr) (ne6 : Nat) (ce6 : Nat),
  Φ10 6 (.slice Ae6 ne6 ce6) w39 →
  ∀ (Ae8 : Option Addr) (ne8 : Nat) (ce8 : Nat),
  Φ10 8 (.slice Ae8 ne8 ce8) w39 →
  ∀ (Ae9 : Option Addr) (ne9 : Nat) (ce9 : Nat),
  Φ10 9 (.slice Ae9 ne9 ce9) w39 →
  (
  Q (.returned (.tuple #[.slice Ae9 ne9 ce9, .int .i64 (0 : Int)])) w39)))))
def D : Nat → Option DH := dtab [(5, .opn od5)]
def tb : List (List Nat × Spec) := []
theorem wp_eq (ba0_0 : Bool) (xa0_1 : Int) (sa1 : ByteArray) (w : World) (Q : Ending → World → Prop) :
    wp ba0_0 xa0_1 sa1 w Q = codeW Tryd.prog hT 27 D (tab tb) [] body (topQ Tryd.prog hT 27 [.tmp 4, .tmp 5] Q) (argsF [.agg #[.bool ba0_0, .int .i64 xa0_1], .string sa1]) w := by cases ba0_0 <;> kernel_rfl
theorem ok (ba0_0 : Bool) (xa0_1 : Int) (sa1 : ByteArray) (w : World) (Q : Ending → World → Prop) (h : wp ba0_0 xa0_1 sa1 w Q) : Calls Tryd.prog 11 #[.agg #[.bool ba0_0, .int .i64 xa0_1], .string sa1] w Q := by
  rw [wp_eq] at h
  exact calls_of_codeW (c := body) (rs := [.tmp 4, .tmp 5]) Tryd.func11 (by kernel_rfl) (by kernel_rfl) (by kernel_rfl) (by kernel_rfl) (by kernel_rfl) (tab_snd (by
    intro x hx
    simp only [tb, List.not_mem_nil] at hx
    )) (by kernel_rfl) h
end f_ref04_Prop
namespace f_keys_Name
/-! skein/keys.Name: function 13 -/
noncomputable def body : Code := (Tryd.f13.body).getD .skip
def wp (sa0 : ByteArray) (w : World) (Q : Ending → World → Prop) : Prop :=
  sel (!(sa0.toList == (⟨#[]⟩ : ByteArray).toList)) (
  sel (decide ((sa0.size : Int) ≤ (16 : Int))) (
  Calls Tryd.prog 39 #[.string sa0, .string (⟨#[97, 98, 99, 100, 101, 102, 103, 104, 105, 106, 107, 108, 109, 110, 111, 112, 113, 114, 115, 116, 117, 118, 119, 120, 121, 122]⟩ : ByteArray)] w fun e1 w2 => ∃ (s3 : ByteArray), e1 = .returned (.string s3) ∧ (
  Q (.returned (.bool (s3.toList == (⟨#[]⟩ : ByteArray).toList))) w2)) (
  Q (.returned (.bool false)) w)) (
  Q (.returned (.bool false)) w)
def D : Nat → Option DH := dtab []
def tb : List (List Nat × Spec) := []
theorem wp_eq (sa0 : ByteArray) (w : World) (Q : Ending → World → Prop) :
    wp sa0 w Q = codeW Tryd.prog hT 15 D (tab tb) [] body (topQ Tryd.prog hT 15 [.tmp 2] Q) (argsF [.string sa0]) w := by kernel_rfl
theorem ok (sa0 : ByteArray) (w : World) (Q : Ending → World → Prop) (h : wp sa0 w Q) : Calls Tryd.prog 13 #[.string sa0] w Q := by
  rw [wp_eq] at h
  exact calls_of_codeW (c := body) (rs := [.tmp 2]) Tryd.func13 (by kernel_rfl) (by kernel_rfl) (by kernel_rfl) (by kernel_rfl) (by kernel_rfl) (tab_snd (by
    intro x hx
    simp only [tb, List.not_mem_nil] at hx
    )) (by kernel_rfl) h
end f_keys_Name
namespace f_ref04_Name
/-! skein/skeinref04.Name: function 14 -/
noncomputable def body : Code := (Tryd.f14.body).getD .skip
def l0 : Nat → ByteArray → Int → World → (World → Prop) → (Bool → World → Prop) → Prop
  | 0, _, _, _, _, _ => False
  | k + 1, st0, xt3, w, K0, Kr =>
    sel (decide (xt3 < (st0.size : Int))) (
    req (decide (0 ≤ xt3 ∧ xt3 < (st0.size : Int))) <|
    sel (decide (((st0.get! xt3.toNat).toNat : Int) < (97 : Int))) (
    Kr false w) (
    req (decide (0 ≤ xt3 ∧ xt3 < (st0.size : Int))) <|
    sel (decide (((st0.get! xt3.toNat).toNat : Int) > (122 : Int))) (
    Kr false w) (
    l0 k st0 (IntKind.i64.wrap (xt3 + (1 : Int))) w K0 Kr))) (
    K0  w)
def wp (sa0 : ByteArray) (w : World) (Q : Ending → World → Prop) : Prop :=
  sel (decide ((sa0.size : Int) < (1 : Int))) (
  Q (.returned (.bool false)) w) (
  sel (decide ((sa0.size : Int) > (16 : Int))) (
  Q (.returned (.bool false)) w) (
  ∃ k4 : Nat, l0 k4 sa0 (0 : Int) w (fun (w1 : World) => ∀ _ : Fr,
  Q (.returned (.bool true)) w1) (fun (b2 : Bool) (w3 : World) => ∀ _ : Fr,
  Q (.returned (.bool b2)) w3)))
def D : Nat → Option DH := dtab []
def l0LO : LO := ⟨[], [2], [(0, [])], []⟩
def l0Tk (k : Nat) : Spec := fun Q σ w =>
  gStr (σ 0) fun st0 =>
  gInt .i64 (σ 3) fun xt3 =>
  l0 k st0 xt3 w (fun (w : World) => ∀ d : Fr, Q (.exit 0) (ov d []) w) (fun (bq2 : Bool) (w : World) => ∀ d : Fr, Q .ret (ov d [(2, .bool bq2)]) w)
def l0T : Spec := fun Q σ w => ∃ k, l0Tk k Q σ w
def l0tb : List (List Nat × Spec) := []
noncomputable def l0b : Code := (subC [0, 0, 1, 0, 1, 1] body).getD .skip
theorem l0_eq (k : Nat) (st0 : ByteArray) (xt3 : Int) (Q : PQ) (σ : Fr) (w : World) :
    l0 (k + 1) st0 xt3 w (fun (w : World) => ∀ d : Fr, Q (.exit 0) (ov d []) w) (fun (bq2 : Bool) (w : World) => ∀ d : Fr, Q .ret (ov d [(2, .bool bq2)]) w) = codeW Tryd.prog hT 28 D (tab l0tb) [0, 0, 1, 0, 1, 1] l0b (thenQ (l0Tk k Q) (widen l0LO Q)) (ov σ [(0, .string st0), (3, .int .i64 xt3)]) w := by kernel_rfl
theorem l0_snd : ∀ c, subC [0, 1, 0, 1, 1] body = some c → Snd Tryd.prog 28 c l0T := by
  refine loop_of (hT := hT) (D := D) (l := l0tb) (b := l0b) (lo := l0LO) (by kernel_rfl) (by
    intro x hx
    simp only [l0tb, List.not_mem_nil] at hx
    ) (by kernel_rfl) (by kernel_rfl) ?_ ?_
  · intro Q σ w h
    unfold l0Tk at h
    obtain ⟨st0, h0, hn⟩ := gStr_elim h
    clear h
    have h := hn
    clear hn
    obtain ⟨xt3, h3, hn⟩ := gInt_elim h
    clear h
    have h := hn
    clear hn
    exact h
  · intro k Q σ w h
    unfold l0Tk at h
    obtain ⟨st0, h0, hn⟩ := gStr_elim h
    clear h
    have h := hn
    clear hn
    obtain ⟨xt3, h3, hn⟩ := gInt_elim h
    clear h
    have h := hn
    clear hn
    rw [l0_eq (σ := σ)] at h
    have e : (ov σ [(0, .string st0), (3, .int .i64 xt3)]) = σ := ov_self (by simp [h0, h3])
    rw [e] at h
    exact h
def tb : List (List Nat × Spec) := [([0, 1, 0, 1, 1], l0T)]
theorem wp_eq (sa0 : ByteArray) (w : World) (Q : Ending → World → Prop) :
    wp sa0 w Q = codeW Tryd.prog hT 28 D (tab tb) [] body (topQ Tryd.prog hT 28 [.tmp 2] Q) (argsF [.string sa0]) w := by kernel_rfl
theorem ok (sa0 : ByteArray) (w : World) (Q : Ending → World → Prop) (h : wp sa0 w Q) : Calls Tryd.prog 14 #[.string sa0] w Q := by
  rw [wp_eq] at h
  exact calls_of_codeW (c := body) (rs := [.tmp 2]) Tryd.func14 (by kernel_rfl) (by kernel_rfl) (by kernel_rfl) (by kernel_rfl) (by kernel_rfl) (tab_snd (by
    intro x hx
    simp only [tb, List.mem_cons, List.not_mem_nil, or_false] at hx
    subst hx
    exact l0_snd)) (by kernel_rfl) h
end f_ref04_Name
namespace f_keys_Parse
/-! skein/keys.Parse: function 16 -/
noncomputable def body : Code := (Tryd.f16.body).getD .skip
def od11 : OD := ⟨[0, 5], [1, 2, 5, 6, 9, 10, 11], fun i => ([⟨false, [], [], fun ps vs => match ps, vs with | [.slice Ap0 np0 cp0, .pointer (some ap5)], [] => .slice Ap0 np0 cp0 | _, _ => undef⟩,
  ⟨true, [], [0], fun _ _ => undef⟩,
  ⟨true, [1], [1], fun _ _ => undef⟩,
  ⟨false, [1, 2], [2], fun ps vs => match ps, vs with | [.slice Ap0 np0 cp0, .pointer (some ap5)], [.pointer (some ae1), .int _ xe2] => .bool (xe2 == (1 : Int)) | _, _ => undef⟩,
  ⟨false, [], [], fun ps vs => match ps, vs with | [.slice Ap0 np0 cp0, .pointer (some ap5)], [] => .slice Ap0 np0 cp0 | _, _ => undef⟩,
  ⟨true, [], [4], fun _ _ => undef⟩,
  ⟨true, [5], [5], fun _ _ => undef⟩,
  ⟨false, [1, 2, 5, 6], [3, 6], fun ps vs => match ps, vs with | [.slice Ap0 np0 cp0, .pointer (some ap5)], [.pointer (some ae1), .int _ xe2, .slice Ae5 ne5 ce5, .int _ xe6] => .agg #[.bool (xe2 == (1 : Int)), .int .i64 xe6] | _, _ => undef⟩,
  ⟨false, [], [], fun ps vs => match ps, vs with | [.slice Ap0 np0 cp0, .pointer (some ap5)], [] => .slice Ap0 np0 cp0 | _, _ => undef⟩,
  ⟨true, [], [8], fun _ _ => undef⟩,
  ⟨true, [9], [9], fun _ _ => undef⟩,
  ⟨true, [1, 2, 5, 6], [7], fun _ _ => undef⟩,
  ⟨false, [1, 2, 5, 6, 9, 10, 11], [10], fun ps vs => match ps, vs with | [.slice Ap0 np0 cp0, .pointer (some ap5)], [.pointer (some ae1), .int _ xe2, .slice Ae5 ne5 ce5, .int _ xe6, .slice Ae9 ne9 ce9, .string se10, .tuple ⟨[]⟩] => .string se10 | _, _ => undef⟩] : List OI).getD i ⟨true, [], [], fun _ _ => undef⟩, fun i => ([.one (.sc .any), (.one (.sc .ad)), (.one (.sc (.int .u8))), .one (.sc .any), .one (.sc .any), (.one (.sc .slice)), (.one (.sc (.int .i64))), .one (.sc .any), .one (.sc .any), (.one (.sc .slice)), (.one (.sc .str)), (.tup []), .one (.sc .any)] : List OS).getD i (.one (.sc .any))⟩
def h11 (Ap0 : Option Addr) (np0 : Nat) (cp0 : Nat) (ap5 : Addr) : Prop :=
  (∀ (_ : Fr) (w : World),
  w = w ∧ (.slice Ap0 np0 cp0 : Value) = (.slice Ap0 np0 cp0)) ∧
  (∀ (_ : Fr) (w : World),
  ∀ (ae1 : Addr),
  ∀ (xe2 : Int),
  w = w ∧ (.bool (xe2 == (1 : Int)) : Value) = (.bool (xe2 == (1 : Int)))) ∧
  (∀ (_ : Fr) (w : World),
  w = w ∧ (.slice Ap0 np0 cp0 : Value) = (.slice Ap0 np0 cp0)) ∧
  (∀ (_ : Fr) (w : World),
  ∀ (ae1 : Addr),
  ∀ (xe2 : Int),
  ∀ (Ae5 : Option Addr) (ne5 : Nat) (ce5 : Nat),
  ∀ (xe6 : Int),
  w = w ∧ (.agg #[.bool (xe2 == (1 : Int)), .int .i64 xe6] : Value) = (.agg #[.bool (xe2 == (1 : Int)), .int .i64 xe6])) ∧
  (∀ (_ : Fr) (w : World),
  w = w ∧ (.slice Ap0 np0 cp0 : Value) = (.slice Ap0 np0 cp0)) ∧
  (∀ (_ : Fr) (w : World),
  ∀ (ae1 : Addr),
  ∀ (xe2 : Int),
  ∀ (Ae5 : Option Addr) (ne5 : Nat) (ce5 : Nat),
  ∀ (xe6 : Int),
  ∀ (Ae9 : Option Addr) (ne9 : Nat) (ce9 : Nat),
  ∀ (se10 : ByteArray),
  w = w ∧ (.string se10 : Value) = (.string se10)) ∧
  True
theorem h11_ok (Ap0 : Option Addr) (np0 : Nat) (cp0 : Nat) (ap5 : Addr) : h11 Ap0 np0 cp0 ap5 := ⟨fun _ w => ⟨rfl, rfl⟩, fun _ w _ _ => ⟨rfl, rfl⟩, fun _ w => ⟨rfl, rfl⟩, fun _ w _ _ _ _ _ _ => ⟨rfl, rfl⟩, fun _ w => ⟨rfl, rfl⟩, fun _ w _ _ _ _ _ _ _ _ _ _ => ⟨rfl, rfl⟩, trivial⟩
def j1 (at2 : Addr) (w : World) (Kr : ByteArray → Bool → World → Prop) : Prop :=
  stW w at2 (.bool false) fun w5 =>
  stW w5 (at2.add 1) (.int .i64 (0 : Int)) fun w6 =>
  Kr (⟨#[]⟩ : ByteArray) false w6
def j2 (At0 : Option Addr) (nt0 : Nat) (ct0 : Nat) (at5 : Addr) (st6 : ByteArray) (xt12 : Int) (bt13 : Bool) (w : World) (Kg0 : World → Prop) (Kn : ByteArray → World → Prop) : Prop :=
  sel bt13 (
  drW w fun w13 =>
  ∃ S14 : World → Prop, S14 w13 ∧ (
  optB At0 fun a15 =>
  req (decide (0 ≤ (0 : Int) ∧ (0 : Int) < (nt0 : Int))) <|
  hdI S14 (a15.add ((0 : Int).toNat * 1)) .u8 fun x16 =>
  req (decide (0 ≤ (1 : Int) ∧ (1 : Int) ≤ (nt0 : Int))) <|
  Calls Tryd.prog 41 #[.slice (slA At0 1 ct0 1) (nt0 - 1) (ct0 - 1)] w13 fun e17 w18 => ∃ (x19 : Int), e17 = .returned (.int .i64 x19) ∧ (
  S14 w18 ∧ (
  stW w18 at5 (.bool (x16 == (2 : Int))) fun w20 =>
  stW w20 (at5.add 1) (.int .i64 x19) fun w21 =>
  sel ((nt0 : Int) != (5 : Int)) (
  Kg0  w21) (
  Kn st6 w21))))) (
  sel (xt12 == (3 : Int)) (
  sel (decide ((nt0 : Int) < (6 : Int))) (
  Kg0  w) (
  optB At0 fun a22 =>
  req (decide (0 ≤ (1 : Int) ∧ (1 : Int) < (nt0 : Int))) <|
  ldI w (a22.add ((1 : Int).toNat * 1)) .u8 fun x23 =>
  sel (decide (x23 > (1 : Int))) (
  Kg0  w) (
  drW w fun w24 =>
  h11 At0 nt0 ct0 at5 ∧
  ∃ (G25 : World → World → Prop) (Φ26 : Nat → Value → World → Prop), (∀ w, G25 w w) ∧ (∀ a b c, G25 a b → G25 b c → G25 a c) ∧ (∀ i v a b, G25 w24 a → G25 a b → Φ26 i v a → Φ26 i v b) ∧ (
  (∀ (_ : Fr) (w27 : World), G25 w24 w27 →
  (
  optB At0 fun a28 =>
  req (decide (0 ≤ (1 : Int) ∧ (1 : Int) < (nt0 : Int))) <|
  G25 w27 w27 ∧ Φ26 1 (.pointer (some (a28.add ((1 : Int).toNat * 1)))) w27)) ∧
  (∀ (_ : Fr) (w29 : World), G25 w24 w29 →
  ∀ (ae1 : Addr),
  Φ26 1 (.pointer (some ae1)) w29 →
  (
  ldI w29 ae1 .u8 fun x30 =>
  G25 w29 w29 ∧ Φ26 2 (.int .u8 x30) w29)) ∧
  (∀ (_ : Fr) (w31 : World), G25 w24 w31 →
  (
  req (decide (0 ≤ (2 : Int) ∧ (2 : Int) ≤ (nt0 : Int))) <|
  G25 w31 w31 ∧ Φ26 5 (.slice (slA At0 2 ct0 1) (nt0 - 2) (ct0 - 2)) w31)) ∧
  (∀ (_ : Fr) (w32 : World), G25 w24 w32 →
  ∀ (Ae5 : Option Addr) (ne5 : Nat) (ce5 : Nat),
  Φ26 5 (.slice Ae5 ne5 ce5) w32 →
  (
  Calls Tryd.prog 41 #[.slice Ae5 ne5 ce5] w32 fun e33 w34 => ∃ (x35 : Int), e33 = .returned (.int .i64 x35) ∧ (
  G25 w32 w34 ∧ Φ26 6 (.int .i64 x35) w34))) ∧
  (∀ (_ : Fr) (w36 : World), G25 w24 w36 →
  (
  req (decide (0 ≤ (6 : Int) ∧ (6 : Int) ≤ (nt0 : Int))) <|
  G25 w36 w36 ∧ Φ26 9 (.slice (slA At0 6 ct0 1) (nt0 - 6) (ct0 - 6)) w36)) ∧
  (∀ (_ : Fr) (w37 : World), G25 w24 w37 →
  ∀ (Ae9 : Option Addr) (ne9 : Nat) (ce9 : Nat),
  Φ26 9 (.slice Ae9 ne9 ce9) w37 →
  (
  Runs Tryd.prog (Go.convert 24 9 (.slice Ae9 ne9 ce9)) w37 fun v39 w38 => ∃ (s40 : ByteArray), v39 = (.string s40) ∧ (
  G25 w37 w38 ∧ Φ26 10 (.string s40) w38))) ∧
  (∀ (_ : Fr) (w41 : World), G25 w24 w41 →
  ∀ (ae1 : Addr),
  Φ26 1 (.pointer (some ae1)) w41 →
  ∀ (xe2 : Int),
  Φ26 2 (.int .u8 xe2) w41 →
  ∀ (Ae5 : Option Addr) (ne5 : Nat) (ce5 : Nat),
  Φ26 5 (.slice Ae5 ne5 ce5) w41 →
  ∀ (xe6 : Int),
  Φ26 6 (.int .i64 xe6) w41 →
  (
  stW w41 at5 (.bool (xe2 == (1 : Int))) fun w42 =>
  stW w42 (at5.add 1) (.int .i64 xe6) fun w43 =>
  G25 w41 w43 ∧ Φ26 11 (.tuple #[]) w43)) ∧ True) ∧
  ∀ w44, G25 w24 w44 →
  ∀ (ae1 : Addr),
  Φ26 1 (.pointer (some ae1)) w44 →
  ∀ (xe2 : Int),
  Φ26 2 (.int .u8 xe2) w44 →
  ∀ (Ae5 : Option Addr) (ne5 : Nat) (ce5 : Nat),
  Φ26 5 (.slice Ae5 ne5 ce5) w44 →
  ∀ (xe6 : Int),
  Φ26 6 (.int .i64 xe6) w44 →
  ∀ (Ae9 : Option Addr) (ne9 : Nat) (ce9 : Nat),
  Φ26 9 (.slice Ae9 ne9 ce9) w44 →
  ∀ (se10 : ByteArray),
  Φ26 10 (.string se10) w44 →
  Φ26 11 (.tuple #[]) w44 →
  (
  Calls Tryd.prog 13 #[.string se10] w44 fun e45 w46 => ∃ (b47 : Bool), e45 = .returned (.bool b47) ∧ (
  sel (!b47) (
  Kg0  w46) (
  Kn se10 w46)))))) (
  Kg0  w))
def j3 (at2 : Addr) (at5 : Addr) (st6 : ByteArray) (w : World) (Kg0 : World → Prop) (Kr : ByteArray → Bool → World → Prop) : Prop :=
  ldI w (at5.add 1) .i64 fun x52 =>
  Calls Tryd.prog 31 #[.int .i64 x52] w fun e53 w54 => ∃ (b55 : Bool), e53 = .returned (.bool b55) ∧ (
  sel b55 (
  Kg0  w54) (
  ldB w54 at5 fun b56 =>
  ldI w54 (at5.add 1) .i64 fun x57 =>
  stW w54 at2 (.bool b56) fun w58 =>
  stW w58 (at2.add 1) (.int .i64 x57) fun w59 =>
  Kr st6 true w59))
def g0 : Nat → Addr → World → (ByteArray → Bool → World → Prop) → Prop
  | 0, _, _, _ => False
  | k + 1, at2, w, Kr =>
    j1 at2 w Kr
def s0 (At0 : Option Addr) (nt0 : Nat) (ct0 : Nat) (at2 : Addr) (w : World) (Kr : ByteArray → Bool → World → Prop) : Prop :=
  alW w (.cells #[.bool false, .int .i64 (0 : Int)] 23) fun B3 w4 =>
  sel (decide ((nt0 : Int) < (5 : Int))) (
  ∃ k10 : Nat, g0 k10 at2 w4 Kr) (
  optB At0 fun a11 =>
  req (decide (0 ≤ (0 : Int) ∧ (0 : Int) < (nt0 : Int))) <|
  ldI w4 (a11.add ((0 : Int).toNat * 1)) .u8 fun x12 =>
  sel (x12 == (1 : Int)) (
  j2 At0 nt0 ct0 (⟨B3, 0, Option.none⟩ : Addr) (⟨#[]⟩ : ByteArray) x12 (x12 == (1 : Int)) w4 (fun (w48 : World) => ∀ _ : Fr,
  ∃ k49 : Nat, g0 k49 at2 w48 Kr) (fun (s50 : ByteArray) (w51 : World) => ∀ _ : Fr,
  j3 at2 (⟨B3, 0, Option.none⟩ : Addr) s50 w51 (fun (w60 : World) => ∀ _ : Fr,
  ∃ k61 : Nat, g0 k61 at2 w60 Kr) (fun (s62 : ByteArray) (b63 : Bool) (w64 : World) => ∀ _ : Fr,
  Kr s62 b63 w64))) (
  j2 At0 nt0 ct0 (⟨B3, 0, Option.none⟩ : Addr) (⟨#[]⟩ : ByteArray) x12 (x12 == (2 : Int)) w4 (fun (w65 : World) => ∀ _ : Fr,
  ∃ k66 : Nat, g0 k66 at2 w65 Kr) (fun (s67 : ByteArray) (w68 : World) => ∀ _ : Fr,
  j3 at2 (⟨B3, 0, Option.none⟩ : Addr) s67 w68 (fun (w69 : World) => ∀ _ : Fr,
  ∃ k70 : Nat, g0 k70 at2 w69 Kr) (fun (s71 : ByteArray) (b72 : Bool) (w73 : World) => ∀ _ : Fr,
  Kr s71 b72 w73))))
def wp (Aa0 : Option Addr) (na0 : Nat) (ca0 : Nat) (w : World) (Q : Ending → World → Prop) : Prop :=
  alW w (.cells #[.bool false, .int .i64 (0 : Int)] 23) fun B1 w2 =>
  s0 Aa0 na0 ca0 (⟨B1, 0, Option.none⟩ : Addr) w2 (fun (s74 : ByteArray) (b75 : Bool) (w76 : World) => ∀ _ : Fr,
  ldB w76 (⟨B1, 0, Option.none⟩ : Addr) fun b77 =>
  ldI w76 ((⟨B1, 0, Option.none⟩ : Addr).add 1) .i64 fun x78 =>
  Q (.returned (.tuple #[.agg #[.bool b77, .int .i64 x78], .string s74, .bool b75])) w76)
def D : Nat → Option DH := dtab [(7, .held [.fst 0, .fst 1, .fst 2, .fst 3, .fst 4, .fst 5, .eff 6] [.fst 7, .eff 8]), (11, .opn od11)]
def j1LO : LO := ⟨[], [2, 3, 4], [], []⟩
def j1T : Spec := fun Q σ w =>
  gAd (σ 2) fun at2 =>
  j1 at2 w (fun (sq3 : ByteArray) (bq4 : Bool) (w : World) => ∀ d : Fr, Q .ret (ov d [(2, .pointer (some at2)), (3, .string sq3), (4, .bool bq4)]) w)
def j1tb : List (List Nat × Spec) := []
noncomputable def j1b : Code := (subC [1, 1, 1, 1, 1, 1, 1, 0, 1] body).getD .skip
theorem j1_eq (at2 : Addr) (Q : PQ) (σ : Fr) (w : World) :
    j1 at2 w (fun (sq3 : ByteArray) (bq4 : Bool) (w : World) => ∀ d : Fr, Q .ret (ov d [(2, .pointer (some at2)), (3, .string sq3), (4, .bool bq4)]) w) = codeW Tryd.prog hT 58 D (tab j1tb) [1, 1, 1, 1, 1, 1, 1, 0, 1] j1b (widen j1LO Q) (ov σ [(2, .pointer (some at2))]) w := by kernel_rfl
theorem j1_snd : ∀ c, subC [1, 1, 1, 1, 1, 1, 1, 0, 1] body = some c → Snd Tryd.prog 58 c j1T := by
  refine cut_of (hT := hT) (D := D) (l := j1tb) (b := j1b) (lo := j1LO) (by kernel_rfl) (by
    intro x hx
    simp only [j1tb, List.not_mem_nil] at hx
    ) (by kernel_rfl) (by kernel_rfl) ?_
  intro Q σ w h
  unfold j1T at h
  obtain ⟨at2, h2, hn⟩ := gAd_elim h
  clear h
  have h := hn
  clear hn
  rw [j1_eq (σ := σ)] at h
  have e : (ov σ [(2, .pointer (some at2))]) = σ := ov_self (by simp [h2])
  rw [e] at h
  exact h
def j2LO : LO := ⟨[2, 5, 6], [], [], [(0, [2])]⟩
def j2T : Spec := fun Q σ w =>
  gSlice (σ 0) fun At0 nt0 ct0 =>
  gAd (σ 5) fun at5 =>
  gStr (σ 6) fun st6 =>
  gInt .u8 (σ 12) fun xt12 =>
  gBool (σ 13) fun bt13 =>
  j2 At0 nt0 ct0 at5 st6 xt12 bt13 w (fun (w : World) => ∀ d : Fr, Q (.goto 0) (ov d [(2, σ 2)]) w) (fun (sq6 : ByteArray) (w : World) => ∀ d : Fr, Q .normal (ov d [(2, σ 2), (5, .pointer (some at5)), (6, .string sq6)]) w)
def j2tb : List (List Nat × Spec) := []
noncomputable def j2b : Code := (subC [1, 0, 1, 0, 1, 1, 1, 0, 1] body).getD .skip
theorem j2_eq (At0 : Option Addr) (nt0 : Nat) (ct0 : Nat) (at5 : Addr) (st6 : ByteArray) (xt12 : Int) (bt13 : Bool) (Q : PQ) (σ : Fr) (w : World) :
    j2 At0 nt0 ct0 at5 st6 xt12 bt13 w (fun (w : World) => ∀ d : Fr, Q (.goto 0) (ov d [(2, σ 2)]) w) (fun (sq6 : ByteArray) (w : World) => ∀ d : Fr, Q .normal (ov d [(2, σ 2), (5, .pointer (some at5)), (6, .string sq6)]) w) = codeW Tryd.prog hT 58 D (tab j2tb) [1, 0, 1, 0, 1, 1, 1, 0, 1] j2b (widen j2LO Q) (ov σ [(0, .slice At0 nt0 ct0), (5, .pointer (some at5)), (6, .string st6), (12, .int .u8 xt12), (13, .bool bt13)]) w := by cases bt13 <;> kernel_rfl
theorem j2_snd : ∀ c, subC [1, 0, 1, 0, 1, 1, 1, 0, 1] body = some c → Snd Tryd.prog 58 c j2T := by
  refine cut_of (hT := hT) (D := D) (l := j2tb) (b := j2b) (lo := j2LO) (by kernel_rfl) (by
    intro x hx
    simp only [j2tb, List.not_mem_nil] at hx
    ) (by kernel_rfl) (by kernel_rfl) ?_
  intro Q σ w h
  unfold j2T at h
  obtain ⟨At0, nt0, ct0, h0, hn⟩ := gSlice_elim h
  clear h
  have h := hn
  clear hn
  obtain ⟨at5, h5, hn⟩ := gAd_elim h
  clear h
  have h := hn
  clear hn
  obtain ⟨st6, h6, hn⟩ := gStr_elim h
  clear h
  have h := hn
  clear hn
  obtain ⟨xt12, h12, hn⟩ := gInt_elim h
  clear h
  have h := hn
  clear hn
  obtain ⟨bt13, h13, hn⟩ := gBool_elim h
  clear h
  have h := hn
  clear hn
  rw [j2_eq (σ := σ)] at h
  have e : (ov σ [(0, .slice At0 nt0 ct0), (5, .pointer (some at5)), (6, .string st6), (12, .int .u8 xt12), (13, .bool bt13)]) = σ := ov_self (by simp [h0, h5, h6, h12, h13])
  rw [e] at h
  exact h
def j3LO : LO := ⟨[], [2, 3, 4], [], [(0, [2])]⟩
def j3T : Spec := fun Q σ w =>
  gAd (σ 2) fun at2 =>
  gAd (σ 5) fun at5 =>
  gStr (σ 6) fun st6 =>
  j3 at2 at5 st6 w (fun (w : World) => ∀ d : Fr, Q (.goto 0) (ov d [(2, .pointer (some at2))]) w) (fun (sq3 : ByteArray) (bq4 : Bool) (w : World) => ∀ d : Fr, Q .ret (ov d [(2, .pointer (some at2)), (3, .string sq3), (4, .bool bq4)]) w)
def j3tb : List (List Nat × Spec) := [([1, 1, 1, 1, 1, 1, 1, 0, 1], j1T)]
noncomputable def j3b : Code := (subC [1, 1, 1, 1, 0, 1] body).getD .skip
theorem j3_eq (at2 : Addr) (at5 : Addr) (st6 : ByteArray) (Q : PQ) (σ : Fr) (w : World) :
    j3 at2 at5 st6 w (fun (w : World) => ∀ d : Fr, Q (.goto 0) (ov d [(2, .pointer (some at2))]) w) (fun (sq3 : ByteArray) (bq4 : Bool) (w : World) => ∀ d : Fr, Q .ret (ov d [(2, .pointer (some at2)), (3, .string sq3), (4, .bool bq4)]) w) = codeW Tryd.prog hT 58 D (tab j3tb) [1, 1, 1, 1, 0, 1] j3b (widen j3LO Q) (ov σ [(2, .pointer (some at2)), (5, .pointer (some at5)), (6, .string st6)]) w := by kernel_rfl
theorem j3_snd : ∀ c, subC [1, 1, 1, 1, 0, 1] body = some c → Snd Tryd.prog 58 c j3T := by
  refine cut_of (hT := hT) (D := D) (l := j3tb) (b := j3b) (lo := j3LO) (by kernel_rfl) (by
    intro x hx
    simp only [j3tb, List.mem_cons, List.not_mem_nil, or_false] at hx
    subst hx
    exact j1_snd) (by kernel_rfl) (by kernel_rfl) ?_
  intro Q σ w h
  unfold j3T at h
  obtain ⟨at2, h2, hn⟩ := gAd_elim h
  clear h
  have h := hn
  clear hn
  obtain ⟨at5, h5, hn⟩ := gAd_elim h
  clear h
  have h := hn
  clear hn
  obtain ⟨st6, h6, hn⟩ := gStr_elim h
  clear h
  have h := hn
  clear hn
  rw [j3_eq (σ := σ)] at h
  have e : (ov σ [(2, .pointer (some at2)), (5, .pointer (some at5)), (6, .string st6)]) = σ := ov_self (by simp [h2, h5, h6])
  rw [e] at h
  exact h
def s0LO : LO := ⟨[], [2, 3, 4], [], []⟩
def s0T : Spec := fun Q σ w =>
  gSlice (σ 0) fun At0 nt0 ct0 =>
  gAd (σ 2) fun at2 =>
  s0 At0 nt0 ct0 at2 w (fun (sq3 : ByteArray) (bq4 : Bool) (w : World) => ∀ d : Fr, Q .ret (ov d [(2, .pointer (some at2)), (3, .string sq3), (4, .bool bq4)]) w)
def s0tb : List (List Nat × Spec) := [([1, 1, 1, 1, 1, 1, 1, 0, 1], j1T), ([1, 0, 1, 0, 1, 1, 1, 0, 1], j2T), ([1, 1, 1, 1, 0, 1], j3T)]
def g0Tk (k : Nat) : Spec := fun Q σ w =>
  gAd (σ 2) fun at2 =>
  g0 k at2 w (fun (sq3 : ByteArray) (bq4 : Bool) (w : World) => ∀ d : Fr, Q .ret (ov d [(2, .pointer (some at2)), (3, .string sq3), (4, .bool bq4)]) w)
theorem g0_eq (k : Nat) (at2 : Addr) (Q : PQ) (σ : Fr) (w : World) :
    g0 (k + 1) at2 w (fun (sq3 : ByteArray) (bq4 : Bool) (w : World) => ∀ d : Fr, Q .ret (ov d [(2, .pointer (some at2)), (3, .string sq3), (4, .bool bq4)]) w) = j1T (gotoQ 0 (g0Tk k Q) Q) (ov σ [(2, .pointer (some at2))]) w := by kernel_rfl
noncomputable def s0b : Code := (subC [0, 1] body).getD .skip
theorem s0_eq (At0 : Option Addr) (nt0 : Nat) (ct0 : Nat) (at2 : Addr) (Q : PQ) (σ : Fr) (w : World) :
    s0 At0 nt0 ct0 at2 w (fun (sq3 : ByteArray) (bq4 : Bool) (w : World) => ∀ d : Fr, Q .ret (ov d [(2, .pointer (some at2)), (3, .string sq3), (4, .bool bq4)]) w) = codeW Tryd.prog hT 58 D (tab s0tb) [0, 1] s0b (gotoQ 0 (fun σ w => ∃ k, g0Tk k Q σ w) (widen s0LO Q)) (ov σ [(0, .slice At0 nt0 ct0), (2, .pointer (some at2))]) w := by kernel_rfl
theorem s0_snd : ∀ c, subC [1] body = some c → Snd Tryd.prog 58 c s0T := by
  refine scope_of (hT := hT) (D := D) (l := s0tb) (b := s0b) (b' := j1b) (pb := [1, 1, 1, 1, 1, 1, 1, 0, 1]) (lb := 0) (Tk := g0Tk) (Tb := j1T) (lo := s0LO) (by kernel_rfl) (by
    intro x hx
    simp only [s0tb, List.mem_cons, List.not_mem_nil, or_false] at hx
    rcases hx with rfl | rfl | rfl
    · exact j1_snd
    · exact j2_snd
    · exact j3_snd) (by kernel_rfl) (by kernel_rfl) (by kernel_rfl) (by kernel_rfl) j1_snd ?_ ?_ ?_
  · intro Q σ w h
    unfold g0Tk at h
    obtain ⟨at2, h2, hn⟩ := gAd_elim h
    clear h
    have h := hn
    clear hn
    exact h
  · intro k Q σ w h
    unfold g0Tk at h
    obtain ⟨at2, h2, hn⟩ := gAd_elim h
    clear h
    have h := hn
    clear hn
    rw [g0_eq (σ := σ)] at h
    have e : (ov σ [(2, .pointer (some at2))]) = σ := ov_self (by simp [h2])
    rw [e] at h
    exact h
  · intro Q σ w h
    unfold s0T at h
    obtain ⟨At0, nt0, ct0, h0, hn⟩ := gSlice_elim h
    clear h
    have h := hn
    clear hn
    obtain ⟨at2, h2, hn⟩ := gAd_elim h
    clear h
    have h := hn
    clear hn
    rw [s0_eq (σ := σ)] at h
    have e : (ov σ [(0, .slice At0 nt0 ct0), (2, .pointer (some at2))]) = σ := ov_self (by simp [h0, h2])
    rw [e] at h
    exact h
def tb : List (List Nat × Spec) := [([1, 1, 1, 1, 1, 1, 1, 0, 1], j1T), ([1, 0, 1, 0, 1, 1, 1, 0, 1], j2T), ([1, 1, 1, 1, 0, 1], j3T), ([1], s0T)]
theorem wp_eq (Aa0 : Option Addr) (na0 : Nat) (ca0 : Nat) (w : World) (Q : Ending → World → Prop) :
    wp Aa0 na0 ca0 w Q = codeW Tryd.prog hT 58 D (tab tb) [] body (topQ Tryd.prog hT 58 [.cell 2 23, .tmp 3, .tmp 4] Q) (argsF [.slice Aa0 na0 ca0]) w := by kernel_rfl
theorem ok (Aa0 : Option Addr) (na0 : Nat) (ca0 : Nat) (w : World) (Q : Ending → World → Prop) (h : wp Aa0 na0 ca0 w Q) : Calls Tryd.prog 16 #[.slice Aa0 na0 ca0] w Q := by
  rw [wp_eq] at h
  exact calls_of_codeW (c := body) (rs := [.cell 2 23, .tmp 3, .tmp 4]) Tryd.func16 (by kernel_rfl) (by kernel_rfl) (by kernel_rfl) (by kernel_rfl) (by kernel_rfl) (tab_snd (by
    intro x hx
    simp only [tb, List.mem_cons, List.not_mem_nil, or_false] at hx
    rcases hx with rfl | rfl | rfl | rfl
    · exact j1_snd
    · exact j2_snd
    · exact j3_snd
    · exact s0_snd)) (by kernel_rfl) h
end f_keys_Parse
namespace f_ref04_Parse
/-! skein/skeinref04.Parse: function 17 -/
noncomputable def body : Code := (Tryd.f17.body).getD .skip
def wp (Aa0 : Option Addr) (na0 : Nat) (ca0 : Nat) (w : World) (Q : Ending → World → Prop) : Prop :=
  alW w (.cells #[.bool false, .int .i64 (0 : Int)] 23) fun B1 w2 =>
  sel ((na0 : Int) == (5 : Int)) (
  optB Aa0 fun a3 =>
  req (decide (0 ≤ (0 : Int) ∧ (0 : Int) < (na0 : Int))) <|
  ldI w2 (a3.add ((0 : Int).toNat * 1)) .u8 fun x4 =>
  sel (x4 == (1 : Int)) (
  Calls Tryd.prog 42 #[.slice Aa0 na0 ca0, .int .i64 (1 : Int)] w2 fun e5 w6 => ∃ (x7 : Int), e5 = .returned (.int .i64 x7) ∧ (
  sel (decide (x7 ≥ (1 : Int))) (
  sel (decide (x7 ≤ (2147483647 : Int))) (
  optB Aa0 fun a8 =>
  req (decide (0 ≤ (0 : Int) ∧ (0 : Int) < (na0 : Int))) <|
  ldI w6 (a8.add ((0 : Int).toNat * 1)) .u8 fun x9 =>
  stW w6 (⟨B1, 0, Option.none⟩ : Addr) (.bool (x9 == (2 : Int))) fun w10 =>
  stW w10 ((⟨B1, 0, Option.none⟩ : Addr).add 1) (.int .i64 x7) fun w11 =>
  ldB w11 (⟨B1, 0, Option.none⟩ : Addr) fun b12 =>
  ldI w11 ((⟨B1, 0, Option.none⟩ : Addr).add 1) .i64 fun x13 =>
  Q (.returned (.tuple #[.agg #[.bool b12, .int .i64 x13], .string (⟨#[]⟩ : ByteArray), .bool true])) w11) (
  stW w6 (⟨B1, 0, Option.none⟩ : Addr) (.bool false) fun w14 =>
  stW w14 ((⟨B1, 0, Option.none⟩ : Addr).add 1) (.int .i64 (0 : Int)) fun w15 =>
  ldB w15 (⟨B1, 0, Option.none⟩ : Addr) fun b16 =>
  ldI w15 ((⟨B1, 0, Option.none⟩ : Addr).add 1) .i64 fun x17 =>
  Q (.returned (.tuple #[.agg #[.bool b16, .int .i64 x17], .string (⟨#[]⟩ : ByteArray), .bool false])) w15)) (
  stW w6 (⟨B1, 0, Option.none⟩ : Addr) (.bool false) fun w18 =>
  stW w18 ((⟨B1, 0, Option.none⟩ : Addr).add 1) (.int .i64 (0 : Int)) fun w19 =>
  ldB w19 (⟨B1, 0, Option.none⟩ : Addr) fun b20 =>
  ldI w19 ((⟨B1, 0, Option.none⟩ : Addr).add 1) .i64 fun x21 =>
  Q (.returned (.tuple #[.agg #[.bool b20, .int .i64 x21], .string (⟨#[]⟩ : ByteArray), .bool false])) w19))) (
  optB Aa0 fun a22 =>
  req (decide (0 ≤ (0 : Int) ∧ (0 : Int) < (na0 : Int))) <|
  ldI w2 (a22.add ((0 : Int).toNat * 1)) .u8 fun x23 =>
  sel (x23 == (2 : Int)) (
  Calls Tryd.prog 42 #[.slice Aa0 na0 ca0, .int .i64 (1 : Int)] w2 fun e24 w25 => ∃ (x26 : Int), e24 = .returned (.int .i64 x26) ∧ (
  sel (decide (x26 ≥ (1 : Int))) (
  sel (decide (x26 ≤ (2147483647 : Int))) (
  optB Aa0 fun a27 =>
  req (decide (0 ≤ (0 : Int) ∧ (0 : Int) < (na0 : Int))) <|
  ldI w25 (a27.add ((0 : Int).toNat * 1)) .u8 fun x28 =>
  stW w25 (⟨B1, 0, Option.none⟩ : Addr) (.bool (x28 == (2 : Int))) fun w29 =>
  stW w29 ((⟨B1, 0, Option.none⟩ : Addr).add 1) (.int .i64 x26) fun w30 =>
  ldB w30 (⟨B1, 0, Option.none⟩ : Addr) fun b31 =>
  ldI w30 ((⟨B1, 0, Option.none⟩ : Addr).add 1) .i64 fun x32 =>
  Q (.returned (.tuple #[.agg #[.bool b31, .int .i64 x32], .string (⟨#[]⟩ : ByteArray), .bool true])) w30) (
  stW w25 (⟨B1, 0, Option.none⟩ : Addr) (.bool false) fun w33 =>
  stW w33 ((⟨B1, 0, Option.none⟩ : Addr).add 1) (.int .i64 (0 : Int)) fun w34 =>
  ldB w34 (⟨B1, 0, Option.none⟩ : Addr) fun b35 =>
  ldI w34 ((⟨B1, 0, Option.none⟩ : Addr).add 1) .i64 fun x36 =>
  Q (.returned (.tuple #[.agg #[.bool b35, .int .i64 x36], .string (⟨#[]⟩ : ByteArray), .bool false])) w34)) (
  stW w25 (⟨B1, 0, Option.none⟩ : Addr) (.bool false) fun w37 =>
  stW w37 ((⟨B1, 0, Option.none⟩ : Addr).add 1) (.int .i64 (0 : Int)) fun w38 =>
  ldB w38 (⟨B1, 0, Option.none⟩ : Addr) fun b39 =>
  ldI w38 ((⟨B1, 0, Option.none⟩ : Addr).add 1) .i64 fun x40 =>
  Q (.returned (.tuple #[.agg #[.bool b39, .int .i64 x40], .string (⟨#[]⟩ : ByteArray), .bool false])) w38))) (
  sel (decide ((na0 : Int) > (6 : Int))) (
  optB Aa0 fun a41 =>
  req (decide (0 ≤ (0 : Int) ∧ (0 : Int) < (na0 : Int))) <|
  ldI w2 (a41.add ((0 : Int).toNat * 1)) .u8 fun x42 =>
  sel (x42 == (3 : Int)) (
  optB Aa0 fun a43 =>
  req (decide (0 ≤ (1 : Int) ∧ (1 : Int) < (na0 : Int))) <|
  ldI w2 (a43.add ((1 : Int).toNat * 1)) .u8 fun x44 =>
  sel (decide (x44 ≤ (1 : Int))) (
  Calls Tryd.prog 42 #[.slice Aa0 na0 ca0, .int .i64 (2 : Int)] w2 fun e45 w46 => ∃ (x47 : Int), e45 = .returned (.int .i64 x47) ∧ (
  req (decide (0 ≤ (6 : Int) ∧ (6 : Int) ≤ (na0 : Int))) <|
  Runs Tryd.prog (Go.convert 24 9 (.slice (slA Aa0 6 ca0 1) (na0 - 6) (ca0 - 6))) w46 fun v49 w48 => ∃ (s50 : ByteArray), v49 = (.string s50) ∧ (
  sel (decide (x47 ≥ (1 : Int))) (
  sel (decide (x47 ≤ (2147483647 : Int))) (
  Calls Tryd.prog 14 #[.string s50] w48 fun e51 w52 => ∃ (b53 : Bool), e51 = .returned (.bool b53) ∧ (
  sel b53 (
  optB Aa0 fun a54 =>
  req (decide (0 ≤ (1 : Int) ∧ (1 : Int) < (na0 : Int))) <|
  ldI w52 (a54.add ((1 : Int).toNat * 1)) .u8 fun x55 =>
  stW w52 (⟨B1, 0, Option.none⟩ : Addr) (.bool (x55 == (1 : Int))) fun w56 =>
  stW w56 ((⟨B1, 0, Option.none⟩ : Addr).add 1) (.int .i64 x47) fun w57 =>
  ldB w57 (⟨B1, 0, Option.none⟩ : Addr) fun b58 =>
  ldI w57 ((⟨B1, 0, Option.none⟩ : Addr).add 1) .i64 fun x59 =>
  Q (.returned (.tuple #[.agg #[.bool b58, .int .i64 x59], .string s50, .bool true])) w57) (
  stW w52 (⟨B1, 0, Option.none⟩ : Addr) (.bool false) fun w60 =>
  stW w60 ((⟨B1, 0, Option.none⟩ : Addr).add 1) (.int .i64 (0 : Int)) fun w61 =>
  ldB w61 (⟨B1, 0, Option.none⟩ : Addr) fun b62 =>
  ldI w61 ((⟨B1, 0, Option.none⟩ : Addr).add 1) .i64 fun x63 =>
  Q (.returned (.tuple #[.agg #[.bool b62, .int .i64 x63], .string (⟨#[]⟩ : ByteArray), .bool false])) w61))) (
  stW w48 (⟨B1, 0, Option.none⟩ : Addr) (.bool false) fun w64 =>
  stW w64 ((⟨B1, 0, Option.none⟩ : Addr).add 1) (.int .i64 (0 : Int)) fun w65 =>
  ldB w65 (⟨B1, 0, Option.none⟩ : Addr) fun b66 =>
  ldI w65 ((⟨B1, 0, Option.none⟩ : Addr).add 1) .i64 fun x67 =>
  Q (.returned (.tuple #[.agg #[.bool b66, .int .i64 x67], .string (⟨#[]⟩ : ByteArray), .bool false])) w65)) (
  stW w48 (⟨B1, 0, Option.none⟩ : Addr) (.bool false) fun w68 =>
  stW w68 ((⟨B1, 0, Option.none⟩ : Addr).add 1) (.int .i64 (0 : Int)) fun w69 =>
  ldB w69 (⟨B1, 0, Option.none⟩ : Addr) fun b70 =>
  ldI w69 ((⟨B1, 0, Option.none⟩ : Addr).add 1) .i64 fun x71 =>
  Q (.returned (.tuple #[.agg #[.bool b70, .int .i64 x71], .string (⟨#[]⟩ : ByteArray), .bool false])) w69)))) (
  stW w2 (⟨B1, 0, Option.none⟩ : Addr) (.bool false) fun w72 =>
  stW w72 ((⟨B1, 0, Option.none⟩ : Addr).add 1) (.int .i64 (0 : Int)) fun w73 =>
  ldB w73 (⟨B1, 0, Option.none⟩ : Addr) fun b74 =>
  ldI w73 ((⟨B1, 0, Option.none⟩ : Addr).add 1) .i64 fun x75 =>
  Q (.returned (.tuple #[.agg #[.bool b74, .int .i64 x75], .string (⟨#[]⟩ : ByteArray), .bool false])) w73)) (
  stW w2 (⟨B1, 0, Option.none⟩ : Addr) (.bool false) fun w76 =>
  stW w76 ((⟨B1, 0, Option.none⟩ : Addr).add 1) (.int .i64 (0 : Int)) fun w77 =>
  ldB w77 (⟨B1, 0, Option.none⟩ : Addr) fun b78 =>
  ldI w77 ((⟨B1, 0, Option.none⟩ : Addr).add 1) .i64 fun x79 =>
  Q (.returned (.tuple #[.agg #[.bool b78, .int .i64 x79], .string (⟨#[]⟩ : ByteArray), .bool false])) w77)) (
  stW w2 (⟨B1, 0, Option.none⟩ : Addr) (.bool false) fun w80 =>
  stW w80 ((⟨B1, 0, Option.none⟩ : Addr).add 1) (.int .i64 (0 : Int)) fun w81 =>
  ldB w81 (⟨B1, 0, Option.none⟩ : Addr) fun b82 =>
  ldI w81 ((⟨B1, 0, Option.none⟩ : Addr).add 1) .i64 fun x83 =>
  Q (.returned (.tuple #[.agg #[.bool b82, .int .i64 x83], .string (⟨#[]⟩ : ByteArray), .bool false])) w81)))) (
  sel (decide ((na0 : Int) > (6 : Int))) (
  optB Aa0 fun a84 =>
  req (decide (0 ≤ (0 : Int) ∧ (0 : Int) < (na0 : Int))) <|
  ldI w2 (a84.add ((0 : Int).toNat * 1)) .u8 fun x85 =>
  sel (x85 == (3 : Int)) (
  optB Aa0 fun a86 =>
  req (decide (0 ≤ (1 : Int) ∧ (1 : Int) < (na0 : Int))) <|
  ldI w2 (a86.add ((1 : Int).toNat * 1)) .u8 fun x87 =>
  sel (decide (x87 ≤ (1 : Int))) (
  Calls Tryd.prog 42 #[.slice Aa0 na0 ca0, .int .i64 (2 : Int)] w2 fun e88 w89 => ∃ (x90 : Int), e88 = .returned (.int .i64 x90) ∧ (
  req (decide (0 ≤ (6 : Int) ∧ (6 : Int) ≤ (na0 : Int))) <|
  Runs Tryd.prog (Go.convert 24 9 (.slice (slA Aa0 6 ca0 1) (na0 - 6) (ca0 - 6))) w89 fun v92 w91 => ∃ (s93 : ByteArray), v92 = (.string s93) ∧ (
  sel (decide (x90 ≥ (1 : Int))) (
  sel (decide (x90 ≤ (2147483647 : Int))) (
  Calls Tryd.prog 14 #[.string s93] w91 fun e94 w95 => ∃ (b96 : Bool), e94 = .returned (.bool b96) ∧ (
  sel b96 (
  optB Aa0 fun a97 =>
  req (decide (0 ≤ (1 : Int) ∧ (1 : Int) < (na0 : Int))) <|
  ldI w95 (a97.add ((1 : Int).toNat * 1)) .u8 fun x98 =>
  stW w95 (⟨B1, 0, Option.none⟩ : Addr) (.bool (x98 == (1 : Int))) fun w99 =>
  stW w99 ((⟨B1, 0, Option.none⟩ : Addr).add 1) (.int .i64 x90) fun w100 =>
  ldB w100 (⟨B1, 0, Option.none⟩ : Addr) fun b101 =>
  ldI w100 ((⟨B1, 0, Option.none⟩ : Addr).add 1) .i64 fun x102 =>
  Q (.returned (.tuple #[.agg #[.bool b101, .int .i64 x102], .string s93, .bool true])) w100) (
  stW w95 (⟨B1, 0, Option.none⟩ : Addr) (.bool false) fun w103 =>
  stW w103 ((⟨B1, 0, Option.none⟩ : Addr).add 1) (.int .i64 (0 : Int)) fun w104 =>
  ldB w104 (⟨B1, 0, Option.none⟩ : Addr) fun b105 =>
  ldI w104 ((⟨B1, 0, Option.none⟩ : Addr).add 1) .i64 fun x106 =>
  Q (.returned (.tuple #[.agg #[.bool b105, .int .i64 x106], .string (⟨#[]⟩ : ByteArray), .bool false])) w104))) (
  stW w91 (⟨B1, 0, Option.none⟩ : Addr) (.bool false) fun w107 =>
  stW w107 ((⟨B1, 0, Option.none⟩ : Addr).add 1) (.int .i64 (0 : Int)) fun w108 =>
  ldB w108 (⟨B1, 0, Option.none⟩ : Addr) fun b109 =>
  ldI w108 ((⟨B1, 0, Option.none⟩ : Addr).add 1) .i64 fun x110 =>
  Q (.returned (.tuple #[.agg #[.bool b109, .int .i64 x110], .string (⟨#[]⟩ : ByteArray), .bool false])) w108)) (
  stW w91 (⟨B1, 0, Option.none⟩ : Addr) (.bool false) fun w111 =>
  stW w111 ((⟨B1, 0, Option.none⟩ : Addr).add 1) (.int .i64 (0 : Int)) fun w112 =>
  ldB w112 (⟨B1, 0, Option.none⟩ : Addr) fun b113 =>
  ldI w112 ((⟨B1, 0, Option.none⟩ : Addr).add 1) .i64 fun x114 =>
  Q (.returned (.tuple #[.agg #[.bool b113, .int .i64 x114], .string (⟨#[]⟩ : ByteArray), .bool false])) w112)))) (
  stW w2 (⟨B1, 0, Option.none⟩ : Addr) (.bool false) fun w115 =>
  stW w115 ((⟨B1, 0, Option.none⟩ : Addr).add 1) (.int .i64 (0 : Int)) fun w116 =>
  ldB w116 (⟨B1, 0, Option.none⟩ : Addr) fun b117 =>
  ldI w116 ((⟨B1, 0, Option.none⟩ : Addr).add 1) .i64 fun x118 =>
  Q (.returned (.tuple #[.agg #[.bool b117, .int .i64 x118], .string (⟨#[]⟩ : ByteArray), .bool false])) w116)) (
  stW w2 (⟨B1, 0, Option.none⟩ : Addr) (.bool false) fun w119 =>
  stW w119 ((⟨B1, 0, Option.none⟩ : Addr).add 1) (.int .i64 (0 : Int)) fun w120 =>
  ldB w120 (⟨B1, 0, Option.none⟩ : Addr) fun b121 =>
  ldI w120 ((⟨B1, 0, Option.none⟩ : Addr).add 1) .i64 fun x122 =>
  Q (.returned (.tuple #[.agg #[.bool b121, .int .i64 x122], .string (⟨#[]⟩ : ByteArray), .bool false])) w120)) (
  stW w2 (⟨B1, 0, Option.none⟩ : Addr) (.bool false) fun w123 =>
  stW w123 ((⟨B1, 0, Option.none⟩ : Addr).add 1) (.int .i64 (0 : Int)) fun w124 =>
  ldB w124 (⟨B1, 0, Option.none⟩ : Addr) fun b125 =>
  ldI w124 ((⟨B1, 0, Option.none⟩ : Addr).add 1) .i64 fun x126 =>
  Q (.returned (.tuple #[.agg #[.bool b125, .int .i64 x126], .string (⟨#[]⟩ : ByteArray), .bool false])) w124))
def D : Nat → Option DH := dtab []
def tb : List (List Nat × Spec) := []
theorem wp_eq (Aa0 : Option Addr) (na0 : Nat) (ca0 : Nat) (w : World) (Q : Ending → World → Prop) :
    wp Aa0 na0 ca0 w Q = codeW Tryd.prog hT 76 D (tab tb) [] body (topQ Tryd.prog hT 76 [.cell 2 23, .tmp 3, .tmp 4] Q) (argsF [.slice Aa0 na0 ca0]) w := by kernel_rfl
theorem ok (Aa0 : Option Addr) (na0 : Nat) (ca0 : Nat) (w : World) (Q : Ending → World → Prop) (h : wp Aa0 na0 ca0 w Q) : Calls Tryd.prog 17 #[.slice Aa0 na0 ca0] w Q := by
  rw [wp_eq] at h
  exact calls_of_codeW (c := body) (rs := [.cell 2 23, .tmp 3, .tmp 4]) Tryd.func17 (by kernel_rfl) (by kernel_rfl) (by kernel_rfl) (by kernel_rfl) (by kernel_rfl) (tab_snd (by
    intro x hx
    simp only [tb, List.not_mem_nil] at hx
    )) (by kernel_rfl) h
end f_ref04_Parse
namespace f_keys_Version
/-! skein/keys.Version: function 19 -/
noncomputable def body : Code := (Tryd.f19.body).getD .skip
def wp (Aa0 : Option Addr) (na0 : Nat) (ca0 : Nat) (xa1 : Int) (w : World) (Q : Ending → World → Prop) : Prop :=
  Calls Tryd.prog 43 #[.int .i64 xa1] w fun e1 w2 => ∃ (b3 : Bool), e1 = .returned (.bool b3) ∧ (
  sel b3 (
  Q (.returned (.tuple #[.slice none 0 0, .int .i64 (1 : Int)])) w2) (
  Calls Tryd.prog 44 #[.int .i64 (IntKind.i64.wrap (0 - xa1))] w2 fun e4 w5 => ∃ (x6_0 : Int) (x6_1 : Int) (x6_2 : Int) (x6_3 : Int) (x6_4 : Int) (x6_5 : Int) (x6_6 : Int) (x6_7 : Int), e4 = .returned (.agg #[.int .u8 x6_0, .int .u8 x6_1, .int .u8 x6_2, .int .u8 x6_3, .int .u8 x6_4, .int .u8 x6_5, .int .u8 x6_6, .int .u8 x6_7]) ∧ (
  alW w5 (.cells #[.int .u8 (0 : Int), .int .u8 (0 : Int), .int .u8 (0 : Int), .int .u8 (0 : Int), .int .u8 (0 : Int), .int .u8 (0 : Int), .int .u8 (0 : Int), .int .u8 (0 : Int)] 72) fun B7 w8 =>
  stW w8 (⟨B7, 0, Option.none⟩ : Addr) (.int .u8 x6_0) fun w9 =>
  stW w9 ((⟨B7, 0, Option.none⟩ : Addr).add 1) (.int .u8 x6_1) fun w10 =>
  stW w10 ((⟨B7, 0, Option.none⟩ : Addr).add 2) (.int .u8 x6_2) fun w11 =>
  stW w11 ((⟨B7, 0, Option.none⟩ : Addr).add 3) (.int .u8 x6_3) fun w12 =>
  stW w12 ((⟨B7, 0, Option.none⟩ : Addr).add 4) (.int .u8 x6_4) fun w13 =>
  stW w13 ((⟨B7, 0, Option.none⟩ : Addr).add 5) (.int .u8 x6_5) fun w14 =>
  stW w14 ((⟨B7, 0, Option.none⟩ : Addr).add 6) (.int .u8 x6_6) fun w15 =>
  stW w15 ((⟨B7, 0, Option.none⟩ : Addr).add 7) (.int .u8 x6_7) fun w16 =>
  alW w16 (.cells #[.int .u8 (0 : Int)] 5) fun B17 w18 =>
  alW w18 (.cells #[.int .u8 (0 : Int), .int .u8 (255 : Int)] 5) fun B19 w20 =>
  Calls Tryd.prog 45 #[.slice Aa0 na0 ca0, .slice (some (⟨B17, 0, Option.none⟩ : Addr)) 1 1, .slice (some (⟨B19, 0, Option.none⟩ : Addr)) 2 2] w20 fun e21 w22 => ∃ (A23 : Option Addr) (n23 : Nat) (c23 : Nat), e21 = .returned (.slice A23 n23 c23) ∧ (
  drW w22 fun w24 =>
  alW w24 (.cells #[.int .u8 (0 : Int), .int .u8 (0 : Int)] 5) fun B26 w27 =>
  Runs Tryd.prog (Builtin.append_ #[24, 24] 24 #[.slice A23 n23 c23, .slice (some (⟨B26, 0, Option.none⟩ : Addr)) 2 2]) w27 fun v29 w28 => ∃ (A30 : Option Addr) (n30 : Nat) (c30 : Nat), v29 = (.slice A30 n30 c30) ∧ (
  Runs Tryd.prog (Builtin.append_ #[24, 24] 24 #[.slice A30 n30 c30, .slice (some (slB (⟨B7, 0, Option.none⟩ : Addr) 0 8 1)) (8 - 0) (8 - 0)]) w28 fun v32 w31 => ∃ (A33 : Option Addr) (n33 : Nat) (c33 : Nat), v32 = (.slice A33 n33 c33) ∧ (
  Q (.returned (.tuple #[.slice A33 n33 c33, .int .i64 (0 : Int)])) w31))))))
def D : Nat → Option DH := dtab [(5, .simple [] [.fst 0, .fst 3, .eff 1, .eff 2, .eff 4, .fst 5, .fst 6])]
def tb : List (List Nat × Spec) := []
theorem wp_eq (Aa0 : Option Addr) (na0 : Nat) (ca0 : Nat) (xa1 : Int) (w : World) (Q : Ending → World → Prop) :
    wp Aa0 na0 ca0 xa1 w Q = codeW Tryd.prog hT 22 D (tab tb) [] body (topQ Tryd.prog hT 22 [.tmp 4, .tmp 5] Q) (argsF [.slice Aa0 na0 ca0, .int .i64 xa1]) w := by kernel_rfl
theorem ok (Aa0 : Option Addr) (na0 : Nat) (ca0 : Nat) (xa1 : Int) (w : World) (Q : Ending → World → Prop) (h : wp Aa0 na0 ca0 xa1 w Q) : Calls Tryd.prog 19 #[.slice Aa0 na0 ca0, .int .i64 xa1] w Q := by
  rw [wp_eq] at h
  exact calls_of_codeW (c := body) (rs := [.tmp 4, .tmp 5]) Tryd.func19 (by kernel_rfl) (by kernel_rfl) (by kernel_rfl) (by kernel_rfl) (by kernel_rfl) (tab_snd (by
    intro x hx
    simp only [tb, List.not_mem_nil] at hx
    )) (by kernel_rfl) h
end f_keys_Version
namespace f_ref04_Version
/-! skein/skeinref04.Version: function 20 -/
noncomputable def body : Code := (Tryd.f20.body).getD .skip
def l0 : Nat → Option Addr → Nat → Nat → Option Addr → Nat → Nat → Int → World → ((Option Addr) → Nat → Nat → World → Prop) → Prop
  | 0, _, _, _, _, _, _, _, _, _ => False
  | k + 1, At0, nt0, ct0, At6, nt6, ct6, xt7, w, K0 =>
    sel (decide (xt7 < (nt0 : Int))) (
    optB At0 fun a3 =>
    req (decide (0 ≤ xt7 ∧ xt7 < (nt0 : Int))) <|
    ldI w (a3.add (xt7.toNat * 1)) .u8 fun x4 =>
    alW w (.cells #[.int .u8 x4] 5) fun B5 w6 =>
    Runs Tryd.prog (Builtin.append_ #[24, 24] 24 #[.slice At6 nt6 ct6, .slice (some (⟨B5, 0, Option.none⟩ : Addr)) 1 1]) w6 fun v8 w7 => ∃ (A9 : Option Addr) (n9 : Nat) (c9 : Nat), v8 = (.slice A9 n9 c9) ∧ (
    optB At0 fun a10 =>
    req (decide (0 ≤ xt7 ∧ xt7 < (nt0 : Int))) <|
    ldI w7 (a10.add (xt7.toNat * 1)) .u8 fun x11 =>
    sel (x11 == (0 : Int)) (
    alW w7 (.cells #[.int .u8 (255 : Int)] 5) fun B12 w13 =>
    Runs Tryd.prog (Builtin.append_ #[24, 24] 24 #[.slice A9 n9 c9, .slice (some (⟨B12, 0, Option.none⟩ : Addr)) 1 1]) w13 fun v15 w14 => ∃ (A16 : Option Addr) (n16 : Nat) (c16 : Nat), v15 = (.slice A16 n16 c16) ∧ (
    l0 k At0 nt0 ct0 A16 n16 c16 (IntKind.i64.wrap (xt7 + (1 : Int))) w14 K0)) (
    l0 k At0 nt0 ct0 A9 n9 c9 (IntKind.i64.wrap (xt7 + (1 : Int))) w7 K0))) (
    K0 At6 nt6 ct6 w)
def wp (Aa0 : Option Addr) (na0 : Nat) (ca0 : Nat) (xa1 : Int) (w : World) (Q : Ending → World → Prop) : Prop :=
  sel (decide (xa1 < (0 : Int))) (
  Q (.returned (.tuple #[.slice none 0 0, .int .i64 (1 : Int)])) w) (
  sel (decide (xa1 > (1099511627776 : Int))) (
  Q (.returned (.tuple #[.slice none 0 0, .int .i64 (1 : Int)])) w) (
  alW w (.cells #[] 5) fun B1 w2 =>
  ∃ k35 : Nat, l0 k35 Aa0 na0 ca0 (some (⟨B1, 0, Option.none⟩ : Addr)) 0 0 (0 : Int) w2 (fun (A17 : Option Addr) (n17 : Nat) (c17 : Nat) (w18 : World) => ∀ _ : Fr,
  alW w18 (.cells #[.int .u8 (0 : Int)] 5) fun B19 w20 =>
  Runs Tryd.prog (Builtin.append_ #[24, 24] 24 #[.slice A17 n17 c17, .slice (some (⟨B19, 0, Option.none⟩ : Addr)) 1 1]) w20 fun v22 w21 => ∃ (A23 : Option Addr) (n23 : Nat) (c23 : Nat), v22 = (.slice A23 n23 c23) ∧ (
  alW w21 (.cells #[.int .u8 (0 : Int)] 5) fun B24 w25 =>
  Runs Tryd.prog (Builtin.append_ #[24, 24] 24 #[.slice A23 n23 c23, .slice (some (⟨B24, 0, Option.none⟩ : Addr)) 1 1]) w25 fun v27 w26 => ∃ (A28 : Option Addr) (n28 : Nat) (c28 : Nat), v27 = (.slice A28 n28 c28) ∧ (
  Calls Tryd.prog 46 #[.int .i64 (IntKind.i64.wrap (0 - xa1))] w26 fun e29 w30 => ∃ (A31 : Option Addr) (n31 : Nat) (c31 : Nat), e29 = .returned (.slice A31 n31 c31) ∧ (
  Calls Tryd.prog 34 #[.slice A28 n28 c28, .slice A31 n31 c31] w30 fun e32 w33 => ∃ (A34 : Option Addr) (n34 : Nat) (c34 : Nat), e32 = .returned (.slice A34 n34 c34) ∧ (
  Q (.returned (.tuple #[.slice A34 n34 c34, .int .i64 (0 : Int)])) w33)))))))
def D : Nat → Option DH := dtab []
def l0LO : LO := ⟨[], [], [(0, [1, 6])], []⟩
def l0Tk (k : Nat) : Spec := fun Q σ w =>
  gSlice (σ 0) fun At0 nt0 ct0 =>
  gSlice (σ 6) fun At6 nt6 ct6 =>
  gInt .i64 (σ 7) fun xt7 =>
  l0 k At0 nt0 ct0 At6 nt6 ct6 xt7 w (fun (Aq6 : Option Addr) (nq6 : Nat) (cq6 : Nat) (w : World) => ∀ d : Fr, Q (.exit 0) (ov d [(1, σ 1), (6, .slice Aq6 nq6 cq6)]) w)
def l0T : Spec := fun Q σ w => ∃ k, l0Tk k Q σ w
def l0tb : List (List Nat × Spec) := []
noncomputable def l0b : Code := (subC [0, 0, 1, 0, 1, 1, 1] body).getD .skip
theorem l0_eq (k : Nat) (At0 : Option Addr) (nt0 : Nat) (ct0 : Nat) (At6 : Option Addr) (nt6 : Nat) (ct6 : Nat) (xt7 : Int) (Q : PQ) (σ : Fr) (w : World) :
    l0 (k + 1) At0 nt0 ct0 At6 nt6 ct6 xt7 w (fun (Aq6 : Option Addr) (nq6 : Nat) (cq6 : Nat) (w : World) => ∀ d : Fr, Q (.exit 0) (ov d [(1, σ 1), (6, .slice Aq6 nq6 cq6)]) w) = codeW Tryd.prog hT 47 D (tab l0tb) [0, 0, 1, 0, 1, 1, 1] l0b (thenQ (l0Tk k Q) (widen l0LO Q)) (ov σ [(0, .slice At0 nt0 ct0), (6, .slice At6 nt6 ct6), (7, .int .i64 xt7)]) w := by kernel_rfl
theorem l0_snd : ∀ c, subC [0, 1, 0, 1, 1, 1] body = some c → Snd Tryd.prog 47 c l0T := by
  refine loop_of (hT := hT) (D := D) (l := l0tb) (b := l0b) (lo := l0LO) (by kernel_rfl) (by
    intro x hx
    simp only [l0tb, List.not_mem_nil] at hx
    ) (by kernel_rfl) (by kernel_rfl) ?_ ?_
  · intro Q σ w h
    unfold l0Tk at h
    obtain ⟨At0, nt0, ct0, h0, hn⟩ := gSlice_elim h
    clear h
    have h := hn
    clear hn
    obtain ⟨At6, nt6, ct6, h6, hn⟩ := gSlice_elim h
    clear h
    have h := hn
    clear hn
    obtain ⟨xt7, h7, hn⟩ := gInt_elim h
    clear h
    have h := hn
    clear hn
    exact h
  · intro k Q σ w h
    unfold l0Tk at h
    obtain ⟨At0, nt0, ct0, h0, hn⟩ := gSlice_elim h
    clear h
    have h := hn
    clear hn
    obtain ⟨At6, nt6, ct6, h6, hn⟩ := gSlice_elim h
    clear h
    have h := hn
    clear hn
    obtain ⟨xt7, h7, hn⟩ := gInt_elim h
    clear h
    have h := hn
    clear hn
    rw [l0_eq (σ := σ)] at h
    have e : (ov σ [(0, .slice At0 nt0 ct0), (6, .slice At6 nt6 ct6), (7, .int .i64 xt7)]) = σ := ov_self (by simp [h0, h6, h7])
    rw [e] at h
    exact h
def tb : List (List Nat × Spec) := [([0, 1, 0, 1, 1, 1], l0T)]
theorem wp_eq (Aa0 : Option Addr) (na0 : Nat) (ca0 : Nat) (xa1 : Int) (w : World) (Q : Ending → World → Prop) :
    wp Aa0 na0 ca0 xa1 w Q = codeW Tryd.prog hT 47 D (tab tb) [] body (topQ Tryd.prog hT 47 [.tmp 4, .tmp 5] Q) (argsF [.slice Aa0 na0 ca0, .int .i64 xa1]) w := by kernel_rfl
theorem ok (Aa0 : Option Addr) (na0 : Nat) (ca0 : Nat) (xa1 : Int) (w : World) (Q : Ending → World → Prop) (h : wp Aa0 na0 ca0 xa1 w Q) : Calls Tryd.prog 20 #[.slice Aa0 na0 ca0, .int .i64 xa1] w Q := by
  rw [wp_eq] at h
  exact calls_of_codeW (c := body) (rs := [.tmp 4, .tmp 5]) Tryd.func20 (by kernel_rfl) (by kernel_rfl) (by kernel_rfl) (by kernel_rfl) (by kernel_rfl) (tab_snd (by
    intro x hx
    simp only [tb, List.mem_cons, List.not_mem_nil, or_false] at hx
    subst hx
    exact l0_snd)) (by kernel_rfl) h
end f_ref04_Version
namespace f_keys_Split
/-! skein/keys.Split: function 21 -/
noncomputable def body : Code := (Tryd.f21.body).getD .skip
def wp (Aa0 : Option Addr) (na0 : Nat) (ca0 : Nat) (w : World) (Q : Ending → World → Prop) : Prop :=
  sel (decide ((IntKind.i64.wrap ((na0 : Int) - (10 : Int))) < (0 : Int))) (
  Q (.returned (.tuple #[.slice none 0 0, .int .i64 (0 : Int), .int .i64 (40 : Int)])) w) (
  optB Aa0 fun a1 =>
  req (decide (0 ≤ (IntKind.i64.wrap ((na0 : Int) - (10 : Int))) ∧ (IntKind.i64.wrap ((na0 : Int) - (10 : Int))) < (na0 : Int))) <|
  ldI w (a1.add ((IntKind.i64.wrap ((na0 : Int) - (10 : Int))).toNat * 1)) .u8 fun x2 =>
  sel (x2 != (0 : Int)) (
  Q (.returned (.tuple #[.slice none 0 0, .int .i64 (0 : Int), .int .i64 (40 : Int)])) w) (
  optB Aa0 fun a3 =>
  req (decide (0 ≤ (IntKind.i64.wrap ((IntKind.i64.wrap ((na0 : Int) - (10 : Int))) + (1 : Int))) ∧ (IntKind.i64.wrap ((IntKind.i64.wrap ((na0 : Int) - (10 : Int))) + (1 : Int))) < (na0 : Int))) <|
  ldI w (a3.add ((IntKind.i64.wrap ((IntKind.i64.wrap ((na0 : Int) - (10 : Int))) + (1 : Int))).toNat * 1)) .u8 fun x4 =>
  sel (x4 != (0 : Int)) (
  Q (.returned (.tuple #[.slice none 0 0, .int .i64 (0 : Int), .int .i64 (40 : Int)])) w) (
  req (decide (0 ≤ (IntKind.i64.wrap ((IntKind.i64.wrap ((na0 : Int) - (10 : Int))) + (2 : Int))) ∧ (IntKind.i64.wrap ((IntKind.i64.wrap ((na0 : Int) - (10 : Int))) + (2 : Int))) ≤ (na0 : Int))) <|
  req (decide (8 ≤ (na0 - (IntKind.i64.wrap ((IntKind.i64.wrap ((na0 : Int) - (10 : Int))) + (2 : Int))).toNat))) <|
  optB (slA Aa0 ((IntKind.i64.wrap ((IntKind.i64.wrap ((na0 : Int) - (10 : Int))) + (2 : Int))).toNat) ca0 1) fun a5 =>
  ldI w a5 .u8 fun x6 =>
  ldI w (a5.add 1) .u8 fun x7 =>
  ldI w (a5.add 2) .u8 fun x8 =>
  ldI w (a5.add 3) .u8 fun x9 =>
  ldI w (a5.add 4) .u8 fun x10 =>
  ldI w (a5.add 5) .u8 fun x11 =>
  ldI w (a5.add 6) .u8 fun x12 =>
  ldI w (a5.add 7) .u8 fun x13 =>
  Calls Tryd.prog 47 #[.agg #[.int .u8 x6, .int .u8 x7, .int .u8 x8, .int .u8 x9, .int .u8 x10, .int .u8 x11, .int .u8 x12, .int .u8 x13]] w fun e14 w15 => ∃ (x16 : Int), e14 = .returned (.int .i64 x16) ∧ (
  req (decide (0 ≤ (IntKind.i64.wrap ((na0 : Int) - (10 : Int))) ∧ (IntKind.i64.wrap ((na0 : Int) - (10 : Int))) ≤ (ca0 : Int))) <|
  alW w15 (.cells #[.int .u8 (0 : Int), .int .u8 (255 : Int)] 5) fun B17 w18 =>
  alW w18 (.cells #[.int .u8 (0 : Int)] 5) fun B19 w20 =>
  Calls Tryd.prog 45 #[.slice (slA Aa0 0 ca0 1) ((IntKind.i64.wrap ((na0 : Int) - (10 : Int))).toNat - 0) (ca0 - 0), .slice (some (⟨B17, 0, Option.none⟩ : Addr)) 2 2, .slice (some (⟨B19, 0, Option.none⟩ : Addr)) 1 1] w20 fun e21 w22 => ∃ (A23 : Option Addr) (n23 : Nat) (c23 : Nat), e21 = .returned (.slice A23 n23 c23) ∧ (
  Calls Tryd.prog 19 #[.slice A23 n23 c23, .int .i64 (IntKind.i64.wrap (0 - x16))] w22 fun e24 w25 => ∃ (A26_0 : Option Addr) (n26_0 : Nat) (c26_0 : Nat) (x26_1 : Int), e24 = .returned (.tuple #[.slice A26_0 n26_0 c26_0, .int .i64 x26_1]) ∧ (
  sel (x26_1 != (0 : Int)) (
  Q (.returned (.tuple #[.slice none 0 0, .int .i64 (0 : Int), .int .i64 (40 : Int)])) w25) (
  Calls Tryd.prog 48 #[.slice A26_0 n26_0 c26_0, .slice Aa0 na0 ca0] w25 fun e27 w28 => ∃ (b29 : Bool), e27 = .returned (.bool b29) ∧ (
  sel (!b29) (
  Q (.returned (.tuple #[.slice none 0 0, .int .i64 (0 : Int), .int .i64 (40 : Int)])) w28) (
  Q (.returned (.tuple #[.slice A23 n23 c23, .int .i64 (IntKind.i64.wrap (0 - x16)), .int .i64 (0 : Int)])) w28)))))))))
def D : Nat → Option DH := dtab []
def tb : List (List Nat × Spec) := []
theorem wp_eq (Aa0 : Option Addr) (na0 : Nat) (ca0 : Nat) (w : World) (Q : Ending → World → Prop) :
    wp Aa0 na0 ca0 w Q = codeW Tryd.prog hT 60 D (tab tb) [] body (topQ Tryd.prog hT 60 [.tmp 2, .tmp 3, .tmp 4] Q) (argsF [.slice Aa0 na0 ca0]) w := by kernel_rfl
theorem ok (Aa0 : Option Addr) (na0 : Nat) (ca0 : Nat) (w : World) (Q : Ending → World → Prop) (h : wp Aa0 na0 ca0 w Q) : Calls Tryd.prog 21 #[.slice Aa0 na0 ca0] w Q := by
  rw [wp_eq] at h
  exact calls_of_codeW (c := body) (rs := [.tmp 2, .tmp 3, .tmp 4]) Tryd.func21 (by kernel_rfl) (by kernel_rfl) (by kernel_rfl) (by kernel_rfl) (by kernel_rfl) (tab_snd (by
    intro x hx
    simp only [tb, List.not_mem_nil] at hx
    )) (by kernel_rfl) h
end f_keys_Split
namespace f_ref04_Split
/-! skein/skeinref04.Split: function 22 -/
noncomputable def body : Code := (Tryd.f22.body).getD .skip
def l0 : Nat → Option Addr → Nat → Nat → Int → Option Addr → Nat → Nat → Int → World → ((Option Addr) → Nat → Nat → World → Prop) → ((Option Addr) → Nat → Nat → Int → Int → World → Prop) → Prop
  | 0, _, _, _, _, _, _, _, _, _, _, _ => False
  | k + 1, At0, nt0, ct0, xt5, At6, nt6, ct6, xt7, w, K0, Kr =>
    sel (decide (xt7 < xt5)) (
    optB At0 fun a3 =>
    req (decide (0 ≤ xt7 ∧ xt7 < (nt0 : Int))) <|
    ldI w (a3.add (xt7.toNat * 1)) .u8 fun x4 =>
    alW w (.cells #[.int .u8 x4] 5) fun B5 w6 =>
    Runs Tryd.prog (Builtin.append_ #[24, 24] 24 #[.slice At6 nt6 ct6, .slice (some (⟨B5, 0, Option.none⟩ : Addr)) 1 1]) w6 fun v8 w7 => ∃ (A9 : Option Addr) (n9 : Nat) (c9 : Nat), v8 = (.slice A9 n9 c9) ∧ (
    optB At0 fun a10 =>
    req (decide (0 ≤ xt7 ∧ xt7 < (nt0 : Int))) <|
    ldI w7 (a10.add (xt7.toNat * 1)) .u8 fun x11 =>
    sel (x11 == (0 : Int)) (
    sel (decide ((IntKind.i64.wrap (xt7 + (1 : Int))) ≥ xt5)) (
    Kr none 0 0 (0 : Int) (40 : Int) w7) (
    optB At0 fun a12 =>
    req (decide (0 ≤ (IntKind.i64.wrap (xt7 + (1 : Int))) ∧ (IntKind.i64.wrap (xt7 + (1 : Int))) < (nt0 : Int))) <|
    ldI w7 (a12.add ((IntKind.i64.wrap (xt7 + (1 : Int))).toNat * 1)) .u8 fun x13 =>
    sel (x13 != (255 : Int)) (
    Kr none 0 0 (0 : Int) (40 : Int) w7) (
    l0 k At0 nt0 ct0 xt5 A9 n9 c9 (IntKind.i64.wrap ((IntKind.i64.wrap (xt7 + (1 : Int))) + (1 : Int))) w7 K0 Kr))) (
    l0 k At0 nt0 ct0 xt5 A9 n9 c9 (IntKind.i64.wrap (xt7 + (1 : Int))) w7 K0 Kr))) (
    K0 At6 nt6 ct6 w)
def l1 : Nat → Option Addr → Nat → Nat → Int → Int → World → (Int → World → Prop) → Prop
  | 0, _, _, _, _, _, _, _ => False
  | k + 1, At0, nt0, ct0, xt8, xt9, w, K2 =>
    sel (decide (xt9 < (nt0 : Int))) (
    optB At0 fun a20 =>
    req (decide (0 ≤ xt9 ∧ xt9 < (nt0 : Int))) <|
    ldI w (a20.add (xt9.toNat * 1)) .u8 fun x21 =>
    l1 k At0 nt0 ct0 (IntKind.u64.wrap ((IntKind.u64.wrap (xt8 * (256 : Int))) + (IntKind.u64.wrap x21))) (IntKind.i64.wrap (xt9 + (1 : Int))) w K2) (
    K2 xt8 w)
def wp (Aa0 : Option Addr) (na0 : Nat) (ca0 : Nat) (w : World) (Q : Ending → World → Prop) : Prop :=
  alW w (.cells #[] 5) fun B1 w2 =>
  ∃ k29 : Nat, l0 k29 Aa0 na0 ca0 (IntKind.i64.wrap ((na0 : Int) - (10 : Int))) (some (⟨B1, 0, Option.none⟩ : Addr)) 0 0 (0 : Int) w2 (fun (A14 : Option Addr) (n14 : Nat) (c14 : Nat) (w15 : World) => ∀ _ : Fr,
  sel (decide ((IntKind.i64.wrap ((na0 : Int) - (10 : Int))) < (0 : Int))) (
  Q (.returned (.tuple #[.slice none 0 0, .int .i64 (0 : Int), .int .i64 (40 : Int)])) w15) (
  optB Aa0 fun a16 =>
  req (decide (0 ≤ (IntKind.i64.wrap ((na0 : Int) - (10 : Int))) ∧ (IntKind.i64.wrap ((na0 : Int) - (10 : Int))) < (na0 : Int))) <|
  ldI w15 (a16.add ((IntKind.i64.wrap ((na0 : Int) - (10 : Int))).toNat * 1)) .u8 fun x17 =>
  sel (x17 != (0 : Int)) (
  Q (.returned (.tuple #[.slice none 0 0, .int .i64 (0 : Int), .int .i64 (40 : Int)])) w15) (
  optB Aa0 fun a18 =>
  req (decide (0 ≤ (IntKind.i64.wrap ((IntKind.i64.wrap ((na0 : Int) - (10 : Int))) + (1 : Int))) ∧ (IntKind.i64.wrap ((IntKind.i64.wrap ((na0 : Int) - (10 : Int))) + (1 : Int))) < (na0 : Int))) <|
  ldI w15 (a18.add ((IntKind.i64.wrap ((IntKind.i64.wrap ((na0 : Int) - (10 : Int))) + (1 : Int))).toNat * 1)) .u8 fun x19 =>
  sel (x19 != (0 : Int)) (
  Q (.returned (.tuple #[.slice none 0 0, .int .i64 (0 : Int), .int .i64 (40 : Int)])) w15) (
  ∃ k24 : Nat, l1 k24 Aa0 na0 ca0 (0 : Int) (IntKind.i64.wrap ((IntKind.i64.wrap ((na0 : Int) - (10 : Int))) + (2 : Int))) w15 (fun (x22 : Int) (w23 : World) => ∀ _ : Fr,
  sel (decide ((IntKind.i64.wrap (IntKind.u64.wrap ((9223372036854775808 : Int) - x22))) < (0 : Int))) (
  Q (.returned (.tuple #[.slice none 0 0, .int .i64 (0 : Int), .int .i64 (40 : Int)])) w23) (
  sel (decide ((IntKind.i64.wrap (IntKind.u64.wrap ((9223372036854775808 : Int) - x22))) > (1099511627776 : Int))) (
  Q (.returned (.tuple #[.slice none 0 0, .int .i64 (0 : Int), .int .i64 (40 : Int)])) w23) (
  Q (.returned (.tuple #[.slice A14 n14 c14, .int .i64 (IntKind.i64.wrap (IntKind.u64.wrap ((9223372036854775808 : Int) - x22))), .int .i64 (0 : Int)])) w23))))))) (fun (A25 : Option Addr) (n25 : Nat) (c25 : Nat) (x26 : Int) (x27 : Int) (w28 : World) => ∀ _ : Fr,
  Q (.returned (.tuple #[.slice A25 n25 c25, .int .i64 x26, .int .i64 x27])) w28)
def D : Nat → Option DH := dtab []
def l0LO : LO := ⟨[], [2, 3, 4], [(0, [0, 5, 6])], []⟩
def l0Tk (k : Nat) : Spec := fun Q σ w =>
  gSlice (σ 0) fun At0 nt0 ct0 =>
  gInt .i64 (σ 5) fun xt5 =>
  gSlice (σ 6) fun At6 nt6 ct6 =>
  gInt .i64 (σ 7) fun xt7 =>
  l0 k At0 nt0 ct0 xt5 At6 nt6 ct6 xt7 w (fun (Aq6 : Option Addr) (nq6 : Nat) (cq6 : Nat) (w : World) => ∀ d : Fr, Q (.exit 0) (ov d [(0, .slice At0 nt0 ct0), (5, .int .i64 xt5), (6, .slice Aq6 nq6 cq6)]) w) (fun (Aq2 : Option Addr) (nq2 : Nat) (cq2 : Nat) (xq3 : Int) (xq4 : Int) (w : World) => ∀ d : Fr, Q .ret (ov d [(2, .slice Aq2 nq2 cq2), (3, .int .i64 xq3), (4, .int .i64 xq4)]) w)
def l0T : Spec := fun Q σ w => ∃ k, l0Tk k Q σ w
def l0tb : List (List Nat × Spec) := []
noncomputable def l0b : Code := (subC [0, 0, 1, 0, 1, 1, 1] body).getD .skip
theorem l0_eq (k : Nat) (At0 : Option Addr) (nt0 : Nat) (ct0 : Nat) (xt5 : Int) (At6 : Option Addr) (nt6 : Nat) (ct6 : Nat) (xt7 : Int) (Q : PQ) (σ : Fr) (w : World) :
    l0 (k + 1) At0 nt0 ct0 xt5 At6 nt6 ct6 xt7 w (fun (Aq6 : Option Addr) (nq6 : Nat) (cq6 : Nat) (w : World) => ∀ d : Fr, Q (.exit 0) (ov d [(0, .slice At0 nt0 ct0), (5, .int .i64 xt5), (6, .slice Aq6 nq6 cq6)]) w) (fun (Aq2 : Option Addr) (nq2 : Nat) (cq2 : Nat) (xq3 : Int) (xq4 : Int) (w : World) => ∀ d : Fr, Q .ret (ov d [(2, .slice Aq2 nq2 cq2), (3, .int .i64 xq3), (4, .int .i64 xq4)]) w) = codeW Tryd.prog hT 88 D (tab l0tb) [0, 0, 1, 0, 1, 1, 1] l0b (thenQ (l0Tk k Q) (widen l0LO Q)) (ov σ [(0, .slice At0 nt0 ct0), (5, .int .i64 xt5), (6, .slice At6 nt6 ct6), (7, .int .i64 xt7)]) w := by kernel_rfl
theorem l0_snd : ∀ c, subC [0, 1, 0, 1, 1, 1] body = some c → Snd Tryd.prog 88 c l0T := by
  refine loop_of (hT := hT) (D := D) (l := l0tb) (b := l0b) (lo := l0LO) (by kernel_rfl) (by
    intro x hx
    simp only [l0tb, List.not_mem_nil] at hx
    ) (by kernel_rfl) (by kernel_rfl) ?_ ?_
  · intro Q σ w h
    unfold l0Tk at h
    obtain ⟨At0, nt0, ct0, h0, hn⟩ := gSlice_elim h
    clear h
    have h := hn
    clear hn
    obtain ⟨xt5, h5, hn⟩ := gInt_elim h
    clear h
    have h := hn
    clear hn
    obtain ⟨At6, nt6, ct6, h6, hn⟩ := gSlice_elim h
    clear h
    have h := hn
    clear hn
    obtain ⟨xt7, h7, hn⟩ := gInt_elim h
    clear h
    have h := hn
    clear hn
    exact h
  · intro k Q σ w h
    unfold l0Tk at h
    obtain ⟨At0, nt0, ct0, h0, hn⟩ := gSlice_elim h
    clear h
    have h := hn
    clear hn
    obtain ⟨xt5, h5, hn⟩ := gInt_elim h
    clear h
    have h := hn
    clear hn
    obtain ⟨At6, nt6, ct6, h6, hn⟩ := gSlice_elim h
    clear h
    have h := hn
    clear hn
    obtain ⟨xt7, h7, hn⟩ := gInt_elim h
    clear h
    have h := hn
    clear hn
    rw [l0_eq (σ := σ)] at h
    have e : (ov σ [(0, .slice At0 nt0 ct0), (5, .int .i64 xt5), (6, .slice At6 nt6 ct6), (7, .int .i64 xt7)]) = σ := ov_self (by simp [h0, h5, h6, h7])
    rw [e] at h
    exact h
def l1LO : LO := ⟨[], [], [(2, [6, 8])], []⟩
def l1Tk (k : Nat) : Spec := fun Q σ w =>
  gSlice (σ 0) fun At0 nt0 ct0 =>
  gInt .u64 (σ 8) fun xt8 =>
  gInt .i64 (σ 9) fun xt9 =>
  l1 k At0 nt0 ct0 xt8 xt9 w (fun (xq8 : Int) (w : World) => ∀ d : Fr, Q (.exit 2) (ov d [(6, σ 6), (8, .int .u64 xq8)]) w)
def l1T : Spec := fun Q σ w => ∃ k, l1Tk k Q σ w
def l1tb : List (List Nat × Spec) := []
noncomputable def l1b : Code := (subC [0, 0, 1, 0, 1, 1, 1, 1, 1, 1] body).getD .skip
theorem l1_eq (k : Nat) (At0 : Option Addr) (nt0 : Nat) (ct0 : Nat) (xt8 : Int) (xt9 : Int) (Q : PQ) (σ : Fr) (w : World) :
    l1 (k + 1) At0 nt0 ct0 xt8 xt9 w (fun (xq8 : Int) (w : World) => ∀ d : Fr, Q (.exit 2) (ov d [(6, σ 6), (8, .int .u64 xq8)]) w) = codeW Tryd.prog hT 88 D (tab l1tb) [0, 0, 1, 0, 1, 1, 1, 1, 1, 1] l1b (thenQ (l1Tk k Q) (widen l1LO Q)) (ov σ [(0, .slice At0 nt0 ct0), (8, .int .u64 xt8), (9, .int .i64 xt9)]) w := by kernel_rfl
theorem l1_snd : ∀ c, subC [0, 1, 0, 1, 1, 1, 1, 1, 1] body = some c → Snd Tryd.prog 88 c l1T := by
  refine loop_of (hT := hT) (D := D) (l := l1tb) (b := l1b) (lo := l1LO) (by kernel_rfl) (by
    intro x hx
    simp only [l1tb, List.not_mem_nil] at hx
    ) (by kernel_rfl) (by kernel_rfl) ?_ ?_
  · intro Q σ w h
    unfold l1Tk at h
    obtain ⟨At0, nt0, ct0, h0, hn⟩ := gSlice_elim h
    clear h
    have h := hn
    clear hn
    obtain ⟨xt8, h8, hn⟩ := gInt_elim h
    clear h
    have h := hn
    clear hn
    obtain ⟨xt9, h9, hn⟩ := gInt_elim h
    clear h
    have h := hn
    clear hn
    exact h
  · intro k Q σ w h
    unfold l1Tk at h
    obtain ⟨At0, nt0, ct0, h0, hn⟩ := gSlice_elim h
    clear h
    have h := hn
    clear hn
    obtain ⟨xt8, h8, hn⟩ := gInt_elim h
    clear h
    have h := hn
    clear hn
    obtain ⟨xt9, h9, hn⟩ := gInt_elim h
    clear h
    have h := hn
    clear hn
    rw [l1_eq (σ := σ)] at h
    have e : (ov σ [(0, .slice At0 nt0 ct0), (8, .int .u64 xt8), (9, .int .i64 xt9)]) = σ := ov_self (by simp [h0, h8, h9])
    rw [e] at h
    exact h
def tb : List (List Nat × Spec) := [([0, 1, 0, 1, 1, 1], l0T), ([0, 1, 0, 1, 1, 1, 1, 1, 1], l1T)]
theorem wp_eq (Aa0 : Option Addr) (na0 : Nat) (ca0 : Nat) (w : World) (Q : Ending → World → Prop) :
    wp Aa0 na0 ca0 w Q = codeW Tryd.prog hT 88 D (tab tb) [] body (topQ Tryd.prog hT 88 [.tmp 2, .tmp 3, .tmp 4] Q) (argsF [.slice Aa0 na0 ca0]) w := by kernel_rfl
theorem ok (Aa0 : Option Addr) (na0 : Nat) (ca0 : Nat) (w : World) (Q : Ending → World → Prop) (h : wp Aa0 na0 ca0 w Q) : Calls Tryd.prog 22 #[.slice Aa0 na0 ca0] w Q := by
  rw [wp_eq] at h
  exact calls_of_codeW (c := body) (rs := [.tmp 2, .tmp 3, .tmp 4]) Tryd.func22 (by kernel_rfl) (by kernel_rfl) (by kernel_rfl) (by kernel_rfl) (by kernel_rfl) (tab_snd (by
    intro x hx
    simp only [tb, List.mem_cons, List.not_mem_nil, or_false] at hx
    rcases hx with rfl | rfl
    · exact l0_snd
    · exact l1_snd)) (by kernel_rfl) h
end f_ref04_Split
namespace f_keys_badId
/-! skein/keys.badId: function 31 -/
noncomputable def body : Code := (Tryd.f31.body).getD .skip
def wp (xa0 : Int) (w : World) (Q : Ending → World → Prop) : Prop :=
  sel (decide (xa0 < (1 : Int))) (
  Q (.returned (.bool true)) w) (
  Q (.returned (.bool (decide (xa0 > (2147483647 : Int))))) w)
def D : Nat → Option DH := dtab []
def tb : List (List Nat × Spec) := []
theorem wp_eq (xa0 : Int) (w : World) (Q : Ending → World → Prop) :
    wp xa0 w Q = codeW Tryd.prog hT 9 D (tab tb) [] body (topQ Tryd.prog hT 9 [.tmp 2] Q) (argsF [.int .i64 xa0]) w := by kernel_rfl
theorem ok (xa0 : Int) (w : World) (Q : Ending → World → Prop) (h : wp xa0 w Q) : Calls Tryd.prog 31 #[.int .i64 xa0] w Q := by
  rw [wp_eq] at h
  exact calls_of_codeW (c := body) (rs := [.tmp 2]) Tryd.func31 (by kernel_rfl) (by kernel_rfl) (by kernel_rfl) (by kernel_rfl) (by kernel_rfl) (tab_snd (by
    intro x hx
    simp only [tb, List.not_mem_nil] at hx
    )) (by kernel_rfl) h
end f_keys_badId
namespace f_keys_class
/-! skein/keys.class: function 32 -/
noncomputable def body : Code := (Tryd.f32.body).getD .skip
def wp (ba0_0 : Bool) (xa0_1 : Int) (w : World) (Q : Ending → World → Prop) : Prop :=
  alW w (.cells #[.bool ba0_0, .int .i64 xa0_1] 23) fun B1 w2 =>
  ldB w2 (⟨B1, 0, Option.none⟩ : Addr) fun b3 =>
  sel b3 (
  Q (.returned (.int .u8 (1 : Int))) w2) (
  Q (.returned (.int .u8 (0 : Int))) w2)
def D : Nat → Option DH := dtab []
def tb : List (List Nat × Spec) := []
theorem wp_eq (ba0_0 : Bool) (xa0_1 : Int) (w : World) (Q : Ending → World → Prop) :
    wp ba0_0 xa0_1 w Q = codeW Tryd.prog hT 5 D (tab tb) [] body (topQ Tryd.prog hT 5 [.tmp 2] Q) (argsF [.agg #[.bool ba0_0, .int .i64 xa0_1]]) w := by cases ba0_0 <;> kernel_rfl
theorem ok (ba0_0 : Bool) (xa0_1 : Int) (w : World) (Q : Ending → World → Prop) (h : wp ba0_0 xa0_1 w Q) : Calls Tryd.prog 32 #[.agg #[.bool ba0_0, .int .i64 xa0_1]] w Q := by
  rw [wp_eq] at h
  exact calls_of_codeW (c := body) (rs := [.tmp 2]) Tryd.func32 (by kernel_rfl) (by kernel_rfl) (by kernel_rfl) (by kernel_rfl) (by kernel_rfl) (tab_snd (by
    intro x hx
    simp only [tb, List.not_mem_nil] at hx
    )) (by kernel_rfl) h
end f_keys_class
namespace f_keys_four
/-! skein/keys.four: function 33 -/
noncomputable def body : Code := (Tryd.f33.body).getD .skip
def wp (xa0 : Int) (w : World) (Q : Ending → World → Prop) : Prop :=
  alW w (.cells #[.int .u8 (IntKind.u8.wrap (xa0.fdiv (2 ^ 24))), .int .u8 (IntKind.u8.wrap (xa0.fdiv (2 ^ 16))), .int .u8 (IntKind.u8.wrap (xa0.fdiv (2 ^ 8))), .int .u8 (IntKind.u8.wrap xa0)] 5) fun B1 w2 =>
  Q (.returned (.slice (some (⟨B1, 0, Option.none⟩ : Addr)) 4 4)) w2
def D : Nat → Option DH := dtab []
def tb : List (List Nat × Spec) := []
theorem wp_eq (xa0 : Int) (w : World) (Q : Ending → World → Prop) :
    wp xa0 w Q = codeW Tryd.prog hT 15 D (tab tb) [] body (topQ Tryd.prog hT 15 [.tmp 2] Q) (argsF [.int .i64 xa0]) w := by kernel_rfl
theorem ok (xa0 : Int) (w : World) (Q : Ending → World → Prop) (h : wp xa0 w Q) : Calls Tryd.prog 33 #[.int .i64 xa0] w Q := by
  rw [wp_eq] at h
  exact calls_of_codeW (c := body) (rs := [.tmp 2]) Tryd.func33 (by kernel_rfl) (by kernel_rfl) (by kernel_rfl) (by kernel_rfl) (by kernel_rfl) (tab_snd (by
    intro x hx
    simp only [tb, List.not_mem_nil] at hx
    )) (by kernel_rfl) h
end f_keys_four
namespace f_ref04_class
/-! skein/skeinref04.class: function 35 -/
noncomputable def body : Code := (Tryd.f35.body).getD .skip
def wp (ba0_0 : Bool) (xa0_1 : Int) (w : World) (Q : Ending → World → Prop) : Prop :=
  alW w (.cells #[.bool ba0_0, .int .i64 xa0_1] 23) fun B1 w2 =>
  ldB w2 (⟨B1, 0, Option.none⟩ : Addr) fun b3 =>
  sel b3 (
  Q (.returned (.int .u8 (1 : Int))) w2) (
  Q (.returned (.int .u8 (0 : Int))) w2)
def D : Nat → Option DH := dtab []
def tb : List (List Nat × Spec) := []
theorem wp_eq (ba0_0 : Bool) (xa0_1 : Int) (w : World) (Q : Ending → World → Prop) :
    wp ba0_0 xa0_1 w Q = codeW Tryd.prog hT 5 D (tab tb) [] body (topQ Tryd.prog hT 5 [.tmp 2] Q) (argsF [.agg #[.bool ba0_0, .int .i64 xa0_1]]) w := by cases ba0_0 <;> kernel_rfl
theorem ok (ba0_0 : Bool) (xa0_1 : Int) (w : World) (Q : Ending → World → Prop) (h : wp ba0_0 xa0_1 w Q) : Calls Tryd.prog 35 #[.agg #[.bool ba0_0, .int .i64 xa0_1]] w Q := by
  rw [wp_eq] at h
  exact calls_of_codeW (c := body) (rs := [.tmp 2]) Tryd.func35 (by kernel_rfl) (by kernel_rfl) (by kernel_rfl) (by kernel_rfl) (by kernel_rfl) (tab_snd (by
    intro x hx
    simp only [tb, List.not_mem_nil] at hx
    )) (by kernel_rfl) h
end f_ref04_class
namespace f_ref04_four
/-! skein/skeinref04.four: function 36 -/
noncomputable def body : Code := (Tryd.f36.body).getD .skip
def wp (xa0 : Int) (w : World) (Q : Ending → World → Prop) : Prop :=
  alW w (.cells #[.int .u8 (IntKind.u8.wrap ((IntKind.i64.wrap (xa0.tdiv (16777216 : Int))).tmod (256 : Int))), .int .u8 (IntKind.u8.wrap ((IntKind.i64.wrap (xa0.tdiv (65536 : Int))).tmod (256 : Int))), .int .u8 (IntKind.u8.wrap ((IntKind.i64.wrap (xa0.tdiv (256 : Int))).tmod (256 : Int))), .int .u8 (IntKind.u8.wrap (xa0.tmod (256 : Int)))] 5) fun B1 w2 =>
  Q (.returned (.slice (some (⟨B1, 0, Option.none⟩ : Addr)) 4 4)) w2
def D : Nat → Option DH := dtab []
def tb : List (List Nat × Spec) := []
theorem wp_eq (xa0 : Int) (w : World) (Q : Ending → World → Prop) :
    wp xa0 w Q = codeW Tryd.prog hT 19 D (tab tb) [] body (topQ Tryd.prog hT 19 [.tmp 2] Q) (argsF [.int .i64 xa0]) w := by kernel_rfl
theorem ok (xa0 : Int) (w : World) (Q : Ending → World → Prop) (h : wp xa0 w Q) : Calls Tryd.prog 36 #[.int .i64 xa0] w Q := by
  rw [wp_eq] at h
  exact calls_of_codeW (c := body) (rs := [.tmp 2]) Tryd.func36 (by kernel_rfl) (by kernel_rfl) (by kernel_rfl) (by kernel_rfl) (by kernel_rfl) (tab_snd (by
    intro x hx
    simp only [tb, List.not_mem_nil] at hx
    )) (by kernel_rfl) h
end f_ref04_four
namespace f_strings_Trim
/-! strings.Trim: function 39 -/
noncomputable def body : Code := (Tryd.f39.body).getD .skip
def wp (sa0 : ByteArray) (sa1 : ByteArray) (w : World) (Q : Ending → World → Prop) : Prop :=
  sel (sa0.toList == (⟨#[]⟩ : ByteArray).toList) (
  Q (.returned (.string sa0)) w) (
  sel (sa1.toList == (⟨#[]⟩ : ByteArray).toList) (
  Q (.returned (.string sa0)) w) (
  sel ((sa1.size : Int) == (1 : Int)) (
  req (decide (0 ≤ (0 : Int) ∧ (0 : Int) < (sa1.size : Int))) <|
  sel (decide (((sa1.get! (0 : Int).toNat).toNat : Int) < (128 : Int))) (
  drW w fun w1 =>
  req (decide (0 ≤ (0 : Int) ∧ (0 : Int) < (sa1.size : Int))) <|
  req (decide (0 ≤ (0 : Int) ∧ (0 : Int) < (sa1.size : Int))) <|
  Calls Tryd.prog 61 #[.string sa0, .int .u8 ((sa1.get! (0 : Int).toNat).toNat : Int)] w1 fun e3 w4 => ∃ (s5 : ByteArray), e3 = .returned (.string s5) ∧ (
  Calls Tryd.prog 60 #[.string s5, .int .u8 ((sa1.get! (0 : Int).toNat).toNat : Int)] w4 fun e6 w7 => ∃ (s8 : ByteArray), e6 = .returned (.string s8) ∧ (
  Q (.returned (.string s8)) w7))) (
  Calls Tryd.prog 62 #[.string sa1] w fun e9 w10 => ∃ (cs11_0 : Array Value) (b11_1 : Bool), e9 = .returned (.tuple #[.agg cs11_0, .bool b11_1]) ∧ (
  alW w10 (.cells (zeroCs Tryd.prog 95) 95) fun B12 w13 =>
  Runs Tryd.prog (Instr.storeAt 95 (.pointer (some (⟨B12, 0, Option.none⟩ : Addr))) (.agg cs11_0)) w13 fun _ w14 =>
  sel b11_1 (
  Calls Tryd.prog 64 #[.string sa0, .pointer (some (⟨B12, 0, Option.none⟩ : Addr))] w14 fun e15 w16 => ∃ (s17 : ByteArray), e15 = .returned (.string s17) ∧ (
  Calls Tryd.prog 63 #[.string s17, .pointer (some (⟨B12, 0, Option.none⟩ : Addr))] w16 fun e18 w19 => ∃ (s20 : ByteArray), e18 = .returned (.string s20) ∧ (
  Q (.returned (.string s20)) w19))) (
  Calls Tryd.prog 66 #[.string sa0, .string sa1] w14 fun e21 w22 => ∃ (s23 : ByteArray), e21 = .returned (.string s23) ∧ (
  Calls Tryd.prog 65 #[.string s23, .string sa1] w22 fun e24 w25 => ∃ (s26 : ByteArray), e24 = .returned (.string s26) ∧ (
  Q (.returned (.string s26)) w25)))))) (
  Calls Tryd.prog 62 #[.string sa1] w fun e27 w28 => ∃ (cs29_0 : Array Value) (b29_1 : Bool), e27 = .returned (.tuple #[.agg cs29_0, .bool b29_1]) ∧ (
  alW w28 (.cells (zeroCs Tryd.prog 95) 95) fun B30 w31 =>
  Runs Tryd.prog (Instr.storeAt 95 (.pointer (some (⟨B30, 0, Option.none⟩ : Addr))) (.agg cs29_0)) w31 fun _ w32 =>
  sel b29_1 (
  Calls Tryd.prog 64 #[.string sa0, .pointer (some (⟨B30, 0, Option.none⟩ : Addr))] w32 fun e33 w34 => ∃ (s35 : ByteArray), e33 = .returned (.string s35) ∧ (
  Calls Tryd.prog 63 #[.string s35, .pointer (some (⟨B30, 0, Option.none⟩ : Addr))] w34 fun e36 w37 => ∃ (s38 : ByteArray), e36 = .returned (.string s38) ∧ (
  Q (.returned (.string s38)) w37))) (
  Calls Tryd.prog 66 #[.string sa0, .string sa1] w32 fun e39 w40 => ∃ (s41 : ByteArray), e39 = .returned (.string s41) ∧ (
  Calls Tryd.prog 65 #[.string s41, .string sa1] w40 fun e42 w43 => ∃ (s44 : ByteArray), e42 = .returned (.string s44) ∧ (
  Q (.returned (.string s44)) w43)))))))
def D : Nat → Option DH := dtab [(4, .simple [] [.fst 0, .fst 1, .fst 2, .fst 4, .fst 5, .eff 3, .eff 6, .fst 7])]
def tb : List (List Nat × Spec) := []
theorem wp_eq (sa0 : ByteArray) (sa1 : ByteArray) (w : World) (Q : Ending → World → Prop) :
    wp sa0 sa1 w Q = codeW Tryd.prog hT 43 D (tab tb) [] body (topQ Tryd.prog hT 43 [.tmp 4] Q) (argsF [.string sa0, .string sa1]) w := by kernel_rfl
theorem ok (sa0 : ByteArray) (sa1 : ByteArray) (w : World) (Q : Ending → World → Prop) (h : wp sa0 sa1 w Q) : Calls Tryd.prog 39 #[.string sa0, .string sa1] w Q := by
  rw [wp_eq] at h
  exact calls_of_codeW (c := body) (rs := [.tmp 4]) Tryd.func39 (by kernel_rfl) (by kernel_rfl) (by kernel_rfl) (by kernel_rfl) (by kernel_rfl) (tab_snd (by
    intro x hx
    simp only [tb, List.not_mem_nil] at hx
    )) (by kernel_rfl) h
end f_strings_Trim
namespace f_keys_id
/-! skein/keys.id: function 41 -/
noncomputable def body : Code := (Tryd.f41.body).getD .skip
def wp (Aa0 : Option Addr) (na0 : Nat) (ca0 : Nat) (w : World) (Q : Ending → World → Prop) : Prop :=
  drW w fun w1 =>
  optB Aa0 fun a3 =>
  req (decide (0 ≤ (0 : Int) ∧ (0 : Int) < (na0 : Int))) <|
  ldI w1 (a3.add ((0 : Int).toNat * 1)) .u8 fun x4 =>
  optB Aa0 fun a5 =>
  req (decide (0 ≤ (1 : Int) ∧ (1 : Int) < (na0 : Int))) <|
  ldI w1 (a5.add ((1 : Int).toNat * 1)) .u8 fun x6 =>
  optB Aa0 fun a7 =>
  req (decide (0 ≤ (2 : Int) ∧ (2 : Int) < (na0 : Int))) <|
  ldI w1 (a7.add ((2 : Int).toNat * 1)) .u8 fun x8 =>
  optB Aa0 fun a9 =>
  req (decide (0 ≤ (3 : Int) ∧ (3 : Int) < (na0 : Int))) <|
  ldI w1 (a9.add ((3 : Int).toNat * 1)) .u8 fun x10 =>
  Q (.returned (.int .i64 (bor .i64 (bor .i64 (bor .i64 (IntKind.i64.wrap ((IntKind.i64.wrap x4) * 2 ^ 24)) (IntKind.i64.wrap ((IntKind.i64.wrap x6) * 2 ^ 16))) (IntKind.i64.wrap ((IntKind.i64.wrap x8) * 2 ^ 8))) (IntKind.i64.wrap x10)))) w1
def D : Nat → Option DH := dtab [(1, .simple [.fst 0, .fst 1, .fst 2, .fst 3, .fst 4, .fst 5, .fst 6, .fst 7, .fst 8, .fst 9, .fst 10, .fst 11, .fst 12, .fst 13, .fst 14, .fst 15, .fst 16, .fst 17, .fst 18, .fst 19, .fst 20] [.fst 21, .fst 22])]
def tb : List (List Nat × Spec) := []
theorem wp_eq (Aa0 : Option Addr) (na0 : Nat) (ca0 : Nat) (w : World) (Q : Ending → World → Prop) :
    wp Aa0 na0 ca0 w Q = codeW Tryd.prog hT 25 D (tab tb) [] body (topQ Tryd.prog hT 25 [.tmp 2] Q) (argsF [.slice Aa0 na0 ca0]) w := by kernel_rfl
theorem ok (Aa0 : Option Addr) (na0 : Nat) (ca0 : Nat) (w : World) (Q : Ending → World → Prop) (h : wp Aa0 na0 ca0 w Q) : Calls Tryd.prog 41 #[.slice Aa0 na0 ca0] w Q := by
  rw [wp_eq] at h
  exact calls_of_codeW (c := body) (rs := [.tmp 2]) Tryd.func41 (by kernel_rfl) (by kernel_rfl) (by kernel_rfl) (by kernel_rfl) (by kernel_rfl) (tab_snd (by
    intro x hx
    simp only [tb, List.not_mem_nil] at hx
    )) (by kernel_rfl) h
end f_keys_id
namespace f_ref04_value4
/-! skein/skeinref04.value4: function 42 -/
noncomputable def body : Code := (Tryd.f42.body).getD .skip
def l0 : Nat → Option Addr → Nat → Nat → Int → Int → Int → World → (Int → World → Prop) → Prop
  | 0, _, _, _, _, _, _, _, _ => False
  | k + 1, At0, nt0, ct0, xt1, xt5, xt6, w, K0 =>
    sel (decide (xt6 < (IntKind.i64.wrap (xt1 + (4 : Int))))) (
    optB At0 fun a1 =>
    req (decide (0 ≤ xt6 ∧ xt6 < (nt0 : Int))) <|
    ldI w (a1.add (xt6.toNat * 1)) .u8 fun x2 =>
    l0 k At0 nt0 ct0 xt1 (IntKind.i64.wrap ((IntKind.i64.wrap (xt5 * (256 : Int))) + (IntKind.i64.wrap x2))) (IntKind.i64.wrap (xt6 + (1 : Int))) w K0) (
    K0 xt5 w)
def wp (Aa0 : Option Addr) (na0 : Nat) (ca0 : Nat) (xa1 : Int) (w : World) (Q : Ending → World → Prop) : Prop :=
  ∃ k5 : Nat, l0 k5 Aa0 na0 ca0 xa1 (0 : Int) xa1 w (fun (x3 : Int) (w4 : World) => ∀ _ : Fr,
  Q (.returned (.int .i64 x3)) w4)
def D : Nat → Option DH := dtab []
def l0LO : LO := ⟨[], [], [(0, [5])], []⟩
def l0Tk (k : Nat) : Spec := fun Q σ w =>
  gSlice (σ 0) fun At0 nt0 ct0 =>
  gInt .i64 (σ 1) fun xt1 =>
  gInt .i64 (σ 5) fun xt5 =>
  gInt .i64 (σ 6) fun xt6 =>
  l0 k At0 nt0 ct0 xt1 xt5 xt6 w (fun (xq5 : Int) (w : World) => ∀ d : Fr, Q (.exit 0) (ov d [(5, .int .i64 xq5)]) w)
def l0T : Spec := fun Q σ w => ∃ k, l0Tk k Q σ w
def l0tb : List (List Nat × Spec) := []
noncomputable def l0b : Code := (subC [0, 0, 1, 0, 1, 1] body).getD .skip
theorem l0_eq (k : Nat) (At0 : Option Addr) (nt0 : Nat) (ct0 : Nat) (xt1 : Int) (xt5 : Int) (xt6 : Int) (Q : PQ) (σ : Fr) (w : World) :
    l0 (k + 1) At0 nt0 ct0 xt1 xt5 xt6 w (fun (xq5 : Int) (w : World) => ∀ d : Fr, Q (.exit 0) (ov d [(5, .int .i64 xq5)]) w) = codeW Tryd.prog hT 23 D (tab l0tb) [0, 0, 1, 0, 1, 1] l0b (thenQ (l0Tk k Q) (widen l0LO Q)) (ov σ [(0, .slice At0 nt0 ct0), (1, .int .i64 xt1), (5, .int .i64 xt5), (6, .int .i64 xt6)]) w := by kernel_rfl
theorem l0_snd : ∀ c, subC [0, 1, 0, 1, 1] body = some c → Snd Tryd.prog 23 c l0T := by
  refine loop_of (hT := hT) (D := D) (l := l0tb) (b := l0b) (lo := l0LO) (by kernel_rfl) (by
    intro x hx
    simp only [l0tb, List.not_mem_nil] at hx
    ) (by kernel_rfl) (by kernel_rfl) ?_ ?_
  · intro Q σ w h
    unfold l0Tk at h
    obtain ⟨At0, nt0, ct0, h0, hn⟩ := gSlice_elim h
    clear h
    have h := hn
    clear hn
    obtain ⟨xt1, h1, hn⟩ := gInt_elim h
    clear h
    have h := hn
    clear hn
    obtain ⟨xt5, h5, hn⟩ := gInt_elim h
    clear h
    have h := hn
    clear hn
    obtain ⟨xt6, h6, hn⟩ := gInt_elim h
    clear h
    have h := hn
    clear hn
    exact h
  · intro k Q σ w h
    unfold l0Tk at h
    obtain ⟨At0, nt0, ct0, h0, hn⟩ := gSlice_elim h
    clear h
    have h := hn
    clear hn
    obtain ⟨xt1, h1, hn⟩ := gInt_elim h
    clear h
    have h := hn
    clear hn
    obtain ⟨xt5, h5, hn⟩ := gInt_elim h
    clear h
    have h := hn
    clear hn
    obtain ⟨xt6, h6, hn⟩ := gInt_elim h
    clear h
    have h := hn
    clear hn
    rw [l0_eq (σ := σ)] at h
    have e : (ov σ [(0, .slice At0 nt0 ct0), (1, .int .i64 xt1), (5, .int .i64 xt5), (6, .int .i64 xt6)]) = σ := ov_self (by simp [h0, h1, h5, h6])
    rw [e] at h
    exact h
def tb : List (List Nat × Spec) := [([0, 1, 0, 1, 1], l0T)]
theorem wp_eq (Aa0 : Option Addr) (na0 : Nat) (ca0 : Nat) (xa1 : Int) (w : World) (Q : Ending → World → Prop) :
    wp Aa0 na0 ca0 xa1 w Q = codeW Tryd.prog hT 23 D (tab tb) [] body (topQ Tryd.prog hT 23 [.tmp 4] Q) (argsF [.slice Aa0 na0 ca0, .int .i64 xa1]) w := by kernel_rfl
theorem ok (Aa0 : Option Addr) (na0 : Nat) (ca0 : Nat) (xa1 : Int) (w : World) (Q : Ending → World → Prop) (h : wp Aa0 na0 ca0 xa1 w Q) : Calls Tryd.prog 42 #[.slice Aa0 na0 ca0, .int .i64 xa1] w Q := by
  rw [wp_eq] at h
  exact calls_of_codeW (c := body) (rs := [.tmp 4]) Tryd.func42 (by kernel_rfl) (by kernel_rfl) (by kernel_rfl) (by kernel_rfl) (by kernel_rfl) (tab_snd (by
    intro x hx
    simp only [tb, List.mem_cons, List.not_mem_nil, or_false] at hx
    subst hx
    exact l0_snd)) (by kernel_rfl) h
end f_ref04_value4
namespace f_keys_badTime
/-! skein/keys.badTime: function 43 -/
noncomputable def body : Code := (Tryd.f43.body).getD .skip
def wp (xa0 : Int) (w : World) (Q : Ending → World → Prop) : Prop :=
  sel (decide (xa0 < (0 : Int))) (
  Q (.returned (.bool true)) w) (
  Q (.returned (.bool (decide (xa0 > (1099511627776 : Int))))) w)
def D : Nat → Option DH := dtab []
def tb : List (List Nat × Spec) := []
theorem wp_eq (xa0 : Int) (w : World) (Q : Ending → World → Prop) :
    wp xa0 w Q = codeW Tryd.prog hT 9 D (tab tb) [] body (topQ Tryd.prog hT 9 [.tmp 2] Q) (argsF [.int .i64 xa0]) w := by kernel_rfl
theorem ok (xa0 : Int) (w : World) (Q : Ending → World → Prop) (h : wp xa0 w Q) : Calls Tryd.prog 43 #[.int .i64 xa0] w Q := by
  rw [wp_eq] at h
  exact calls_of_codeW (c := body) (rs := [.tmp 2]) Tryd.func43 (by kernel_rfl) (by kernel_rfl) (by kernel_rfl) (by kernel_rfl) (by kernel_rfl) (tab_snd (by
    intro x hx
    simp only [tb, List.not_mem_nil] at hx
    )) (by kernel_rfl) h
end f_keys_badTime
namespace f_strings_makeASCIISet
/-! strings.makeASCIISet: function 62 -/
noncomputable def body : Code := (Tryd.f62.body).getD .skip
def l0 : Nat → ByteArray → Addr → Int → World → (World → Prop) → (Bool → World → Prop) → Prop
  | 0, _, _, _, _, _, _ => False
  | k + 1, st0, at2, xt4, w, K0, Kr =>
    sel (decide (xt4 < (st0.size : Int))) (
    req (decide (0 ≤ xt4 ∧ xt4 < (st0.size : Int))) <|
    sel (decide (((st0.get! xt4.toNat).toNat : Int) ≥ (128 : Int))) (
    Runs Tryd.prog (Instr.loadAt 95 (.pointer (some at2))) w fun v4 w3 => ∃ (cs5 : Array Value), v4 = (.agg cs5) ∧ (
    Runs Tryd.prog (Instr.storeAt 95 (.pointer (some at2)) (.agg cs5)) w3 fun _ w6 =>
    Kr false w6)) (
    req (decide (0 ≤ ((st0.get! xt4.toNat).toNat : Int) ∧ ((st0.get! xt4.toNat).toNat : Int) < ((256 : Nat) : Int))) <|
    stW w (at2.add (((st0.get! xt4.toNat).toNat : Int).toNat * 1)) (.bool true) fun w7 =>
    l0 k st0 at2 (IntKind.i64.wrap (xt4 + (1 : Int))) w7 K0 Kr)) (
    K0  w)
def wp (sa0 : ByteArray) (w : World) (Q : Ending → World → Prop) : Prop :=
  alW w (.cells (zeroCs Tryd.prog 95) 95) fun B1 w2 =>
  ∃ k17 : Nat, l0 k17 sa0 (⟨B1, 0, Option.none⟩ : Addr) (0 : Int) w2 (fun (w8 : World) => ∀ _ : Fr,
  Runs Tryd.prog (Instr.loadAt 95 (.pointer (some (⟨B1, 0, Option.none⟩ : Addr)))) w8 fun v10 w9 => ∃ (cs11 : Array Value), v10 = (.agg cs11) ∧ (
  Runs Tryd.prog (Instr.storeAt 95 (.pointer (some (⟨B1, 0, Option.none⟩ : Addr))) (.agg cs11)) w9 fun _ w12 =>
  ldBig Tryd.prog w12 95 (⟨B1, 0, Option.none⟩ : Addr) fun cs13 =>
  Q (.returned (.tuple #[.agg cs13, .bool true])) w12)) (fun (b14 : Bool) (w15 : World) => ∀ _ : Fr,
  ldBig Tryd.prog w15 95 (⟨B1, 0, Option.none⟩ : Addr) fun cs16 =>
  Q (.returned (.tuple #[.agg cs16, .bool b14])) w15)
def D : Nat → Option DH := dtab []
def l0LO : LO := ⟨[], [2, 3], [(0, [2])], []⟩
def l0Tk (k : Nat) : Spec := fun Q σ w =>
  gStr (σ 0) fun st0 =>
  gAd (σ 2) fun at2 =>
  gInt .i64 (σ 4) fun xt4 =>
  l0 k st0 at2 xt4 w (fun (w : World) => ∀ d : Fr, Q (.exit 0) (ov d [(2, .pointer (some at2))]) w) (fun (bq3 : Bool) (w : World) => ∀ d : Fr, Q .ret (ov d [(2, .pointer (some at2)), (3, .bool bq3)]) w)
def l0T : Spec := fun Q σ w => ∃ k, l0Tk k Q σ w
def l0tb : List (List Nat × Spec) := []
noncomputable def l0b : Code := (subC [0, 0, 1, 0, 1] body).getD .skip
theorem l0_eq (k : Nat) (st0 : ByteArray) (at2 : Addr) (xt4 : Int) (Q : PQ) (σ : Fr) (w : World) :
    l0 (k + 1) st0 at2 xt4 w (fun (w : World) => ∀ d : Fr, Q (.exit 0) (ov d [(2, .pointer (some at2))]) w) (fun (bq3 : Bool) (w : World) => ∀ d : Fr, Q .ret (ov d [(2, .pointer (some at2)), (3, .bool bq3)]) w) = codeW Tryd.prog hT 21 D (tab l0tb) [0, 0, 1, 0, 1] l0b (thenQ (l0Tk k Q) (widen l0LO Q)) (ov σ [(0, .string st0), (2, .pointer (some at2)), (4, .int .i64 xt4)]) w := by kernel_rfl
theorem l0_snd : ∀ c, subC [0, 1, 0, 1] body = some c → Snd Tryd.prog 21 c l0T := by
  refine loop_of (hT := hT) (D := D) (l := l0tb) (b := l0b) (lo := l0LO) (by kernel_rfl) (by
    intro x hx
    simp only [l0tb, List.not_mem_nil] at hx
    ) (by kernel_rfl) (by kernel_rfl) ?_ ?_
  · intro Q σ w h
    unfold l0Tk at h
    obtain ⟨st0, h0, hn⟩ := gStr_elim h
    clear h
    have h := hn
    clear hn
    obtain ⟨at2, h2, hn⟩ := gAd_elim h
    clear h
    have h := hn
    clear hn
    obtain ⟨xt4, h4, hn⟩ := gInt_elim h
    clear h
    have h := hn
    clear hn
    exact h
  · intro k Q σ w h
    unfold l0Tk at h
    obtain ⟨st0, h0, hn⟩ := gStr_elim h
    clear h
    have h := hn
    clear hn
    obtain ⟨at2, h2, hn⟩ := gAd_elim h
    clear h
    have h := hn
    clear hn
    obtain ⟨xt4, h4, hn⟩ := gInt_elim h
    clear h
    have h := hn
    clear hn
    rw [l0_eq (σ := σ)] at h
    have e : (ov σ [(0, .string st0), (2, .pointer (some at2)), (4, .int .i64 xt4)]) = σ := ov_self (by simp [h0, h2, h4])
    rw [e] at h
    exact h
def tb : List (List Nat × Spec) := [([0, 1, 0, 1], l0T)]
theorem wp_eq (sa0 : ByteArray) (w : World) (Q : Ending → World → Prop) :
    wp sa0 w Q = codeW Tryd.prog hT 21 D (tab tb) [] body (topQ Tryd.prog hT 21 [.cell 2 95, .tmp 3] Q) (argsF [.string sa0]) w := by kernel_rfl
theorem ok (sa0 : ByteArray) (w : World) (Q : Ending → World → Prop) (h : wp sa0 w Q) : Calls Tryd.prog 62 #[.string sa0] w Q := by
  rw [wp_eq] at h
  exact calls_of_codeW (c := body) (rs := [.cell 2 95, .tmp 3]) Tryd.func62 (by kernel_rfl) (by kernel_rfl) (by kernel_rfl) (by kernel_rfl) (by kernel_rfl) (tab_snd (by
    intro x hx
    simp only [tb, List.mem_cons, List.not_mem_nil, or_false] at hx
    subst hx
    exact l0_snd)) (by kernel_rfl) h
end f_strings_makeASCIISet
namespace f_strings_trimLeftASCII
/-! strings.trimLeftASCII: function 63 -/
noncomputable def body : Code := (Tryd.f63.body).getD .skip
def l0 : Nat → ByteArray → Option Addr → World → (ByteArray → World → Prop) → Prop
  | 0, _, _, _, _ => False
  | k + 1, st0, pt1, w, K0 =>
    sel (decide ((st0.size : Int) > (0 : Int))) (
    req (decide (0 ≤ (0 : Int) ∧ (0 : Int) < (st0.size : Int))) <|
    Calls Tryd.prog 72 #[.pointer pt1, .int .u8 ((st0.get! (0 : Int).toNat).toNat : Int)] w fun e1 w2 => ∃ (b3 : Bool), e1 = .returned (.bool b3) ∧ (
    sel (!b3) (
    K0 st0 w2) (
    req (decide (0 ≤ (1 : Int) ∧ (1 : Int) ≤ (st0.size : Int))) <|
    l0 k (st0.extract 1 st0.size) pt1 w2 K0))) (
    K0 st0 w)
def wp (sa0 : ByteArray) (pa1 : Option Addr) (w : World) (Q : Ending → World → Prop) : Prop :=
  ∃ k6 : Nat, l0 k6 sa0 pa1 w (fun (s4 : ByteArray) (w5 : World) => ∀ _ : Fr,
  Q (.returned (.string s4)) w5)
def D : Nat → Option DH := dtab []
def l0LO : LO := ⟨[], [], [(0, [0])], []⟩
def l0Tk (k : Nat) : Spec := fun Q σ w =>
  gStr (σ 0) fun st0 =>
  gPtr (σ 1) fun pt1 =>
  l0 k st0 pt1 w (fun (sq0 : ByteArray) (w : World) => ∀ d : Fr, Q (.exit 0) (ov d [(0, .string sq0)]) w)
def l0T : Spec := fun Q σ w => ∃ k, l0Tk k Q σ w
def l0tb : List (List Nat × Spec) := []
noncomputable def l0b : Code := (subC [0, 0, 0, 1] body).getD .skip
theorem l0_eq (k : Nat) (st0 : ByteArray) (pt1 : Option Addr) (Q : PQ) (σ : Fr) (w : World) :
    l0 (k + 1) st0 pt1 w (fun (sq0 : ByteArray) (w : World) => ∀ d : Fr, Q (.exit 0) (ov d [(0, .string sq0)]) w) = codeW Tryd.prog hT 16 D (tab l0tb) [0, 0, 0, 1] l0b (thenQ (l0Tk k Q) (widen l0LO Q)) (ov σ [(0, .string st0), (1, .pointer pt1)]) w := by kernel_rfl
theorem l0_snd : ∀ c, subC [0, 0, 1] body = some c → Snd Tryd.prog 16 c l0T := by
  refine loop_of (hT := hT) (D := D) (l := l0tb) (b := l0b) (lo := l0LO) (by kernel_rfl) (by
    intro x hx
    simp only [l0tb, List.not_mem_nil] at hx
    ) (by kernel_rfl) (by kernel_rfl) ?_ ?_
  · intro Q σ w h
    unfold l0Tk at h
    obtain ⟨st0, h0, hn⟩ := gStr_elim h
    clear h
    have h := hn
    clear hn
    obtain ⟨pt1, h1, hn⟩ := gPtr_elim h
    clear h
    have h := hn
    clear hn
    exact h
  · intro k Q σ w h
    unfold l0Tk at h
    obtain ⟨st0, h0, hn⟩ := gStr_elim h
    clear h
    have h := hn
    clear hn
    obtain ⟨pt1, h1, hn⟩ := gPtr_elim h
    clear h
    have h := hn
    clear hn
    rw [l0_eq (σ := σ)] at h
    have e : (ov σ [(0, .string st0), (1, .pointer pt1)]) = σ := ov_self (by simp [h0, h1])
    rw [e] at h
    exact h
def tb : List (List Nat × Spec) := [([0, 0, 1], l0T)]
theorem wp_eq (sa0 : ByteArray) (pa1 : Option Addr) (w : World) (Q : Ending → World → Prop) :
    wp sa0 pa1 w Q = codeW Tryd.prog hT 16 D (tab tb) [] body (topQ Tryd.prog hT 16 [.tmp 4] Q) (argsF [.string sa0, .pointer pa1]) w := by kernel_rfl
theorem ok (sa0 : ByteArray) (pa1 : Option Addr) (w : World) (Q : Ending → World → Prop) (h : wp sa0 pa1 w Q) : Calls Tryd.prog 63 #[.string sa0, .pointer pa1] w Q := by
  rw [wp_eq] at h
  exact calls_of_codeW (c := body) (rs := [.tmp 4]) Tryd.func63 (by kernel_rfl) (by kernel_rfl) (by kernel_rfl) (by kernel_rfl) (by kernel_rfl) (tab_snd (by
    intro x hx
    simp only [tb, List.mem_cons, List.not_mem_nil, or_false] at hx
    subst hx
    exact l0_snd)) (by kernel_rfl) h
end f_strings_trimLeftASCII
namespace f_strings_trimRightASCII
/-! strings.trimRightASCII: function 64 -/
noncomputable def body : Code := (Tryd.f64.body).getD .skip
def l0 : Nat → ByteArray → Option Addr → World → (ByteArray → World → Prop) → Prop
  | 0, _, _, _, _ => False
  | k + 1, st0, pt1, w, K0 =>
    sel (decide ((st0.size : Int) > (0 : Int))) (
    req (decide (0 ≤ (IntKind.i64.wrap ((st0.size : Int) - (1 : Int))) ∧ (IntKind.i64.wrap ((st0.size : Int) - (1 : Int))) < (st0.size : Int))) <|
    Calls Tryd.prog 72 #[.pointer pt1, .int .u8 ((st0.get! (IntKind.i64.wrap ((st0.size : Int) - (1 : Int))).toNat).toNat : Int)] w fun e1 w2 => ∃ (b3 : Bool), e1 = .returned (.bool b3) ∧ (
    sel (!b3) (
    K0 st0 w2) (
    req (decide (0 ≤ (IntKind.i64.wrap ((st0.size : Int) - (1 : Int))) ∧ (IntKind.i64.wrap ((st0.size : Int) - (1 : Int))) ≤ (st0.size : Int))) <|
    l0 k (st0.extract 0 ((IntKind.i64.wrap ((st0.size : Int) - (1 : Int))).toNat)) pt1 w2 K0))) (
    K0 st0 w)
def wp (sa0 : ByteArray) (pa1 : Option Addr) (w : World) (Q : Ending → World → Prop) : Prop :=
  ∃ k6 : Nat, l0 k6 sa0 pa1 w (fun (s4 : ByteArray) (w5 : World) => ∀ _ : Fr,
  Q (.returned (.string s4)) w5)
def D : Nat → Option DH := dtab []
def l0LO : LO := ⟨[], [], [(0, [0])], []⟩
def l0Tk (k : Nat) : Spec := fun Q σ w =>
  gStr (σ 0) fun st0 =>
  gPtr (σ 1) fun pt1 =>
  l0 k st0 pt1 w (fun (sq0 : ByteArray) (w : World) => ∀ d : Fr, Q (.exit 0) (ov d [(0, .string sq0)]) w)
def l0T : Spec := fun Q σ w => ∃ k, l0Tk k Q σ w
def l0tb : List (List Nat × Spec) := []
noncomputable def l0b : Code := (subC [0, 0, 0, 1] body).getD .skip
theorem l0_eq (k : Nat) (st0 : ByteArray) (pt1 : Option Addr) (Q : PQ) (σ : Fr) (w : World) :
    l0 (k + 1) st0 pt1 w (fun (sq0 : ByteArray) (w : World) => ∀ d : Fr, Q (.exit 0) (ov d [(0, .string sq0)]) w) = codeW Tryd.prog hT 22 D (tab l0tb) [0, 0, 0, 1] l0b (thenQ (l0Tk k Q) (widen l0LO Q)) (ov σ [(0, .string st0), (1, .pointer pt1)]) w := by kernel_rfl
theorem l0_snd : ∀ c, subC [0, 0, 1] body = some c → Snd Tryd.prog 22 c l0T := by
  refine loop_of (hT := hT) (D := D) (l := l0tb) (b := l0b) (lo := l0LO) (by kernel_rfl) (by
    intro x hx
    simp only [l0tb, List.not_mem_nil] at hx
    ) (by kernel_rfl) (by kernel_rfl) ?_ ?_
  · intro Q σ w h
    unfold l0Tk at h
    obtain ⟨st0, h0, hn⟩ := gStr_elim h
    clear h
    have h := hn
    clear hn
    obtain ⟨pt1, h1, hn⟩ := gPtr_elim h
    clear h
    have h := hn
    clear hn
    exact h
  · intro k Q σ w h
    unfold l0Tk at h
    obtain ⟨st0, h0, hn⟩ := gStr_elim h
    clear h
    have h := hn
    clear hn
    obtain ⟨pt1, h1, hn⟩ := gPtr_elim h
    clear h
    have h := hn
    clear hn
    rw [l0_eq (σ := σ)] at h
    have e : (ov σ [(0, .string st0), (1, .pointer pt1)]) = σ := ov_self (by simp [h0, h1])
    rw [e] at h
    exact h
def tb : List (List Nat × Spec) := [([0, 0, 1], l0T)]
theorem wp_eq (sa0 : ByteArray) (pa1 : Option Addr) (w : World) (Q : Ending → World → Prop) :
    wp sa0 pa1 w Q = codeW Tryd.prog hT 22 D (tab tb) [] body (topQ Tryd.prog hT 22 [.tmp 4] Q) (argsF [.string sa0, .pointer pa1]) w := by kernel_rfl
theorem ok (sa0 : ByteArray) (pa1 : Option Addr) (w : World) (Q : Ending → World → Prop) (h : wp sa0 pa1 w Q) : Calls Tryd.prog 64 #[.string sa0, .pointer pa1] w Q := by
  rw [wp_eq] at h
  exact calls_of_codeW (c := body) (rs := [.tmp 4]) Tryd.func64 (by kernel_rfl) (by kernel_rfl) (by kernel_rfl) (by kernel_rfl) (by kernel_rfl) (tab_snd (by
    intro x hx
    simp only [tb, List.mem_cons, List.not_mem_nil, or_false] at hx
    subst hx
    exact l0_snd)) (by kernel_rfl) h
end f_strings_trimRightASCII
namespace f_strings_asciiSet_contains
/-! (*strings.asciiSet).contains: function 72 -/
noncomputable def body : Code := (Tryd.f72.body).getD .skip
def wp (pa0 : Option Addr) (xa1 : Int) (w : World) (Q : Ending → World → Prop) : Prop :=
  optB pa0 fun a1 =>
  req (decide (0 ≤ xa1 ∧ xa1 < ((256 : Nat) : Int))) <|
  ldB w (a1.add (xa1.toNat * 1)) fun b2 =>
  Q (.returned (.bool b2)) w
def D : Nat → Option DH := dtab []
def tb : List (List Nat × Spec) := []
theorem wp_eq (pa0 : Option Addr) (xa1 : Int) (w : World) (Q : Ending → World → Prop) :
    wp pa0 xa1 w Q = codeW Tryd.prog hT 10 D (tab tb) [] body (topQ Tryd.prog hT 10 [.tmp 4] Q) (argsF [.pointer pa0, .int .u8 xa1]) w := by kernel_rfl
theorem ok (pa0 : Option Addr) (xa1 : Int) (w : World) (Q : Ending → World → Prop) (h : wp pa0 xa1 w Q) : Calls Tryd.prog 72 #[.pointer pa0, .int .u8 xa1] w Q := by
  rw [wp_eq] at h
  exact calls_of_codeW (c := body) (rs := [.tmp 4]) Tryd.func72 (by kernel_rfl) (by kernel_rfl) (by kernel_rfl) (by kernel_rfl) (by kernel_rfl) (tab_snd (by
    intro x hx
    simp only [tb, List.not_mem_nil] at hx
    )) (by kernel_rfl) h
end f_strings_asciiSet_contains
end Go.Proofs.YtakgoekfnhkgaaaDoor.Rd
