/- The printed readings of some functions: each function's code reckoned by the kernel to its predicate transformer. -/
import Derived.Test.YtkkobfajahmfaaaHint
namespace Go.Proofs.Ytkkobfajahmfaaa.Rd
open Go.Dn
set_option maxRecDepth 100000
set_option linter.unusedVariables false
namespace f_euler_load_Same
/-! (*skein/treap.Rope[skein/euler.load]).Same: function 38 -/
noncomputable def body : Code := (Try.f38.body).getD .skip
def wp (aa0 : Addr) (xa1 : Int) (xa2 : Int) (w : World) (Q : Ending → World → Prop) : Prop :=
  alW w (.cells #[.int .i64 xa1, .int .i64 xa2] 3) fun B1 w2 =>
  Calls Try.prog 65 #[.pointer (some aa0), .slice (some (⟨B1, 0, Option.none⟩ : Addr)) 2 2] w2 fun e3 w4 => ∃ (b5 : Bool), e3 = .returned (.bool b5) ∧ (
  sel b5 (
  Q (.returned (.tuple #[.bool false, .int .i64 (150 : Int)])) w4) (
  Calls Try.prog 66 #[.pointer (some aa0), .int .i64 xa1] w4 fun e6 w7 => ∃ (x8 : Int), e6 = .returned (.int .i64 x8) ∧ (
  Calls Try.prog 66 #[.pointer (some aa0), .int .i64 xa2] w7 fun e9 w10 => ∃ (x11 : Int), e9 = .returned (.int .i64 x11) ∧ (
  Q (.returned (.tuple #[.bool (x8 == x11), .int .i64 (0 : Int)])) w10))))
def D : Nat → Option DH := dtab []
def tb : List (List Nat × Spec) := []
theorem wp_eq (aa0 : Addr) (xa1 : Int) (xa2 : Int) (w : World) (Q : Ending → World → Prop) :
    wp aa0 xa1 xa2 w Q = codeW Try.prog hT 20 D (tab tb) [] body (topQ Try.prog hT 20 [.tmp 6, .tmp 7] Q) (argsF [.pointer (some aa0), .int .i64 xa1, .int .i64 xa2]) w := by kernel_rfl
theorem ok (aa0 : Addr) (xa1 : Int) (xa2 : Int) (w : World) (Q : Ending → World → Prop) (h : wp aa0 xa1 xa2 w Q) : Calls Try.prog 38 #[.pointer (some aa0), .int .i64 xa1, .int .i64 xa2] w Q := by
  rw [wp_eq] at h
  exact calls_of_codeW (c := body) (rs := [.tmp 6, .tmp 7]) Try.func38 (by kernel_rfl) (by kernel_rfl) (by kernel_rfl) (by kernel_rfl) (by kernel_rfl) (tab_snd (by
    intro x hx
    simp only [tb, List.not_mem_nil] at hx
    )) (by kernel_rfl) h
end f_euler_load_Same
namespace f_euler_load_Join
/-! (*skein/treap.Rope[skein/euler.load]).Join: function 41 -/
noncomputable def body : Code := (Try.f41.body).getD .skip
def wp (aa0 : Addr) (xa1 : Int) (xa2 : Int) (w : World) (Q : Ending → World → Prop) : Prop :=
  alW w (.cells #[.int .i64 xa1, .int .i64 xa2] 3) fun B1 w2 =>
  Calls Try.prog 65 #[.pointer (some aa0), .slice (some (⟨B1, 0, Option.none⟩ : Addr)) 2 2] w2 fun e3 w4 => ∃ (b5 : Bool), e3 = .returned (.bool b5) ∧ (
  sel b5 (
  Q (.returned (.int .i64 (150 : Int))) w4) (
  Calls Try.prog 66 #[.pointer (some aa0), .int .i64 xa1] w4 fun e6 w7 => ∃ (x8 : Int), e6 = .returned (.int .i64 x8) ∧ (
  Calls Try.prog 66 #[.pointer (some aa0), .int .i64 xa2] w7 fun e9 w10 => ∃ (x11 : Int), e9 = .returned (.int .i64 x11) ∧ (
  sel (x8 == x11) (
  Q (.returned (.int .i64 (151 : Int))) w10) (
  Calls Try.prog 70 #[.pointer (some aa0), .int .i64 x8, .int .i64 x11] w10 fun e12 w13 => ∃ (x14 : Int), e12 = .returned (.int .i64 x14) ∧ (
  Calls Try.prog 69 #[.pointer (some aa0), .int .i64 x14] w13 fun e15 w16 => e15 = .returned (.tuple #[]) ∧ (
  Q (.returned (.int .i64 (0 : Int))) w16)))))))
def D : Nat → Option DH := dtab []
def tb : List (List Nat × Spec) := []
theorem wp_eq (aa0 : Addr) (xa1 : Int) (xa2 : Int) (w : World) (Q : Ending → World → Prop) :
    wp aa0 xa1 xa2 w Q = codeW Try.prog hT 29 D (tab tb) [] body (topQ Try.prog hT 29 [.tmp 6] Q) (argsF [.pointer (some aa0), .int .i64 xa1, .int .i64 xa2]) w := by kernel_rfl
theorem ok (aa0 : Addr) (xa1 : Int) (xa2 : Int) (w : World) (Q : Ending → World → Prop) (h : wp aa0 xa1 xa2 w Q) : Calls Try.prog 41 #[.pointer (some aa0), .int .i64 xa1, .int .i64 xa2] w Q := by
  rw [wp_eq] at h
  exact calls_of_codeW (c := body) (rs := [.tmp 6]) Try.func41 (by kernel_rfl) (by kernel_rfl) (by kernel_rfl) (by kernel_rfl) (by kernel_rfl) (tab_snd (by
    intro x hx
    simp only [tb, List.not_mem_nil] at hx
    )) (by kernel_rfl) h
end f_euler_load_Join
namespace f_euler_load_Cut
/-! (*skein/treap.Rope[skein/euler.load]).Cut: function 42 -/
noncomputable def body : Code := (Try.f42.body).getD .skip
def wp (aa0 : Addr) (xa1 : Int) (w : World) (Q : Ending → World → Prop) : Prop :=
  alW w (.cells #[.int .i64 xa1] 3) fun B1 w2 =>
  Calls Try.prog 65 #[.pointer (some aa0), .slice (some (⟨B1, 0, Option.none⟩ : Addr)) 1 1] w2 fun e3 w4 => ∃ (b5 : Bool), e3 = .returned (.bool b5) ∧ (
  sel b5 (
  Q (.returned (.int .i64 (150 : Int))) w4) (
  Calls Try.prog 66 #[.pointer (some aa0), .int .i64 xa1] w4 fun e6 w7 => ∃ (x8 : Int), e6 = .returned (.int .i64 x8) ∧ (
  Calls Try.prog 72 #[.pointer (some aa0), .int .i64 xa1] w7 fun e9 w10 => ∃ (x11 : Int), e9 = .returned (.int .i64 x11) ∧ (
  Calls Try.prog 71 #[.pointer (some aa0), .int .i64 x8, .int .i64 x11] w10 fun e12 w13 => ∃ (x14_0 : Int) (x14_1 : Int), e12 = .returned (.tuple #[.int .i64 x14_0, .int .i64 x14_1]) ∧ (
  Calls Try.prog 69 #[.pointer (some aa0), .int .i64 x14_0] w13 fun e15 w16 => e15 = .returned (.tuple #[]) ∧ (
  Calls Try.prog 69 #[.pointer (some aa0), .int .i64 x14_1] w16 fun e17 w18 => e17 = .returned (.tuple #[]) ∧ (
  Q (.returned (.int .i64 (0 : Int))) w18)))))))
def D : Nat → Option DH := dtab []
def tb : List (List Nat × Spec) := []
theorem wp_eq (aa0 : Addr) (xa1 : Int) (w : World) (Q : Ending → World → Prop) :
    wp aa0 xa1 w Q = codeW Try.prog hT 28 D (tab tb) [] body (topQ Try.prog hT 28 [.tmp 4] Q) (argsF [.pointer (some aa0), .int .i64 xa1]) w := by kernel_rfl
theorem ok (aa0 : Addr) (xa1 : Int) (w : World) (Q : Ending → World → Prop) (h : wp aa0 xa1 w Q) : Calls Try.prog 42 #[.pointer (some aa0), .int .i64 xa1] w Q := by
  rw [wp_eq] at h
  exact calls_of_codeW (c := body) (rs := [.tmp 4]) Try.func42 (by kernel_rfl) (by kernel_rfl) (by kernel_rfl) (by kernel_rfl) (by kernel_rfl) (tab_snd (by
    intro x hx
    simp only [tb, List.not_mem_nil] at hx
    )) (by kernel_rfl) h
end f_euler_load_Cut
namespace f_euler_load
/-! skein/treap.New[skein/euler.load]: function 45 -/
noncomputable def body : Code := (Try.f45.body).getD .skip
def od1 : OD := ⟨[0], [0, 1, 3, 5], fun i => ([⟨true, [], [], fun _ _ => undef⟩,
  ⟨true, [], [], fun _ _ => undef⟩,
  ⟨false, [], [], fun ps vs => match ps, vs with | [.slice Ap0 np0 cp0], [] => .slice Ap0 np0 cp0 | _, _ => undef⟩,
  ⟨true, [1], [1, 2], fun _ _ => undef⟩,
  ⟨false, [0, 1, 3], [0, 3], fun ps vs => match ps, vs with | [.slice Ap0 np0 cp0], [.slice Ae0 ne0 ce0, .slice Ae1 ne1 ce1, .slice Ae3 ne3 ce3] => .agg #[.slice Ae0 ne0 ce0, .slice Ae3 ne3 ce3, .int .u64 (11400714819323198485 : Int)] | _, _ => undef⟩,
  ⟨true, [0, 1, 3], [4], fun _ _ => undef⟩,
  ⟨false, [0, 1, 3, 5], [5], fun ps vs => match ps, vs with | [.slice Ap0 np0 cp0], [.slice Ae0 ne0 ce0, .slice Ae1 ne1 ce1, .slice Ae3 ne3 ce3, .pointer (some ae5)] => .pointer (some ae5) | _, _ => undef⟩] : List OI).getD i ⟨true, [], [], fun _ _ => undef⟩, fun i => ([(.one (.sc .slice)), (.one (.sc .slice)), .one (.sc .any), (.one (.sc .slice)), .one (.sc .any), (.one (.sc .ad)), .one (.sc .any)] : List OS).getD i (.one (.sc .any))⟩
def h1 (Ap0 : Option Addr) (np0 : Nat) (cp0 : Nat) : Prop :=
  (∀ (_ : Fr) (w : World),
  w = w ∧ (.slice Ap0 np0 cp0 : Value) = (.slice Ap0 np0 cp0)) ∧
  (∀ (_ : Fr) (w : World),
  ∀ (Ae0 : Option Addr) (ne0 : Nat) (ce0 : Nat),
  ∀ (Ae1 : Option Addr) (ne1 : Nat) (ce1 : Nat),
  ∀ (Ae3 : Option Addr) (ne3 : Nat) (ce3 : Nat),
  w = w ∧ (.agg #[.slice Ae0 ne0 ce0, .slice Ae3 ne3 ce3, .int .u64 (11400714819323198485 : Int)] : Value) = (.agg #[.slice Ae0 ne0 ce0, .slice Ae3 ne3 ce3, .int .u64 (11400714819323198485 : Int)])) ∧
  (∀ (_ : Fr) (w : World),
  ∀ (Ae0 : Option Addr) (ne0 : Nat) (ce0 : Nat),
  ∀ (Ae1 : Option Addr) (ne1 : Nat) (ce1 : Nat),
  ∀ (Ae3 : Option Addr) (ne3 : Nat) (ce3 : Nat),
  ∀ (ae5 : Addr),
  w = w ∧ (.pointer (some ae5) : Value) = (.pointer (some ae5))) ∧
  True
theorem h1_ok (Ap0 : Option Addr) (np0 : Nat) (cp0 : Nat) : h1 Ap0 np0 cp0 := ⟨fun _ w => ⟨rfl, rfl⟩, fun _ w _ _ _ _ _ _ _ _ _ => ⟨rfl, rfl⟩, fun _ w _ _ _ _ _ _ _ _ _ _ => ⟨rfl, rfl⟩, trivial⟩
def wp (Aa0 : Option Addr) (na0 : Nat) (ca0 : Nat) (w : World) (Q : Ending → World → Prop) : Prop :=
  drW w fun w1 =>
  h1 Aa0 na0 ca0 ∧
  ∃ (G2 : World → World → Prop) (Φ3 : Nat → Value → World → Prop), (∀ w, G2 w w) ∧ (∀ a b c, G2 a b → G2 b c → G2 a c) ∧ (∀ i v a b, G2 w1 a → G2 a b → Φ3 i v a → Φ3 i v b) ∧ (
  (∀ (_ : Fr) (w4 : World), G2 w1 w4 →
  (
  Runs Try.prog (Instr.makeSlice 106 (.int .i64 (1 : Int)) (.int .i64 (1 : Int))) w4 fun v6 w5 => ∃ (A7 : Option Addr) (n7 : Nat) (c7 : Nat), v6 = (.slice A7 n7 c7) ∧ (
  G2 w4 w5 ∧ Φ3 0 (.slice A7 n7 c7) w5))) ∧
  (∀ (_ : Fr) (w8 : World), G2 w1 w8 →
  (
  alW w8 (.cells #[] 3) fun B9 w10 =>
  G2 w8 w10 ∧ Φ3 1 (.slice (some (⟨B9, 0, Option.none⟩ : Addr)) 0 0) w10)) ∧
  (∀ (_ : Fr) (w11 : World), G2 w1 w11 →
  ∀ (Ae1 : Option Addr) (ne1 : Nat) (ce1 : Nat),
  Φ3 1 (.slice Ae1 ne1 ce1) w11 →
  (
  Runs Try.prog (Builtin.append_ #[22, 22] 22 #[.slice Ae1 ne1 ce1, .slice Aa0 na0 ca0]) w11 fun v13 w12 => ∃ (A14 : Option Addr) (n14 : Nat) (c14 : Nat), v13 = (.slice A14 n14 c14) ∧ (
  G2 w11 w12 ∧ Φ3 3 (.slice A14 n14 c14) w12))) ∧
  (∀ (_ : Fr) (w15 : World), G2 w1 w15 →
  ∀ (Ae0 : Option Addr) (ne0 : Nat) (ce0 : Nat),
  Φ3 0 (.slice Ae0 ne0 ce0) w15 →
  ∀ (Ae1 : Option Addr) (ne1 : Nat) (ce1 : Nat),
  Φ3 1 (.slice Ae1 ne1 ce1) w15 →
  ∀ (Ae3 : Option Addr) (ne3 : Nat) (ce3 : Nat),
  Φ3 3 (.slice Ae3 ne3 ce3) w15 →
  (
  alW w15 (.cells #[.slice Ae0 ne0 ce0, .slice Ae3 ne3 ce3, .int .u64 (11400714819323198485 : Int)] 109) fun B16 w17 =>
  G2 w15 w17 ∧ Φ3 5 (.pointer (some (⟨B16, 0, Option.none⟩ : Addr))) w17)) ∧ True) ∧
  ∀ w18, G2 w1 w18 →
  ∀ (Ae0 : Option Addr) (ne0 : Nat) (ce0 : Nat),
  Φ3 0 (.slice Ae0 ne0 ce0) w18 →
  ∀ (Ae1 : Option Addr) (ne1 : Nat) (ce1 : Nat),
  Φ3 1 (.slice Ae1 ne1 ce1) w18 →
  ∀ (Ae3 : Option Addr) (ne3 : Nat) (ce3 : Nat),
  Φ3 3 (.slice Ae3 ne3 ce3) w18 →
  ∀ (ae5 : Addr),
  Φ3 5 (.pointer (some ae5)) w18 →
  (
  Q (.returned (.pointer (some ae5))) w18)
def D : Nat → Option DH := dtab [(1, .opn od1)]
def tb : List (List Nat × Spec) := []
theorem wp_eq (Aa0 : Option Addr) (na0 : Nat) (ca0 : Nat) (w : World) (Q : Ending → World → Prop) :
    wp Aa0 na0 ca0 w Q = codeW Try.prog hT 9 D (tab tb) [] body (topQ Try.prog hT 9 [.tmp 2] Q) (argsF [.slice Aa0 na0 ca0]) w := by kernel_rfl
theorem ok (Aa0 : Option Addr) (na0 : Nat) (ca0 : Nat) (w : World) (Q : Ending → World → Prop) (h : wp Aa0 na0 ca0 w Q) : Calls Try.prog 45 #[.slice Aa0 na0 ca0] w Q := by
  rw [wp_eq] at h
  exact calls_of_codeW (c := body) (rs := [.tmp 2]) Try.func45 (by kernel_rfl) (by kernel_rfl) (by kernel_rfl) (by kernel_rfl) (by kernel_rfl) (tab_snd (by
    intro x hx
    simp only [tb, List.not_mem_nil] at hx
    )) (by kernel_rfl) h
end f_euler_load
namespace f_euler_load_All
/-! (*skein/treap.Rope[skein/euler.load]).All: function 54 -/
noncomputable def body : Code := (Try.f54.body).getD .skip
def wp (aa0 : Addr) (xa1 : Int) (w : World) (Q : Ending → World → Prop) : Prop :=
  alW w (.cells #[.int .i64 (0 : Int), .int .i64 (0 : Int), .int .i64 (0 : Int)] 74) fun B1 w2 =>
  alW w2 (.cells #[.int .i64 xa1] 3) fun B3 w4 =>
  Calls Try.prog 65 #[.pointer (some aa0), .slice (some (⟨B3, 0, Option.none⟩ : Addr)) 1 1] w4 fun e5 w6 => ∃ (b7 : Bool), e5 = .returned (.bool b7) ∧ (
  sel b7 (
  ldI w6 (⟨B1, 0, Option.none⟩ : Addr) .i64 fun x8 =>
  ldI w6 ((⟨B1, 0, Option.none⟩ : Addr).add 1) .i64 fun x9 =>
  ldI w6 ((⟨B1, 0, Option.none⟩ : Addr).add 2) .i64 fun x10 =>
  stW w6 (⟨B1, 0, Option.none⟩ : Addr) (.int .i64 x8) fun w11 =>
  stW w11 ((⟨B1, 0, Option.none⟩ : Addr).add 1) (.int .i64 x9) fun w12 =>
  stW w12 ((⟨B1, 0, Option.none⟩ : Addr).add 2) (.int .i64 x10) fun w13 =>
  ldI w13 (⟨B1, 0, Option.none⟩ : Addr) .i64 fun x14 =>
  ldI w13 ((⟨B1, 0, Option.none⟩ : Addr).add 1) .i64 fun x15 =>
  ldI w13 ((⟨B1, 0, Option.none⟩ : Addr).add 2) .i64 fun x16 =>
  Q (.returned (.tuple #[.agg #[.int .i64 x14, .int .i64 x15, .int .i64 x16], .int .i64 (150 : Int)])) w13) (
  drW w6 fun w17 =>
  ∃ S18 : World → Prop, S18 w17 ∧ (
  hdS S18 aa0 fun A19 n19 c19 =>
  Calls Try.prog 66 #[.pointer (some aa0), .int .i64 xa1] w17 fun e20 w21 => ∃ (x22 : Int), e20 = .returned (.int .i64 x22) ∧ (
  S18 w21 ∧ (
  optB A19 fun a23 =>
  req (decide (0 ≤ x22 ∧ x22 < (n19 : Int))) <|
  hdI S18 ((a23.add (x22.toNat * 11)).add 8) .i64 fun x24 =>
  hdI S18 (((a23.add (x22.toNat * 11)).add 8).add 1) .i64 fun x25 =>
  hdI S18 (((a23.add (x22.toNat * 11)).add 8).add 2) .i64 fun x26 =>
  stW w21 (⟨B1, 0, Option.none⟩ : Addr) (.int .i64 x24) fun w27 =>
  stW w27 ((⟨B1, 0, Option.none⟩ : Addr).add 1) (.int .i64 x25) fun w28 =>
  stW w28 ((⟨B1, 0, Option.none⟩ : Addr).add 2) (.int .i64 x26) fun w29 =>
  ldI w29 (⟨B1, 0, Option.none⟩ : Addr) .i64 fun x30 =>
  ldI w29 ((⟨B1, 0, Option.none⟩ : Addr).add 1) .i64 fun x31 =>
  ldI w29 ((⟨B1, 0, Option.none⟩ : Addr).add 2) .i64 fun x32 =>
  Q (.returned (.tuple #[.agg #[.int .i64 x30, .int .i64 x31, .int .i64 x32], .int .i64 (0 : Int)])) w29)))))
def D : Nat → Option DH := dtab [(3, .held [.fst 0, .fst 1, .fst 2, .fst 3, .fst 4, .fst 5, .eff 6, .fst 7, .fst 8, .fst 9] [.eff 10, .fst 11])]
def tb : List (List Nat × Spec) := []
theorem wp_eq (aa0 : Addr) (xa1 : Int) (w : World) (Q : Ending → World → Prop) :
    wp aa0 xa1 w Q = codeW Try.prog hT 21 D (tab tb) [] body (topQ Try.prog hT 21 [.cell 4 74, .tmp 5] Q) (argsF [.pointer (some aa0), .int .i64 xa1]) w := by kernel_rfl
theorem ok (aa0 : Addr) (xa1 : Int) (w : World) (Q : Ending → World → Prop) (h : wp aa0 xa1 w Q) : Calls Try.prog 54 #[.pointer (some aa0), .int .i64 xa1] w Q := by
  rw [wp_eq] at h
  exact calls_of_codeW (c := body) (rs := [.cell 4 74, .tmp 5]) Try.func54 (by kernel_rfl) (by kernel_rfl) (by kernel_rfl) (by kernel_rfl) (by kernel_rfl) (tab_snd (by
    intro x hx
    simp only [tb, List.not_mem_nil] at hx
    )) (by kernel_rfl) h
end f_euler_load_All
namespace f_euler_load_Set
/-! (*skein/treap.Rope[skein/euler.load]).Set: function 55 -/
noncomputable def body : Code := (Try.f55.body).getD .skip
def l0 : Nat → Addr → Int → World → (World → Prop) → Prop
  | 0, _, _, _, _ => False
  | k + 1, at0, xt1, w, K0 =>
    sel (decide (xt1 > (0 : Int))) (
    Calls Try.prog 75 #[.pointer (some at0), .int .i64 xt1] w fun e18 w19 => e18 = .returned (.tuple #[]) ∧ (
    ldS w19 at0 fun A20 n20 c20 =>
    optB A20 fun a21 =>
    req (decide (0 ≤ xt1 ∧ xt1 < (n20 : Int))) <|
    ldI w19 ((a21.add (xt1.toNat * 11)).add 2) .i64 fun x22 =>
    l0 k at0 x22 w19 K0)) (
    K0  w)
def wp (aa0 : Addr) (xa1 : Int) (xa2_0 : Int) (xa2_1 : Int) (xa2_2 : Int) (w : World) (Q : Ending → World → Prop) : Prop :=
  alW w (.cells #[.int .i64 xa2_0, .int .i64 xa2_1, .int .i64 xa2_2] 74) fun B1 w2 =>
  alW w2 (.cells #[.int .i64 xa1] 3) fun B3 w4 =>
  Calls Try.prog 65 #[.pointer (some aa0), .slice (some (⟨B3, 0, Option.none⟩ : Addr)) 1 1] w4 fun e5 w6 => ∃ (b7 : Bool), e5 = .returned (.bool b7) ∧ (
  sel b7 (
  Q (.returned (.int .i64 (150 : Int))) w6) (
  drW w6 fun w8 =>
  ldS w8 aa0 fun A10 n10 c10 =>
  ldI w8 (⟨B1, 0, Option.none⟩ : Addr) .i64 fun x11 =>
  ldI w8 ((⟨B1, 0, Option.none⟩ : Addr).add 1) .i64 fun x12 =>
  ldI w8 ((⟨B1, 0, Option.none⟩ : Addr).add 2) .i64 fun x13 =>
  optB A10 fun a14 =>
  req (decide (0 ≤ xa1 ∧ xa1 < (n10 : Int))) <|
  stW w8 ((a14.add (xa1.toNat * 11)).add 5) (.int .i64 x11) fun w15 =>
  stW w15 (((a14.add (xa1.toNat * 11)).add 5).add 1) (.int .i64 x12) fun w16 =>
  stW w16 (((a14.add (xa1.toNat * 11)).add 5).add 2) (.int .i64 x13) fun w17 =>
  ∃ k24 : Nat, l0 k24 aa0 xa1 w17 (fun (w23 : World) => ∀ _ : Fr,
  Q (.returned (.int .i64 (0 : Int))) w23)))
def D : Nat → Option DH := dtab [(3, .simple [.fst 0, .fst 1, .fst 2, .fst 3, .fst 4, .fst 5] [.fst 6, .fst 7, .eff 8])]
def l0LO : LO := ⟨[], [], [(0, [])], []⟩
def l0Tk (k : Nat) : Spec := fun Q σ w =>
  gAd (σ 0) fun at0 =>
  gInt .i64 (σ 1) fun xt1 =>
  l0 k at0 xt1 w (fun (w : World) => ∀ d : Fr, Q (.exit 0) (ov d []) w)
def l0T : Spec := fun Q σ w => ∃ k, l0Tk k Q σ w
def l0tb : List (List Nat × Spec) := []
noncomputable def l0b : Code := (subC [0, 0, 0, 1, 1, 1] body).getD .skip
theorem l0_eq (k : Nat) (at0 : Addr) (xt1 : Int) (Q : PQ) (σ : Fr) (w : World) :
    l0 (k + 1) at0 xt1 w (fun (w : World) => ∀ d : Fr, Q (.exit 0) (ov d []) w) = codeW Try.prog hT 32 D (tab l0tb) [0, 0, 0, 1, 1, 1] l0b (thenQ (l0Tk k Q) (widen l0LO Q)) (ov σ [(0, .pointer (some at0)), (1, .int .i64 xt1)]) w := by kernel_rfl
theorem l0_snd : ∀ c, subC [0, 0, 1, 1, 1] body = some c → Snd Try.prog 32 c l0T := by
  refine loop_of (hT := hT) (D := D) (l := l0tb) (b := l0b) (lo := l0LO) (by kernel_rfl) (by
    intro x hx
    simp only [l0tb, List.not_mem_nil] at hx
    ) (by kernel_rfl) (by kernel_rfl) ?_ ?_
  · intro Q σ w h
    unfold l0Tk at h
    obtain ⟨at0, h0, hn⟩ := gAd_elim h
    clear h
    have h := hn
    clear hn
    obtain ⟨xt1, h1, hn⟩ := gInt_elim h
    clear h
    have h := hn
    clear hn
    exact h
  · intro k Q σ w h
    unfold l0Tk at h
    obtain ⟨at0, h0, hn⟩ := gAd_elim h
    clear h
    have h := hn
    clear hn
    obtain ⟨xt1, h1, hn⟩ := gInt_elim h
    clear h
    have h := hn
    clear hn
    rw [l0_eq (σ := σ)] at h
    have e : (ov σ [(0, .pointer (some at0)), (1, .int .i64 xt1)]) = σ := ov_self (by simp [h0, h1])
    rw [e] at h
    exact h
def tb : List (List Nat × Spec) := [([0, 0, 1, 1, 1], l0T)]
theorem wp_eq (aa0 : Addr) (xa1 : Int) (xa2_0 : Int) (xa2_1 : Int) (xa2_2 : Int) (w : World) (Q : Ending → World → Prop) :
    wp aa0 xa1 xa2_0 xa2_1 xa2_2 w Q = codeW Try.prog hT 32 D (tab tb) [] body (topQ Try.prog hT 32 [.tmp 6] Q) (argsF [.pointer (some aa0), .int .i64 xa1, .agg #[.int .i64 xa2_0, .int .i64 xa2_1, .int .i64 xa2_2]]) w := by kernel_rfl
theorem ok (aa0 : Addr) (xa1 : Int) (xa2_0 : Int) (xa2_1 : Int) (xa2_2 : Int) (w : World) (Q : Ending → World → Prop) (h : wp aa0 xa1 xa2_0 xa2_1 xa2_2 w Q) : Calls Try.prog 55 #[.pointer (some aa0), .int .i64 xa1, .agg #[.int .i64 xa2_0, .int .i64 xa2_1, .int .i64 xa2_2]] w Q := by
  rw [wp_eq] at h
  exact calls_of_codeW (c := body) (rs := [.tmp 6]) Try.func55 (by kernel_rfl) (by kernel_rfl) (by kernel_rfl) (by kernel_rfl) (by kernel_rfl) (tab_snd (by
    intro x hx
    simp only [tb, List.mem_cons, List.not_mem_nil, or_false] at hx
    subst hx
    exact l0_snd)) (by kernel_rfl) h
end f_euler_load_Set
namespace f_euler_load_List
/-! (*skein/treap.Rope[skein/euler.load]).List: function 60 -/
noncomputable def body : Code := (Try.f60.body).getD .skip
def wp (aa0 : Addr) (xa1 : Int) (w : World) (Q : Ending → World → Prop) : Prop :=
  alW w (.cells #[.int .i64 xa1] 3) fun B1 w2 =>
  Calls Try.prog 65 #[.pointer (some aa0), .slice (some (⟨B1, 0, Option.none⟩ : Addr)) 1 1] w2 fun e3 w4 => ∃ (b5 : Bool), e3 = .returned (.bool b5) ∧ (
  sel b5 (
  Q (.returned (.tuple #[.slice none 0 0, .int .i64 (150 : Int)])) w4) (
  Calls Try.prog 66 #[.pointer (some aa0), .int .i64 xa1] w4 fun e6 w7 => ∃ (x8 : Int), e6 = .returned (.int .i64 x8) ∧ (
  Calls Try.prog 77 #[.pointer (some aa0), .int .i64 x8, .slice none 0 0] w7 fun e9 w10 => ∃ (A11 : Option Addr) (n11 : Nat) (c11 : Nat), e9 = .returned (.slice A11 n11 c11) ∧ (
  Q (.returned (.tuple #[.slice A11 n11 c11, .int .i64 (0 : Int)])) w10))))
def D : Nat → Option DH := dtab []
def tb : List (List Nat × Spec) := []
theorem wp_eq (aa0 : Addr) (xa1 : Int) (w : World) (Q : Ending → World → Prop) :
    wp aa0 xa1 w Q = codeW Try.prog hT 15 D (tab tb) [] body (topQ Try.prog hT 15 [.tmp 4, .tmp 5] Q) (argsF [.pointer (some aa0), .int .i64 xa1]) w := by kernel_rfl
theorem ok (aa0 : Addr) (xa1 : Int) (w : World) (Q : Ending → World → Prop) (h : wp aa0 xa1 w Q) : Calls Try.prog 60 #[.pointer (some aa0), .int .i64 xa1] w Q := by
  rw [wp_eq] at h
  exact calls_of_codeW (c := body) (rs := [.tmp 4, .tmp 5]) Try.func60 (by kernel_rfl) (by kernel_rfl) (by kernel_rfl) (by kernel_rfl) (by kernel_rfl) (tab_snd (by
    intro x hx
    simp only [tb, List.not_mem_nil] at hx
    )) (by kernel_rfl) h
end f_euler_load_List
namespace f_euler_load_bad
/-! (*skein/treap.Rope[skein/euler.load]).bad: function 65 -/
noncomputable def body : Code := (Try.f65.body).getD .skip
def l0 : Nat → Addr → Option Addr → Nat → Nat → Int → Int → World → (World → Prop) → (Bool → World → Prop) → Prop
  | 0, _, _, _, _, _, _, _, _, _ => False
  | k + 1, at0, At7, nt7, ct7, xt8, xt9, w, K0, Kr =>
    sel (decide (xt9 < xt8)) (
    optB At7 fun a1 =>
    req (decide (0 ≤ xt9 ∧ xt9 < (nt7 : Int))) <|
    ldI w (a1.add (xt9.toNat * 1)) .i64 fun x2 =>
    sel (decide (x2 < (1 : Int))) (
    Kr true w) (
    ldS w at0 fun A3 n3 c3 =>
    sel (decide (x2 ≥ (n3 : Int))) (
    Kr true w) (
    l0 k at0 At7 nt7 ct7 xt8 (IntKind.i64.wrap (xt9 + (1 : Int))) w K0 Kr))) (
    K0  w)
def wp (aa0 : Addr) (Aa1 : Option Addr) (na1 : Nat) (ca1 : Nat) (w : World) (Q : Ending → World → Prop) : Prop :=
  ∃ k7 : Nat, l0 k7 aa0 Aa1 na1 ca1 (na1 : Int) (0 : Int) w (fun (w4 : World) => ∀ _ : Fr,
  Q (.returned (.bool false)) w4) (fun (b5 : Bool) (w6 : World) => ∀ _ : Fr,
  Q (.returned (.bool b5)) w6)
def D : Nat → Option DH := dtab []
def l0LO : LO := ⟨[], [4], [(0, [])], []⟩
def l0Tk (k : Nat) : Spec := fun Q σ w =>
  gAd (σ 0) fun at0 =>
  gSlice (σ 7) fun At7 nt7 ct7 =>
  gInt .i64 (σ 8) fun xt8 =>
  gInt .i64 (σ 9) fun xt9 =>
  l0 k at0 At7 nt7 ct7 xt8 xt9 w (fun (w : World) => ∀ d : Fr, Q (.exit 0) (ov d []) w) (fun (bq4 : Bool) (w : World) => ∀ d : Fr, Q .ret (ov d [(4, .bool bq4)]) w)
def l0T : Spec := fun Q σ w => ∃ k, l0Tk k Q σ w
def l0tb : List (List Nat × Spec) := []
noncomputable def l0b : Code := (subC [0, 0, 1, 0, 1] body).getD .skip
theorem l0_eq (k : Nat) (at0 : Addr) (At7 : Option Addr) (nt7 : Nat) (ct7 : Nat) (xt8 : Int) (xt9 : Int) (Q : PQ) (σ : Fr) (w : World) :
    l0 (k + 1) at0 At7 nt7 ct7 xt8 xt9 w (fun (w : World) => ∀ d : Fr, Q (.exit 0) (ov d []) w) (fun (bq4 : Bool) (w : World) => ∀ d : Fr, Q .ret (ov d [(4, .bool bq4)]) w) = codeW Try.prog hT 25 D (tab l0tb) [0, 0, 1, 0, 1] l0b (thenQ (l0Tk k Q) (widen l0LO Q)) (ov σ [(0, .pointer (some at0)), (7, .slice At7 nt7 ct7), (8, .int .i64 xt8), (9, .int .i64 xt9)]) w := by kernel_rfl
theorem l0_snd : ∀ c, subC [0, 1, 0, 1] body = some c → Snd Try.prog 25 c l0T := by
  refine loop_of (hT := hT) (D := D) (l := l0tb) (b := l0b) (lo := l0LO) (by kernel_rfl) (by
    intro x hx
    simp only [l0tb, List.not_mem_nil] at hx
    ) (by kernel_rfl) (by kernel_rfl) ?_ ?_
  · intro Q σ w h
    unfold l0Tk at h
    obtain ⟨at0, h0, hn⟩ := gAd_elim h
    clear h
    have h := hn
    clear hn
    obtain ⟨At7, nt7, ct7, h7, hn⟩ := gSlice_elim h
    clear h
    have h := hn
    clear hn
    obtain ⟨xt8, h8, hn⟩ := gInt_elim h
    clear h
    have h := hn
    clear hn
    obtain ⟨xt9, h9, hn⟩ := gInt_elim h
    clear h
    have h := hn
    clear hn
    exact h
  · intro k Q σ w h
    unfold l0Tk at h
    obtain ⟨at0, h0, hn⟩ := gAd_elim h
    clear h
    have h := hn
    clear hn
    obtain ⟨At7, nt7, ct7, h7, hn⟩ := gSlice_elim h
    clear h
    have h := hn
    clear hn
    obtain ⟨xt8, h8, hn⟩ := gInt_elim h
    clear h
    have h := hn
    clear hn
    obtain ⟨xt9, h9, hn⟩ := gInt_elim h
    clear h
    have h := hn
    clear hn
    rw [l0_eq (σ := σ)] at h
    have e : (ov σ [(0, .pointer (some at0)), (7, .slice At7 nt7 ct7), (8, .int .i64 xt8), (9, .int .i64 xt9)]) = σ := ov_self (by simp [h0, h7, h8, h9])
    rw [e] at h
    exact h
def tb : List (List Nat × Spec) := [([0, 1, 0, 1], l0T)]
theorem wp_eq (aa0 : Addr) (Aa1 : Option Addr) (na1 : Nat) (ca1 : Nat) (w : World) (Q : Ending → World → Prop) :
    wp aa0 Aa1 na1 ca1 w Q = codeW Try.prog hT 25 D (tab tb) [] body (topQ Try.prog hT 25 [.tmp 4] Q) (argsF [.pointer (some aa0), .slice Aa1 na1 ca1]) w := by kernel_rfl
theorem ok (aa0 : Addr) (Aa1 : Option Addr) (na1 : Nat) (ca1 : Nat) (w : World) (Q : Ending → World → Prop) (h : wp aa0 Aa1 na1 ca1 w Q) : Calls Try.prog 65 #[.pointer (some aa0), .slice Aa1 na1 ca1] w Q := by
  rw [wp_eq] at h
  exact calls_of_codeW (c := body) (rs := [.tmp 4]) Try.func65 (by kernel_rfl) (by kernel_rfl) (by kernel_rfl) (by kernel_rfl) (by kernel_rfl) (tab_snd (by
    intro x hx
    simp only [tb, List.mem_cons, List.not_mem_nil, or_false] at hx
    subst hx
    exact l0_snd)) (by kernel_rfl) h
end f_euler_load_bad
namespace f_euler_load_root
/-! (*skein/treap.Rope[skein/euler.load]).root: function 66 -/
noncomputable def body : Code := (Try.f66.body).getD .skip
def l0 : Nat → Addr → Int → World → (Int → World → Prop) → Prop
  | 0, _, _, _, _ => False
  | k + 1, at0, xt1, w, K0 =>
    ldS w at0 fun A1 n1 c1 =>
    optB A1 fun a2 =>
    req (decide (0 ≤ xt1 ∧ xt1 < (n1 : Int))) <|
    ldI w ((a2.add (xt1.toNat * 11)).add 2) .i64 fun x3 =>
    sel (decide (x3 > (0 : Int))) (
    ldS w at0 fun A4 n4 c4 =>
    optB A4 fun a5 =>
    req (decide (0 ≤ xt1 ∧ xt1 < (n4 : Int))) <|
    ldI w ((a5.add (xt1.toNat * 11)).add 2) .i64 fun x6 =>
    l0 k at0 x6 w K0) (
    K0 xt1 w)
def wp (aa0 : Addr) (xa1 : Int) (w : World) (Q : Ending → World → Prop) : Prop :=
  ∃ k9 : Nat, l0 k9 aa0 xa1 w (fun (x7 : Int) (w8 : World) => ∀ _ : Fr,
  Q (.returned (.int .i64 x7)) w8)
def D : Nat → Option DH := dtab []
def l0LO : LO := ⟨[], [], [(0, [1])], []⟩
def l0Tk (k : Nat) : Spec := fun Q σ w =>
  gAd (σ 0) fun at0 =>
  gInt .i64 (σ 1) fun xt1 =>
  l0 k at0 xt1 w (fun (xq1 : Int) (w : World) => ∀ d : Fr, Q (.exit 0) (ov d [(1, .int .i64 xq1)]) w)
def l0T : Spec := fun Q σ w => ∃ k, l0Tk k Q σ w
def l0tb : List (List Nat × Spec) := []
noncomputable def l0b : Code := (subC [0, 0, 0, 1] body).getD .skip
theorem l0_eq (k : Nat) (at0 : Addr) (xt1 : Int) (Q : PQ) (σ : Fr) (w : World) :
    l0 (k + 1) at0 xt1 w (fun (xq1 : Int) (w : World) => ∀ d : Fr, Q (.exit 0) (ov d [(1, .int .i64 xq1)]) w) = codeW Try.prog hT 23 D (tab l0tb) [0, 0, 0, 1] l0b (thenQ (l0Tk k Q) (widen l0LO Q)) (ov σ [(0, .pointer (some at0)), (1, .int .i64 xt1)]) w := by kernel_rfl
theorem l0_snd : ∀ c, subC [0, 0, 1] body = some c → Snd Try.prog 23 c l0T := by
  refine loop_of (hT := hT) (D := D) (l := l0tb) (b := l0b) (lo := l0LO) (by kernel_rfl) (by
    intro x hx
    simp only [l0tb, List.not_mem_nil] at hx
    ) (by kernel_rfl) (by kernel_rfl) ?_ ?_
  · intro Q σ w h
    unfold l0Tk at h
    obtain ⟨at0, h0, hn⟩ := gAd_elim h
    clear h
    have h := hn
    clear hn
    obtain ⟨xt1, h1, hn⟩ := gInt_elim h
    clear h
    have h := hn
    clear hn
    exact h
  · intro k Q σ w h
    unfold l0Tk at h
    obtain ⟨at0, h0, hn⟩ := gAd_elim h
    clear h
    have h := hn
    clear hn
    obtain ⟨xt1, h1, hn⟩ := gInt_elim h
    clear h
    have h := hn
    clear hn
    rw [l0_eq (σ := σ)] at h
    have e : (ov σ [(0, .pointer (some at0)), (1, .int .i64 xt1)]) = σ := ov_self (by simp [h0, h1])
    rw [e] at h
    exact h
def tb : List (List Nat × Spec) := [([0, 0, 1], l0T)]
theorem wp_eq (aa0 : Addr) (xa1 : Int) (w : World) (Q : Ending → World → Prop) :
    wp aa0 xa1 w Q = codeW Try.prog hT 23 D (tab tb) [] body (topQ Try.prog hT 23 [.tmp 4] Q) (argsF [.pointer (some aa0), .int .i64 xa1]) w := by kernel_rfl
theorem ok (aa0 : Addr) (xa1 : Int) (w : World) (Q : Ending → World → Prop) (h : wp aa0 xa1 w Q) : Calls Try.prog 66 #[.pointer (some aa0), .int .i64 xa1] w Q := by
  rw [wp_eq] at h
  exact calls_of_codeW (c := body) (rs := [.tmp 4]) Try.func66 (by kernel_rfl) (by kernel_rfl) (by kernel_rfl) (by kernel_rfl) (by kernel_rfl) (tab_snd (by
    intro x hx
    simp only [tb, List.mem_cons, List.not_mem_nil, or_false] at hx
    subst hx
    exact l0_snd)) (by kernel_rfl) h
end f_euler_load_root
namespace f_euler_load_Make
/-! (*skein/treap.Rope[skein/euler.load]).Make: function 67 -/
noncomputable def body : Code := (Try.f67.body).getD .skip
def wp (aa0 : Addr) (xa1_0 : Int) (xa1_1 : Int) (xa1_2 : Int) (w : World) (Q : Ending → World → Prop) : Prop :=
  alW w (.cells #[.int .i64 xa1_0, .int .i64 xa1_1, .int .i64 xa1_2] 74) fun B1 w2 =>
  ldS w2 aa0 fun A3 n3 c3 =>
  sel (decide ((n3 : Int) > (65536 : Int))) (
  Q (.returned (.tuple #[.int .i64 (0 : Int), .int .i64 (55 : Int)])) w2) (
  drW w2 fun w4 =>
  ∃ S5 : World → Prop, S5 w4 ∧ (
  hdS S5 aa0 fun A6 n6 c6 =>
  hdI S5 (⟨B1, 0, Option.none⟩ : Addr) .i64 fun x7 =>
  hdI S5 ((⟨B1, 0, Option.none⟩ : Addr).add 1) .i64 fun x8 =>
  hdI S5 ((⟨B1, 0, Option.none⟩ : Addr).add 2) .i64 fun x9 =>
  hdI S5 (⟨B1, 0, Option.none⟩ : Addr) .i64 fun x10 =>
  hdI S5 ((⟨B1, 0, Option.none⟩ : Addr).add 1) .i64 fun x11 =>
  hdI S5 ((⟨B1, 0, Option.none⟩ : Addr).add 2) .i64 fun x12 =>
  Calls Try.prog 81 #[.pointer (some aa0)] w4 fun e13 w14 => ∃ (x15 : Int), e13 = .returned (.int .u64 x15) ∧ (
  S5 w14 ∧ (
  alW w14 (.cells #[.int .i64 (0 : Int), .int .i64 (0 : Int), .int .i64 (0 : Int), .int .u64 x15, .int .i64 (1 : Int), .int .i64 x7, .int .i64 x8, .int .i64 x9, .int .i64 x10, .int .i64 x11, .int .i64 x12] 112) fun B16 w17 =>
  S5 w17 ∧ (
  Runs Try.prog (Builtin.append_ #[106, 106] 106 #[.slice A6 n6 c6, .slice (some (⟨B16, 0, Option.none⟩ : Addr)) 1 1]) w17 fun v19 w18 => ∃ (A20 : Option Addr) (n20 : Nat) (c20 : Nat), v19 = (.slice A20 n20 c20) ∧ (
  S5 w18 ∧ (
  stW w18 aa0 (.slice A20 n20 c20) fun w21 =>
  ldS w21 aa0 fun A22 n22 c22 =>
  Q (.returned (.tuple #[.int .i64 (IntKind.i64.wrap ((n22 : Int) - (1 : Int))), .int .i64 (0 : Int)])) w21)))))))
def D : Nat → Option DH := dtab [(3, .held [.fst 0, .fst 1, .fst 2, .fst 3, .fst 4, .fst 5, .fst 7, .fst 8, .eff 6, .fst 9, .eff 10, .eff 11] [.fst 12, .fst 13, .eff 14])]
def tb : List (List Nat × Spec) := []
theorem wp_eq (aa0 : Addr) (xa1_0 : Int) (xa1_1 : Int) (xa1_2 : Int) (w : World) (Q : Ending → World → Prop) :
    wp aa0 xa1_0 xa1_1 xa1_2 w Q = codeW Try.prog hT 32 D (tab tb) [] body (topQ Try.prog hT 32 [.tmp 4, .tmp 5] Q) (argsF [.pointer (some aa0), .agg #[.int .i64 xa1_0, .int .i64 xa1_1, .int .i64 xa1_2]]) w := by kernel_rfl
theorem ok (aa0 : Addr) (xa1_0 : Int) (xa1_1 : Int) (xa1_2 : Int) (w : World) (Q : Ending → World → Prop) (h : wp aa0 xa1_0 xa1_1 xa1_2 w Q) : Calls Try.prog 67 #[.pointer (some aa0), .agg #[.int .i64 xa1_0, .int .i64 xa1_1, .int .i64 xa1_2]] w Q := by
  rw [wp_eq] at h
  exact calls_of_codeW (c := body) (rs := [.tmp 4, .tmp 5]) Try.func67 (by kernel_rfl) (by kernel_rfl) (by kernel_rfl) (by kernel_rfl) (by kernel_rfl) (tab_snd (by
    intro x hx
    simp only [tb, List.not_mem_nil] at hx
    )) (by kernel_rfl) h
end f_euler_load_Make
namespace f_euler_load_At
/-! (*skein/treap.Rope[skein/euler.load]).At: function 68 -/
noncomputable def body : Code := (Try.f68.body).getD .skip
def j1 (at0 : Addr) (xt2 : Int) (xt8 : Int) (w : World) (Kg0 : Int → Int → World → Prop) (Kr : Int → Int → World → Prop) : Prop :=
  drW w fun w12 =>
  ldS w12 at0 fun A14 n14 c14 =>
  ldS w12 at0 fun A15 n15 c15 =>
  optB A15 fun a16 =>
  req (decide (0 ≤ xt8 ∧ xt8 < (n15 : Int))) <|
  ldI w12 (a16.add (xt8.toNat * 11)) .i64 fun x17 =>
  optB A14 fun a18 =>
  req (decide (0 ≤ x17 ∧ x17 < (n14 : Int))) <|
  ldI w12 ((a18.add (x17.toNat * 11)).add 4) .i64 fun x19 =>
  sel (decide (xt2 < x19)) (
  ldS w12 at0 fun A20 n20 c20 =>
  optB A20 fun a21 =>
  req (decide (0 ≤ xt8 ∧ xt8 < (n20 : Int))) <|
  ldI w12 (a21.add (xt8.toNat * 11)) .i64 fun x22 =>
  Kg0 xt2 x22 w12) (
  sel (decide (xt2 > x19)) (
  ldS w12 at0 fun A23 n23 c23 =>
  optB A23 fun a24 =>
  req (decide (0 ≤ xt8 ∧ xt8 < (n23 : Int))) <|
  ldI w12 ((a24.add (xt8.toNat * 11)).add 1) .i64 fun x25 =>
  Kg0 (IntKind.i64.wrap ((IntKind.i64.wrap (xt2 - x19)) - (1 : Int))) x25 w12) (
  Kr xt8 (0 : Int) w12))
def g0 : Nat → Addr → Int → Int → World → (Int → Int → World → Prop) → Prop
  | 0, _, _, _, _, _ => False
  | k + 1, at0, xt2, xt8, w, Kr =>
    j1 at0 xt2 xt8 w (fun (xr2 : Int) (xr8 : Int) (w : World) => ∀ _ : Fr,
    g0 k at0 xr2 xr8 w Kr) Kr
def s0 (at0 : Addr) (xt1 : Int) (xt2 : Int) (w : World) (Kr : Int → Int → World → Prop) : Prop :=
  alW w (.cells #[.int .i64 xt1] 3) fun B1 w2 =>
  Calls Try.prog 65 #[.pointer (some at0), .slice (some (⟨B1, 0, Option.none⟩ : Addr)) 1 1] w2 fun e3 w4 => ∃ (b5 : Bool), e3 = .returned (.bool b5) ∧ (
  sel b5 (
  Kr (0 : Int) (150 : Int) w4) (
  Calls Try.prog 66 #[.pointer (some at0), .int .i64 xt1] w4 fun e6 w7 => ∃ (x8 : Int), e6 = .returned (.int .i64 x8) ∧ (
  sel (decide (xt2 < (0 : Int))) (
  Kr (0 : Int) (1 : Int) w7) (
  ldS w7 at0 fun A9 n9 c9 =>
  optB A9 fun a10 =>
  req (decide (0 ≤ x8 ∧ x8 < (n9 : Int))) <|
  ldI w7 ((a10.add (x8.toNat * 11)).add 4) .i64 fun x11 =>
  sel (decide (xt2 ≥ x11)) (
  Kr (0 : Int) (1 : Int) w7) (
  j1 at0 xt2 x8 w7 (fun (x26 : Int) (x27 : Int) (w28 : World) => ∀ _ : Fr,
  ∃ k29 : Nat, g0 k29 at0 x26 x27 w28 Kr) (fun (x30 : Int) (x31 : Int) (w32 : World) => ∀ _ : Fr,
  Kr x30 x31 w32))))))
def wp (aa0 : Addr) (xa1 : Int) (xa2 : Int) (w : World) (Q : Ending → World → Prop) : Prop :=
  s0 aa0 xa1 xa2 w (fun (x33 : Int) (x34 : Int) (w35 : World) => ∀ _ : Fr,
  Q (.returned (.tuple #[.int .i64 x33, .int .i64 x34])) w35)
def D : Nat → Option DH := dtab [(6, .simple [.fst 0, .fst 1, .fst 2, .fst 3, .fst 4, .fst 5, .fst 6, .fst 7, .fst 8, .fst 9, .fst 10, .fst 11, .fst 12, .fst 13, .fst 14] [.fst 15])]
def j1LO : LO := ⟨[], [6, 7], [], [(0, [0, 2, 8])]⟩
def j1T : Spec := fun Q σ w =>
  gAd (σ 0) fun at0 =>
  gInt .i64 (σ 2) fun xt2 =>
  gInt .i64 (σ 8) fun xt8 =>
  j1 at0 xt2 xt8 w (fun (xq2 : Int) (xq8 : Int) (w : World) => ∀ d : Fr, Q (.goto 0) (ov d [(0, .pointer (some at0)), (2, .int .i64 xq2), (8, .int .i64 xq8)]) w) (fun (xq6 : Int) (xq7 : Int) (w : World) => ∀ d : Fr, Q .ret (ov d [(6, .int .i64 xq6), (7, .int .i64 xq7)]) w)
def j1tb : List (List Nat × Spec) := []
noncomputable def j1b : Code := (subC [1, 1, 1, 1, 0, 1] body).getD .skip
theorem j1_eq (at0 : Addr) (xt2 : Int) (xt8 : Int) (Q : PQ) (σ : Fr) (w : World) :
    j1 at0 xt2 xt8 w (fun (xq2 : Int) (xq8 : Int) (w : World) => ∀ d : Fr, Q (.goto 0) (ov d [(0, .pointer (some at0)), (2, .int .i64 xq2), (8, .int .i64 xq8)]) w) (fun (xq6 : Int) (xq7 : Int) (w : World) => ∀ d : Fr, Q .ret (ov d [(6, .int .i64 xq6), (7, .int .i64 xq7)]) w) = codeW Try.prog hT 73 D (tab j1tb) [1, 1, 1, 1, 0, 1] j1b (widen j1LO Q) (ov σ [(0, .pointer (some at0)), (2, .int .i64 xt2), (8, .int .i64 xt8)]) w := by kernel_rfl
theorem j1_snd : ∀ c, subC [1, 1, 1, 1, 0, 1] body = some c → Snd Try.prog 73 c j1T := by
  refine cut_of (hT := hT) (D := D) (l := j1tb) (b := j1b) (lo := j1LO) (by kernel_rfl) (by
    intro x hx
    simp only [j1tb, List.not_mem_nil] at hx
    ) (by kernel_rfl) (by kernel_rfl) ?_
  intro Q σ w h
  unfold j1T at h
  obtain ⟨at0, h0, hn⟩ := gAd_elim h
  clear h
  have h := hn
  clear hn
  obtain ⟨xt2, h2, hn⟩ := gInt_elim h
  clear h
  have h := hn
  clear hn
  obtain ⟨xt8, h8, hn⟩ := gInt_elim h
  clear h
  have h := hn
  clear hn
  rw [j1_eq (σ := σ)] at h
  have e : (ov σ [(0, .pointer (some at0)), (2, .int .i64 xt2), (8, .int .i64 xt8)]) = σ := ov_self (by simp [h0, h2, h8])
  rw [e] at h
  exact h
def s0LO : LO := ⟨[], [6, 7], [], []⟩
def s0T : Spec := fun Q σ w =>
  gAd (σ 0) fun at0 =>
  gInt .i64 (σ 1) fun xt1 =>
  gInt .i64 (σ 2) fun xt2 =>
  s0 at0 xt1 xt2 w (fun (xq6 : Int) (xq7 : Int) (w : World) => ∀ d : Fr, Q .ret (ov d [(6, .int .i64 xq6), (7, .int .i64 xq7)]) w)
def s0tb : List (List Nat × Spec) := [([1, 1, 1, 1, 0, 1], j1T)]
def g0Tk (k : Nat) : Spec := fun Q σ w =>
  gAd (σ 0) fun at0 =>
  gInt .i64 (σ 2) fun xt2 =>
  gInt .i64 (σ 8) fun xt8 =>
  g0 k at0 xt2 xt8 w (fun (xq6 : Int) (xq7 : Int) (w : World) => ∀ d : Fr, Q .ret (ov d [(6, .int .i64 xq6), (7, .int .i64 xq7)]) w)
theorem g0_eq (k : Nat) (at0 : Addr) (xt2 : Int) (xt8 : Int) (Q : PQ) (σ : Fr) (w : World) :
    g0 (k + 1) at0 xt2 xt8 w (fun (xq6 : Int) (xq7 : Int) (w : World) => ∀ d : Fr, Q .ret (ov d [(6, .int .i64 xq6), (7, .int .i64 xq7)]) w) = j1T (gotoQ 0 (g0Tk k Q) Q) (ov σ [(0, .pointer (some at0)), (2, .int .i64 xt2), (8, .int .i64 xt8)]) w := by kernel_rfl
noncomputable def s0b : Code := (subC [0, 1] body).getD .skip
theorem s0_eq (at0 : Addr) (xt1 : Int) (xt2 : Int) (Q : PQ) (σ : Fr) (w : World) :
    s0 at0 xt1 xt2 w (fun (xq6 : Int) (xq7 : Int) (w : World) => ∀ d : Fr, Q .ret (ov d [(6, .int .i64 xq6), (7, .int .i64 xq7)]) w) = codeW Try.prog hT 73 D (tab s0tb) [0, 1] s0b (gotoQ 0 (fun σ w => ∃ k, g0Tk k Q σ w) (widen s0LO Q)) (ov σ [(0, .pointer (some at0)), (1, .int .i64 xt1), (2, .int .i64 xt2)]) w := by kernel_rfl
theorem s0_snd : ∀ c, subC [1] body = some c → Snd Try.prog 73 c s0T := by
  refine scope_of (hT := hT) (D := D) (l := s0tb) (b := s0b) (b' := j1b) (pb := [1, 1, 1, 1, 0, 1]) (lb := 0) (Tk := g0Tk) (Tb := j1T) (lo := s0LO) (by kernel_rfl) (by
    intro x hx
    simp only [s0tb, List.mem_cons, List.not_mem_nil, or_false] at hx
    subst hx
    exact j1_snd) (by kernel_rfl) (by kernel_rfl) (by kernel_rfl) (by kernel_rfl) j1_snd ?_ ?_ ?_
  · intro Q σ w h
    unfold g0Tk at h
    obtain ⟨at0, h0, hn⟩ := gAd_elim h
    clear h
    have h := hn
    clear hn
    obtain ⟨xt2, h2, hn⟩ := gInt_elim h
    clear h
    have h := hn
    clear hn
    obtain ⟨xt8, h8, hn⟩ := gInt_elim h
    clear h
    have h := hn
    clear hn
    exact h
  · intro k Q σ w h
    unfold g0Tk at h
    obtain ⟨at0, h0, hn⟩ := gAd_elim h
    clear h
    have h := hn
    clear hn
    obtain ⟨xt2, h2, hn⟩ := gInt_elim h
    clear h
    have h := hn
    clear hn
    obtain ⟨xt8, h8, hn⟩ := gInt_elim h
    clear h
    have h := hn
    clear hn
    rw [g0_eq (σ := σ)] at h
    have e : (ov σ [(0, .pointer (some at0)), (2, .int .i64 xt2), (8, .int .i64 xt8)]) = σ := ov_self (by simp [h0, h2, h8])
    rw [e] at h
    exact h
  · intro Q σ w h
    unfold s0T at h
    obtain ⟨at0, h0, hn⟩ := gAd_elim h
    clear h
    have h := hn
    clear hn
    obtain ⟨xt1, h1, hn⟩ := gInt_elim h
    clear h
    have h := hn
    clear hn
    obtain ⟨xt2, h2, hn⟩ := gInt_elim h
    clear h
    have h := hn
    clear hn
    rw [s0_eq (σ := σ)] at h
    have e : (ov σ [(0, .pointer (some at0)), (1, .int .i64 xt1), (2, .int .i64 xt2)]) = σ := ov_self (by simp [h0, h1, h2])
    rw [e] at h
    exact h
def tb : List (List Nat × Spec) := [([1, 1, 1, 1, 0, 1], j1T), ([1], s0T)]
theorem wp_eq (aa0 : Addr) (xa1 : Int) (xa2 : Int) (w : World) (Q : Ending → World → Prop) :
    wp aa0 xa1 xa2 w Q = codeW Try.prog hT 73 D (tab tb) [] body (topQ Try.prog hT 73 [.tmp 6, .tmp 7] Q) (argsF [.pointer (some aa0), .int .i64 xa1, .int .i64 xa2]) w := by kernel_rfl
theorem ok (aa0 : Addr) (xa1 : Int) (xa2 : Int) (w : World) (Q : Ending → World → Prop) (h : wp aa0 xa1 xa2 w Q) : Calls Try.prog 68 #[.pointer (some aa0), .int .i64 xa1, .int .i64 xa2] w Q := by
  rw [wp_eq] at h
  exact calls_of_codeW (c := body) (rs := [.tmp 6, .tmp 7]) Try.func68 (by kernel_rfl) (by kernel_rfl) (by kernel_rfl) (by kernel_rfl) (by kernel_rfl) (tab_snd (by
    intro x hx
    simp only [tb, List.mem_cons, List.not_mem_nil, or_false] at hx
    rcases hx with rfl | rfl
    · exact j1_snd
    · exact s0_snd)) (by kernel_rfl) h
end f_euler_load_At
namespace f_euler_load_free
/-! (*skein/treap.Rope[skein/euler.load]).free: function 69 -/
noncomputable def body : Code := (Try.f69.body).getD .skip
def wp (aa0 : Addr) (xa1 : Int) (w : World) (Q : Ending → World → Prop) : Prop :=
  sel (decide (xa1 > (0 : Int))) (
  ldS w aa0 fun A1 n1 c1 =>
  optB A1 fun a2 =>
  req (decide (0 ≤ xa1 ∧ xa1 < (n1 : Int))) <|
  stW w ((a2.add (xa1.toNat * 11)).add 2) (.int .i64 (0 : Int)) fun w3 =>
  Q (.returned (.tuple #[])) w3) (
  Q (.returned (.tuple #[])) w)
def D : Nat → Option DH := dtab []
def tb : List (List Nat × Spec) := []
theorem wp_eq (aa0 : Addr) (xa1 : Int) (w : World) (Q : Ending → World → Prop) :
    wp aa0 xa1 w Q = codeW Try.prog hT 13 D (tab tb) [] body (topQ Try.prog hT 13 [] Q) (argsF [.pointer (some aa0), .int .i64 xa1]) w := by kernel_rfl
theorem ok (aa0 : Addr) (xa1 : Int) (w : World) (Q : Ending → World → Prop) (h : wp aa0 xa1 w Q) : Calls Try.prog 69 #[.pointer (some aa0), .int .i64 xa1] w Q := by
  rw [wp_eq] at h
  exact calls_of_codeW (c := body) (rs := []) Try.func69 (by kernel_rfl) (by kernel_rfl) (by kernel_rfl) (by kernel_rfl) (by kernel_rfl) (tab_snd (by
    intro x hx
    simp only [tb, List.not_mem_nil] at hx
    )) (by kernel_rfl) h
end f_euler_load_free
namespace f_euler_load_merge
/-! (*skein/treap.Rope[skein/euler.load]).merge: function 70 -/
noncomputable def body : Code := (Try.f70.body).getD .skip
def wp (aa0 : Addr) (xa1 : Int) (xa2 : Int) (w : World) (Q : Ending → World → Prop) : Prop :=
  sel (xa1 == (0 : Int)) (
  Q (.returned (.int .i64 xa2)) w) (
  sel (xa2 == (0 : Int)) (
  Q (.returned (.int .i64 xa1)) w) (
  drW w fun w1 =>
  ldS w1 aa0 fun A3 n3 c3 =>
  optB A3 fun a4 =>
  req (decide (0 ≤ xa1 ∧ xa1 < (n3 : Int))) <|
  ldI w1 ((a4.add (xa1.toNat * 11)).add 3) .u64 fun x5 =>
  ldS w1 aa0 fun A6 n6 c6 =>
  optB A6 fun a7 =>
  req (decide (0 ≤ xa2 ∧ xa2 < (n6 : Int))) <|
  ldI w1 ((a7.add (xa2.toNat * 11)).add 3) .u64 fun x8 =>
  sel (decide (x5 ≥ x8)) (
  drW w1 fun w9 =>
  ∃ S10 : World → Prop, S10 w9 ∧ (
  hdS S10 aa0 fun A11 n11 c11 =>
  hdS S10 aa0 fun A12 n12 c12 =>
  optB A12 fun a13 =>
  req (decide (0 ≤ xa1 ∧ xa1 < (n12 : Int))) <|
  hdI S10 ((a13.add (xa1.toNat * 11)).add 1) .i64 fun x14 =>
  Calls Try.prog 70 #[.pointer (some aa0), .int .i64 x14, .int .i64 xa2] w9 fun e15 w16 => ∃ (x17 : Int), e15 = .returned (.int .i64 x17) ∧ (
  S10 w16 ∧ (
  optB A11 fun a18 =>
  req (decide (0 ≤ xa1 ∧ xa1 < (n11 : Int))) <|
  stW w16 ((a18.add (xa1.toNat * 11)).add 1) (.int .i64 x17) fun w19 =>
  Calls Try.prog 75 #[.pointer (some aa0), .int .i64 xa1] w19 fun e20 w21 => e20 = .returned (.tuple #[]) ∧ (
  Q (.returned (.int .i64 xa1)) w21))))) (
  drW w1 fun w22 =>
  ∃ S23 : World → Prop, S23 w22 ∧ (
  hdS S23 aa0 fun A24 n24 c24 =>
  hdS S23 aa0 fun A25 n25 c25 =>
  optB A25 fun a26 =>
  req (decide (0 ≤ xa2 ∧ xa2 < (n25 : Int))) <|
  hdI S23 (a26.add (xa2.toNat * 11)) .i64 fun x27 =>
  Calls Try.prog 70 #[.pointer (some aa0), .int .i64 xa1, .int .i64 x27] w22 fun e28 w29 => ∃ (x30 : Int), e28 = .returned (.int .i64 x30) ∧ (
  S23 w29 ∧ (
  optB A24 fun a31 =>
  req (decide (0 ≤ xa2 ∧ xa2 < (n24 : Int))) <|
  stW w29 (a31.add (xa2.toNat * 11)) (.int .i64 x30) fun w32 =>
  Calls Try.prog 75 #[.pointer (some aa0), .int .i64 xa2] w32 fun e33 w34 => e33 = .returned (.tuple #[]) ∧ (
  Q (.returned (.int .i64 xa2)) w34)))))))
def D : Nat → Option DH := dtab [(5, .simple [.fst 0, .fst 1, .fst 2, .fst 3, .fst 4, .fst 5, .fst 6, .fst 7, .fst 8, .fst 9, .fst 10, .fst 11, .fst 12, .fst 13, .fst 14, .fst 15] [.fst 16]), (6, .held [.fst 0, .fst 1, .fst 2, .fst 3, .fst 4, .fst 5, .fst 6, .fst 7, .fst 8, .fst 9, .fst 10, .fst 11, .fst 12, .fst 13, .fst 14, .eff 15] [.fst 16, .fst 17, .eff 18]), (9, .held [.fst 0, .fst 1, .fst 2, .fst 3, .fst 4, .fst 5, .fst 6, .fst 7, .fst 8, .fst 9, .fst 10, .fst 11, .fst 12, .fst 13, .fst 14, .eff 15] [.fst 16, .fst 17, .eff 18])]
def tb : List (List Nat × Spec) := []
theorem wp_eq (aa0 : Addr) (xa1 : Int) (xa2 : Int) (w : World) (Q : Ending → World → Prop) :
    wp aa0 xa1 xa2 w Q = codeW Try.prog hT 76 D (tab tb) [] body (topQ Try.prog hT 76 [.tmp 6] Q) (argsF [.pointer (some aa0), .int .i64 xa1, .int .i64 xa2]) w := by kernel_rfl
theorem ok (aa0 : Addr) (xa1 : Int) (xa2 : Int) (w : World) (Q : Ending → World → Prop) (h : wp aa0 xa1 xa2 w Q) : Calls Try.prog 70 #[.pointer (some aa0), .int .i64 xa1, .int .i64 xa2] w Q := by
  rw [wp_eq] at h
  exact calls_of_codeW (c := body) (rs := [.tmp 6]) Try.func70 (by kernel_rfl) (by kernel_rfl) (by kernel_rfl) (by kernel_rfl) (by kernel_rfl) (tab_snd (by
    intro x hx
    simp only [tb, List.not_mem_nil] at hx
    )) (by kernel_rfl) h
end f_euler_load_merge
namespace f_euler_load_split
/-! (*skein/treap.Rope[skein/euler.load]).split: function 71 -/
noncomputable def body : Code := (Try.f71.body).getD .skip
def j0 (at0 : Addr) (xt1 : Int) (xt2 : Int) (xt8 : Int) (xt9 : Int) (w : World) (Kr : Int → Int → World → Prop) : Prop :=
  sel (decide (xt2 ≤ xt9)) (
  Calls Try.prog 71 #[.pointer (some at0), .int .i64 xt8, .int .i64 xt2] w fun e7 w8 => ∃ (x9_0 : Int) (x9_1 : Int), e7 = .returned (.tuple #[.int .i64 x9_0, .int .i64 x9_1]) ∧ (
  ldS w8 at0 fun A10 n10 c10 =>
  optB A10 fun a11 =>
  req (decide (0 ≤ xt1 ∧ xt1 < (n10 : Int))) <|
  stW w8 (a11.add (xt1.toNat * 11)) (.int .i64 x9_1) fun w12 =>
  Calls Try.prog 75 #[.pointer (some at0), .int .i64 xt1] w12 fun e13 w14 => e13 = .returned (.tuple #[]) ∧ (
  Kr x9_0 xt1 w14))) (
  ldS w at0 fun A15 n15 c15 =>
  optB A15 fun a16 =>
  req (decide (0 ≤ xt1 ∧ xt1 < (n15 : Int))) <|
  ldI w ((a16.add (xt1.toNat * 11)).add 1) .i64 fun x17 =>
  Calls Try.prog 71 #[.pointer (some at0), .int .i64 x17, .int .i64 (IntKind.i64.wrap ((IntKind.i64.wrap (xt2 - xt9)) - (1 : Int)))] w fun e18 w19 => ∃ (x20_0 : Int) (x20_1 : Int), e18 = .returned (.tuple #[.int .i64 x20_0, .int .i64 x20_1]) ∧ (
  ldS w19 at0 fun A21 n21 c21 =>
  optB A21 fun a22 =>
  req (decide (0 ≤ xt1 ∧ xt1 < (n21 : Int))) <|
  stW w19 ((a22.add (xt1.toNat * 11)).add 1) (.int .i64 x20_0) fun w23 =>
  Calls Try.prog 75 #[.pointer (some at0), .int .i64 xt1] w23 fun e24 w25 => e24 = .returned (.tuple #[]) ∧ (
  Kr xt1 x20_1 w25)))
def wp (aa0 : Addr) (xa1 : Int) (xa2 : Int) (w : World) (Q : Ending → World → Prop) : Prop :=
  sel (xa1 == (0 : Int)) (
  Q (.returned (.tuple #[.int .i64 (0 : Int), .int .i64 (0 : Int)])) w) (
  ldS w aa0 fun A1 n1 c1 =>
  optB A1 fun a2 =>
  req (decide (0 ≤ xa1 ∧ xa1 < (n1 : Int))) <|
  ldI w (a2.add (xa1.toNat * 11)) .i64 fun x3 =>
  sel (decide (x3 > (0 : Int))) (
  ldS w aa0 fun A4 n4 c4 =>
  optB A4 fun a5 =>
  req (decide (0 ≤ x3 ∧ x3 < (n4 : Int))) <|
  ldI w ((a5.add (x3.toNat * 11)).add 4) .i64 fun x6 =>
  j0 aa0 xa1 xa2 x3 x6 w (fun (x26 : Int) (x27 : Int) (w28 : World) => ∀ _ : Fr,
  Q (.returned (.tuple #[.int .i64 x26, .int .i64 x27])) w28)) (
  j0 aa0 xa1 xa2 x3 (0 : Int) w (fun (x29 : Int) (x30 : Int) (w31 : World) => ∀ _ : Fr,
  Q (.returned (.tuple #[.int .i64 x29, .int .i64 x30])) w31)))
def D : Nat → Option DH := dtab []
def j0LO : LO := ⟨[], [6, 7], [], []⟩
def j0T : Spec := fun Q σ w =>
  gAd (σ 0) fun at0 =>
  gInt .i64 (σ 1) fun xt1 =>
  gInt .i64 (σ 2) fun xt2 =>
  gInt .i64 (σ 8) fun xt8 =>
  gInt .i64 (σ 9) fun xt9 =>
  j0 at0 xt1 xt2 xt8 xt9 w (fun (xq6 : Int) (xq7 : Int) (w : World) => ∀ d : Fr, Q .ret (ov d [(6, .int .i64 xq6), (7, .int .i64 xq7)]) w)
def j0tb : List (List Nat × Spec) := []
noncomputable def j0b : Code := (subC [1, 1, 1, 1, 1] body).getD .skip
theorem j0_eq (at0 : Addr) (xt1 : Int) (xt2 : Int) (xt8 : Int) (xt9 : Int) (Q : PQ) (σ : Fr) (w : World) :
    j0 at0 xt1 xt2 xt8 xt9 w (fun (xq6 : Int) (xq7 : Int) (w : World) => ∀ d : Fr, Q .ret (ov d [(6, .int .i64 xq6), (7, .int .i64 xq7)]) w) = codeW Try.prog hT 87 D (tab j0tb) [1, 1, 1, 1, 1] j0b (widen j0LO Q) (ov σ [(0, .pointer (some at0)), (1, .int .i64 xt1), (2, .int .i64 xt2), (8, .int .i64 xt8), (9, .int .i64 xt9)]) w := by kernel_rfl
theorem j0_snd : ∀ c, subC [1, 1, 1, 1, 1] body = some c → Snd Try.prog 87 c j0T := by
  refine cut_of (hT := hT) (D := D) (l := j0tb) (b := j0b) (lo := j0LO) (by kernel_rfl) (by
    intro x hx
    simp only [j0tb, List.not_mem_nil] at hx
    ) (by kernel_rfl) (by kernel_rfl) ?_
  intro Q σ w h
  unfold j0T at h
  obtain ⟨at0, h0, hn⟩ := gAd_elim h
  clear h
  have h := hn
  clear hn
  obtain ⟨xt1, h1, hn⟩ := gInt_elim h
  clear h
  have h := hn
  clear hn
  obtain ⟨xt2, h2, hn⟩ := gInt_elim h
  clear h
  have h := hn
  clear hn
  obtain ⟨xt8, h8, hn⟩ := gInt_elim h
  clear h
  have h := hn
  clear hn
  obtain ⟨xt9, h9, hn⟩ := gInt_elim h
  clear h
  have h := hn
  clear hn
  rw [j0_eq (σ := σ)] at h
  have e : (ov σ [(0, .pointer (some at0)), (1, .int .i64 xt1), (2, .int .i64 xt2), (8, .int .i64 xt8), (9, .int .i64 xt9)]) = σ := ov_self (by simp [h0, h1, h2, h8, h9])
  rw [e] at h
  exact h
def tb : List (List Nat × Spec) := [([1, 1, 1, 1, 1], j0T)]
theorem wp_eq (aa0 : Addr) (xa1 : Int) (xa2 : Int) (w : World) (Q : Ending → World → Prop) :
    wp aa0 xa1 xa2 w Q = codeW Try.prog hT 87 D (tab tb) [] body (topQ Try.prog hT 87 [.tmp 6, .tmp 7] Q) (argsF [.pointer (some aa0), .int .i64 xa1, .int .i64 xa2]) w := by kernel_rfl
theorem ok (aa0 : Addr) (xa1 : Int) (xa2 : Int) (w : World) (Q : Ending → World → Prop) (h : wp aa0 xa1 xa2 w Q) : Calls Try.prog 71 #[.pointer (some aa0), .int .i64 xa1, .int .i64 xa2] w Q := by
  rw [wp_eq] at h
  exact calls_of_codeW (c := body) (rs := [.tmp 6, .tmp 7]) Try.func71 (by kernel_rfl) (by kernel_rfl) (by kernel_rfl) (by kernel_rfl) (by kernel_rfl) (tab_snd (by
    intro x hx
    simp only [tb, List.mem_cons, List.not_mem_nil, or_false] at hx
    subst hx
    exact j0_snd)) (by kernel_rfl) h
end f_euler_load_split
namespace f_euler_load_index
/-! (*skein/treap.Rope[skein/euler.load]).index: function 72 -/
noncomputable def body : Code := (Try.f72.body).getD .skip
def j1 (at0 : Addr) (xt1 : Int) (w : World) (Kn : Int → World → Prop) : Prop :=
  ldS w at0 fun A23 n23 c23 =>
  optB A23 fun a24 =>
  req (decide (0 ≤ xt1 ∧ xt1 < (n23 : Int))) <|
  ldI w ((a24.add (xt1.toNat * 11)).add 2) .i64 fun x25 =>
  Kn x25 w
def l0 : Nat → Addr → Int → Int → Int → World → (Int → World → Prop) → Prop
  | 0, _, _, _, _, _, _ => False
  | k + 1, at0, xt1, xt5, xt6, w, K0 =>
    sel (decide (xt6 > (0 : Int))) (
    ldS w at0 fun A12 n12 c12 =>
    optB A12 fun a13 =>
    req (decide (0 ≤ xt6 ∧ xt6 < (n12 : Int))) <|
    ldI w ((a13.add (xt6.toNat * 11)).add 1) .i64 fun x14 =>
    sel (x14 == xt1) (
    drW w fun w15 =>
    ldS w15 at0 fun A17 n17 c17 =>
    ldS w15 at0 fun A18 n18 c18 =>
    optB A18 fun a19 =>
    req (decide (0 ≤ xt6 ∧ xt6 < (n18 : Int))) <|
    ldI w15 (a19.add (xt6.toNat * 11)) .i64 fun x20 =>
    optB A17 fun a21 =>
    req (decide (0 ≤ x20 ∧ x20 < (n17 : Int))) <|
    ldI w15 ((a21.add (x20.toNat * 11)).add 4) .i64 fun x22 =>
    j1 at0 xt6 w15 (fun (x26 : Int) (w27 : World) => ∀ _ : Fr,
    l0 k at0 xt6 (IntKind.i64.wrap (xt5 + (IntKind.i64.wrap (x22 + (1 : Int))))) x26 w27 K0)) (
    j1 at0 xt6 w (fun (x28 : Int) (w29 : World) => ∀ _ : Fr,
    l0 k at0 xt6 xt5 x28 w29 K0))) (
    K0 xt5 w)
def wp (aa0 : Addr) (xa1 : Int) (w : World) (Q : Ending → World → Prop) : Prop :=
  drW w fun w1 =>
  ldS w1 aa0 fun A3 n3 c3 =>
  ldS w1 aa0 fun A4 n4 c4 =>
  optB A4 fun a5 =>
  req (decide (0 ≤ xa1 ∧ xa1 < (n4 : Int))) <|
  ldI w1 (a5.add (xa1.toNat * 11)) .i64 fun x6 =>
  optB A3 fun a7 =>
  req (decide (0 ≤ x6 ∧ x6 < (n3 : Int))) <|
  ldI w1 ((a7.add (x6.toNat * 11)).add 4) .i64 fun x8 =>
  ldS w1 aa0 fun A9 n9 c9 =>
  optB A9 fun a10 =>
  req (decide (0 ≤ xa1 ∧ xa1 < (n9 : Int))) <|
  ldI w1 ((a10.add (xa1.toNat * 11)).add 2) .i64 fun x11 =>
  ∃ k32 : Nat, l0 k32 aa0 xa1 x8 x11 w1 (fun (x30 : Int) (w31 : World) => ∀ _ : Fr,
  Q (.returned (.int .i64 x30)) w31)
def D : Nat → Option DH := dtab [(1, .simple [.fst 0, .fst 1, .fst 2, .fst 3, .fst 4, .fst 5, .fst 6, .fst 7, .fst 8, .fst 9, .fst 10, .fst 11, .fst 12, .fst 13, .fst 14] [.fst 15]), (6, .simple [.fst 0, .fst 1, .fst 2, .fst 3, .fst 4, .fst 5, .fst 6, .fst 7, .fst 8, .fst 9, .fst 10, .fst 11, .fst 12, .fst 13, .fst 14, .fst 15, .fst 16] [.fst 17, .fst 18])]
def j1LO : LO := ⟨[0, 1, 5, 6], [], [], []⟩
def j1T : Spec := fun Q σ w =>
  gAd (σ 0) fun at0 =>
  gInt .i64 (σ 1) fun xt1 =>
  j1 at0 xt1 w (fun (xq6 : Int) (w : World) => ∀ d : Fr, Q .normal (ov d [(0, .pointer (some at0)), (1, .int .i64 xt1), (5, σ 5), (6, .int .i64 xq6)]) w)
def j1tb : List (List Nat × Spec) := []
noncomputable def j1b : Code := (subC [1, 1, 0, 0, 1, 0, 1, 1] body).getD .skip
theorem j1_eq (at0 : Addr) (xt1 : Int) (Q : PQ) (σ : Fr) (w : World) :
    j1 at0 xt1 w (fun (xq6 : Int) (w : World) => ∀ d : Fr, Q .normal (ov d [(0, .pointer (some at0)), (1, .int .i64 xt1), (5, σ 5), (6, .int .i64 xq6)]) w) = codeW Try.prog hT 70 D (tab j1tb) [1, 1, 0, 0, 1, 0, 1, 1] j1b (widen j1LO Q) (ov σ [(0, .pointer (some at0)), (1, .int .i64 xt1)]) w := by kernel_rfl
theorem j1_snd : ∀ c, subC [1, 1, 0, 0, 1, 0, 1, 1] body = some c → Snd Try.prog 70 c j1T := by
  refine cut_of (hT := hT) (D := D) (l := j1tb) (b := j1b) (lo := j1LO) (by kernel_rfl) (by
    intro x hx
    simp only [j1tb, List.not_mem_nil] at hx
    ) (by kernel_rfl) (by kernel_rfl) ?_
  intro Q σ w h
  unfold j1T at h
  obtain ⟨at0, h0, hn⟩ := gAd_elim h
  clear h
  have h := hn
  clear hn
  obtain ⟨xt1, h1, hn⟩ := gInt_elim h
  clear h
  have h := hn
  clear hn
  rw [j1_eq (σ := σ)] at h
  have e : (ov σ [(0, .pointer (some at0)), (1, .int .i64 xt1)]) = σ := ov_self (by simp [h0, h1])
  rw [e] at h
  exact h
def l0LO : LO := ⟨[], [], [(0, [5])], []⟩
def l0Tk (k : Nat) : Spec := fun Q σ w =>
  gAd (σ 0) fun at0 =>
  gInt .i64 (σ 1) fun xt1 =>
  gInt .i64 (σ 5) fun xt5 =>
  gInt .i64 (σ 6) fun xt6 =>
  l0 k at0 xt1 xt5 xt6 w (fun (xq5 : Int) (w : World) => ∀ d : Fr, Q (.exit 0) (ov d [(5, .int .i64 xq5)]) w)
def l0T : Spec := fun Q σ w => ∃ k, l0Tk k Q σ w
def l0tb : List (List Nat × Spec) := [([1, 1, 0, 0, 1, 0, 1, 1], j1T)]
noncomputable def l0b : Code := (subC [0, 0, 1, 0, 1, 1] body).getD .skip
theorem l0_eq (k : Nat) (at0 : Addr) (xt1 : Int) (xt5 : Int) (xt6 : Int) (Q : PQ) (σ : Fr) (w : World) :
    l0 (k + 1) at0 xt1 xt5 xt6 w (fun (xq5 : Int) (w : World) => ∀ d : Fr, Q (.exit 0) (ov d [(5, .int .i64 xq5)]) w) = codeW Try.prog hT 70 D (tab l0tb) [0, 0, 1, 0, 1, 1] l0b (thenQ (l0Tk k Q) (widen l0LO Q)) (ov σ [(0, .pointer (some at0)), (1, .int .i64 xt1), (5, .int .i64 xt5), (6, .int .i64 xt6)]) w := by kernel_rfl
theorem l0_snd : ∀ c, subC [0, 1, 0, 1, 1] body = some c → Snd Try.prog 70 c l0T := by
  refine loop_of (hT := hT) (D := D) (l := l0tb) (b := l0b) (lo := l0LO) (by kernel_rfl) (by
    intro x hx
    simp only [l0tb, List.mem_cons, List.not_mem_nil, or_false] at hx
    subst hx
    exact j1_snd) (by kernel_rfl) (by kernel_rfl) ?_ ?_
  · intro Q σ w h
    unfold l0Tk at h
    obtain ⟨at0, h0, hn⟩ := gAd_elim h
    clear h
    have h := hn
    clear hn
    obtain ⟨xt1, h1, hn⟩ := gInt_elim h
    clear h
    have h := hn
    clear hn
    obtain ⟨xt5, h5, hn⟩ := gInt_elim h
    clear h
    have h := hn
    clear hn
    obtain ⟨xt6, h6, hn⟩ := gInt_elim h
    clear h
    have h := hn
    clear hn
    exact h
  · intro k Q σ w h
    unfold l0Tk at h
    obtain ⟨at0, h0, hn⟩ := gAd_elim h
    clear h
    have h := hn
    clear hn
    obtain ⟨xt1, h1, hn⟩ := gInt_elim h
    clear h
    have h := hn
    clear hn
    obtain ⟨xt5, h5, hn⟩ := gInt_elim h
    clear h
    have h := hn
    clear hn
    obtain ⟨xt6, h6, hn⟩ := gInt_elim h
    clear h
    have h := hn
    clear hn
    rw [l0_eq (σ := σ)] at h
    have e : (ov σ [(0, .pointer (some at0)), (1, .int .i64 xt1), (5, .int .i64 xt5), (6, .int .i64 xt6)]) = σ := ov_self (by simp [h0, h1, h5, h6])
    rw [e] at h
    exact h
def tb : List (List Nat × Spec) := [([1, 1, 0, 0, 1, 0, 1, 1], j1T), ([0, 1, 0, 1, 1], l0T)]
theorem wp_eq (aa0 : Addr) (xa1 : Int) (w : World) (Q : Ending → World → Prop) :
    wp aa0 xa1 w Q = codeW Try.prog hT 70 D (tab tb) [] body (topQ Try.prog hT 70 [.tmp 4] Q) (argsF [.pointer (some aa0), .int .i64 xa1]) w := by kernel_rfl
theorem ok (aa0 : Addr) (xa1 : Int) (w : World) (Q : Ending → World → Prop) (h : wp aa0 xa1 w Q) : Calls Try.prog 72 #[.pointer (some aa0), .int .i64 xa1] w Q := by
  rw [wp_eq] at h
  exact calls_of_codeW (c := body) (rs := [.tmp 4]) Try.func72 (by kernel_rfl) (by kernel_rfl) (by kernel_rfl) (by kernel_rfl) (by kernel_rfl) (tab_snd (by
    intro x hx
    simp only [tb, List.mem_cons, List.not_mem_nil, or_false] at hx
    rcases hx with rfl | rfl
    · exact j1_snd
    · exact l0_snd)) (by kernel_rfl) h
end f_euler_load_index
namespace f_euler_load_Size
/-! (*skein/treap.Rope[skein/euler.load]).Size: function 73 -/
noncomputable def body : Code := (Try.f73.body).getD .skip
def wp (aa0 : Addr) (xa1 : Int) (w : World) (Q : Ending → World → Prop) : Prop :=
  alW w (.cells #[.int .i64 xa1] 3) fun B1 w2 =>
  Calls Try.prog 65 #[.pointer (some aa0), .slice (some (⟨B1, 0, Option.none⟩ : Addr)) 1 1] w2 fun e3 w4 => ∃ (b5 : Bool), e3 = .returned (.bool b5) ∧ (
  sel b5 (
  Q (.returned (.tuple #[.int .i64 (0 : Int), .int .i64 (150 : Int)])) w4) (
  drW w4 fun w6 =>
  ∃ S7 : World → Prop, S7 w6 ∧ (
  hdS S7 aa0 fun A8 n8 c8 =>
  Calls Try.prog 66 #[.pointer (some aa0), .int .i64 xa1] w6 fun e9 w10 => ∃ (x11 : Int), e9 = .returned (.int .i64 x11) ∧ (
  S7 w10 ∧ (
  optB A8 fun a12 =>
  req (decide (0 ≤ x11 ∧ x11 < (n8 : Int))) <|
  hdI S7 ((a12.add (x11.toNat * 11)).add 4) .i64 fun x13 =>
  Q (.returned (.tuple #[.int .i64 x13, .int .i64 (0 : Int)])) w10)))))
def D : Nat → Option DH := dtab [(3, .held [.fst 0, .fst 1, .fst 2, .fst 3, .fst 4, .fst 5, .eff 6, .fst 7, .fst 8, .fst 9] [.fst 10, .fst 11])]
def tb : List (List Nat × Spec) := []
theorem wp_eq (aa0 : Addr) (xa1 : Int) (w : World) (Q : Ending → World → Prop) :
    wp aa0 xa1 w Q = codeW Try.prog hT 20 D (tab tb) [] body (topQ Try.prog hT 20 [.tmp 4, .tmp 5] Q) (argsF [.pointer (some aa0), .int .i64 xa1]) w := by kernel_rfl
theorem ok (aa0 : Addr) (xa1 : Int) (w : World) (Q : Ending → World → Prop) (h : wp aa0 xa1 w Q) : Calls Try.prog 73 #[.pointer (some aa0), .int .i64 xa1] w Q := by
  rw [wp_eq] at h
  exact calls_of_codeW (c := body) (rs := [.tmp 4, .tmp 5]) Try.func73 (by kernel_rfl) (by kernel_rfl) (by kernel_rfl) (by kernel_rfl) (by kernel_rfl) (tab_snd (by
    intro x hx
    simp only [tb, List.not_mem_nil] at hx
    )) (by kernel_rfl) h
end f_euler_load_Size
namespace f_euler_load_pull
/-! (*skein/treap.Rope[skein/euler.load]).pull: function 75 -/
noncomputable def body : Code := (Try.f75.body).getD .skip
def j0 (at0 : Addr) (xt1 : Int) (at4 : Addr) (w : World) (Kn : World → Prop) : Prop :=
  ldI w (at4.add 1) .i64 fun x37 =>
  sel (decide (x37 > (0 : Int))) (
  drW w fun w38 =>
  ldI w38 (at4.add 4) .i64 fun x40 =>
  ldS w38 at0 fun A41 n41 c41 =>
  optB A41 fun a42 =>
  req (decide (0 ≤ x37 ∧ x37 < (n41 : Int))) <|
  ldI w38 ((a42.add (x37.toNat * 11)).add 4) .i64 fun x43 =>
  stW w38 (at4.add 4) (.int .i64 (IntKind.i64.wrap (x40 + x43))) fun w44 =>
  drW w44 fun w45 =>
  ∃ S46 : World → Prop, S46 w45 ∧ (
  hdI S46 (at4.add 8) .i64 fun x47 =>
  hdI S46 ((at4.add 8).add 1) .i64 fun x48 =>
  hdI S46 ((at4.add 8).add 2) .i64 fun x49 =>
  hdS S46 at0 fun A50 n50 c50 =>
  optB A50 fun a51 =>
  req (decide (0 ≤ x37 ∧ x37 < (n50 : Int))) <|
  hdI S46 ((a51.add (x37.toNat * 11)).add 8) .i64 fun x52 =>
  hdI S46 (((a51.add (x37.toNat * 11)).add 8).add 1) .i64 fun x53 =>
  hdI S46 (((a51.add (x37.toNat * 11)).add 8).add 2) .i64 fun x54 =>
  Calls Try.prog 116 #[.agg #[.int .i64 x47, .int .i64 x48, .int .i64 x49], .agg #[.int .i64 x52, .int .i64 x53, .int .i64 x54]] w45 fun e55 w56 => ∃ (x57_0 : Int) (x57_1 : Int) (x57_2 : Int), e55 = .returned (.agg #[.int .i64 x57_0, .int .i64 x57_1, .int .i64 x57_2]) ∧ (
  S46 w56 ∧ (
  stW w56 (at4.add 8) (.int .i64 x57_0) fun w58 =>
  stW w58 ((at4.add 8).add 1) (.int .i64 x57_1) fun w59 =>
  stW w59 ((at4.add 8).add 2) (.int .i64 x57_2) fun w60 =>
  ldS w60 at0 fun A61 n61 c61 =>
  optB A61 fun a62 =>
  req (decide (0 ≤ x37 ∧ x37 < (n61 : Int))) <|
  stW w60 ((a62.add (x37.toNat * 11)).add 2) (.int .i64 xt1) fun w63 =>
  Kn  w63)))) (
  Kn  w)
def wp (aa0 : Addr) (xa1 : Int) (w : World) (Q : Ending → World → Prop) : Prop :=
  ldS w aa0 fun A1 n1 c1 =>
  optB A1 fun a2 =>
  req (decide (0 ≤ xa1 ∧ xa1 < (n1 : Int))) <|
  ldI w ((a2.add (xa1.toNat * 11)).add 5) .i64 fun x3 =>
  ldI w (((a2.add (xa1.toNat * 11)).add 5).add 1) .i64 fun x4 =>
  ldI w (((a2.add (xa1.toNat * 11)).add 5).add 2) .i64 fun x5 =>
  stW w ((a2.add (xa1.toNat * 11)).add 4) (.int .i64 (1 : Int)) fun w6 =>
  stW w6 ((a2.add (xa1.toNat * 11)).add 8) (.int .i64 x3) fun w7 =>
  stW w7 (((a2.add (xa1.toNat * 11)).add 8).add 1) (.int .i64 x4) fun w8 =>
  stW w8 (((a2.add (xa1.toNat * 11)).add 8).add 2) (.int .i64 x5) fun w9 =>
  ldI w9 (a2.add (xa1.toNat * 11)) .i64 fun x10 =>
  sel (decide (x10 > (0 : Int))) (
  drW w9 fun w11 =>
  ldI w11 ((a2.add (xa1.toNat * 11)).add 4) .i64 fun x13 =>
  ldS w11 aa0 fun A14 n14 c14 =>
  optB A14 fun a15 =>
  req (decide (0 ≤ x10 ∧ x10 < (n14 : Int))) <|
  ldI w11 ((a15.add (x10.toNat * 11)).add 4) .i64 fun x16 =>
  stW w11 ((a2.add (xa1.toNat * 11)).add 4) (.int .i64 (IntKind.i64.wrap (x13 + x16))) fun w17 =>
  drW w17 fun w18 =>
  ∃ S19 : World → Prop, S19 w18 ∧ (
  hdS S19 aa0 fun A20 n20 c20 =>
  optB A20 fun a21 =>
  req (decide (0 ≤ x10 ∧ x10 < (n20 : Int))) <|
  hdI S19 ((a21.add (x10.toNat * 11)).add 8) .i64 fun x22 =>
  hdI S19 (((a21.add (x10.toNat * 11)).add 8).add 1) .i64 fun x23 =>
  hdI S19 (((a21.add (x10.toNat * 11)).add 8).add 2) .i64 fun x24 =>
  hdI S19 ((a2.add (xa1.toNat * 11)).add 8) .i64 fun x25 =>
  hdI S19 (((a2.add (xa1.toNat * 11)).add 8).add 1) .i64 fun x26 =>
  hdI S19 (((a2.add (xa1.toNat * 11)).add 8).add 2) .i64 fun x27 =>
  Calls Try.prog 116 #[.agg #[.int .i64 x22, .int .i64 x23, .int .i64 x24], .agg #[.int .i64 x25, .int .i64 x26, .int .i64 x27]] w18 fun e28 w29 => ∃ (x30_0 : Int) (x30_1 : Int) (x30_2 : Int), e28 = .returned (.agg #[.int .i64 x30_0, .int .i64 x30_1, .int .i64 x30_2]) ∧ (
  S19 w29 ∧ (
  stW w29 ((a2.add (xa1.toNat * 11)).add 8) (.int .i64 x30_0) fun w31 =>
  stW w31 (((a2.add (xa1.toNat * 11)).add 8).add 1) (.int .i64 x30_1) fun w32 =>
  stW w32 (((a2.add (xa1.toNat * 11)).add 8).add 2) (.int .i64 x30_2) fun w33 =>
  ldS w33 aa0 fun A34 n34 c34 =>
  optB A34 fun a35 =>
  req (decide (0 ≤ x10 ∧ x10 < (n34 : Int))) <|
  stW w33 ((a35.add (x10.toNat * 11)).add 2) (.int .i64 xa1) fun w36 =>
  j0 aa0 xa1 (a2.add (xa1.toNat * 11)) w36 (fun (w64 : World) => ∀ _ : Fr,
  Q (.returned (.tuple #[])) w64))))) (
  j0 aa0 xa1 (a2.add (xa1.toNat * 11)) w9 (fun (w65 : World) => ∀ _ : Fr,
  Q (.returned (.tuple #[])) w65))
def D : Nat → Option DH := dtab [(4, .simple [.fst 0, .fst 1, .fst 2, .fst 3, .fst 4, .fst 5, .fst 6, .fst 7, .fst 8, .fst 9, .fst 10, .fst 11] [.fst 12, .fst 13, .fst 14, .eff 15]), (5, .held [.fst 0, .fst 1, .fst 2, .fst 3, .fst 4, .fst 5, .fst 6, .fst 7, .fst 8, .fst 9, .fst 10, .fst 11, .fst 12, .fst 13, .eff 14] [.fst 15, .fst 16, .eff 17]), (9, .simple [.fst 0, .fst 1, .fst 2, .fst 3, .fst 4, .fst 5, .fst 6, .fst 7, .fst 8, .fst 9, .fst 10, .fst 11] [.fst 12, .fst 13, .fst 14, .eff 15]), (10, .held [.fst 0, .fst 1, .fst 2, .fst 3, .fst 4, .fst 5, .fst 6, .fst 7, .fst 8, .fst 9, .fst 10, .fst 11, .fst 12, .fst 13, .eff 14] [.fst 15, .fst 16, .eff 17])]
def j0LO : LO := ⟨[], [], [], []⟩
def j0T : Spec := fun Q σ w =>
  gAd (σ 0) fun at0 =>
  gInt .i64 (σ 1) fun xt1 =>
  gAd (σ 4) fun at4 =>
  j0 at0 xt1 at4 w (fun (w : World) => ∀ d : Fr, Q .normal (ov d []) w)
def j0tb : List (List Nat × Spec) := []
noncomputable def j0b : Code := (subC [1, 1, 1] body).getD .skip
theorem j0_eq (at0 : Addr) (xt1 : Int) (at4 : Addr) (Q : PQ) (σ : Fr) (w : World) :
    j0 at0 xt1 at4 w (fun (w : World) => ∀ d : Fr, Q .normal (ov d []) w) = codeW Try.prog hT 115 D (tab j0tb) [1, 1, 1] j0b (widen j0LO Q) (ov σ [(0, .pointer (some at0)), (1, .int .i64 xt1), (4, .pointer (some at4))]) w := by kernel_rfl
theorem j0_snd : ∀ c, subC [1, 1, 1] body = some c → Snd Try.prog 115 c j0T := by
  refine cut_of (hT := hT) (D := D) (l := j0tb) (b := j0b) (lo := j0LO) (by kernel_rfl) (by
    intro x hx
    simp only [j0tb, List.not_mem_nil] at hx
    ) (by kernel_rfl) (by kernel_rfl) ?_
  intro Q σ w h
  unfold j0T at h
  obtain ⟨at0, h0, hn⟩ := gAd_elim h
  clear h
  have h := hn
  clear hn
  obtain ⟨xt1, h1, hn⟩ := gInt_elim h
  clear h
  have h := hn
  clear hn
  obtain ⟨at4, h4, hn⟩ := gAd_elim h
  clear h
  have h := hn
  clear hn
  rw [j0_eq (σ := σ)] at h
  have e : (ov σ [(0, .pointer (some at0)), (1, .int .i64 xt1), (4, .pointer (some at4))]) = σ := ov_self (by simp [h0, h1, h4])
  rw [e] at h
  exact h
def tb : List (List Nat × Spec) := [([1, 1, 1], j0T)]
theorem wp_eq (aa0 : Addr) (xa1 : Int) (w : World) (Q : Ending → World → Prop) :
    wp aa0 xa1 w Q = codeW Try.prog hT 115 D (tab tb) [] body (topQ Try.prog hT 115 [] Q) (argsF [.pointer (some aa0), .int .i64 xa1]) w := by kernel_rfl
theorem ok (aa0 : Addr) (xa1 : Int) (w : World) (Q : Ending → World → Prop) (h : wp aa0 xa1 w Q) : Calls Try.prog 75 #[.pointer (some aa0), .int .i64 xa1] w Q := by
  rw [wp_eq] at h
  exact calls_of_codeW (c := body) (rs := []) Try.func75 (by kernel_rfl) (by kernel_rfl) (by kernel_rfl) (by kernel_rfl) (by kernel_rfl) (tab_snd (by
    intro x hx
    simp only [tb, List.mem_cons, List.not_mem_nil, or_false] at hx
    subst hx
    exact j0_snd)) (by kernel_rfl) h
end f_euler_load_pull
namespace f_euler_load_Seek_E
/-! (*skein/treap.Rope[skein/euler.load]).Seek: function 76 -/
noncomputable def body : Code := (Try.f76.body).getD .skip
def l0 : Nat → Addr → Int → World → (Int → Int → World → Prop) → Prop
  | 0, _, _, _, _ => False
  | k + 1, at0, xt8, w, Kr =>
    ldS w at0 fun A17 n17 c17 =>
    optB A17 fun a18 =>
    req (decide (0 ≤ xt8 ∧ xt8 < (n17 : Int))) <|
    ldI w (a18.add (xt8.toNat * 11)) .i64 fun x19 =>
    ldI w ((a18.add (xt8.toNat * 11)).add 1) .i64 fun x20 =>
    ldI w ((a18.add (xt8.toNat * 11)).add 2) .i64 fun x21 =>
    ldI w ((a18.add (xt8.toNat * 11)).add 3) .u64 fun x22 =>
    ldI w ((a18.add (xt8.toNat * 11)).add 4) .i64 fun x23 =>
    ldI w ((a18.add (xt8.toNat * 11)).add 5) .i64 fun x24 =>
    ldI w ((a18.add (xt8.toNat * 11)).add 6) .i64 fun x25 =>
    ldI w ((a18.add (xt8.toNat * 11)).add 7) .i64 fun x26 =>
    ldI w ((a18.add (xt8.toNat * 11)).add 8) .i64 fun x27 =>
    ldI w ((a18.add (xt8.toNat * 11)).add 9) .i64 fun x28 =>
    ldI w ((a18.add (xt8.toNat * 11)).add 10) .i64 fun x29 =>
    alW w (.cells #[.int .i64 (0 : Int), .int .i64 (0 : Int), .int .i64 (0 : Int), .int .u64 (0 : Int), .int .i64 (0 : Int), .int .i64 (0 : Int), .int .i64 (0 : Int), .int .i64 (0 : Int), .int .i64 (0 : Int), .int .i64 (0 : Int), .int .i64 (0 : Int)] 112) fun B30 w31 =>
    stW w31 (⟨B30, 0, Option.none⟩ : Addr) (.int .i64 x19) fun w32 =>
    stW w32 ((⟨B30, 0, Option.none⟩ : Addr).add 1) (.int .i64 x20) fun w33 =>
    stW w33 ((⟨B30, 0, Option.none⟩ : Addr).add 2) (.int .i64 x21) fun w34 =>
    stW w34 ((⟨B30, 0, Option.none⟩ : Addr).add 3) (.int .u64 x22) fun w35 =>
    stW w35 ((⟨B30, 0, Option.none⟩ : Addr).add 4) (.int .i64 x23) fun w36 =>
    stW w36 ((⟨B30, 0, Option.none⟩ : Addr).add 5) (.int .i64 x24) fun w37 =>
    stW w37 ((⟨B30, 0, Option.none⟩ : Addr).add 6) (.int .i64 x25) fun w38 =>
    stW w38 ((⟨B30, 0, Option.none⟩ : Addr).add 7) (.int .i64 x26) fun w39 =>
    stW w39 ((⟨B30, 0, Option.none⟩ : Addr).add 8) (.int .i64 x27) fun w40 =>
    stW w40 ((⟨B30, 0, Option.none⟩ : Addr).add 9) (.int .i64 x28) fun w41 =>
    stW w41 ((⟨B30, 0, Option.none⟩ : Addr).add 10) (.int .i64 x29) fun w42 =>
    drW w42 fun w43 =>
    ldI w43 (⟨B30, 0, Option.none⟩ : Addr) .i64 fun x45 =>
    sel (decide (x45 > (0 : Int))) (
    ldS w43 at0 fun A46 n46 c46 =>
    ldI w43 (⟨B30, 0, Option.none⟩ : Addr) .i64 fun x47 =>
    optB A46 fun a48 =>
    req (decide (0 ≤ x47 ∧ x47 < (n46 : Int))) <|
    ldI w43 ((a48.add (x47.toNat * 11)).add 8) .i64 fun x49 =>
    ldI w43 (((a48.add (x47.toNat * 11)).add 8).add 1) .i64 fun x50 =>
    ldI w43 (((a48.add (x47.toNat * 11)).add 8).add 2) .i64 fun x51 =>
    Calls Try.prog 58 #[.agg #[.int .i64 x49, .int .i64 x50, .int .i64 x51]] w43 fun e52 w53 => ∃ (b54 : Bool), e52 = .returned (.bool b54) ∧ (
    sel b54 (
    ldI w53 (⟨B30, 0, Option.none⟩ : Addr) .i64 fun x55 =>
    l0 k at0 x55 w53 Kr) (
    ldI w53 ((⟨B30, 0, Option.none⟩ : Addr).add 5) .i64 fun x56 =>
    ldI w53 (((⟨B30, 0, Option.none⟩ : Addr).add 5).add 1) .i64 fun x57 =>
    ldI w53 (((⟨B30, 0, Option.none⟩ : Addr).add 5).add 2) .i64 fun x58 =>
    Calls Try.prog 58 #[.agg #[.int .i64 x56, .int .i64 x57, .int .i64 x58]] w53 fun e59 w60 => ∃ (b61 : Bool), e59 = .returned (.bool b61) ∧ (
    sel b61 (
    Kr xt8 (0 : Int) w60) (
    ldI w60 ((⟨B30, 0, Option.none⟩ : Addr).add 1) .i64 fun x62 =>
    sel (x62 == (0 : Int)) (
    Kr xt8 (0 : Int) w60) (
    ldI w60 ((⟨B30, 0, Option.none⟩ : Addr).add 1) .i64 fun x63 =>
    l0 k at0 x63 w60 Kr)))))) (
    ldI w43 ((⟨B30, 0, Option.none⟩ : Addr).add 5) .i64 fun x64 =>
    ldI w43 (((⟨B30, 0, Option.none⟩ : Addr).add 5).add 1) .i64 fun x65 =>
    ldI w43 (((⟨B30, 0, Option.none⟩ : Addr).add 5).add 2) .i64 fun x66 =>
    Calls Try.prog 58 #[.agg #[.int .i64 x64, .int .i64 x65, .int .i64 x66]] w43 fun e67 w68 => ∃ (b69 : Bool), e67 = .returned (.bool b69) ∧ (
    sel b69 (
    Kr xt8 (0 : Int) w68) (
    ldI w68 ((⟨B30, 0, Option.none⟩ : Addr).add 1) .i64 fun x70 =>
    sel (x70 == (0 : Int)) (
    Kr xt8 (0 : Int) w68) (
    ldI w68 ((⟨B30, 0, Option.none⟩ : Addr).add 1) .i64 fun x71 =>
    l0 k at0 x71 w68 Kr))))
def wp (aa0 : Addr) (xa1 : Int) (w : World) (Q : Ending → World → Prop) : Prop :=
  alW w (.cells #[.int .i64 xa1] 3) fun B1 w2 =>
  Calls Try.prog 65 #[.pointer (some aa0), .slice (some (⟨B1, 0, Option.none⟩ : Addr)) 1 1] w2 fun e3 w4 => ∃ (b5 : Bool), e3 = .returned (.bool b5) ∧ (
  sel b5 (
  Q (.returned (.tuple #[.int .i64 (0 : Int), .int .i64 (150 : Int)])) w4) (
  Calls Try.prog 66 #[.pointer (some aa0), .int .i64 xa1] w4 fun e6 w7 => ∃ (x8 : Int), e6 = .returned (.int .i64 x8) ∧ (
  ldS w7 aa0 fun A9 n9 c9 =>
  optB A9 fun a10 =>
  req (decide (0 ≤ x8 ∧ x8 < (n9 : Int))) <|
  ldI w7 ((a10.add (x8.toNat * 11)).add 8) .i64 fun x11 =>
  ldI w7 (((a10.add (x8.toNat * 11)).add 8).add 1) .i64 fun x12 =>
  ldI w7 (((a10.add (x8.toNat * 11)).add 8).add 2) .i64 fun x13 =>
  Calls Try.prog 58 #[.agg #[.int .i64 x11, .int .i64 x12, .int .i64 x13]] w7 fun e14 w15 => ∃ (b16 : Bool), e14 = .returned (.bool b16) ∧ (
  sel (!b16) (
  Q (.returned (.tuple #[.int .i64 (0 : Int), .int .i64 (0 : Int)])) w15) (
  ∃ k75 : Nat, l0 k75 aa0 x8 w15 (fun (x72 : Int) (x73 : Int) (w74 : World) => ∀ _ : Fr,
  Q (.returned (.tuple #[.int .i64 x72, .int .i64 x73])) w74))))))
def D : Nat → Option DH := dtab [(8, .simple [.fst 0, .fst 1, .fst 2, .fst 3, .fst 4, .fst 5, .fst 6, .fst 7, .fst 8, .fst 9, .fst 10, .fst 11, .fst 12, .fst 13] [.eff 14, .fst 15, .fst 16])]
def l0LO : LO := ⟨[], [6, 7], [], []⟩
def l0Tk (k : Nat) : Spec := fun Q σ w =>
  gAd (σ 0) fun at0 =>
  gFn (σ 2) 58 <|
  gInt .i64 (σ 8) fun xt8 =>
  l0 k at0 xt8 w (fun (xq6 : Int) (xq7 : Int) (w : World) => ∀ d : Fr, Q .ret (ov d [(6, .int .i64 xq6), (7, .int .i64 xq7)]) w)
def l0T : Spec := fun Q σ w => ∃ k, l0Tk k Q σ w
def l0tb : List (List Nat × Spec) := []
noncomputable def l0b : Code := (subC [0, 0, 1, 1, 1, 1] body).getD .skip
theorem l0_eq (k : Nat) (at0 : Addr) (xt8 : Int) (Q : PQ) (σ : Fr) (w : World) :
    l0 (k + 1) at0 xt8 w (fun (xq6 : Int) (xq7 : Int) (w : World) => ∀ d : Fr, Q .ret (ov d [(6, .int .i64 xq6), (7, .int .i64 xq7)]) w) = codeW Try.prog hT 67 D (tab l0tb) [0, 0, 1, 1, 1, 1] l0b (thenQ (l0Tk k Q) (widen l0LO Q)) (ov σ [(0, .pointer (some at0)), (2, .func (.func 58) #[] #[]), (8, .int .i64 xt8)]) w := by kernel_rfl
theorem l0_snd : ∀ c, subC [0, 1, 1, 1, 1] body = some c → Snd Try.prog 67 c l0T := by
  refine loop_of (hT := hT) (D := D) (l := l0tb) (b := l0b) (lo := l0LO) (by kernel_rfl) (by
    intro x hx
    simp only [l0tb, List.not_mem_nil] at hx
    ) (by kernel_rfl) (by kernel_rfl) ?_ ?_
  · intro Q σ w h
    unfold l0Tk at h
    obtain ⟨at0, h0, hn⟩ := gAd_elim h
    clear h
    have h := hn
    clear hn
    obtain ⟨h2, hn⟩ := gFn_elim h
    clear h
    have h := hn
    clear hn
    obtain ⟨xt8, h8, hn⟩ := gInt_elim h
    clear h
    have h := hn
    clear hn
    exact h
  · intro k Q σ w h
    unfold l0Tk at h
    obtain ⟨at0, h0, hn⟩ := gAd_elim h
    clear h
    have h := hn
    clear hn
    obtain ⟨h2, hn⟩ := gFn_elim h
    clear h
    have h := hn
    clear hn
    obtain ⟨xt8, h8, hn⟩ := gInt_elim h
    clear h
    have h := hn
    clear hn
    rw [l0_eq (σ := σ)] at h
    have e : (ov σ [(0, .pointer (some at0)), (2, .func (.func 58) #[] #[]), (8, .int .i64 xt8)]) = σ := ov_self (by simp [h0, h2, h8])
    rw [e] at h
    exact h
def tb : List (List Nat × Spec) := [([0, 1, 1, 1, 1], l0T)]
theorem wp_eq (aa0 : Addr) (xa1 : Int) (w : World) (Q : Ending → World → Prop) :
    wp aa0 xa1 w Q = codeW Try.prog hT 67 D (tab tb) [] body (topQ Try.prog hT 67 [.tmp 6, .tmp 7] Q) (argsF [.pointer (some aa0), .int .i64 xa1, .func (.func 58) #[] #[]]) w := by kernel_rfl
theorem ok (aa0 : Addr) (xa1 : Int) (w : World) (Q : Ending → World → Prop) (h : wp aa0 xa1 w Q) : Calls Try.prog 76 #[.pointer (some aa0), .int .i64 xa1, .func (.func 58) #[] #[]] w Q := by
  rw [wp_eq] at h
  exact calls_of_codeW (c := body) (rs := [.tmp 6, .tmp 7]) Try.func76 (by kernel_rfl) (by kernel_rfl) (by kernel_rfl) (by kernel_rfl) (by kernel_rfl) (tab_snd (by
    intro x hx
    simp only [tb, List.mem_cons, List.not_mem_nil, or_false] at hx
    subst hx
    exact l0_snd)) (by kernel_rfl) h
end f_euler_load_Seek_E
namespace f_euler_load_Seek_V
/-! (*skein/treap.Rope[skein/euler.load]).Seek: function 76 -/
noncomputable def body : Code := (Try.f76.body).getD .skip
def l0 : Nat → Addr → Int → World → (Int → Int → World → Prop) → Prop
  | 0, _, _, _, _ => False
  | k + 1, at0, xt8, w, Kr =>
    ldS w at0 fun A17 n17 c17 =>
    optB A17 fun a18 =>
    req (decide (0 ≤ xt8 ∧ xt8 < (n17 : Int))) <|
    ldI w (a18.add (xt8.toNat * 11)) .i64 fun x19 =>
    ldI w ((a18.add (xt8.toNat * 11)).add 1) .i64 fun x20 =>
    ldI w ((a18.add (xt8.toNat * 11)).add 2) .i64 fun x21 =>
    ldI w ((a18.add (xt8.toNat * 11)).add 3) .u64 fun x22 =>
    ldI w ((a18.add (xt8.toNat * 11)).add 4) .i64 fun x23 =>
    ldI w ((a18.add (xt8.toNat * 11)).add 5) .i64 fun x24 =>
    ldI w ((a18.add (xt8.toNat * 11)).add 6) .i64 fun x25 =>
    ldI w ((a18.add (xt8.toNat * 11)).add 7) .i64 fun x26 =>
    ldI w ((a18.add (xt8.toNat * 11)).add 8) .i64 fun x27 =>
    ldI w ((a18.add (xt8.toNat * 11)).add 9) .i64 fun x28 =>
    ldI w ((a18.add (xt8.toNat * 11)).add 10) .i64 fun x29 =>
    alW w (.cells #[.int .i64 (0 : Int), .int .i64 (0 : Int), .int .i64 (0 : Int), .int .u64 (0 : Int), .int .i64 (0 : Int), .int .i64 (0 : Int), .int .i64 (0 : Int), .int .i64 (0 : Int), .int .i64 (0 : Int), .int .i64 (0 : Int), .int .i64 (0 : Int)] 112) fun B30 w31 =>
    stW w31 (⟨B30, 0, Option.none⟩ : Addr) (.int .i64 x19) fun w32 =>
    stW w32 ((⟨B30, 0, Option.none⟩ : Addr).add 1) (.int .i64 x20) fun w33 =>
    stW w33 ((⟨B30, 0, Option.none⟩ : Addr).add 2) (.int .i64 x21) fun w34 =>
    stW w34 ((⟨B30, 0, Option.none⟩ : Addr).add 3) (.int .u64 x22) fun w35 =>
    stW w35 ((⟨B30, 0, Option.none⟩ : Addr).add 4) (.int .i64 x23) fun w36 =>
    stW w36 ((⟨B30, 0, Option.none⟩ : Addr).add 5) (.int .i64 x24) fun w37 =>
    stW w37 ((⟨B30, 0, Option.none⟩ : Addr).add 6) (.int .i64 x25) fun w38 =>
    stW w38 ((⟨B30, 0, Option.none⟩ : Addr).add 7) (.int .i64 x26) fun w39 =>
    stW w39 ((⟨B30, 0, Option.none⟩ : Addr).add 8) (.int .i64 x27) fun w40 =>
    stW w40 ((⟨B30, 0, Option.none⟩ : Addr).add 9) (.int .i64 x28) fun w41 =>
    stW w41 ((⟨B30, 0, Option.none⟩ : Addr).add 10) (.int .i64 x29) fun w42 =>
    drW w42 fun w43 =>
    ldI w43 (⟨B30, 0, Option.none⟩ : Addr) .i64 fun x45 =>
    sel (decide (x45 > (0 : Int))) (
    ldS w43 at0 fun A46 n46 c46 =>
    ldI w43 (⟨B30, 0, Option.none⟩ : Addr) .i64 fun x47 =>
    optB A46 fun a48 =>
    req (decide (0 ≤ x47 ∧ x47 < (n46 : Int))) <|
    ldI w43 ((a48.add (x47.toNat * 11)).add 8) .i64 fun x49 =>
    ldI w43 (((a48.add (x47.toNat * 11)).add 8).add 1) .i64 fun x50 =>
    ldI w43 (((a48.add (x47.toNat * 11)).add 8).add 2) .i64 fun x51 =>
    Calls Try.prog 59 #[.agg #[.int .i64 x49, .int .i64 x50, .int .i64 x51]] w43 fun e52 w53 => ∃ (b54 : Bool), e52 = .returned (.bool b54) ∧ (
    sel b54 (
    ldI w53 (⟨B30, 0, Option.none⟩ : Addr) .i64 fun x55 =>
    l0 k at0 x55 w53 Kr) (
    ldI w53 ((⟨B30, 0, Option.none⟩ : Addr).add 5) .i64 fun x56 =>
    ldI w53 (((⟨B30, 0, Option.none⟩ : Addr).add 5).add 1) .i64 fun x57 =>
    ldI w53 (((⟨B30, 0, Option.none⟩ : Addr).add 5).add 2) .i64 fun x58 =>
    Calls Try.prog 59 #[.agg #[.int .i64 x56, .int .i64 x57, .int .i64 x58]] w53 fun e59 w60 => ∃ (b61 : Bool), e59 = .returned (.bool b61) ∧ (
    sel b61 (
    Kr xt8 (0 : Int) w60) (
    ldI w60 ((⟨B30, 0, Option.none⟩ : Addr).add 1) .i64 fun x62 =>
    sel (x62 == (0 : Int)) (
    Kr xt8 (0 : Int) w60) (
    ldI w60 ((⟨B30, 0, Option.none⟩ : Addr).add 1) .i64 fun x63 =>
    l0 k at0 x63 w60 Kr)))))) (
    ldI w43 ((⟨B30, 0, Option.none⟩ : Addr).add 5) .i64 fun x64 =>
    ldI w43 (((⟨B30, 0, Option.none⟩ : Addr).add 5).add 1) .i64 fun x65 =>
    ldI w43 (((⟨B30, 0, Option.none⟩ : Addr).add 5).add 2) .i64 fun x66 =>
    Calls Try.prog 59 #[.agg #[.int .i64 x64, .int .i64 x65, .int .i64 x66]] w43 fun e67 w68 => ∃ (b69 : Bool), e67 = .returned (.bool b69) ∧ (
    sel b69 (
    Kr xt8 (0 : Int) w68) (
    ldI w68 ((⟨B30, 0, Option.none⟩ : Addr).add 1) .i64 fun x70 =>
    sel (x70 == (0 : Int)) (
    Kr xt8 (0 : Int) w68) (
    ldI w68 ((⟨B30, 0, Option.none⟩ : Addr).add 1) .i64 fun x71 =>
    l0 k at0 x71 w68 Kr))))
def wp (aa0 : Addr) (xa1 : Int) (w : World) (Q : Ending → World → Prop) : Prop :=
  alW w (.cells #[.int .i64 xa1] 3) fun B1 w2 =>
  Calls Try.prog 65 #[.pointer (some aa0), .slice (some (⟨B1, 0, Option.none⟩ : Addr)) 1 1] w2 fun e3 w4 => ∃ (b5 : Bool), e3 = .returned (.bool b5) ∧ (
  sel b5 (
  Q (.returned (.tuple #[.int .i64 (0 : Int), .int .i64 (150 : Int)])) w4) (
  Calls Try.prog 66 #[.pointer (some aa0), .int .i64 xa1] w4 fun e6 w7 => ∃ (x8 : Int), e6 = .returned (.int .i64 x8) ∧ (
  ldS w7 aa0 fun A9 n9 c9 =>
  optB A9 fun a10 =>
  req (decide (0 ≤ x8 ∧ x8 < (n9 : Int))) <|
  ldI w7 ((a10.add (x8.toNat * 11)).add 8) .i64 fun x11 =>
  ldI w7 (((a10.add (x8.toNat * 11)).add 8).add 1) .i64 fun x12 =>
  ldI w7 (((a10.add (x8.toNat * 11)).add 8).add 2) .i64 fun x13 =>
  Calls Try.prog 59 #[.agg #[.int .i64 x11, .int .i64 x12, .int .i64 x13]] w7 fun e14 w15 => ∃ (b16 : Bool), e14 = .returned (.bool b16) ∧ (
  sel (!b16) (
  Q (.returned (.tuple #[.int .i64 (0 : Int), .int .i64 (0 : Int)])) w15) (
  ∃ k75 : Nat, l0 k75 aa0 x8 w15 (fun (x72 : Int) (x73 : Int) (w74 : World) => ∀ _ : Fr,
  Q (.returned (.tuple #[.int .i64 x72, .int .i64 x73])) w74))))))
def D : Nat → Option DH := dtab [(8, .simple [.fst 0, .fst 1, .fst 2, .fst 3, .fst 4, .fst 5, .fst 6, .fst 7, .fst 8, .fst 9, .fst 10, .fst 11, .fst 12, .fst 13] [.eff 14, .fst 15, .fst 16])]
def l0LO : LO := ⟨[], [6, 7], [], []⟩
def l0Tk (k : Nat) : Spec := fun Q σ w =>
  gAd (σ 0) fun at0 =>
  gFn (σ 2) 59 <|
  gInt .i64 (σ 8) fun xt8 =>
  l0 k at0 xt8 w (fun (xq6 : Int) (xq7 : Int) (w : World) => ∀ d : Fr, Q .ret (ov d [(6, .int .i64 xq6), (7, .int .i64 xq7)]) w)
def l0T : Spec := fun Q σ w => ∃ k, l0Tk k Q σ w
def l0tb : List (List Nat × Spec) := []
noncomputable def l0b : Code := (subC [0, 0, 1, 1, 1, 1] body).getD .skip
theorem l0_eq (k : Nat) (at0 : Addr) (xt8 : Int) (Q : PQ) (σ : Fr) (w : World) :
    l0 (k + 1) at0 xt8 w (fun (xq6 : Int) (xq7 : Int) (w : World) => ∀ d : Fr, Q .ret (ov d [(6, .int .i64 xq6), (7, .int .i64 xq7)]) w) = codeW Try.prog hT 67 D (tab l0tb) [0, 0, 1, 1, 1, 1] l0b (thenQ (l0Tk k Q) (widen l0LO Q)) (ov σ [(0, .pointer (some at0)), (2, .func (.func 59) #[] #[]), (8, .int .i64 xt8)]) w := by kernel_rfl
theorem l0_snd : ∀ c, subC [0, 1, 1, 1, 1] body = some c → Snd Try.prog 67 c l0T := by
  refine loop_of (hT := hT) (D := D) (l := l0tb) (b := l0b) (lo := l0LO) (by kernel_rfl) (by
    intro x hx
    simp only [l0tb, List.not_mem_nil] at hx
    ) (by kernel_rfl) (by kernel_rfl) ?_ ?_
  · intro Q σ w h
    unfold l0Tk at h
    obtain ⟨at0, h0, hn⟩ := gAd_elim h
    clear h
    have h := hn
    clear hn
    obtain ⟨h2, hn⟩ := gFn_elim h
    clear h
    have h := hn
    clear hn
    obtain ⟨xt8, h8, hn⟩ := gInt_elim h
    clear h
    have h := hn
    clear hn
    exact h
  · intro k Q σ w h
    unfold l0Tk at h
    obtain ⟨at0, h0, hn⟩ := gAd_elim h
    clear h
    have h := hn
    clear hn
    obtain ⟨h2, hn⟩ := gFn_elim h
    clear h
    have h := hn
    clear hn
    obtain ⟨xt8, h8, hn⟩ := gInt_elim h
    clear h
    have h := hn
    clear hn
    rw [l0_eq (σ := σ)] at h
    have e : (ov σ [(0, .pointer (some at0)), (2, .func (.func 59) #[] #[]), (8, .int .i64 xt8)]) = σ := ov_self (by simp [h0, h2, h8])
    rw [e] at h
    exact h
def tb : List (List Nat × Spec) := [([0, 1, 1, 1, 1], l0T)]
theorem wp_eq (aa0 : Addr) (xa1 : Int) (w : World) (Q : Ending → World → Prop) :
    wp aa0 xa1 w Q = codeW Try.prog hT 67 D (tab tb) [] body (topQ Try.prog hT 67 [.tmp 6, .tmp 7] Q) (argsF [.pointer (some aa0), .int .i64 xa1, .func (.func 59) #[] #[]]) w := by kernel_rfl
theorem ok (aa0 : Addr) (xa1 : Int) (w : World) (Q : Ending → World → Prop) (h : wp aa0 xa1 w Q) : Calls Try.prog 76 #[.pointer (some aa0), .int .i64 xa1, .func (.func 59) #[] #[]] w Q := by
  rw [wp_eq] at h
  exact calls_of_codeW (c := body) (rs := [.tmp 6, .tmp 7]) Try.func76 (by kernel_rfl) (by kernel_rfl) (by kernel_rfl) (by kernel_rfl) (by kernel_rfl) (tab_snd (by
    intro x hx
    simp only [tb, List.mem_cons, List.not_mem_nil, or_false] at hx
    subst hx
    exact l0_snd)) (by kernel_rfl) h
end f_euler_load_Seek_V
namespace f_euler_load_walk
/-! (*skein/treap.Rope[skein/euler.load]).walk: function 77 -/
noncomputable def body : Code := (Try.f77.body).getD .skip
def od3 : OD := ⟨[0, 1, 2], [4, 6, 8, 13, 15, 17, 19, 21, 22, 23], fun i => ([⟨false, [], [], fun ps vs => match ps, vs with | [.pointer (some ap0), .int _ xp1, .slice Ap2 np2 cp2], [] => .pointer (some ap0) | _, _ => undef⟩,
  ⟨false, [], [], fun ps vs => match ps, vs with | [.pointer (some ap0), .int _ xp1, .slice Ap2 np2 cp2], [] => .pointer (some ap0) | _, _ => undef⟩,
  ⟨false, [], [1], fun ps vs => match ps, vs with | [.pointer (some ap0), .int _ xp1, .slice Ap2 np2 cp2], [] => .pointer (some ap0) | _, _ => undef⟩,
  ⟨false, [], [2], fun ps vs => match ps, vs with | [.pointer (some ap0), .int _ xp1, .slice Ap2 np2 cp2], [] => .pointer (some ap0) | _, _ => undef⟩,
  ⟨true, [], [3], fun _ _ => undef⟩,
  ⟨false, [], [], fun ps vs => match ps, vs with | [.pointer (some ap0), .int _ xp1, .slice Ap2 np2 cp2], [] => .int .i64 xp1 | _, _ => undef⟩,
  ⟨true, [4], [4, 5], fun _ _ => undef⟩,
  ⟨false, [4, 6], [6], fun ps vs => match ps, vs with | [.pointer (some ap0), .int _ xp1, .slice Ap2 np2 cp2], [.slice Ae4 ne4 ce4, .pointer (some ae6)] => .pointer (some (ae6.add 1)) | _, _ => undef⟩,
  ⟨true, [4, 6], [7], fun _ _ => undef⟩,
  ⟨false, [], [], fun ps vs => match ps, vs with | [.pointer (some ap0), .int _ xp1, .slice Ap2 np2 cp2], [] => .pointer (some ap0) | _, _ => undef⟩,
  ⟨false, [], [], fun ps vs => match ps, vs with | [.pointer (some ap0), .int _ xp1, .slice Ap2 np2 cp2], [] => .pointer (some ap0) | _, _ => undef⟩,
  ⟨false, [], [10], fun ps vs => match ps, vs with | [.pointer (some ap0), .int _ xp1, .slice Ap2 np2 cp2], [] => .pointer (some ap0) | _, _ => undef⟩,
  ⟨false, [], [11], fun ps vs => match ps, vs with | [.pointer (some ap0), .int _ xp1, .slice Ap2 np2 cp2], [] => .pointer (some ap0) | _, _ => undef⟩,
  ⟨true, [], [12], fun _ _ => undef⟩,
  ⟨false, [], [], fun ps vs => match ps, vs with | [.pointer (some ap0), .int _ xp1, .slice Ap2 np2 cp2], [] => .int .i64 xp1 | _, _ => undef⟩,
  ⟨true, [13], [13, 14], fun _ _ => undef⟩,
  ⟨false, [13, 15], [15], fun ps vs => match ps, vs with | [.pointer (some ap0), .int _ xp1, .slice Ap2 np2 cp2], [.slice Ae13 ne13 ce13, .pointer (some ae15)] => .pointer (some ae15) | _, _ => undef⟩,
  ⟨true, [13, 15], [16], fun _ _ => undef⟩,
  ⟨false, [], [], fun ps vs => match ps, vs with | [.pointer (some ap0), .int _ xp1, .slice Ap2 np2 cp2], [] => .slice Ap2 np2 cp2 | _, _ => undef⟩,
  ⟨true, [13, 15, 17], [9, 17, 18], fun _ _ => undef⟩,
  ⟨false, [], [], fun ps vs => match ps, vs with | [.pointer (some ap0), .int _ xp1, .slice Ap2 np2 cp2], [] => .int .i64 xp1 | _, _ => undef⟩,
  ⟨true, [], [20], fun _ _ => undef⟩,
  ⟨true, [13, 15, 17, 19, 21], [19, 21], fun _ _ => undef⟩,
  ⟨true, [4, 6, 8, 13, 15, 17, 19, 21, 22], [0, 8, 22], fun _ _ => undef⟩,
  ⟨false, [4, 6, 8, 13, 15, 17, 19, 21, 22, 23], [23], fun ps vs => match ps, vs with | [.pointer (some ap0), .int _ xp1, .slice Ap2 np2 cp2], [.slice Ae4 ne4 ce4, .pointer (some ae6), .int _ xe8, .slice Ae13 ne13 ce13, .pointer (some ae15), .int _ xe17, .slice Ae19 ne19 ce19, .slice Ae21 ne21 ce21, .slice Ae22 ne22 ce22, .slice Ae23 ne23 ce23] => .slice Ae23 ne23 ce23 | _, _ => undef⟩] : List OI).getD i ⟨true, [], [], fun _ _ => undef⟩, fun i => ([.one (.sc .any), .one (.sc .any), .one (.sc .any), .one (.sc .any), (.one (.sc .slice)), .one (.sc .any), (.one (.sc .ad)), .one (.sc .any), (.one (.sc (.int .i64))), .one (.sc .any), .one (.sc .any), .one (.sc .any), .one (.sc .any), (.one (.sc .slice)), .one (.sc .any), (.one (.sc .ad)), .one (.sc .any), (.one (.sc (.int .i64))), .one (.sc .any), (.one (.sc .slice)), .one (.sc .any), (.one (.sc .slice)), (.one (.sc .slice)), (.one (.sc .slice)), .one (.sc .any)] : List OS).getD i (.one (.sc .any))⟩
def h3 (ap0 : Addr) (xp1 : Int) (Ap2 : Option Addr) (np2 : Nat) (cp2 : Nat) : Prop :=
  (∀ (_ : Fr) (w : World),
  w = w ∧ (.pointer (some ap0) : Value) = (.pointer (some ap0))) ∧
  (∀ (_ : Fr) (w : World),
  w = w ∧ (.pointer (some ap0) : Value) = (.pointer (some ap0))) ∧
  (∀ (_ : Fr) (w : World),
  w = w ∧ (.pointer (some ap0) : Value) = (.pointer (some ap0))) ∧
  (∀ (_ : Fr) (w : World),
  w = w ∧ (.pointer (some ap0) : Value) = (.pointer (some ap0))) ∧
  (∀ (_ : Fr) (w : World),
  w = w ∧ (.int .i64 xp1 : Value) = (.int .i64 xp1)) ∧
  (∀ (_ : Fr) (w : World),
  ∀ (Ae4 : Option Addr) (ne4 : Nat) (ce4 : Nat),
  ∀ (ae6 : Addr),
  w = w ∧ (.pointer (some (ae6.add 1)) : Value) = (.pointer (some (ae6.add 1)))) ∧
  (∀ (_ : Fr) (w : World),
  w = w ∧ (.pointer (some ap0) : Value) = (.pointer (some ap0))) ∧
  (∀ (_ : Fr) (w : World),
  w = w ∧ (.pointer (some ap0) : Value) = (.pointer (some ap0))) ∧
  (∀ (_ : Fr) (w : World),
  w = w ∧ (.pointer (some ap0) : Value) = (.pointer (some ap0))) ∧
  (∀ (_ : Fr) (w : World),
  w = w ∧ (.pointer (some ap0) : Value) = (.pointer (some ap0))) ∧
  (∀ (_ : Fr) (w : World),
  w = w ∧ (.int .i64 xp1 : Value) = (.int .i64 xp1)) ∧
  (∀ (_ : Fr) (w : World),
  ∀ (Ae13 : Option Addr) (ne13 : Nat) (ce13 : Nat),
  ∀ (ae15 : Addr),
  w = w ∧ (.pointer (some ae15) : Value) = (.pointer (some ae15))) ∧
  (∀ (_ : Fr) (w : World),
  w = w ∧ (.slice Ap2 np2 cp2 : Value) = (.slice Ap2 np2 cp2)) ∧
  (∀ (_ : Fr) (w : World),
  w = w ∧ (.int .i64 xp1 : Value) = (.int .i64 xp1)) ∧
  (∀ (_ : Fr) (w : World),
  ∀ (Ae4 : Option Addr) (ne4 : Nat) (ce4 : Nat),
  ∀ (ae6 : Addr),
  ∀ (xe8 : Int),
  ∀ (Ae13 : Option Addr) (ne13 : Nat) (ce13 : Nat),
  ∀ (ae15 : Addr),
  ∀ (xe17 : Int),
  ∀ (Ae19 : Option Addr) (ne19 : Nat) (ce19 : Nat),
  ∀ (Ae21 : Option Addr) (ne21 : Nat) (ce21 : Nat),
  ∀ (Ae22 : Option Addr) (ne22 : Nat) (ce22 : Nat),
  ∀ (Ae23 : Option Addr) (ne23 : Nat) (ce23 : Nat),
  w = w ∧ (.slice Ae23 ne23 ce23 : Value) = (.slice Ae23 ne23 ce23)) ∧
  True
theorem h3_ok (ap0 : Addr) (xp1 : Int) (Ap2 : Option Addr) (np2 : Nat) (cp2 : Nat) : h3 ap0 xp1 Ap2 np2 cp2 := ⟨fun _ w => ⟨rfl, rfl⟩, fun _ w => ⟨rfl, rfl⟩, fun _ w => ⟨rfl, rfl⟩, fun _ w => ⟨rfl, rfl⟩, fun _ w => ⟨rfl, rfl⟩, fun _ w _ _ _ _ => ⟨rfl, rfl⟩, fun _ w => ⟨rfl, rfl⟩, fun _ w => ⟨rfl, rfl⟩, fun _ w => ⟨rfl, rfl⟩, fun _ w => ⟨rfl, rfl⟩, fun _ w => ⟨rfl, rfl⟩, fun _ w _ _ _ _ => ⟨rfl, rfl⟩, fun _ w => ⟨rfl, rfl⟩, fun _ w => ⟨rfl, rfl⟩, fun _ w _ _ _ _ _ _ _ _ _ _ _ _ _ _ _ _ _ _ _ _ _ _ => ⟨rfl, rfl⟩, trivial⟩
def wp (aa0 : Addr) (xa1 : Int) (Aa2 : Option Addr) (na2 : Nat) (ca2 : Nat) (w : World) (Q : Ending → World → Prop) : Prop :=
  sel (xa1 == (0 : Int)) (
  Q (.returned (.slice Aa2 na2 ca2)) w) (
  drW w fun w1 =>
  h3 aa0 xa1 Aa2 na2 ca2 ∧
  ∃ (G2 : World → World → Prop) (Φ3 : Nat → Value → World → Prop), (∀ w, G2 w w) ∧ (∀ a b c, G2 a b → G2 b c → G2 a c) ∧ (∀ i v a b, G2 w1 a → G2 a b → Φ3 i v a → Φ3 i v b) ∧ (
  (∀ (_ : Fr) (w4 : World), G2 w1 w4 →
  (
  ldS w4 aa0 fun A5 n5 c5 =>
  G2 w4 w4 ∧ Φ3 4 (.slice A5 n5 c5) w4)) ∧
  (∀ (_ : Fr) (w6 : World), G2 w1 w6 →
  ∀ (Ae4 : Option Addr) (ne4 : Nat) (ce4 : Nat),
  Φ3 4 (.slice Ae4 ne4 ce4) w6 →
  (
  optB Ae4 fun a7 =>
  req (decide (0 ≤ xa1 ∧ xa1 < (ne4 : Int))) <|
  G2 w6 w6 ∧ Φ3 6 (.pointer (some (a7.add (xa1.toNat * 11)))) w6)) ∧
  (∀ (_ : Fr) (w8 : World), G2 w1 w8 →
  ∀ (Ae4 : Option Addr) (ne4 : Nat) (ce4 : Nat),
  Φ3 4 (.slice Ae4 ne4 ce4) w8 →
  ∀ (ae6 : Addr),
  Φ3 6 (.pointer (some ae6)) w8 →
  (
  ldI w8 (ae6.add 1) .i64 fun x9 =>
  G2 w8 w8 ∧ Φ3 8 (.int .i64 x9) w8)) ∧
  (∀ (_ : Fr) (w10 : World), G2 w1 w10 →
  (
  ldS w10 aa0 fun A11 n11 c11 =>
  G2 w10 w10 ∧ Φ3 13 (.slice A11 n11 c11) w10)) ∧
  (∀ (_ : Fr) (w12 : World), G2 w1 w12 →
  ∀ (Ae13 : Option Addr) (ne13 : Nat) (ce13 : Nat),
  Φ3 13 (.slice Ae13 ne13 ce13) w12 →
  (
  optB Ae13 fun a13 =>
  req (decide (0 ≤ xa1 ∧ xa1 < (ne13 : Int))) <|
  G2 w12 w12 ∧ Φ3 15 (.pointer (some (a13.add (xa1.toNat * 11)))) w12)) ∧
  (∀ (_ : Fr) (w14 : World), G2 w1 w14 →
  ∀ (Ae13 : Option Addr) (ne13 : Nat) (ce13 : Nat),
  Φ3 13 (.slice Ae13 ne13 ce13) w14 →
  ∀ (ae15 : Addr),
  Φ3 15 (.pointer (some ae15)) w14 →
  (
  ldI w14 ae15 .i64 fun x15 =>
  G2 w14 w14 ∧ Φ3 17 (.int .i64 x15) w14)) ∧
  (∀ (_ : Fr) (w16 : World), G2 w1 w16 →
  ∀ (Ae13 : Option Addr) (ne13 : Nat) (ce13 : Nat),
  Φ3 13 (.slice Ae13 ne13 ce13) w16 →
  ∀ (ae15 : Addr),
  Φ3 15 (.pointer (some ae15)) w16 →
  ∀ (xe17 : Int),
  Φ3 17 (.int .i64 xe17) w16 →
  (
  Calls Try.prog 77 #[.pointer (some aa0), .int .i64 xe17, .slice Aa2 na2 ca2] w16 fun e17 w18 => ∃ (A19 : Option Addr) (n19 : Nat) (c19 : Nat), e17 = .returned (.slice A19 n19 c19) ∧ (
  G2 w16 w18 ∧ Φ3 19 (.slice A19 n19 c19) w18))) ∧
  (∀ (_ : Fr) (w20 : World), G2 w1 w20 →
  (
  alW w20 (.cells #[.int .i64 xa1] 3) fun B21 w22 =>
  G2 w20 w22 ∧ Φ3 21 (.slice (some (⟨B21, 0, Option.none⟩ : Addr)) 1 1) w22)) ∧
  (∀ (_ : Fr) (w23 : World), G2 w1 w23 →
  ∀ (Ae13 : Option Addr) (ne13 : Nat) (ce13 : Nat),
  Φ3 13 (.slice Ae13 ne13 ce13) w23 →
  ∀ (ae15 : Addr),
  Φ3 15 (.pointer (some ae15)) w23 →
  ∀ (xe17 : Int),
  Φ3 17 (.int .i64 xe17) w23 →
  ∀ (Ae19 : Option Addr) (ne19 : Nat) (ce19 : Nat),
  Φ3 19 (.slice Ae19 ne19 ce19) w23 →
  ∀ (Ae21 : Option Addr) (ne21 : Nat) (ce21 : Nat),
  Φ3 21 (.slice Ae21 ne21 ce21) w23 →
  (
  Runs Try.prog (Builtin.append_ #[22, 22] 22 #[.slice Ae19 ne19 ce19, .slice Ae21 ne21 ce21]) w23 fun v25 w24 => ∃ (A26 : Option Addr) (n26 : Nat) (c26 : Nat), v25 = (.slice A26 n26 c26) ∧ (
  G2 w23 w24 ∧ Φ3 22 (.slice A26 n26 c26) w24))) ∧
  (∀ (_ : Fr) (w27 : World), G2 w1 w27 →
  ∀ (Ae4 : Option Addr) (ne4 : Nat) (ce4 : Nat),
  Φ3 4 (.slice Ae4 ne4 ce4) w27 →
  ∀ (ae6 : Addr),
  Φ3 6 (.pointer (some ae6)) w27 →
  ∀ (xe8 : Int),
  Φ3 8 (.int .i64 xe8) w27 →
  ∀ (Ae13 : Option Addr) (ne13 : Nat) (ce13 : Nat),
  Φ3 13 (.slice Ae13 ne13 ce13) w27 →
  ∀ (ae15 : Addr),
  Φ3 15 (.pointer (some ae15)) w27 →
  ∀ (xe17 : Int),
  Φ3 17 (.int .i64 xe17) w27 →
  ∀ (Ae19 : Option Addr) (ne19 : Nat) (ce19 : Nat),
  Φ3 19 (.slice Ae19 ne19 ce19) w27 →
  ∀ (Ae21 : Option Addr) (ne21 : Nat) (ce21 : Nat),
  Φ3 21 (.slice Ae21 ne21 ce21) w27 →
  ∀ (Ae22 : Option Addr) (ne22 : Nat) (ce22 : Nat),
  Φ3 22 (.slice Ae22 ne22 ce22) w27 →
  (
  Calls Try.prog 77 #[.pointer (some aa0), .int .i64 xe8, .slice Ae22 ne22 ce22] w27 fun e28 w29 => ∃ (A30 : Option Addr) (n30 : Nat) (c30 : Nat), e28 = .returned (.slice A30 n30 c30) ∧ (
  G2 w27 w29 ∧ Φ3 23 (.slice A30 n30 c30) w29))) ∧ True) ∧
  ∀ w31, G2 w1 w31 →
  ∀ (Ae4 : Option Addr) (ne4 : Nat) (ce4 : Nat),
  Φ3 4 (.slice Ae4 ne4 ce4) w31 →
  ∀ (ae6 : Addr),
  Φ3 6 (.pointer (some ae6)) w31 →
  ∀ (xe8 : Int),
  Φ3 8 (.int .i64 xe8) w31 →
  ∀ (Ae13 : Option Addr) (ne13 : Nat) (ce13 : Nat),
  Φ3 13 (.slice Ae13 ne13 ce13) w31 →
  ∀ (ae15 : Addr),
  Φ3 15 (.pointer (some ae15)) w31 →
  ∀ (xe17 : Int),
  Φ3 17 (.int .i64 xe17) w31 →
  ∀ (Ae19 : Option Addr) (ne19 : Nat) (ce19 : Nat),
  Φ3 19 (.slice Ae19 ne19 ce19) w31 →
  ∀ (Ae21 : Option Addr) (ne21 : Nat) (ce21 : Nat),
  Φ3 21 (.slice Ae21 ne21 ce21) w31 →
  ∀ (Ae22 : Option Addr) (ne22 : Nat) (ce22 : Nat),
  Φ3 22 (.slice Ae22 ne22 ce22) w31 →
  ∀ (Ae23 : Option Addr) (ne23 : Nat) (ce23 : Nat),
  Φ3 23 (.slice Ae23 ne23 ce23) w31 →
  (
  Q (.returned (.slice Ae23 ne23 ce23)) w31))
def D : Nat → Option DH := dtab [(3, .opn od3)]
def tb : List (List Nat × Spec) := []
theorem wp_eq (aa0 : Addr) (xa1 : Int) (Aa2 : Option Addr) (na2 : Nat) (ca2 : Nat) (w : World) (Q : Ending → World → Prop) :
    wp aa0 xa1 Aa2 na2 ca2 w Q = codeW Try.prog hT 34 D (tab tb) [] body (topQ Try.prog hT 34 [.tmp 6] Q) (argsF [.pointer (some aa0), .int .i64 xa1, .slice Aa2 na2 ca2]) w := by kernel_rfl
theorem ok (aa0 : Addr) (xa1 : Int) (Aa2 : Option Addr) (na2 : Nat) (ca2 : Nat) (w : World) (Q : Ending → World → Prop) (h : wp aa0 xa1 Aa2 na2 ca2 w Q) : Calls Try.prog 77 #[.pointer (some aa0), .int .i64 xa1, .slice Aa2 na2 ca2] w Q := by
  rw [wp_eq] at h
  exact calls_of_codeW (c := body) (rs := [.tmp 6]) Try.func77 (by kernel_rfl) (by kernel_rfl) (by kernel_rfl) (by kernel_rfl) (by kernel_rfl) (tab_snd (by
    intro x hx
    simp only [tb, List.not_mem_nil] at hx
    )) (by kernel_rfl) h
end f_euler_load_walk
namespace f_euler_load_chance
/-! (*skein/treap.Rope[skein/euler.load]).chance: function 81 -/
noncomputable def body : Code := (Try.f81.body).getD .skip
def j0 (at0 : Addr) (xt3 : Int) (w : World) (Kr : Int → World → Prop) : Prop :=
  ldI w (at0.add 2) .u64 fun x8 =>
  stW w (at0.add 2) (.int .u64 (IntKind.u64.wrap ((bxor .u64 x8 (IntKind.u64.wrap xt3)) * (15074714826142052245 : Int)))) fun w9 =>
  drW w9 fun w10 =>
  ldI w10 (at0.add 2) .u64 fun x12 =>
  ldI w10 (at0.add 2) .u64 fun x13 =>
  stW w10 (at0.add 2) (.int .u64 (bxor .u64 x12 (x13.fdiv (2 ^ 29)))) fun w14 =>
  ldI w14 (at0.add 2) .u64 fun x15 =>
  Kr x15 w14
def wp (aa0 : Addr) (w : World) (Q : Ending → World → Prop) : Prop :=
  ldS w (aa0.add 1) fun A1 n1 c1 =>
  sel (decide ((n1 : Int) > (0 : Int))) (
  drW w fun w2 =>
  ldS w2 (aa0.add 1) fun A4 n4 c4 =>
  ldS w2 aa0 fun A5 n5 c5 =>
  req (!decide ((n1 : Int) = 0)) <|
  optB A4 fun a6 =>
  req (decide (0 ≤ ((IntKind.i64.wrap ((n5 : Int) - (1 : Int))).tmod (n1 : Int)) ∧ ((IntKind.i64.wrap ((n5 : Int) - (1 : Int))).tmod (n1 : Int)) < (n4 : Int))) <|
  ldI w2 (a6.add (((IntKind.i64.wrap ((n5 : Int) - (1 : Int))).tmod (n1 : Int)).toNat * 1)) .i64 fun x7 =>
  j0 aa0 x7 w2 (fun (x16 : Int) (w17 : World) => ∀ _ : Fr,
  Q (.returned (.int .u64 x16)) w17)) (
  j0 aa0 (0 : Int) w (fun (x18 : Int) (w19 : World) => ∀ _ : Fr,
  Q (.returned (.int .u64 x18)) w19))
def D : Nat → Option DH := dtab [(4, .simple [.fst 0, .fst 1, .fst 2, .fst 3, .fst 4, .fst 5, .fst 6, .fst 7, .fst 8, .fst 9, .fst 10, .fst 11, .fst 12, .fst 13] [.fst 14]), (6, .simple [.fst 0, .fst 1, .fst 2, .fst 3, .fst 4, .fst 5, .fst 6, .fst 7, .fst 8] [.fst 9, .fst 10, .fst 11, .eff 12])]
def j0LO : LO := ⟨[], [2], [], []⟩
def j0T : Spec := fun Q σ w =>
  gAd (σ 0) fun at0 =>
  gInt .i64 (σ 3) fun xt3 =>
  j0 at0 xt3 w (fun (xq2 : Int) (w : World) => ∀ d : Fr, Q .ret (ov d [(2, .int .u64 xq2)]) w)
def j0tb : List (List Nat × Spec) := []
noncomputable def j0b : Code := (subC [1, 1, 1] body).getD .skip
theorem j0_eq (at0 : Addr) (xt3 : Int) (Q : PQ) (σ : Fr) (w : World) :
    j0 at0 xt3 w (fun (xq2 : Int) (w : World) => ∀ d : Fr, Q .ret (ov d [(2, .int .u64 xq2)]) w) = codeW Try.prog hT 53 D (tab j0tb) [1, 1, 1] j0b (widen j0LO Q) (ov σ [(0, .pointer (some at0)), (3, .int .i64 xt3)]) w := by kernel_rfl
theorem j0_snd : ∀ c, subC [1, 1, 1] body = some c → Snd Try.prog 53 c j0T := by
  refine cut_of (hT := hT) (D := D) (l := j0tb) (b := j0b) (lo := j0LO) (by kernel_rfl) (by
    intro x hx
    simp only [j0tb, List.not_mem_nil] at hx
    ) (by kernel_rfl) (by kernel_rfl) ?_
  intro Q σ w h
  unfold j0T at h
  obtain ⟨at0, h0, hn⟩ := gAd_elim h
  clear h
  have h := hn
  clear hn
  obtain ⟨xt3, h3, hn⟩ := gInt_elim h
  clear h
  have h := hn
  clear hn
  rw [j0_eq (σ := σ)] at h
  have e : (ov σ [(0, .pointer (some at0)), (3, .int .i64 xt3)]) = σ := ov_self (by simp [h0, h3])
  rw [e] at h
  exact h
def tb : List (List Nat × Spec) := [([1, 1, 1], j0T)]
theorem wp_eq (aa0 : Addr) (w : World) (Q : Ending → World → Prop) :
    wp aa0 w Q = codeW Try.prog hT 53 D (tab tb) [] body (topQ Try.prog hT 53 [.tmp 2] Q) (argsF [.pointer (some aa0)]) w := by kernel_rfl
theorem ok (aa0 : Addr) (w : World) (Q : Ending → World → Prop) (h : wp aa0 w Q) : Calls Try.prog 81 #[.pointer (some aa0)] w Q := by
  rw [wp_eq] at h
  exact calls_of_codeW (c := body) (rs := [.tmp 2]) Try.func81 (by kernel_rfl) (by kernel_rfl) (by kernel_rfl) (by kernel_rfl) (by kernel_rfl) (tab_snd (by
    intro x hx
    simp only [tb, List.mem_cons, List.not_mem_nil, or_false] at hx
    subst hx
    exact j0_snd)) (by kernel_rfl) h
end f_euler_load_chance
namespace f_euler_load_Plus
/-! (skein/euler.load).Plus: function 116 -/
noncomputable def body : Code := (Try.f116.body).getD .skip
def wp (xa0_0 : Int) (xa0_1 : Int) (xa0_2 : Int) (xa1_0 : Int) (xa1_1 : Int) (xa1_2 : Int) (w : World) (Q : Ending → World → Prop) : Prop :=
  alW w (.cells #[.int .i64 xa0_0, .int .i64 xa0_1, .int .i64 xa0_2] 74) fun B1 w2 =>
  alW w2 (.cells #[.int .i64 xa1_0, .int .i64 xa1_1, .int .i64 xa1_2] 74) fun B3 w4 =>
  alW w4 (.cells #[.int .i64 (0 : Int), .int .i64 (0 : Int), .int .i64 (0 : Int)] 74) fun B5 w6 =>
  ldI w6 (⟨B1, 0, Option.none⟩ : Addr) .i64 fun x7 =>
  ldI w6 (⟨B3, 0, Option.none⟩ : Addr) .i64 fun x8 =>
  ldI w6 ((⟨B1, 0, Option.none⟩ : Addr).add 1) .i64 fun x9 =>
  ldI w6 ((⟨B3, 0, Option.none⟩ : Addr).add 1) .i64 fun x10 =>
  ldI w6 ((⟨B1, 0, Option.none⟩ : Addr).add 2) .i64 fun x11 =>
  ldI w6 ((⟨B3, 0, Option.none⟩ : Addr).add 2) .i64 fun x12 =>
  stW w6 (⟨B5, 0, Option.none⟩ : Addr) (.int .i64 (IntKind.i64.wrap (x7 + x8))) fun w13 =>
  stW w13 ((⟨B5, 0, Option.none⟩ : Addr).add 1) (.int .i64 (IntKind.i64.wrap (x9 + x10))) fun w14 =>
  stW w14 ((⟨B5, 0, Option.none⟩ : Addr).add 2) (.int .i64 (IntKind.i64.wrap (x11 + x12))) fun w15 =>
  ldI w15 (⟨B5, 0, Option.none⟩ : Addr) .i64 fun x16 =>
  ldI w15 ((⟨B5, 0, Option.none⟩ : Addr).add 1) .i64 fun x17 =>
  ldI w15 ((⟨B5, 0, Option.none⟩ : Addr).add 2) .i64 fun x18 =>
  Q (.returned (.agg #[.int .i64 x16, .int .i64 x17, .int .i64 x18])) w15
def D : Nat → Option DH := dtab []
def tb : List (List Nat × Spec) := []
theorem wp_eq (xa0_0 : Int) (xa0_1 : Int) (xa0_2 : Int) (xa1_0 : Int) (xa1_1 : Int) (xa1_2 : Int) (w : World) (Q : Ending → World → Prop) :
    wp xa0_0 xa0_1 xa0_2 xa1_0 xa1_1 xa1_2 w Q = codeW Try.prog hT 21 D (tab tb) [] body (topQ Try.prog hT 21 [.cell 4 74] Q) (argsF [.agg #[.int .i64 xa0_0, .int .i64 xa0_1, .int .i64 xa0_2], .agg #[.int .i64 xa1_0, .int .i64 xa1_1, .int .i64 xa1_2]]) w := by kernel_rfl
theorem ok (xa0_0 : Int) (xa0_1 : Int) (xa0_2 : Int) (xa1_0 : Int) (xa1_1 : Int) (xa1_2 : Int) (w : World) (Q : Ending → World → Prop) (h : wp xa0_0 xa0_1 xa0_2 xa1_0 xa1_1 xa1_2 w Q) : Calls Try.prog 116 #[.agg #[.int .i64 xa0_0, .int .i64 xa0_1, .int .i64 xa0_2], .agg #[.int .i64 xa1_0, .int .i64 xa1_1, .int .i64 xa1_2]] w Q := by
  rw [wp_eq] at h
  exact calls_of_codeW (c := body) (rs := [.cell 4 74]) Try.func116 (by kernel_rfl) (by kernel_rfl) (by kernel_rfl) (by kernel_rfl) (by kernel_rfl) (tab_snd (by
    intro x hx
    simp only [tb, List.not_mem_nil] at hx
    )) (by kernel_rfl) h
end f_euler_load_Plus
namespace f_euler_Forest_SomeE_1
/-! (*skein/euler.Forest).SomeE$1: function 58 -/
noncomputable def body : Code := (Try.f58.body).getD .skip
def wp (xa0_0 : Int) (xa0_1 : Int) (xa0_2 : Int) (w : World) (Q : Ending → World → Prop) : Prop :=
  alW w (.cells #[.int .i64 xa0_0, .int .i64 xa0_1, .int .i64 xa0_2] 74) fun B1 w2 =>
  ldI w2 ((⟨B1, 0, Option.none⟩ : Addr).add 2) .i64 fun x3 =>
  Q (.returned (.bool (decide (x3 > (0 : Int))))) w2
def D : Nat → Option DH := dtab []
def tb : List (List Nat × Spec) := []
theorem wp_eq (xa0_0 : Int) (xa0_1 : Int) (xa0_2 : Int) (w : World) (Q : Ending → World → Prop) :
    wp xa0_0 xa0_1 xa0_2 w Q = codeW Try.prog hT 6 D (tab tb) [] body (topQ Try.prog hT 6 [.tmp 2] Q) (argsF [.agg #[.int .i64 xa0_0, .int .i64 xa0_1, .int .i64 xa0_2]]) w := by kernel_rfl
theorem ok (xa0_0 : Int) (xa0_1 : Int) (xa0_2 : Int) (w : World) (Q : Ending → World → Prop) (h : wp xa0_0 xa0_1 xa0_2 w Q) : Calls Try.prog 58 #[.agg #[.int .i64 xa0_0, .int .i64 xa0_1, .int .i64 xa0_2]] w Q := by
  rw [wp_eq] at h
  exact calls_of_codeW (c := body) (rs := [.tmp 2]) Try.func58 (by kernel_rfl) (by kernel_rfl) (by kernel_rfl) (by kernel_rfl) (by kernel_rfl) (tab_snd (by
    intro x hx
    simp only [tb, List.not_mem_nil] at hx
    )) (by kernel_rfl) h
end f_euler_Forest_SomeE_1
namespace f_euler_Forest_SomeV_1
/-! (*skein/euler.Forest).SomeV$1: function 59 -/
noncomputable def body : Code := (Try.f59.body).getD .skip
def wp (xa0_0 : Int) (xa0_1 : Int) (xa0_2 : Int) (w : World) (Q : Ending → World → Prop) : Prop :=
  alW w (.cells #[.int .i64 xa0_0, .int .i64 xa0_1, .int .i64 xa0_2] 74) fun B1 w2 =>
  ldI w2 ((⟨B1, 0, Option.none⟩ : Addr).add 1) .i64 fun x3 =>
  Q (.returned (.bool (decide (x3 > (0 : Int))))) w2
def D : Nat → Option DH := dtab []
def tb : List (List Nat × Spec) := []
theorem wp_eq (xa0_0 : Int) (xa0_1 : Int) (xa0_2 : Int) (w : World) (Q : Ending → World → Prop) :
    wp xa0_0 xa0_1 xa0_2 w Q = codeW Try.prog hT 6 D (tab tb) [] body (topQ Try.prog hT 6 [.tmp 2] Q) (argsF [.agg #[.int .i64 xa0_0, .int .i64 xa0_1, .int .i64 xa0_2]]) w := by kernel_rfl
theorem ok (xa0_0 : Int) (xa0_1 : Int) (xa0_2 : Int) (w : World) (Q : Ending → World → Prop) (h : wp xa0_0 xa0_1 xa0_2 w Q) : Calls Try.prog 59 #[.agg #[.int .i64 xa0_0, .int .i64 xa0_1, .int .i64 xa0_2]] w Q := by
  rw [wp_eq] at h
  exact calls_of_codeW (c := body) (rs := [.tmp 2]) Try.func59 (by kernel_rfl) (by kernel_rfl) (by kernel_rfl) (by kernel_rfl) (by kernel_rfl) (tab_snd (by
    intro x hx
    simp only [tb, List.not_mem_nil] at hx
    )) (by kernel_rfl) h
end f_euler_Forest_SomeV_1
end Go.Proofs.Ytkkobfajahmfaaa.Rd
