/- The printed readings of some functions: each function's code reckoned by the kernel to its predicate transformer. -/
import Derived.Test.YtifambgaekjilaaDoorHint
namespace Go.Proofs.YtifambgaekjilaaDoor.Rd
open Go.Dn
set_option maxRecDepth 100000
set_option linter.unusedVariables false
namespace f_ref08_Bytes
/-! skein/skeinref08.Bytes: function 39 -/
noncomputable def body : Code := (Tryd.f39.body).getD .skip
def od1 : OD := ⟨[1], [1, 3, 5, 6, 7], fun i => ([⟨false, [], [], fun ps vs => match ps, vs with | [.pointer (some ap1)], [] => .pointer (some ap1) | _, _ => undef⟩,
  ⟨true, [], [0], fun _ _ => undef⟩,
  ⟨false, [1], [1], fun ps vs => match ps, vs with | [.pointer (some ap1)], [.int _ xe1] => .int .u64 (IntKind.u64.wrap xe1) | _, _ => undef⟩,
  ⟨true, [1], [2], fun _ _ => undef⟩,
  ⟨false, [], [], fun ps vs => match ps, vs with | [.pointer (some ap1)], [] => .pointer (some (ap1.add 1)) | _, _ => undef⟩,
  ⟨true, [], [4], fun _ _ => undef⟩,
  ⟨true, [5], [5], fun _ _ => undef⟩,
  ⟨true, [1, 3, 5, 6], [3, 6], fun _ _ => undef⟩,
  ⟨false, [1, 3, 5, 6, 7], [7], fun ps vs => match ps, vs with | [.pointer (some ap1)], [.int _ xe1, .slice Ae3 ne3 ce3, .int _ xe5, .slice Ae6 ne6 ce6, .slice Ae7 ne7 ce7] => .slice Ae7 ne7 ce7 | _, _ => undef⟩] : List OI).getD i ⟨true, [], [], fun _ _ => undef⟩, fun i => ([.one (.sc .any), (.one (.sc (.int .i64))), .one (.sc .any), (.one (.sc .slice)), .one (.sc .any), (.one (.sc (.int .u8))), (.one (.sc .slice)), (.one (.sc .slice)), .one (.sc .any)] : List OS).getD i (.one (.sc .any))⟩
def h1 (ap1 : Addr) : Prop :=
  (∀ (_ : Fr) (w : World),
  w = w ∧ (.pointer (some ap1) : Value) = (.pointer (some ap1))) ∧
  (∀ (_ : Fr) (w : World),
  ∀ (xe1 : Int),
  w = w ∧ (.int .u64 (IntKind.u64.wrap xe1) : Value) = (.int .u64 (IntKind.u64.wrap xe1))) ∧
  (∀ (_ : Fr) (w : World),
  w = w ∧ (.pointer (some (ap1.add 1)) : Value) = (.pointer (some (ap1.add 1)))) ∧
  (∀ (_ : Fr) (w : World),
  ∀ (xe1 : Int),
  ∀ (Ae3 : Option Addr) (ne3 : Nat) (ce3 : Nat),
  ∀ (xe5 : Int),
  ∀ (Ae6 : Option Addr) (ne6 : Nat) (ce6 : Nat),
  ∀ (Ae7 : Option Addr) (ne7 : Nat) (ce7 : Nat),
  w = w ∧ (.slice Ae7 ne7 ce7 : Value) = (.slice Ae7 ne7 ce7)) ∧
  True
theorem h1_ok (ap1 : Addr) : h1 ap1 := ⟨fun _ w => ⟨rfl, rfl⟩, fun _ w _ => ⟨rfl, rfl⟩, fun _ w => ⟨rfl, rfl⟩, fun _ w _ _ _ _ _ _ _ _ _ _ _ => ⟨rfl, rfl⟩, trivial⟩
def od2 : OD := ⟨[1, 3], [2, 4, 5, 7, 10, 11], fun i => ([⟨false, [], [], fun ps vs => match ps, vs with | [.pointer (some ap1), .slice Ap3 np3 cp3], [] => .slice Ap3 np3 cp3 | _, _ => undef⟩,
  ⟨false, [], [], fun ps vs => match ps, vs with | [.pointer (some ap1), .slice Ap3 np3 cp3], [] => .pointer (some (ap1.add 2)) | _, _ => undef⟩,
  ⟨true, [], [1], fun _ _ => undef⟩,
  ⟨false, [2], [2], fun ps vs => match ps, vs with | [.pointer (some ap1), .slice Ap3 np3 cp3], [.int _ xe2] => .int .u64 (IntKind.u64.wrap xe2) | _, _ => undef⟩,
  ⟨true, [2], [3], fun _ _ => undef⟩,
  ⟨true, [2, 4], [0, 4], fun _ _ => undef⟩,
  ⟨false, [], [], fun ps vs => match ps, vs with | [.pointer (some ap1), .slice Ap3 np3 cp3], [] => .pointer (some (ap1.add 3)) | _, _ => undef⟩,
  ⟨true, [], [6], fun _ _ => undef⟩,
  ⟨false, [7], [7], fun ps vs => match ps, vs with | [.pointer (some ap1), .slice Ap3 np3 cp3], [.slice Ae7 ne7 ce7] => .int .i64 (ne7 : Int) | _, _ => undef⟩,
  ⟨false, [7], [8], fun ps vs => match ps, vs with | [.pointer (some ap1), .slice Ap3 np3 cp3], [.slice Ae7 ne7 ce7] => .int .u8 (IntKind.u8.wrap (ne7 : Int)) | _, _ => undef⟩,
  ⟨true, [7], [9], fun _ _ => undef⟩,
  ⟨true, [2, 4, 5, 7, 10], [5, 10], fun _ _ => undef⟩,
  ⟨false, [2, 4, 5, 7, 10, 11], [11], fun ps vs => match ps, vs with | [.pointer (some ap1), .slice Ap3 np3 cp3], [.int _ xe2, .slice Ae4 ne4 ce4, .slice Ae5 ne5 ce5, .slice Ae7 ne7 ce7, .slice Ae10 ne10 ce10, .slice Ae11 ne11 ce11] => .slice Ae11 ne11 ce11 | _, _ => undef⟩] : List OI).getD i ⟨true, [], [], fun _ _ => undef⟩, fun i => ([.one (.sc .any), .one (.sc .any), (.one (.sc (.int .u32))), .one (.sc .any), (.one (.sc .slice)), (.one (.sc .slice)), .one (.sc .any), (.one (.sc .slice)), .one (.sc .any), .one (.sc .any), (.one (.sc .slice)), (.one (.sc .slice)), .one (.sc .any)] : List OS).getD i (.one (.sc .any))⟩
def h2 (ap1 : Addr) (Ap3 : Option Addr) (np3 : Nat) (cp3 : Nat) : Prop :=
  (∀ (_ : Fr) (w : World),
  w = w ∧ (.slice Ap3 np3 cp3 : Value) = (.slice Ap3 np3 cp3)) ∧
  (∀ (_ : Fr) (w : World),
  w = w ∧ (.pointer (some (ap1.add 2)) : Value) = (.pointer (some (ap1.add 2)))) ∧
  (∀ (_ : Fr) (w : World),
  ∀ (xe2 : Int),
  w = w ∧ (.int .u64 (IntKind.u64.wrap xe2) : Value) = (.int .u64 (IntKind.u64.wrap xe2))) ∧
  (∀ (_ : Fr) (w : World),
  w = w ∧ (.pointer (some (ap1.add 3)) : Value) = (.pointer (some (ap1.add 3)))) ∧
  (∀ (_ : Fr) (w : World),
  ∀ (Ae7 : Option Addr) (ne7 : Nat) (ce7 : Nat),
  w = w ∧ (.int .i64 (ne7 : Int) : Value) = (.int .i64 (ne7 : Int))) ∧
  (∀ (_ : Fr) (w : World),
  ∀ (Ae7 : Option Addr) (ne7 : Nat) (ce7 : Nat),
  w = w ∧ (.int .u8 (IntKind.u8.wrap (ne7 : Int)) : Value) = (.int .u8 (IntKind.u8.wrap (ne7 : Int)))) ∧
  (∀ (_ : Fr) (w : World),
  ∀ (xe2 : Int),
  ∀ (Ae4 : Option Addr) (ne4 : Nat) (ce4 : Nat),
  ∀ (Ae5 : Option Addr) (ne5 : Nat) (ce5 : Nat),
  ∀ (Ae7 : Option Addr) (ne7 : Nat) (ce7 : Nat),
  ∀ (Ae10 : Option Addr) (ne10 : Nat) (ce10 : Nat),
  ∀ (Ae11 : Option Addr) (ne11 : Nat) (ce11 : Nat),
  w = w ∧ (.slice Ae11 ne11 ce11 : Value) = (.slice Ae11 ne11 ce11)) ∧
  True
theorem h2_ok (ap1 : Addr) (Ap3 : Option Addr) (np3 : Nat) (cp3 : Nat) : h2 ap1 Ap3 np3 cp3 := ⟨fun _ w => ⟨rfl, rfl⟩, fun _ w => ⟨rfl, rfl⟩, fun _ w _ => ⟨rfl, rfl⟩, fun _ w => ⟨rfl, rfl⟩, fun _ w _ _ _ => ⟨rfl, rfl⟩, fun _ w _ _ _ => ⟨rfl, rfl⟩, fun _ w _ _ _ _ _ _ _ _ _ _ _ _ _ _ _ _ => ⟨rfl, rfl⟩, trivial⟩
def l0 : Nat → Addr → Option Addr → Nat → Nat → Option Addr → Nat → Nat → Int → Int → World → ((Option Addr) → Nat → Nat → (Option Addr) → Nat → Nat → World → Prop) → Prop
  | 0, _, _, _, _, _, _, _, _, _, _, _ => False
  | k + 1, at1, At3, nt3, ct3, At4, nt4, ct4, xt5, xt6, w, K0 =>
    ldS w (at1.add 3) fun A47 n47 c47 =>
    sel (decide (xt6 < (n47 : Int))) (
    ldS w (at1.add 3) fun A48 n48 c48 =>
    optB A48 fun a49 =>
    req (decide (0 ≤ xt6 ∧ xt6 < (n48 : Int))) <|
    ldS w (a49.add (xt6.toNat * 1)) fun A50 n50 c50 =>
    ldS w (at1.add 3) fun A51 n51 c51 =>
    optB A51 fun a52 =>
    req (decide (0 ≤ xt6 ∧ xt6 < (n51 : Int))) <|
    ldS w (a52.add (xt6.toNat * 1)) fun A53 n53 c53 =>
    Calls Tryd.prog 64 #[.slice A53 n53 c53, .slice At4 nt4 ct4] w fun e54 w55 => ∃ (A56 : Option Addr) (n56 : Nat) (c56 : Nat), e54 = .returned (.slice A56 n56 c56) ∧ (
    Calls Tryd.prog 65 #[.int .u64 (IntKind.u64.wrap (IntKind.i64.wrap (xt5 - (n50 : Int)))), .int .i64 (2 : Int)] w55 fun e57 w58 => ∃ (A59 : Option Addr) (n59 : Nat) (c59 : Nat), e57 = .returned (.slice A59 n59 c59) ∧ (
    Calls Tryd.prog 64 #[.slice At3 nt3 ct3, .slice A59 n59 c59] w58 fun e60 w61 => ∃ (A62 : Option Addr) (n62 : Nat) (c62 : Nat), e60 = .returned (.slice A62 n62 c62) ∧ (
    l0 k at1 A62 n62 c62 A56 n56 c56 (IntKind.i64.wrap (xt5 - (n50 : Int))) (IntKind.i64.wrap (xt6 + (1 : Int))) w61 K0)))) (
    K0 At3 nt3 ct3 At4 nt4 ct4 w)
def l1 : Nat → Option Addr → Nat → Nat → Option Addr → Nat → Nat → World → ((Option Addr) → Nat → Nat → World → Prop) → Prop
  | 0, _, _, _, _, _, _, _, _ => False
  | k + 1, At3, nt3, ct3, At4, nt4, ct4, w, K2 =>
    sel (decide ((IntKind.i64.wrap ((nt3 : Int) + (nt4 : Int))) < (508 : Int))) (
    alW w (.cells #[.int .u8 (0 : Int)] 5) fun B66 w67 =>
    Runs Tryd.prog (Builtin.append_ #[22, 22] 22 #[.slice At3 nt3 ct3, .slice (some (⟨B66, 0, Option.none⟩ : Addr)) 1 1]) w67 fun v69 w68 => ∃ (A70 : Option Addr) (n70 : Nat) (c70 : Nat), v69 = (.slice A70 n70 c70) ∧ (
    l1 k A70 n70 c70 At4 nt4 ct4 w68 K2)) (
    K2 At3 nt3 ct3 w)
def wp (xa0_0 : Int) (xa0_1 : Int) (xa0_2 : Int) (Aa0_3 : Option Addr) (na0_3 : Nat) (ca0_3 : Nat) (w : World) (Q : Ending → World → Prop) : Prop :=
  alW w (.cells #[.int .i64 xa0_0, .int .u8 xa0_1, .int .u32 xa0_2, .slice Aa0_3 na0_3 ca0_3] 32) fun B1 w2 =>
  drW w2 fun w3 =>
  h1 (⟨B1, 0, Option.none⟩ : Addr) ∧
  ∃ (G4 : World → World → Prop) (Φ5 : Nat → Value → World → Prop), (∀ w, G4 w w) ∧ (∀ a b c, G4 a b → G4 b c → G4 a c) ∧ (∀ i v a b, G4 w3 a → G4 a b → Φ5 i v a → Φ5 i v b) ∧ (
  (∀ (_ : Fr) (w6 : World), G4 w3 w6 →
  (
  ldI w6 (⟨B1, 0, Option.none⟩ : Addr) .i64 fun x7 =>
  G4 w6 w6 ∧ Φ5 1 (.int .i64 x7) w6)) ∧
  (∀ (_ : Fr) (w8 : World), G4 w3 w8 →
  ∀ (xe1 : Int),
  Φ5 1 (.int .i64 xe1) w8 →
  (
  Calls Tryd.prog 65 #[.int .u64 (IntKind.u64.wrap xe1), .int .i64 (8 : Int)] w8 fun e9 w10 => ∃ (A11 : Option Addr) (n11 : Nat) (c11 : Nat), e9 = .returned (.slice A11 n11 c11) ∧ (
  G4 w8 w10 ∧ Φ5 3 (.slice A11 n11 c11) w10))) ∧
  (∀ (_ : Fr) (w12 : World), G4 w3 w12 →
  (
  ldI w12 ((⟨B1, 0, Option.none⟩ : Addr).add 1) .u8 fun x13 =>
  G4 w12 w12 ∧ Φ5 5 (.int .u8 x13) w12)) ∧
  (∀ (_ : Fr) (w14 : World), G4 w3 w14 →
  ∀ (xe5 : Int),
  Φ5 5 (.int .u8 xe5) w14 →
  (
  alW w14 (.cells #[.int .u8 xe5] 5) fun B15 w16 =>
  G4 w14 w16 ∧ Φ5 6 (.slice (some (⟨B15, 0, Option.none⟩ : Addr)) 1 1) w16)) ∧
  (∀ (_ : Fr) (w17 : World), G4 w3 w17 →
  ∀ (xe1 : Int),
  Φ5 1 (.int .i64 xe1) w17 →
  ∀ (Ae3 : Option Addr) (ne3 : Nat) (ce3 : Nat),
  Φ5 3 (.slice Ae3 ne3 ce3) w17 →
  ∀ (xe5 : Int),
  Φ5 5 (.int .u8 xe5) w17 →
  ∀ (Ae6 : Option Addr) (ne6 : Nat) (ce6 : Nat),
  Φ5 6 (.slice Ae6 ne6 ce6) w17 →
  (
  Calls Tryd.prog 64 #[.slice Ae3 ne3 ce3, .slice Ae6 ne6 ce6] w17 fun e18 w19 => ∃ (A20 : Option Addr) (n20 : Nat) (c20 : Nat), e18 = .returned (.slice A20 n20 c20) ∧ (
  G4 w17 w19 ∧ Φ5 7 (.slice A20 n20 c20) w19))) ∧ True) ∧
  ∀ w21, G4 w3 w21 →
  ∀ (xe1 : Int),
  Φ5 1 (.int .i64 xe1) w21 →
  ∀ (Ae3 : Option Addr) (ne3 : Nat) (ce3 : Nat),
  Φ5 3 (.slice Ae3 ne3 ce3) w21 →
  ∀ (xe5 : Int),
  Φ5 5 (.int .u8 xe5) w21 →
  ∀ (Ae6 : Option Addr) (ne6 : Nat) (ce6 : Nat),
  Φ5 6 (.slice Ae6 ne6 ce6) w21 →
  ∀ (Ae7 : Option Addr) (ne7 : Nat) (ce7 : Nat),
  Φ5 7 (.slice Ae7 ne7 ce7) w21 →
  (
  drW w21 fun w22 =>
  h2 (⟨B1, 0, Option.none⟩ : Addr) Ae7 ne7 ce7 ∧
  ∃ (G23 : World → World → Prop) (Φ24 : Nat → Value → World → Prop), (∀ w, G23 w w) ∧ (∀ a b c, G23 a b → G23 b c → G23 a c) ∧ (∀ i v a b, G23 w22 a → G23 a b → Φ24 i v a → Φ24 i v b) ∧ (
  (∀ (_ : Fr) (w25 : World), G23 w22 w25 →
  (
  ldI w25 ((⟨B1, 0, Option.none⟩ : Addr).add 2) .u32 fun x26 =>
  G23 w25 w25 ∧ Φ24 2 (.int .u32 x26) w25)) ∧
  (∀ (_ : Fr) (w27 : World), G23 w22 w27 →
  ∀ (xe2 : Int),
  Φ24 2 (.int .u32 xe2) w27 →
  (
  Calls Tryd.prog 65 #[.int .u64 (IntKind.u64.wrap xe2), .int .i64 (4 : Int)] w27 fun e28 w29 => ∃ (A30 : Option Addr) (n30 : Nat) (c30 : Nat), e28 = .returned (.slice A30 n30 c30) ∧ (
  G23 w27 w29 ∧ Φ24 4 (.slice A30 n30 c30) w29))) ∧
  (∀ (_ : Fr) (w31 : World), G23 w22 w31 →
  ∀ (xe2 : Int),
  Φ24 2 (.int .u32 xe2) w31 →
  ∀ (Ae4 : Option Addr) (ne4 : Nat) (ce4 : Nat),
  Φ24 4 (.slice Ae4 ne4 ce4) w31 →
  (
  Calls Tryd.prog 64 #[.slice Ae7 ne7 ce7, .slice Ae4 ne4 ce4] w31 fun e32 w33 => ∃ (A34 : Option Addr) (n34 : Nat) (c34 : Nat), e32 = .returned (.slice A34 n34 c34) ∧ (
  G23 w31 w33 ∧ Φ24 5 (.slice A34 n34 c34) w33))) ∧
  (∀ (_ : Fr) (w35 : World), G23 w22 w35 →
  (
  ldS w35 ((⟨B1, 0, Option.none⟩ : Addr).add 3) fun A36 n36 c36 =>
  G23 w35 w35 ∧ Φ24 7 (.slice A36 n36 c36) w35)) ∧
  (∀ (_ : Fr) (w37 : World), G23 w22 w37 →
  ∀ (Ae7 : Option Addr) (ne7 : Nat) (ce7 : Nat),
  Φ24 7 (.slice Ae7 ne7 ce7) w37 →
  (
  alW w37 (.cells #[.int .u8 (IntKind.u8.wrap (ne7 : Int))] 5) fun B38 w39 =>
  G23 w37 w39 ∧ Φ24 10 (.slice (some (⟨B38, 0, Option.none⟩ : Addr)) 1 1) w39)) ∧
  (∀ (_ : Fr) (w40 : World), G23 w22 w40 →
  ∀ (xe2 : Int),
  Φ24 2 (.int .u32 xe2) w40 →
  ∀ (Ae4 : Option Addr) (ne4 : Nat) (ce4 : Nat),
  Φ24 4 (.slice Ae4 ne4 ce4) w40 →
  ∀ (Ae5 : Option Addr) (ne5 : Nat) (ce5 : Nat),
  Φ24 5 (.slice Ae5 ne5 ce5) w40 →
  ∀ (Ae7 : Option Addr) (ne7 : Nat) (ce7 : Nat),
  Φ24 7 (.slice Ae7 ne7 ce7) w40 →
  ∀ (Ae10 : Option Addr) (ne10 : Nat) (ce10 : Nat),
  Φ24 10 (.slice Ae10 ne10 ce10) w40 →
  (
  Calls Tryd.prog 64 #[.slice Ae5 ne5 ce5, .slice Ae10 ne10 ce10] w40 fun e41 w42 => ∃ (A43 : Option Addr) (n43 : Nat) (c43 : Nat), e41 = .returned (.slice A43 n43 c43) ∧ (
  G23 w40 w42 ∧ Φ24 11 (.slice A43 n43 c43) w42))) ∧ True) ∧
  ∀ w44, G23 w22 w44 →
  ∀ (xe2 : Int),
  Φ24 2 (.int .u32 xe2) w44 →
  ∀ (Ae4 : Option Addr) (ne4 : Nat) (ce4 : Nat),
  Φ24 4 (.slice Ae4 ne4 ce4) w44 →
  ∀ (Ae5 : Option Addr) (ne5 : Nat) (ce5 : Nat),
  Φ24 5 (.slice Ae5 ne5 ce5) w44 →
  ∀ (Ae7 : Option Addr) (ne7 : Nat) (ce7 : Nat),
  Φ24 7 (.slice Ae7 ne7 ce7) w44 →
  ∀ (Ae10 : Option Addr) (ne10 : Nat) (ce10 : Nat),
  Φ24 10 (.slice Ae10 ne10 ce10) w44 →
  ∀ (Ae11 : Option Addr) (ne11 : Nat) (ce11 : Nat),
  Φ24 11 (.slice Ae11 ne11 ce11) w44 →
  (
  alW w44 (.cells #[] 5) fun B45 w46 =>
  ∃ k80 : Nat, l0 k80 (⟨B1, 0, Option.none⟩ : Addr) Ae11 ne11 ce11 (some (⟨B45, 0, Option.none⟩ : Addr)) 0 0 (512 : Int) (0 : Int) w46 (fun (A63 : Option Addr) (n63 : Nat) (c63 : Nat) (A64 : Option Addr) (n64 : Nat) (c64 : Nat) (w65 : World) => ∀ _ : Fr,
  ∃ k79 : Nat, l1 k79 A63 n63 c63 A64 n64 c64 w65 (fun (A71 : Option Addr) (n71 : Nat) (c71 : Nat) (w72 : World) => ∀ _ : Fr,
  Calls Tryd.prog 64 #[.slice A71 n71 c71, .slice A64 n64 c64] w72 fun e73 w74 => ∃ (A75 : Option Addr) (n75 : Nat) (c75 : Nat), e73 = .returned (.slice A75 n75 c75) ∧ (
  Calls Tryd.prog 62 #[.slice A75 n75 c75] w74 fun e76 w77 => ∃ (A78 : Option Addr) (n78 : Nat) (c78 : Nat), e76 = .returned (.slice A78 n78 c78) ∧ (
  Q (.returned (.slice A78 n78 c78)) w77))))))
def D : Nat → Option DH := dtab [(1, .opn od1), (2, .opn od2)]
def l0LO : LO := ⟨[], [], [(0, [3, 4])], []⟩
def l0Tk (k : Nat) : Spec := fun Q σ w =>
  gAd (σ 1) fun at1 =>
  gSlice (σ 3) fun At3 nt3 ct3 =>
  gSlice (σ 4) fun At4 nt4 ct4 =>
  gInt .i64 (σ 5) fun xt5 =>
  gInt .i64 (σ 6) fun xt6 =>
  l0 k at1 At3 nt3 ct3 At4 nt4 ct4 xt5 xt6 w (fun (Aq3 : Option Addr) (nq3 : Nat) (cq3 : Nat) (Aq4 : Option Addr) (nq4 : Nat) (cq4 : Nat) (w : World) => ∀ d : Fr, Q (.exit 0) (ov d [(3, .slice Aq3 nq3 cq3), (4, .slice Aq4 nq4 cq4)]) w)
def l0T : Spec := fun Q σ w => ∃ k, l0Tk k Q σ w
def l0tb : List (List Nat × Spec) := []
noncomputable def l0b : Code := (subC [0, 0, 1, 0, 1, 1, 1, 1, 1] body).getD .skip
theorem l0_eq (k : Nat) (at1 : Addr) (At3 : Option Addr) (nt3 : Nat) (ct3 : Nat) (At4 : Option Addr) (nt4 : Nat) (ct4 : Nat) (xt5 : Int) (xt6 : Int) (Q : PQ) (σ : Fr) (w : World) :
    l0 (k + 1) at1 At3 nt3 ct3 At4 nt4 ct4 xt5 xt6 w (fun (Aq3 : Option Addr) (nq3 : Nat) (cq3 : Nat) (Aq4 : Option Addr) (nq4 : Nat) (cq4 : Nat) (w : World) => ∀ d : Fr, Q (.exit 0) (ov d [(3, .slice Aq3 nq3 cq3), (4, .slice Aq4 nq4 cq4)]) w) = codeW Tryd.prog hT 68 D (tab l0tb) [0, 0, 1, 0, 1, 1, 1, 1, 1] l0b (thenQ (l0Tk k Q) (widen l0LO Q)) (ov σ [(1, .pointer (some at1)), (3, .slice At3 nt3 ct3), (4, .slice At4 nt4 ct4), (5, .int .i64 xt5), (6, .int .i64 xt6)]) w := by kernel_rfl
theorem l0_snd : ∀ c, subC [0, 1, 0, 1, 1, 1, 1, 1] body = some c → Snd Tryd.prog 68 c l0T := by
  refine loop_of (hT := hT) (D := D) (l := l0tb) (b := l0b) (lo := l0LO) (by kernel_rfl) (by
    intro x hx
    simp only [l0tb, List.not_mem_nil] at hx
    ) (by kernel_rfl) (by kernel_rfl) ?_ ?_
  · intro Q σ w h
    unfold l0Tk at h
    obtain ⟨at1, h1, hn⟩ := gAd_elim h
    clear h
    have h := hn
    clear hn
    obtain ⟨At3, nt3, ct3, h3, hn⟩ := gSlice_elim h
    clear h
    have h := hn
    clear hn
    obtain ⟨At4, nt4, ct4, h4, hn⟩ := gSlice_elim h
    clear h
    have h := hn
    clear hn
    obtain ⟨xt5, h5, hn⟩ := gInt_elim h
    clear h
    have h := hn
    clear hn
    obtain ⟨xt6, h6, hn⟩ := gInt_elim h
    clear h
    have h := hn
    clear hn
    exact h
  · intro k Q σ w h
    unfold l0Tk at h
    obtain ⟨at1, h1, hn⟩ := gAd_elim h
    clear h
    have h := hn
    clear hn
    obtain ⟨At3, nt3, ct3, h3, hn⟩ := gSlice_elim h
    clear h
    have h := hn
    clear hn
    obtain ⟨At4, nt4, ct4, h4, hn⟩ := gSlice_elim h
    clear h
    have h := hn
    clear hn
    obtain ⟨xt5, h5, hn⟩ := gInt_elim h
    clear h
    have h := hn
    clear hn
    obtain ⟨xt6, h6, hn⟩ := gInt_elim h
    clear h
    have h := hn
    clear hn
    rw [l0_eq (σ := σ)] at h
    have e : (ov σ [(1, .pointer (some at1)), (3, .slice At3 nt3 ct3), (4, .slice At4 nt4 ct4), (5, .int .i64 xt5), (6, .int .i64 xt6)]) = σ := ov_self (by simp [h1, h3, h4, h5, h6])
    rw [e] at h
    exact h
def l1LO : LO := ⟨[], [], [(2, [3, 4])], []⟩
def l1Tk (k : Nat) : Spec := fun Q σ w =>
  gSlice (σ 3) fun At3 nt3 ct3 =>
  gSlice (σ 4) fun At4 nt4 ct4 =>
  l1 k At3 nt3 ct3 At4 nt4 ct4 w (fun (Aq3 : Option Addr) (nq3 : Nat) (cq3 : Nat) (w : World) => ∀ d : Fr, Q (.exit 2) (ov d [(3, .slice Aq3 nq3 cq3), (4, .slice At4 nt4 ct4)]) w)
def l1T : Spec := fun Q σ w => ∃ k, l1Tk k Q σ w
def l1tb : List (List Nat × Spec) := []
noncomputable def l1b : Code := (subC [0, 0, 0, 1, 1, 1, 1, 1, 1] body).getD .skip
theorem l1_eq (k : Nat) (At3 : Option Addr) (nt3 : Nat) (ct3 : Nat) (At4 : Option Addr) (nt4 : Nat) (ct4 : Nat) (Q : PQ) (σ : Fr) (w : World) :
    l1 (k + 1) At3 nt3 ct3 At4 nt4 ct4 w (fun (Aq3 : Option Addr) (nq3 : Nat) (cq3 : Nat) (w : World) => ∀ d : Fr, Q (.exit 2) (ov d [(3, .slice Aq3 nq3 cq3), (4, .slice At4 nt4 ct4)]) w) = codeW Tryd.prog hT 68 D (tab l1tb) [0, 0, 0, 1, 1, 1, 1, 1, 1] l1b (thenQ (l1Tk k Q) (widen l1LO Q)) (ov σ [(3, .slice At3 nt3 ct3), (4, .slice At4 nt4 ct4)]) w := by kernel_rfl
theorem l1_snd : ∀ c, subC [0, 0, 1, 1, 1, 1, 1, 1] body = some c → Snd Tryd.prog 68 c l1T := by
  refine loop_of (hT := hT) (D := D) (l := l1tb) (b := l1b) (lo := l1LO) (by kernel_rfl) (by
    intro x hx
    simp only [l1tb, List.not_mem_nil] at hx
    ) (by kernel_rfl) (by kernel_rfl) ?_ ?_
  · intro Q σ w h
    unfold l1Tk at h
    obtain ⟨At3, nt3, ct3, h3, hn⟩ := gSlice_elim h
    clear h
    have h := hn
    clear hn
    obtain ⟨At4, nt4, ct4, h4, hn⟩ := gSlice_elim h
    clear h
    have h := hn
    clear hn
    exact h
  · intro k Q σ w h
    unfold l1Tk at h
    obtain ⟨At3, nt3, ct3, h3, hn⟩ := gSlice_elim h
    clear h
    have h := hn
    clear hn
    obtain ⟨At4, nt4, ct4, h4, hn⟩ := gSlice_elim h
    clear h
    have h := hn
    clear hn
    rw [l1_eq (σ := σ)] at h
    have e : (ov σ [(3, .slice At3 nt3 ct3), (4, .slice At4 nt4 ct4)]) = σ := ov_self (by simp [h3, h4])
    rw [e] at h
    exact h
def tb : List (List Nat × Spec) := [([0, 1, 0, 1, 1, 1, 1, 1], l0T), ([0, 0, 1, 1, 1, 1, 1, 1], l1T)]
theorem wp_eq (xa0_0 : Int) (xa0_1 : Int) (xa0_2 : Int) (Aa0_3 : Option Addr) (na0_3 : Nat) (ca0_3 : Nat) (w : World) (Q : Ending → World → Prop) :
    wp xa0_0 xa0_1 xa0_2 Aa0_3 na0_3 ca0_3 w Q = codeW Tryd.prog hT 68 D (tab tb) [] body (topQ Tryd.prog hT 68 [.tmp 2] Q) (argsF [.agg #[.int .i64 xa0_0, .int .u8 xa0_1, .int .u32 xa0_2, .slice Aa0_3 na0_3 ca0_3]]) w := by kernel_rfl
theorem ok (xa0_0 : Int) (xa0_1 : Int) (xa0_2 : Int) (Aa0_3 : Option Addr) (na0_3 : Nat) (ca0_3 : Nat) (w : World) (Q : Ending → World → Prop) (h : wp xa0_0 xa0_1 xa0_2 Aa0_3 na0_3 ca0_3 w Q) : Calls Tryd.prog 39 #[.agg #[.int .i64 xa0_0, .int .u8 xa0_1, .int .u32 xa0_2, .slice Aa0_3 na0_3 ca0_3]] w Q := by
  rw [wp_eq] at h
  exact calls_of_codeW (c := body) (rs := [.tmp 2]) Tryd.func39 (by kernel_rfl) (by kernel_rfl) (by kernel_rfl) (by kernel_rfl) (by kernel_rfl) (tab_snd (by
    intro x hx
    simp only [tb, List.mem_cons, List.not_mem_nil, or_false] at hx
    rcases hx with rfl | rfl
    · exact l0_snd
    · exact l1_snd)) (by kernel_rfl) h
end f_ref08_Bytes
end Go.Proofs.YtifambgaekjilaaDoor.Rd
