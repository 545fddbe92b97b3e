/- The printed readings of some functions: each function's code reckoned by the kernel to its predicate transformer. -/
import Derived.Test.YtnfgibbkfkaonaaHint
namespace Go.Proofs.Ytnfgibbkfkaonaa.Rd
open Go.Dn
set_option maxRecDepth 100000
set_option linter.unusedVariables false
namespace f_law15_TreapSeams
/-! skein/skeinlaw15.TreapSeams: function 6 -/
noncomputable def body : Code := (Try.f6.body).getD .skip
def l0 : Nat → Option Addr → Option Addr → Nat → Nat → Int → Int → World → (World → Prop) → Prop
  | 0, _, _, _, _, _, _, _, _ => False
  | k + 1, pt9, At42, nt42, ct42, xt43, xt44, w, K0 =>
    sel (decide (xt44 < xt43)) (
    optB At42 fun a7 =>
    req (decide (0 ≤ xt44 ∧ xt44 < (nt42 : Int))) <|
    ldI w (a7.add (xt44.toNat * 5)) .i64 fun x8 =>
    ldI w ((a7.add (xt44.toNat * 5)).add 1) .i64 fun x9 =>
    ldI w ((a7.add (xt44.toNat * 5)).add 2) .i64 fun x10 =>
    ldI w ((a7.add (xt44.toNat * 5)).add 3) .i64 fun x11 =>
    ldI w ((a7.add (xt44.toNat * 5)).add 4) .u8 fun x12 =>
    alW w (.cells #[.int .i64 (0 : Int), .int .i64 (0 : Int), .int .i64 (0 : Int), .int .i64 (0 : Int), .int .u8 (0 : Int)] 30) fun B13 w14 =>
    stW w14 (⟨B13, 0, Option.none⟩ : Addr) (.int .i64 x8) fun w15 =>
    stW w15 ((⟨B13, 0, Option.none⟩ : Addr).add 1) (.int .i64 x9) fun w16 =>
    stW w16 ((⟨B13, 0, Option.none⟩ : Addr).add 2) (.int .i64 x10) fun w17 =>
    stW w17 ((⟨B13, 0, Option.none⟩ : Addr).add 3) (.int .i64 x11) fun w18 =>
    stW w18 ((⟨B13, 0, Option.none⟩ : Addr).add 4) (.int .u8 x12) fun w19 =>
    ldI w19 (⟨B13, 0, Option.none⟩ : Addr) .i64 fun x20 =>
    ldI w19 ((⟨B13, 0, Option.none⟩ : Addr).add 1) .i64 fun x21 =>
    ldI w19 ((⟨B13, 0, Option.none⟩ : Addr).add 2) .i64 fun x22 =>
    ldI w19 ((⟨B13, 0, Option.none⟩ : Addr).add 3) .i64 fun x23 =>
    ldI w19 ((⟨B13, 0, Option.none⟩ : Addr).add 4) .u8 fun x24 =>
    Calls Try.prog 10 #[.pointer pt9, .agg #[.slice none 0 0, .slice none 0 0, .slice none 0 0], .agg #[.int .i64 x20, .int .i64 x21, .int .i64 x22, .int .i64 x23, .int .u8 x24]] w19 fun e25 w26 => ∃ (A27_0_0 : Option Addr) (n27_0_0 : Nat) (c27_0_0 : Nat) (A27_0_1 : Option Addr) (n27_0_1 : Nat) (c27_0_1 : Nat) (A27_0_2 : Option Addr) (n27_0_2 : Nat) (c27_0_2 : Nat) (b27_1 : Bool), e25 = .returned (.tuple #[.agg #[.slice A27_0_0 n27_0_0 c27_0_0, .slice A27_0_1 n27_0_1 c27_0_1, .slice A27_0_2 n27_0_2 c27_0_2], .bool b27_1]) ∧ (
    l0 k pt9 At42 nt42 ct42 xt43 (IntKind.i64.wrap (xt44 + (1 : Int))) w26 K0)) (
    K0  w)
def l1 : Nat → Int → Option Addr → Option Addr → Nat → Nat → Int → Int → World → (World → Prop) → (Bool → World → Prop) → Prop
  | 0, _, _, _, _, _, _, _, _, _, _ => False
  | k + 1, xt2, pt9, At69, nt69, ct69, xt70, xt71, w, K2, Kr =>
    sel (decide (xt71 < xt70)) (
    optB At69 fun a35 =>
    req (decide (0 ≤ xt71 ∧ xt71 < (nt69 : Int))) <|
    ldI w (a35.add (xt71.toNat * 1)) .i64 fun x36 =>
    Calls Try.prog 24 #[.pointer pt9, .int .i64 x36] w fun e37 w38 => ∃ (x39_0 : Int) (x39_1 : Int), e37 = .returned (.tuple #[.int .i64 x39_0, .int .i64 x39_1]) ∧ (
    Calls Try.prog 25 #[.pointer pt9, .int .i64 xt2, .int .i64 xt71] w38 fun e40 w41 => ∃ (x42_0 : Int) (x42_1 : Int), e40 = .returned (.tuple #[.int .i64 x42_0, .int .i64 x42_1]) ∧ (
    sel (x39_1 != (0 : Int)) (
    Kr false w41) (
    sel (x42_1 != (0 : Int)) (
    Kr false w41) (
    sel (x39_0 != xt71) (
    Kr false w41) (
    sel (x42_0 != x36) (
    Kr false w41) (
    l1 k xt2 pt9 At69 nt69 ct69 xt70 (IntKind.i64.wrap (xt71 + (1 : Int))) w41 K2 Kr))))))) (
    K2  w)
def j3 (At12 : Option Addr) (nt12 : Nat) (ct12 : Nat) (At26 : Option Addr) (nt26 : Nat) (ct26 : Nat) (At30 : Option Addr) (nt30 : Nat) (ct30 : Nat) (At32 : Option Addr) (nt32 : Nat) (ct32 : Nat) (w : World) (Kr : Bool → World → Prop) : Prop :=
  Calls Try.prog 15 #[.slice At30 nt30 ct30, .slice At12 nt12 ct12] w fun e93 w94 => ∃ (b95 : Bool), e93 = .returned (.bool b95) ∧ (
  sel b95 (
  Calls Try.prog 15 #[.slice At32 nt32 ct32, .slice At26 nt26 ct26] w94 fun e96 w97 => ∃ (b98 : Bool), e96 = .returned (.bool b98) ∧ (
  Kr b98 w97)) (
  Kr false w94))
def j2 (xt2 : Int) (xt3 : Int) (pt9 : Option Addr) (At12 : Option Addr) (nt12 : Nat) (ct12 : Nat) (w : World) (Kr : Bool → World → Prop) : Prop :=
  Calls Try.prog 11 #[.pointer pt9, .int .i64 xt2] w fun e61 w62 => ∃ (A63_0 : Option Addr) (n63_0 : Nat) (c63_0 : Nat) (x63_1 : Int), e61 = .returned (.tuple #[.slice A63_0 n63_0 c63_0, .int .i64 x63_1]) ∧ (
  sel (x63_1 != (0 : Int)) (
  Kr false w62) (
  Calls Try.prog 15 #[.slice A63_0 n63_0 c63_0, .slice At12 nt12 ct12] w62 fun e64 w65 => ∃ (b66 : Bool), e64 = .returned (.bool b66) ∧ (
  sel (!b66) (
  Kr false w65) (
  Calls Try.prog 11 #[.pointer pt9, .int .i64 xt3] w65 fun e67 w68 => ∃ (A69_0 : Option Addr) (n69_0 : Nat) (c69_0 : Nat) (x69_1 : Int), e67 = .returned (.tuple #[.slice A69_0 n69_0 c69_0, .int .i64 x69_1]) ∧ (
  Calls Try.prog 16 #[.pointer pt9, .int .i64 xt2, .int .i64 xt3] w68 fun e70 w71 => ∃ (b72_0 : Bool) (x72_1 : Int), e70 = .returned (.tuple #[.bool b72_0, .int .i64 x72_1]) ∧ (
  sel (x69_1 != (0 : Int)) (
  sel (x69_1 == (150 : Int)) (
  Kr true w71) (
  Calls Try.prog 15 #[.slice A69_0 n69_0 c69_0, .slice At12 nt12 ct12] w71 fun e73 w74 => ∃ (b75 : Bool), e73 = .returned (.bool b75) ∧ (
  Kr b75 w74))) (
  sel b72_0 (
  sel (x69_1 == (150 : Int)) (
  Kr true w71) (
  Calls Try.prog 15 #[.slice A69_0 n69_0 c69_0, .slice At12 nt12 ct12] w71 fun e76 w77 => ∃ (b78 : Bool), e76 = .returned (.bool b78) ∧ (
  Kr b78 w77))) (
  Calls Try.prog 17 #[.pointer pt9, .int .i64 xt2, .int .i64 xt3] w71 fun e79 w80 => ∃ (x81 : Int), e79 = .returned (.int .i64 x81) ∧ (
  sel (x81 != (0 : Int)) (
  Kr false w80) (
  optB A69_0 fun a82 =>
  req (decide (0 ≤ (0 : Int) ∧ (0 : Int) < (n69_0 : Int))) <|
  ldI w80 (a82.add ((0 : Int).toNat * 1)) .i64 fun x83 =>
  Calls Try.prog 23 #[.pointer pt9, .int .i64 x83] w80 fun e84 w85 => ∃ (x86 : Int), e84 = .returned (.int .i64 x86) ∧ (
  sel (x86 != (0 : Int)) (
  Kr false w85) (
  Calls Try.prog 11 #[.pointer pt9, .int .i64 xt2] w85 fun e87 w88 => ∃ (A89_0 : Option Addr) (n89_0 : Nat) (c89_0 : Nat) (x89_1 : Int), e87 = .returned (.tuple #[.slice A89_0 n89_0 c89_0, .int .i64 x89_1]) ∧ (
  Calls Try.prog 11 #[.pointer pt9, .int .i64 xt3] w88 fun e90 w91 => ∃ (A92_0 : Option Addr) (n92_0 : Nat) (c92_0 : Nat) (x92_1 : Int), e90 = .returned (.tuple #[.slice A92_0 n92_0 c92_0, .int .i64 x92_1]) ∧ (
  j3 At12 nt12 ct12 A69_0 n69_0 c69_0 A89_0 n89_0 c89_0 A92_0 n92_0 c92_0 w91 (fun (b99 : Bool) (w100 : World) => ∀ _ : Fr,
  Kr b99 w100)))))))))))))))
def wp (Aa0 : Option Addr) (na0 : Nat) (ca0 : Nat) (Aa1 : Option Addr) (na1 : Nat) (ca1 : Nat) (xa2 : Int) (xa3 : Int) (w : World) (Q : Ending → World → Prop) : Prop :=
  Calls Try.prog 8 #[.slice Aa0 na0 ca0] w fun e1 w2 => ∃ (p3 : Option Addr), e1 = .returned (.pointer p3) ∧ (
  sel p3.isNone (
  Q (.returned (.bool false)) w2) (
  Calls Try.prog 9 #[] w2 fun e4 w5 => ∃ (b6 : Bool), e4 = .returned (.bool b6) ∧ (
  sel (!b6) (
  Q (.returned (.bool false)) w5) (
  ∃ k108 : Nat, l0 k108 p3 Aa1 na1 ca1 (na1 : Int) (0 : Int) w5 (fun (w28 : World) => ∀ _ : Fr,
  Calls Try.prog 11 #[.pointer p3, .int .i64 xa2] w28 fun e29 w30 => ∃ (A31_0 : Option Addr) (n31_0 : Nat) (c31_0 : Nat) (x31_1 : Int), e29 = .returned (.tuple #[.slice A31_0 n31_0 c31_0, .int .i64 x31_1]) ∧ (
  sel (x31_1 != (0 : Int)) (
  sel (x31_1 == (150 : Int)) (
  Calls Try.prog 23 #[.pointer p3, .int .i64 xa2] w30 fun e32 w33 => ∃ (x34 : Int), e32 = .returned (.int .i64 x34) ∧ (
  Q (.returned (.bool (x34 == (150 : Int)))) w33)) (
  Q (.returned (.bool false)) w30)) (
  ∃ k107 : Nat, l1 k107 xa2 p3 A31_0 n31_0 c31_0 (n31_0 : Int) (0 : Int) w30 (fun (w43 : World) => ∀ _ : Fr,
  Calls Try.prog 23 #[.pointer p3, .int .i64 xa2] w43 fun e44 w45 => ∃ (x46 : Int), e44 = .returned (.int .i64 x46) ∧ (
  sel (x46 != (0 : Int)) (
  Q (.returned (.bool false)) w45) (
  Calls Try.prog 11 #[.pointer p3, .int .i64 xa2] w45 fun e47 w48 => ∃ (A49_0 : Option Addr) (n49_0 : Nat) (c49_0 : Nat) (x49_1 : Int), e47 = .returned (.tuple #[.slice A49_0 n49_0 c49_0, .int .i64 x49_1]) ∧ (
  Calls Try.prog 24 #[.pointer p3, .int .i64 xa2] w48 fun e50 w51 => ∃ (x52_0 : Int) (x52_1 : Int), e50 = .returned (.tuple #[.int .i64 x52_0, .int .i64 x52_1]) ∧ (
  sel (x49_1 != (0 : Int)) (
  Q (.returned (.bool false)) w51) (
  sel (x52_1 != (0 : Int)) (
  Q (.returned (.bool false)) w51) (
  sel (x52_0 != (0 : Int)) (
  Q (.returned (.bool false)) w51) (
  sel (decide ((n49_0 : Int) > (n31_0 : Int))) (
  Q (.returned (.bool false)) w51) (
  req (decide (0 ≤ (IntKind.i64.wrap ((n31_0 : Int) - (n49_0 : Int))) ∧ (IntKind.i64.wrap ((n31_0 : Int) - (n49_0 : Int))) ≤ (n31_0 : Int))) <|
  Calls Try.prog 15 #[.slice A49_0 n49_0 c49_0, .slice (slA A31_0 ((IntKind.i64.wrap ((n31_0 : Int) - (n49_0 : Int))).toNat) c31_0 1) (n31_0 - (IntKind.i64.wrap ((n31_0 : Int) - (n49_0 : Int))).toNat) (c31_0 - (IntKind.i64.wrap ((n31_0 : Int) - (n49_0 : Int))).toNat)] w51 fun e53 w54 => ∃ (b55 : Bool), e53 = .returned (.bool b55) ∧ (
  sel (!b55) (
  Q (.returned (.bool false)) w54) (
  sel (decide ((n49_0 : Int) < (n31_0 : Int))) (
  optB A31_0 fun a56 =>
  req (decide (0 ≤ (0 : Int) ∧ (0 : Int) < (n31_0 : Int))) <|
  ldI w54 (a56.add ((0 : Int).toNat * 1)) .i64 fun x57 =>
  Calls Try.prog 17 #[.pointer p3, .int .i64 x57, .int .i64 xa2] w54 fun e58 w59 => ∃ (x60 : Int), e58 = .returned (.int .i64 x60) ∧ (
  sel (x60 != (0 : Int)) (
  Q (.returned (.bool false)) w59) (
  j2 xa2 xa3 p3 A31_0 n31_0 c31_0 w59 (fun (b101 : Bool) (w102 : World) => ∀ _ : Fr,
  Q (.returned (.bool b101)) w102)))) (
  j2 xa2 xa3 p3 A31_0 n31_0 c31_0 w54 (fun (b103 : Bool) (w104 : World) => ∀ _ : Fr,
  Q (.returned (.bool b103)) w104))))))))))))) (fun (b105 : Bool) (w106 : World) => ∀ _ : Fr,
  Q (.returned (.bool b105)) w106))))))))
def D : Nat → Option DH := dtab []
def l0LO : LO := ⟨[], [], [(0, [2, 3, 9])], []⟩
def l0Tk (k : Nat) : Spec := fun Q σ w =>
  gPtr (σ 9) fun pt9 =>
  gSlice (σ 42) fun At42 nt42 ct42 =>
  gInt .i64 (σ 43) fun xt43 =>
  gInt .i64 (σ 44) fun xt44 =>
  l0 k pt9 At42 nt42 ct42 xt43 xt44 w (fun (w : World) => ∀ d : Fr, Q (.exit 0) (ov d [(2, σ 2), (3, σ 3), (9, .pointer pt9)]) w)
def l0T : Spec := fun Q σ w => ∃ k, l0Tk k Q σ w
def l0tb : List (List Nat × Spec) := []
noncomputable def l0b : Code := (subC [0, 0, 1, 0, 1, 1, 1] body).getD .skip
theorem l0_eq (k : Nat) (pt9 : Option Addr) (At42 : Option Addr) (nt42 : Nat) (ct42 : Nat) (xt43 : Int) (xt44 : Int) (Q : PQ) (σ : Fr) (w : World) :
    l0 (k + 1) pt9 At42 nt42 ct42 xt43 xt44 w (fun (w : World) => ∀ d : Fr, Q (.exit 0) (ov d [(2, σ 2), (3, σ 3), (9, .pointer pt9)]) w) = codeW Try.prog hT 237 D (tab l0tb) [0, 0, 1, 0, 1, 1, 1] l0b (thenQ (l0Tk k Q) (widen l0LO Q)) (ov σ [(9, .pointer pt9), (42, .slice At42 nt42 ct42), (43, .int .i64 xt43), (44, .int .i64 xt44)]) w := by kernel_rfl
theorem l0_snd : ∀ c, subC [0, 1, 0, 1, 1, 1] body = some c → Snd Try.prog 237 c l0T := by
  refine loop_of (hT := hT) (D := D) (l := l0tb) (b := l0b) (lo := l0LO) (by kernel_rfl) (by
    intro x hx
    simp only [l0tb, List.not_mem_nil] at hx
    ) (by kernel_rfl) (by kernel_rfl) ?_ ?_
  · intro Q σ w h
    unfold l0Tk at h
    obtain ⟨pt9, h9, hn⟩ := gPtr_elim h
    clear h
    have h := hn
    clear hn
    obtain ⟨At42, nt42, ct42, h42, hn⟩ := gSlice_elim h
    clear h
    have h := hn
    clear hn
    obtain ⟨xt43, h43, hn⟩ := gInt_elim h
    clear h
    have h := hn
    clear hn
    obtain ⟨xt44, h44, hn⟩ := gInt_elim h
    clear h
    have h := hn
    clear hn
    exact h
  · intro k Q σ w h
    unfold l0Tk at h
    obtain ⟨pt9, h9, hn⟩ := gPtr_elim h
    clear h
    have h := hn
    clear hn
    obtain ⟨At42, nt42, ct42, h42, hn⟩ := gSlice_elim h
    clear h
    have h := hn
    clear hn
    obtain ⟨xt43, h43, hn⟩ := gInt_elim h
    clear h
    have h := hn
    clear hn
    obtain ⟨xt44, h44, hn⟩ := gInt_elim h
    clear h
    have h := hn
    clear hn
    rw [l0_eq (σ := σ)] at h
    have e : (ov σ [(9, .pointer pt9), (42, .slice At42 nt42 ct42), (43, .int .i64 xt43), (44, .int .i64 xt44)]) = σ := ov_self (by simp [h9, h42, h43, h44])
    rw [e] at h
    exact h
def l1LO : LO := ⟨[], [8], [(2, [2, 3, 9, 12])], []⟩
def l1Tk (k : Nat) : Spec := fun Q σ w =>
  gInt .i64 (σ 2) fun xt2 =>
  gPtr (σ 9) fun pt9 =>
  gSlice (σ 69) fun At69 nt69 ct69 =>
  gInt .i64 (σ 70) fun xt70 =>
  gInt .i64 (σ 71) fun xt71 =>
  l1 k xt2 pt9 At69 nt69 ct69 xt70 xt71 w (fun (w : World) => ∀ d : Fr, Q (.exit 2) (ov d [(2, .int .i64 xt2), (3, σ 3), (9, .pointer pt9), (12, σ 12)]) w) (fun (bq8 : Bool) (w : World) => ∀ d : Fr, Q .ret (ov d [(8, .bool bq8)]) w)
def l1T : Spec := fun Q σ w => ∃ k, l1Tk k Q σ w
def l1tb : List (List Nat × Spec) := []
noncomputable def l1b : Code := (subC [0, 0, 1, 0, 1, 1, 1, 1, 1, 1] body).getD .skip
theorem l1_eq (k : Nat) (xt2 : Int) (pt9 : Option Addr) (At69 : Option Addr) (nt69 : Nat) (ct69 : Nat) (xt70 : Int) (xt71 : Int) (Q : PQ) (σ : Fr) (w : World) :
    l1 (k + 1) xt2 pt9 At69 nt69 ct69 xt70 xt71 w (fun (w : World) => ∀ d : Fr, Q (.exit 2) (ov d [(2, .int .i64 xt2), (3, σ 3), (9, .pointer pt9), (12, σ 12)]) w) (fun (bq8 : Bool) (w : World) => ∀ d : Fr, Q .ret (ov d [(8, .bool bq8)]) w) = codeW Try.prog hT 237 D (tab l1tb) [0, 0, 1, 0, 1, 1, 1, 1, 1, 1] l1b (thenQ (l1Tk k Q) (widen l1LO Q)) (ov σ [(2, .int .i64 xt2), (9, .pointer pt9), (69, .slice At69 nt69 ct69), (70, .int .i64 xt70), (71, .int .i64 xt71)]) w := by kernel_rfl
theorem l1_snd : ∀ c, subC [0, 1, 0, 1, 1, 1, 1, 1, 1] body = some c → Snd Try.prog 237 c l1T := by
  refine loop_of (hT := hT) (D := D) (l := l1tb) (b := l1b) (lo := l1LO) (by kernel_rfl) (by
    intro x hx
    simp only [l1tb, List.not_mem_nil] at hx
    ) (by kernel_rfl) (by kernel_rfl) ?_ ?_
  · intro Q σ w h
    unfold l1Tk at h
    obtain ⟨xt2, h2, hn⟩ := gInt_elim h
    clear h
    have h := hn
    clear hn
    obtain ⟨pt9, h9, hn⟩ := gPtr_elim h
    clear h
    have h := hn
    clear hn
    obtain ⟨At69, nt69, ct69, h69, hn⟩ := gSlice_elim h
    clear h
    have h := hn
    clear hn
    obtain ⟨xt70, h70, hn⟩ := gInt_elim h
    clear h
    have h := hn
    clear hn
    obtain ⟨xt71, h71, hn⟩ := gInt_elim h
    clear h
    have h := hn
    clear hn
    exact h
  · intro k Q σ w h
    unfold l1Tk at h
    obtain ⟨xt2, h2, hn⟩ := gInt_elim h
    clear h
    have h := hn
    clear hn
    obtain ⟨pt9, h9, hn⟩ := gPtr_elim h
    clear h
    have h := hn
    clear hn
    obtain ⟨At69, nt69, ct69, h69, hn⟩ := gSlice_elim h
    clear h
    have h := hn
    clear hn
    obtain ⟨xt70, h70, hn⟩ := gInt_elim h
    clear h
    have h := hn
    clear hn
    obtain ⟨xt71, h71, hn⟩ := gInt_elim h
    clear h
    have h := hn
    clear hn
    rw [l1_eq (σ := σ)] at h
    have e : (ov σ [(2, .int .i64 xt2), (9, .pointer pt9), (69, .slice At69 nt69 ct69), (70, .int .i64 xt70), (71, .int .i64 xt71)]) = σ := ov_self (by simp [h2, h9, h69, h70, h71])
    rw [e] at h
    exact h
def j3LO : LO := ⟨[], [8], [], []⟩
def j3T : Spec := fun Q σ w =>
  gSlice (σ 12) fun At12 nt12 ct12 =>
  gSlice (σ 26) fun At26 nt26 ct26 =>
  gSlice (σ 30) fun At30 nt30 ct30 =>
  gSlice (σ 32) fun At32 nt32 ct32 =>
  j3 At12 nt12 ct12 At26 nt26 ct26 At30 nt30 ct30 At32 nt32 ct32 w (fun (bq8 : Bool) (w : World) => ∀ d : Fr, Q .ret (ov d [(8, .bool bq8)]) w)
def j3tb : List (List Nat × Spec) := []
noncomputable def j3b : Code := (subC [1, 1, 1, 1, 1, 1, 1, 1, 1, 1, 1, 1, 1, 1, 1, 1, 1, 1, 1, 1] body).getD .skip
theorem j3_eq (At12 : Option Addr) (nt12 : Nat) (ct12 : Nat) (At26 : Option Addr) (nt26 : Nat) (ct26 : Nat) (At30 : Option Addr) (nt30 : Nat) (ct30 : Nat) (At32 : Option Addr) (nt32 : Nat) (ct32 : Nat) (Q : PQ) (σ : Fr) (w : World) :
    j3 At12 nt12 ct12 At26 nt26 ct26 At30 nt30 ct30 At32 nt32 ct32 w (fun (bq8 : Bool) (w : World) => ∀ d : Fr, Q .ret (ov d [(8, .bool bq8)]) w) = codeW Try.prog hT 237 D (tab j3tb) [1, 1, 1, 1, 1, 1, 1, 1, 1, 1, 1, 1, 1, 1, 1, 1, 1, 1, 1, 1] j3b (widen j3LO Q) (ov σ [(12, .slice At12 nt12 ct12), (26, .slice At26 nt26 ct26), (30, .slice At30 nt30 ct30), (32, .slice At32 nt32 ct32)]) w := by kernel_rfl
theorem j3_snd : ∀ c, subC [1, 1, 1, 1, 1, 1, 1, 1, 1, 1, 1, 1, 1, 1, 1, 1, 1, 1, 1, 1] body = some c → Snd Try.prog 237 c j3T := by
  refine cut_of (hT := hT) (D := D) (l := j3tb) (b := j3b) (lo := j3LO) (by kernel_rfl) (by
    intro x hx
    simp only [j3tb, List.not_mem_nil] at hx
    ) (by kernel_rfl) (by kernel_rfl) ?_
  intro Q σ w h
  unfold j3T at h
  obtain ⟨At12, nt12, ct12, h12, hn⟩ := gSlice_elim h
  clear h
  have h := hn
  clear hn
  obtain ⟨At26, nt26, ct26, h26, hn⟩ := gSlice_elim h
  clear h
  have h := hn
  clear hn
  obtain ⟨At30, nt30, ct30, h30, hn⟩ := gSlice_elim h
  clear h
  have h := hn
  clear hn
  obtain ⟨At32, nt32, ct32, h32, hn⟩ := gSlice_elim h
  clear h
  have h := hn
  clear hn
  rw [j3_eq (σ := σ)] at h
  have e : (ov σ [(12, .slice At12 nt12 ct12), (26, .slice At26 nt26 ct26), (30, .slice At30 nt30 ct30), (32, .slice At32 nt32 ct32)]) = σ := ov_self (by simp [h12, h26, h30, h32])
  rw [e] at h
  exact h
def j2LO : LO := ⟨[], [8], [], []⟩
def j2T : Spec := fun Q σ w =>
  gInt .i64 (σ 2) fun xt2 =>
  gInt .i64 (σ 3) fun xt3 =>
  gPtr (σ 9) fun pt9 =>
  gSlice (σ 12) fun At12 nt12 ct12 =>
  j2 xt2 xt3 pt9 At12 nt12 ct12 w (fun (bq8 : Bool) (w : World) => ∀ d : Fr, Q .ret (ov d [(8, .bool bq8)]) w)
def j2tb : List (List Nat × Spec) := [([1, 1, 1, 1, 1, 1, 1, 1, 1, 1, 1, 1, 1, 1, 1, 1, 1, 1, 1, 1], j3T)]
noncomputable def j2b : Code := (subC [1, 1, 1, 1, 1, 1, 1, 1, 1, 1, 1, 1] body).getD .skip
theorem j2_eq (xt2 : Int) (xt3 : Int) (pt9 : Option Addr) (At12 : Option Addr) (nt12 : Nat) (ct12 : Nat) (Q : PQ) (σ : Fr) (w : World) :
    j2 xt2 xt3 pt9 At12 nt12 ct12 w (fun (bq8 : Bool) (w : World) => ∀ d : Fr, Q .ret (ov d [(8, .bool bq8)]) w) = codeW Try.prog hT 237 D (tab j2tb) [1, 1, 1, 1, 1, 1, 1, 1, 1, 1, 1, 1] j2b (widen j2LO Q) (ov σ [(2, .int .i64 xt2), (3, .int .i64 xt3), (9, .pointer pt9), (12, .slice At12 nt12 ct12)]) w := by kernel_rfl
theorem j2_snd : ∀ c, subC [1, 1, 1, 1, 1, 1, 1, 1, 1, 1, 1, 1] body = some c → Snd Try.prog 237 c j2T := by
  refine cut_of (hT := hT) (D := D) (l := j2tb) (b := j2b) (lo := j2LO) (by kernel_rfl) (by
    intro x hx
    simp only [j2tb, List.mem_cons, List.not_mem_nil, or_false] at hx
    subst hx
    exact j3_snd) (by kernel_rfl) (by kernel_rfl) ?_
  intro Q σ w h
  unfold j2T at h
  obtain ⟨xt2, h2, hn⟩ := gInt_elim h
  clear h
  have h := hn
  clear hn
  obtain ⟨xt3, h3, hn⟩ := gInt_elim h
  clear h
  have h := hn
  clear hn
  obtain ⟨pt9, h9, hn⟩ := gPtr_elim h
  clear h
  have h := hn
  clear hn
  obtain ⟨At12, nt12, ct12, h12, hn⟩ := gSlice_elim h
  clear h
  have h := hn
  clear hn
  rw [j2_eq (σ := σ)] at h
  have e : (ov σ [(2, .int .i64 xt2), (3, .int .i64 xt3), (9, .pointer pt9), (12, .slice At12 nt12 ct12)]) = σ := ov_self (by simp [h2, h3, h9, h12])
  rw [e] at h
  exact h
def tb : List (List Nat × Spec) := [([0, 1, 0, 1, 1, 1], l0T), ([0, 1, 0, 1, 1, 1, 1, 1, 1], l1T), ([1, 1, 1, 1, 1, 1, 1, 1, 1, 1, 1, 1, 1, 1, 1, 1, 1, 1, 1, 1], j3T), ([1, 1, 1, 1, 1, 1, 1, 1, 1, 1, 1, 1], j2T)]
theorem wp_eq (Aa0 : Option Addr) (na0 : Nat) (ca0 : Nat) (Aa1 : Option Addr) (na1 : Nat) (ca1 : Nat) (xa2 : Int) (xa3 : Int) (w : World) (Q : Ending → World → Prop) :
    wp Aa0 na0 ca0 Aa1 na1 ca1 xa2 xa3 w Q = codeW Try.prog hT 237 D (tab tb) [] body (topQ Try.prog hT 237 [.tmp 8] Q) (argsF [.slice Aa0 na0 ca0, .slice Aa1 na1 ca1, .int .i64 xa2, .int .i64 xa3]) w := by kernel_rfl
theorem ok (Aa0 : Option Addr) (na0 : Nat) (ca0 : Nat) (Aa1 : Option Addr) (na1 : Nat) (ca1 : Nat) (xa2 : Int) (xa3 : Int) (w : World) (Q : Ending → World → Prop) (h : wp Aa0 na0 ca0 Aa1 na1 ca1 xa2 xa3 w Q) : Calls Try.prog 6 #[.slice Aa0 na0 ca0, .slice Aa1 na1 ca1, .int .i64 xa2, .int .i64 xa3] w Q := by
  rw [wp_eq] at h
  exact calls_of_codeW (c := body) (rs := [.tmp 8]) Try.func6 (by kernel_rfl) (by kernel_rfl) (by kernel_rfl) (by kernel_rfl) (by kernel_rfl) (tab_snd (by
    intro x hx
    simp only [tb, List.mem_cons, List.not_mem_nil, or_false] at hx
    rcases hx with rfl | rfl | rfl | rfl
    · exact l0_snd
    · exact l1_snd
    · exact j3_snd
    · exact j2_snd)) (by kernel_rfl) h
end f_law15_TreapSeams
end Go.Proofs.Ytnfgibbkfkaonaa.Rd
