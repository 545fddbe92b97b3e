/- The printed readings of some functions: each function's code reckoned by the kernel to its predicate transformer. -/
import Derived.Test.YtkkobfajahmfaaaHint
namespace Go.Proofs.Ytkkobfajahmfaaa.Rd
open Go.Dn
set_option maxRecDepth 100000
set_option linter.unusedVariables false
namespace f_law16_EulerPlays
/-! skein/skeinlaw16.EulerPlays: function 5 -/
noncomputable def body : Code := (Try.f5.body).getD .skip
def l0 : Nat → Option Addr → Addr → Option Addr → Nat → Nat → Int → Int → World → (World → Prop) → (Bool → World → Prop) → Prop
  | 0, _, _, _, _, _, _, _, _, _, _ => False
  | k + 1, pt5, at6, At24, nt24, ct24, xt25, xt26, w, K0, Kr =>
    sel (decide (xt26 < xt25)) (
    optB At24 fun a13 =>
    req (decide (0 ≤ xt26 ∧ xt26 < (nt24 : Int))) <|
    ldI w (a13.add (xt26.toNat * 5)) .i64 fun x14 =>
    ldI w ((a13.add (xt26.toNat * 5)).add 1) .i64 fun x15 =>
    ldI w ((a13.add (xt26.toNat * 5)).add 2) .i64 fun x16 =>
    ldI w ((a13.add (xt26.toNat * 5)).add 3) .i64 fun x17 =>
    ldB w ((a13.add (xt26.toNat * 5)).add 4) fun b18 =>
    alW w (.cells #[.int .i64 (0 : Int), .int .i64 (0 : Int), .int .i64 (0 : Int), .int .i64 (0 : Int), .bool false] 45) fun B19 w20 =>
    stW w20 (⟨B19, 0, Option.none⟩ : Addr) (.int .i64 x14) fun w21 =>
    stW w21 ((⟨B19, 0, Option.none⟩ : Addr).add 1) (.int .i64 x15) fun w22 =>
    stW w22 ((⟨B19, 0, Option.none⟩ : Addr).add 2) (.int .i64 x16) fun w23 =>
    stW w23 ((⟨B19, 0, Option.none⟩ : Addr).add 3) (.int .i64 x17) fun w24 =>
    stW w24 ((⟨B19, 0, Option.none⟩ : Addr).add 4) (.bool b18) fun w25 =>
    ldS w25 at6 fun A26 n26 c26 =>
    ldS w25 (at6.add 1) fun A27 n27 c27 =>
    ldS w25 (at6.add 2) fun A28 n28 c28 =>
    ldS w25 (at6.add 3) fun A29 n29 c29 =>
    ldI w25 (⟨B19, 0, Option.none⟩ : Addr) .i64 fun x30 =>
    ldI w25 ((⟨B19, 0, Option.none⟩ : Addr).add 1) .i64 fun x31 =>
    ldI w25 ((⟨B19, 0, Option.none⟩ : Addr).add 2) .i64 fun x32 =>
    ldI w25 ((⟨B19, 0, Option.none⟩ : Addr).add 3) .i64 fun x33 =>
    ldB w25 ((⟨B19, 0, Option.none⟩ : Addr).add 4) fun b34 =>
    Calls Try.prog 26 #[.pointer pt5, .agg #[.slice A26 n26 c26, .slice A27 n27 c27, .slice A28 n28 c28, .slice A29 n29 c29], .agg #[.int .i64 x30, .int .i64 x31, .int .i64 x32, .int .i64 x33, .bool b34]] w25 fun e35 w36 => ∃ (A37_0_0 : Option Addr) (n37_0_0 : Nat) (c37_0_0 : Nat) (A37_0_1 : Option Addr) (n37_0_1 : Nat) (c37_0_1 : Nat) (A37_0_2 : Option Addr) (n37_0_2 : Nat) (c37_0_2 : Nat) (A37_0_3 : Option Addr) (n37_0_3 : Nat) (c37_0_3 : Nat) (b37_1 : Bool), e35 = .returned (.tuple #[.agg #[.slice A37_0_0 n37_0_0 c37_0_0, .slice A37_0_1 n37_0_1 c37_0_1, .slice A37_0_2 n37_0_2 c37_0_2, .slice A37_0_3 n37_0_3 c37_0_3], .bool b37_1]) ∧ (
    alW w36 (.cells #[.slice none 0 0, .slice none 0 0, .slice none 0 0, .slice none 0 0] 43) fun B38 w39 =>
    stW w39 (⟨B38, 0, Option.none⟩ : Addr) (.slice A37_0_0 n37_0_0 c37_0_0) fun w40 =>
    stW w40 ((⟨B38, 0, Option.none⟩ : Addr).add 1) (.slice A37_0_1 n37_0_1 c37_0_1) fun w41 =>
    stW w41 ((⟨B38, 0, Option.none⟩ : Addr).add 2) (.slice A37_0_2 n37_0_2 c37_0_2) fun w42 =>
    stW w42 ((⟨B38, 0, Option.none⟩ : Addr).add 3) (.slice A37_0_3 n37_0_3 c37_0_3) fun w43 =>
    ldS w43 (⟨B38, 0, Option.none⟩ : Addr) fun A44 n44 c44 =>
    ldS w43 ((⟨B38, 0, Option.none⟩ : Addr).add 1) fun A45 n45 c45 =>
    ldS w43 ((⟨B38, 0, Option.none⟩ : Addr).add 2) fun A46 n46 c46 =>
    ldS w43 ((⟨B38, 0, Option.none⟩ : Addr).add 3) fun A47 n47 c47 =>
    stW w43 at6 (.slice A44 n44 c44) fun w48 =>
    stW w48 (at6.add 1) (.slice A45 n45 c45) fun w49 =>
    stW w49 (at6.add 2) (.slice A46 n46 c46) fun w50 =>
    stW w50 (at6.add 3) (.slice A47 n47 c47) fun w51 =>
    ldS w51 at6 fun A52 n52 c52 =>
    ldS w51 (at6.add 1) fun A53 n53 c53 =>
    ldS w51 (at6.add 2) fun A54 n54 c54 =>
    ldS w51 (at6.add 3) fun A55 n55 c55 =>
    ldI w51 ((⟨B19, 0, Option.none⟩ : Addr).add 1) .i64 fun x56 =>
    Calls Try.prog 27 #[.agg #[.slice A52 n52 c52, .slice A53 n53 c53, .slice A54 n54 c54, .slice A55 n55 c55], .int .i64 x56] w51 fun e57 w58 => ∃ (x59_0_0 : Int) (x59_0_1 : Int) (x59_0_2 : Int) (x59_0_3 : Int) (b59_1 : Bool), e57 = .returned (.tuple #[.agg #[.int .i64 x59_0_0, .int .i64 x59_0_1, .int .i64 x59_0_2, .int .i64 x59_0_3], .bool b59_1]) ∧ (
    alW w58 (.cells #[.int .i64 (0 : Int), .int .i64 (0 : Int), .int .i64 (0 : Int), .int .i64 (0 : Int)] 50) fun B60 w61 =>
    stW w61 (⟨B60, 0, Option.none⟩ : Addr) (.int .i64 x59_0_0) fun w62 =>
    stW w62 ((⟨B60, 0, Option.none⟩ : Addr).add 1) (.int .i64 x59_0_1) fun w63 =>
    stW w63 ((⟨B60, 0, Option.none⟩ : Addr).add 2) (.int .i64 x59_0_2) fun w64 =>
    stW w64 ((⟨B60, 0, Option.none⟩ : Addr).add 3) (.int .i64 x59_0_3) fun w65 =>
    drW w65 fun w66 =>
    ∃ S67 : World → Prop, S67 w66 ∧ (
    sel (!b37_1) (
    S67 w66 ∧ (
    S67 w66 ∧ (
    S67 w66 ∧ (
    Kr false w66)))) (
    hdS S67 at6 fun A68 n68 c68 =>
    Calls Try.prog 25 #[.pointer pt5] w66 fun e69 w70 => ∃ (x71 : Int), e69 = .returned (.int .i64 x71) ∧ (
    S67 w70 ∧ (
    sel (x71 != (n68 : Int)) (
    S67 w70 ∧ (
    S67 w70 ∧ (
    Kr false w70))) (
    hdI S67 ((⟨B19, 0, Option.none⟩ : Addr).add 1) .i64 fun x72 =>
    Calls Try.prog 18 #[.pointer pt5, .int .i64 x72] w70 fun e73 w74 => ∃ (b75 : Bool), e73 = .returned (.bool b75) ∧ (
    S67 w74 ∧ (
    sel (!(b75 == b59_1)) (
    S67 w74 ∧ (
    Kr false w74)) (
    hdS S67 at6 fun A76 n76 c76 =>
    hdS S67 (at6.add 1) fun A77 n77 c77 =>
    hdS S67 (at6.add 2) fun A78 n78 c78 =>
    hdS S67 (at6.add 3) fun A79 n79 c79 =>
    hdI S67 ((⟨B19, 0, Option.none⟩ : Addr).add 2) .i64 fun x80 =>
    hdI S67 ((⟨B19, 0, Option.none⟩ : Addr).add 3) .i64 fun x81 =>
    Calls Try.prog 28 #[.pointer pt5, .agg #[.slice A76 n76 c76, .slice A77 n77 c77, .slice A78 n78 c78, .slice A79 n79 c79], .int .i64 x80, .int .i64 x81] w74 fun e82 w83 => ∃ (b84 : Bool), e82 = .returned (.bool b84) ∧ (
    S67 w83 ∧ (
    sel (!b84) (
    Kr false w83) (
    hdS S67 at6 fun A85 n85 c85 =>
    hdS S67 (at6.add 1) fun A86 n86 c86 =>
    hdS S67 (at6.add 2) fun A87 n87 c87 =>
    hdS S67 (at6.add 3) fun A88 n88 c88 =>
    hdI S67 ((⟨B19, 0, Option.none⟩ : Addr).add 3) .i64 fun x89 =>
    hdI S67 ((⟨B19, 0, Option.none⟩ : Addr).add 2) .i64 fun x90 =>
    Calls Try.prog 28 #[.pointer pt5, .agg #[.slice A85 n85 c85, .slice A86 n86 c86, .slice A87 n87 c87, .slice A88 n88 c88], .int .i64 x89, .int .i64 x90] w83 fun e91 w92 => ∃ (b93 : Bool), e91 = .returned (.bool b93) ∧ (
    sel (!b93) (
    Kr false w92) (
    l0 k pt5 at6 At24 nt24 ct24 xt25 (IntKind.i64.wrap (xt26 + (1 : Int))) w92 K0 Kr)))))))))))))))) (
    K0  w)
def l1 : Nat → Option Addr → Addr → Option Addr → Nat → Nat → Int → Int → World → (World → Prop) → (Bool → World → Prop) → Prop
  | 0, _, _, _, _, _, _, _, _, _, _ => False
  | k + 1, pt5, at6, At87, nt87, ct87, xt88, xt89, w, K2, Kr =>
    sel (decide (xt89 < xt88)) (
    optB At87 fun a96 =>
    req (decide (0 ≤ xt89 ∧ xt89 < (nt87 : Int))) <|
    ldI w (a96.add (xt89.toNat * 1)) .i64 fun x97 =>
    drW w fun w98 =>
    ldS w98 at6 fun A100 n100 c100 =>
    ldS w98 (at6.add 1) fun A101 n101 c101 =>
    ldS w98 (at6.add 2) fun A102 n102 c102 =>
    ldS w98 (at6.add 3) fun A103 n103 c103 =>
    ldS w98 at6 fun A104 n104 c104 =>
    optB A104 fun a105 =>
    req (decide (0 ≤ (0 : Int) ∧ (0 : Int) < (n104 : Int))) <|
    ldI w98 (a105.add ((0 : Int).toNat * 1)) .i64 fun x106 =>
    Calls Try.prog 28 #[.pointer pt5, .agg #[.slice A100 n100 c100, .slice A101 n101 c101, .slice A102 n102 c102, .slice A103 n103 c103], .int .i64 x97, .int .i64 x106] w98 fun e107 w108 => ∃ (b109 : Bool), e107 = .returned (.bool b109) ∧ (
    sel (!b109) (
    Kr false w108) (
    l1 k pt5 at6 At87 nt87 ct87 xt88 (IntKind.i64.wrap (xt89 + (1 : Int))) w108 K2 Kr))) (
    K2  w)
def wp (Aa0 : Option Addr) (na0 : Nat) (ca0 : Nat) (Aa1 : Option Addr) (na1 : Nat) (ca1 : Nat) (w : World) (Q : Ending → World → Prop) : Prop :=
  Calls Try.prog 19 #[.slice Aa0 na0 ca0] w fun e1 w2 => ∃ (p3 : Option Addr), e1 = .returned (.pointer p3) ∧ (
  sel p3.isNone (
  Q (.returned (.bool false)) w2) (
  Calls Try.prog 9 #[] w2 fun e4 w5 => ∃ (b6 : Bool), e4 = .returned (.bool b6) ∧ (
  sel (!b6) (
  Q (.returned (.bool false)) w5) (
  alW w5 (.cells #[.slice none 0 0, .slice none 0 0, .slice none 0 0, .slice none 0 0] 43) fun B7 w8 =>
  stW w8 (⟨B7, 0, Option.none⟩ : Addr) (.slice none 0 0) fun w9 =>
  stW w9 ((⟨B7, 0, Option.none⟩ : Addr).add 1) (.slice none 0 0) fun w10 =>
  stW w10 ((⟨B7, 0, Option.none⟩ : Addr).add 2) (.slice none 0 0) fun w11 =>
  stW w11 ((⟨B7, 0, Option.none⟩ : Addr).add 3) (.slice none 0 0) fun w12 =>
  ∃ k116 : Nat, l0 k116 p3 (⟨B7, 0, Option.none⟩ : Addr) Aa1 na1 ca1 (na1 : Int) (0 : Int) w12 (fun (w94 : World) => ∀ _ : Fr,
  ldS w94 (⟨B7, 0, Option.none⟩ : Addr) fun A95 n95 c95 =>
  ∃ k113 : Nat, l1 k113 p3 (⟨B7, 0, Option.none⟩ : Addr) A95 n95 c95 (n95 : Int) (0 : Int) w94 (fun (w110 : World) => ∀ _ : Fr,
  Q (.returned (.bool true)) w110) (fun (b111 : Bool) (w112 : World) => ∀ _ : Fr,
  Q (.returned (.bool b111)) w112)) (fun (b114 : Bool) (w115 : World) => ∀ _ : Fr,
  Q (.returned (.bool b114)) w115)))))
def D : Nat → Option DH := dtab [(11, .held [.fst 0, .fst 1, .fst 2, .fst 3, .fst 5, .fst 6, .fst 7, .fst 8, .eff 4, .fst 9, .fst 10, .fst 11, .fst 12, .fst 13, .fst 14, .fst 16, .eff 15, .fst 17, .fst 18, .fst 19, .fst 20, .fst 21, .fst 22, .fst 23, .fst 24, .fst 25, .eff 26, .fst 27, .fst 28, .fst 29, .fst 30, .fst 31, .fst 32, .fst 33, .fst 34, .fst 35] [.eff 36, .fst 37, .fst 38]), (17, .simple [.fst 0, .fst 1, .fst 2, .fst 3, .fst 4, .fst 5, .fst 6, .fst 7] [.eff 8, .fst 9])]
def l0LO : LO := ⟨[], [4], [(0, [5, 6])], []⟩
def l0Tk (k : Nat) : Spec := fun Q σ w =>
  gPtr (σ 5) fun pt5 =>
  gAd (σ 6) fun at6 =>
  gSlice (σ 24) fun At24 nt24 ct24 =>
  gInt .i64 (σ 25) fun xt25 =>
  gInt .i64 (σ 26) fun xt26 =>
  l0 k pt5 at6 At24 nt24 ct24 xt25 xt26 w (fun (w : World) => ∀ d : Fr, Q (.exit 0) (ov d [(5, .pointer pt5), (6, .pointer (some at6))]) w) (fun (bq4 : Bool) (w : World) => ∀ d : Fr, Q .ret (ov d [(4, .bool bq4)]) w)
def l0T : Spec := fun Q σ w => ∃ k, l0Tk k Q σ w
def l0tb : List (List Nat × Spec) := []
noncomputable def l0b : Code := (subC [0, 0, 1, 0, 1, 1, 1, 1] body).getD .skip
theorem l0_eq (k : Nat) (pt5 : Option Addr) (at6 : Addr) (At24 : Option Addr) (nt24 : Nat) (ct24 : Nat) (xt25 : Int) (xt26 : Int) (Q : PQ) (σ : Fr) (w : World) :
    l0 (k + 1) pt5 at6 At24 nt24 ct24 xt25 xt26 w (fun (w : World) => ∀ d : Fr, Q (.exit 0) (ov d [(5, .pointer pt5), (6, .pointer (some at6))]) w) (fun (bq4 : Bool) (w : World) => ∀ d : Fr, Q .ret (ov d [(4, .bool bq4)]) w) = codeW Try.prog hT 104 D (tab l0tb) [0, 0, 1, 0, 1, 1, 1, 1] l0b (thenQ (l0Tk k Q) (widen l0LO Q)) (ov σ [(5, .pointer pt5), (6, .pointer (some at6)), (24, .slice At24 nt24 ct24), (25, .int .i64 xt25), (26, .int .i64 xt26)]) w := by kernel_rfl
theorem l0_snd : ∀ c, subC [0, 1, 0, 1, 1, 1, 1] body = some c → Snd Try.prog 104 c l0T := by
  refine loop_of (hT := hT) (D := D) (l := l0tb) (b := l0b) (lo := l0LO) (by kernel_rfl) (by
    intro x hx
    simp only [l0tb, List.not_mem_nil] at hx
    ) (by kernel_rfl) (by kernel_rfl) ?_ ?_
  · intro Q σ w h
    unfold l0Tk at h
    obtain ⟨pt5, h5, hn⟩ := gPtr_elim h
    clear h
    have h := hn
    clear hn
    obtain ⟨at6, h6, hn⟩ := gAd_elim h
    clear h
    have h := hn
    clear hn
    obtain ⟨At24, nt24, ct24, h24, hn⟩ := gSlice_elim h
    clear h
    have h := hn
    clear hn
    obtain ⟨xt25, h25, hn⟩ := gInt_elim h
    clear h
    have h := hn
    clear hn
    obtain ⟨xt26, h26, hn⟩ := gInt_elim h
    clear h
    have h := hn
    clear hn
    exact h
  · intro k Q σ w h
    unfold l0Tk at h
    obtain ⟨pt5, h5, hn⟩ := gPtr_elim h
    clear h
    have h := hn
    clear hn
    obtain ⟨at6, h6, hn⟩ := gAd_elim h
    clear h
    have h := hn
    clear hn
    obtain ⟨At24, nt24, ct24, h24, hn⟩ := gSlice_elim h
    clear h
    have h := hn
    clear hn
    obtain ⟨xt25, h25, hn⟩ := gInt_elim h
    clear h
    have h := hn
    clear hn
    obtain ⟨xt26, h26, hn⟩ := gInt_elim h
    clear h
    have h := hn
    clear hn
    rw [l0_eq (σ := σ)] at h
    have e : (ov σ [(5, .pointer pt5), (6, .pointer (some at6)), (24, .slice At24 nt24 ct24), (25, .int .i64 xt25), (26, .int .i64 xt26)]) = σ := ov_self (by simp [h5, h6, h24, h25, h26])
    rw [e] at h
    exact h
def l1LO : LO := ⟨[], [4], [(2, [])], []⟩
def l1Tk (k : Nat) : Spec := fun Q σ w =>
  gPtr (σ 5) fun pt5 =>
  gAd (σ 6) fun at6 =>
  gSlice (σ 87) fun At87 nt87 ct87 =>
  gInt .i64 (σ 88) fun xt88 =>
  gInt .i64 (σ 89) fun xt89 =>
  l1 k pt5 at6 At87 nt87 ct87 xt88 xt89 w (fun (w : World) => ∀ d : Fr, Q (.exit 2) (ov d []) w) (fun (bq4 : Bool) (w : World) => ∀ d : Fr, Q .ret (ov d [(4, .bool bq4)]) w)
def l1T : Spec := fun Q σ w => ∃ k, l1Tk k Q σ w
def l1tb : List (List Nat × Spec) := []
noncomputable def l1b : Code := (subC [0, 0, 1, 0, 1, 1, 1, 1, 1] body).getD .skip
theorem l1_eq (k : Nat) (pt5 : Option Addr) (at6 : Addr) (At87 : Option Addr) (nt87 : Nat) (ct87 : Nat) (xt88 : Int) (xt89 : Int) (Q : PQ) (σ : Fr) (w : World) :
    l1 (k + 1) pt5 at6 At87 nt87 ct87 xt88 xt89 w (fun (w : World) => ∀ d : Fr, Q (.exit 2) (ov d []) w) (fun (bq4 : Bool) (w : World) => ∀ d : Fr, Q .ret (ov d [(4, .bool bq4)]) w) = codeW Try.prog hT 104 D (tab l1tb) [0, 0, 1, 0, 1, 1, 1, 1, 1] l1b (thenQ (l1Tk k Q) (widen l1LO Q)) (ov σ [(5, .pointer pt5), (6, .pointer (some at6)), (87, .slice At87 nt87 ct87), (88, .int .i64 xt88), (89, .int .i64 xt89)]) w := by kernel_rfl
theorem l1_snd : ∀ c, subC [0, 1, 0, 1, 1, 1, 1, 1] body = some c → Snd Try.prog 104 c l1T := by
  refine loop_of (hT := hT) (D := D) (l := l1tb) (b := l1b) (lo := l1LO) (by kernel_rfl) (by
    intro x hx
    simp only [l1tb, List.not_mem_nil] at hx
    ) (by kernel_rfl) (by kernel_rfl) ?_ ?_
  · intro Q σ w h
    unfold l1Tk at h
    obtain ⟨pt5, h5, hn⟩ := gPtr_elim h
    clear h
    have h := hn
    clear hn
    obtain ⟨at6, h6, hn⟩ := gAd_elim h
    clear h
    have h := hn
    clear hn
    obtain ⟨At87, nt87, ct87, h87, hn⟩ := gSlice_elim h
    clear h
    have h := hn
    clear hn
    obtain ⟨xt88, h88, hn⟩ := gInt_elim h
    clear h
    have h := hn
    clear hn
    obtain ⟨xt89, h89, hn⟩ := gInt_elim h
    clear h
    have h := hn
    clear hn
    exact h
  · intro k Q σ w h
    unfold l1Tk at h
    obtain ⟨pt5, h5, hn⟩ := gPtr_elim h
    clear h
    have h := hn
    clear hn
    obtain ⟨at6, h6, hn⟩ := gAd_elim h
    clear h
    have h := hn
    clear hn
    obtain ⟨At87, nt87, ct87, h87, hn⟩ := gSlice_elim h
    clear h
    have h := hn
    clear hn
    obtain ⟨xt88, h88, hn⟩ := gInt_elim h
    clear h
    have h := hn
    clear hn
    obtain ⟨xt89, h89, hn⟩ := gInt_elim h
    clear h
    have h := hn
    clear hn
    rw [l1_eq (σ := σ)] at h
    have e : (ov σ [(5, .pointer pt5), (6, .pointer (some at6)), (87, .slice At87 nt87 ct87), (88, .int .i64 xt88), (89, .int .i64 xt89)]) = σ := ov_self (by simp [h5, h6, h87, h88, h89])
    rw [e] at h
    exact h
def tb : List (List Nat × Spec) := [([0, 1, 0, 1, 1, 1, 1], l0T), ([0, 1, 0, 1, 1, 1, 1, 1], l1T)]
theorem wp_eq (Aa0 : Option Addr) (na0 : Nat) (ca0 : Nat) (Aa1 : Option Addr) (na1 : Nat) (ca1 : Nat) (w : World) (Q : Ending → World → Prop) :
    wp Aa0 na0 ca0 Aa1 na1 ca1 w Q = codeW Try.prog hT 104 D (tab tb) [] body (topQ Try.prog hT 104 [.tmp 4] Q) (argsF [.slice Aa0 na0 ca0, .slice Aa1 na1 ca1]) w := by kernel_rfl
theorem ok (Aa0 : Option Addr) (na0 : Nat) (ca0 : Nat) (Aa1 : Option Addr) (na1 : Nat) (ca1 : Nat) (w : World) (Q : Ending → World → Prop) (h : wp Aa0 na0 ca0 Aa1 na1 ca1 w Q) : Calls Try.prog 5 #[.slice Aa0 na0 ca0, .slice Aa1 na1 ca1] w Q := by
  rw [wp_eq] at h
  exact calls_of_codeW (c := body) (rs := [.tmp 4]) Try.func5 (by kernel_rfl) (by kernel_rfl) (by kernel_rfl) (by kernel_rfl) (by kernel_rfl) (tab_snd (by
    intro x hx
    simp only [tb, List.mem_cons, List.not_mem_nil, or_false] at hx
    rcases hx with rfl | rfl
    · exact l0_snd
    · exact l1_snd)) (by kernel_rfl) h
end f_law16_EulerPlays
end Go.Proofs.Ytkkobfajahmfaaa.Rd
