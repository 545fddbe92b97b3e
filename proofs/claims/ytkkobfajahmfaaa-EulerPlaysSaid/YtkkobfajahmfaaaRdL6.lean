/- The printed readings of some functions: each function's code reckoned by the kernel to its predicate transformer. -/
import Derived.Test.YtkkobfajahmfaaaHint
namespace Go.Proofs.Ytkkobfajahmfaaa.Rd
open Go.Dn
set_option maxRecDepth 100000
set_option linter.unusedVariables false
namespace f_law16_EulerTrees
/-! skein/skeinlaw16.EulerTrees: function 6 -/
noncomputable def body : Code := (Try.f6.body).getD .skip
def l0 : Nat → Int → Option Addr → Option Addr → Nat → Nat → Option Addr → Nat → Nat → Int → Int → World → (World → Prop) → (Bool → World → Prop) → Prop
  | 0, _, _, _, _, _, _, _, _, _, _, _, _, _ => False
  | k + 1, xt2, pt7, At8, nt8, ct8, At69, nt69, ct69, xt70, xt71, w, K0, Kr =>
    sel (decide (xt71 < xt70)) (
    optB At69 fun a16 =>
    req (decide (0 ≤ xt71 ∧ xt71 < (nt69 : Int))) <|
    ldI w (a16.add (xt71.toNat * 1)) .i64 fun x17 =>
    Calls Try.prog 29 #[.pointer pt7, .int .i64 x17] w fun e18 w19 => ∃ (x20_0 : Int) (x20_1 : Int), e18 = .returned (.tuple #[.int .i64 x20_0, .int .i64 x20_1]) ∧ (
    Calls Try.prog 10 #[.pointer pt7, .int .i64 x17] w19 fun e21 w22 => ∃ (A23_0 : Option Addr) (n23_0 : Nat) (c23_0 : Nat) (x23_1 : Int), e21 = .returned (.tuple #[.slice A23_0 n23_0 c23_0, .int .i64 x23_1]) ∧ (
    Calls Try.prog 30 #[.pointer pt7, .int .i64 xt2, .int .i64 x17] w22 fun e24 w25 => ∃ (b26_0 : Bool) (x26_1 : Int), e24 = .returned (.tuple #[.bool b26_0, .int .i64 x26_1]) ∧ (
    sel (x20_1 != (0 : Int)) (
    Kr false w25) (
    sel (x23_1 != (0 : Int)) (
    Kr false w25) (
    sel (x26_1 != (0 : Int)) (
    Kr false w25) (
    sel (x20_0 != (nt8 : Int)) (
    Kr false w25) (
    sel (!b26_0) (
    Kr false w25) (
    Calls Try.prog 13 #[.slice At8 nt8 ct8, .slice A23_0 n23_0 c23_0] w25 fun e27 w28 => ∃ (b29 : Bool), e27 = .returned (.bool b29) ∧ (
    sel (!b29) (
    Kr false w28) (
    l0 k xt2 pt7 At8 nt8 ct8 At69 nt69 ct69 xt70 (IntKind.i64.wrap (xt71 + (1 : Int))) w28 K0 Kr))))))))))) (
    K0  w)
def l1 : Nat → Option Addr → Option Addr → Nat → Nat → Int → Int → World → (World → Prop) → (Bool → World → Prop) → Prop
  | 0, _, _, _, _, _, _, _, _, _ => False
  | k + 1, pt7, At121, nt121, ct121, xt122, xt123, w, K2, Kr =>
    sel (decide (xt123 < xt122)) (
    optB At121 fun a31 =>
    req (decide (0 ≤ xt123 ∧ xt123 < (nt121 : Int))) <|
    ldI w (a31.add (xt123.toNat * 1)) .i64 fun x32 =>
    Calls Try.prog 18 #[.pointer pt7, .int .i64 x32] w fun e33 w34 => ∃ (b35 : Bool), e33 = .returned (.bool b35) ∧ (
    sel (!b35) (
    Kr false w34) (
    Calls Try.prog 31 #[.pointer pt7, .int .i64 x32, .bool true] w34 fun e36 w37 => ∃ (x38 : Int), e36 = .returned (.int .i64 x38) ∧ (
    sel (x38 != (0 : Int)) (
    Kr false w37) (
    l1 k pt7 At121 nt121 ct121 xt122 (IntKind.i64.wrap (xt123 + (1 : Int))) w37 K2 Kr))))) (
    K2  w)
def wp (Aa0 : Option Addr) (na0 : Nat) (ca0 : Nat) (Aa1 : Option Addr) (na1 : Nat) (ca1 : Nat) (xa2 : Int) (w : World) (Q : Ending → World → Prop) : Prop :=
  Calls Try.prog 8 #[.slice Aa0 na0 ca0, .slice Aa1 na1 ca1] w fun e1 w2 => ∃ (p3 : Option Addr), e1 = .returned (.pointer p3) ∧ (
  sel p3.isNone (
  Q (.returned (.bool false)) w2) (
  Calls Try.prog 9 #[] w2 fun e4 w5 => ∃ (b6 : Bool), e4 = .returned (.bool b6) ∧ (
  sel (!b6) (
  Q (.returned (.bool false)) w5) (
  Calls Try.prog 10 #[.pointer p3, .int .i64 xa2] w5 fun e7 w8 => ∃ (A9_0 : Option Addr) (n9_0 : Nat) (c9_0 : Nat) (x9_1 : Int), e7 = .returned (.tuple #[.slice A9_0 n9_0 c9_0, .int .i64 x9_1]) ∧ (
  Calls Try.prog 11 #[.pointer p3, .int .i64 xa2] w8 fun e10 w11 => ∃ (A12_0 : Option Addr) (n12_0 : Nat) (c12_0 : Nat) (x12_1 : Int), e10 = .returned (.tuple #[.slice A12_0 n12_0 c12_0, .int .i64 x12_1]) ∧ (
  sel (x9_1 != (0 : Int)) (
  sel (x9_1 == (51 : Int)) (
  Q (.returned (.bool (x12_1 == (51 : Int)))) w11) (
  Q (.returned (.bool false)) w11)) (
  sel (x12_1 != (0 : Int)) (
  sel (x9_1 == (51 : Int)) (
  Q (.returned (.bool (x12_1 == (51 : Int)))) w11) (
  Q (.returned (.bool false)) w11)) (
  sel ((n9_0 : Int) != (IntKind.i64.wrap ((n12_0 : Int) + (1 : Int)))) (
  Q (.returned (.bool false)) w11) (
  Calls Try.prog 15 #[.slice A9_0 n9_0 c9_0, .int .i64 xa2] w11 fun e13 w14 => ∃ (b15 : Bool), e13 = .returned (.bool b15) ∧ (
  sel (!b15) (
  Q (.returned (.bool false)) w14) (
  ∃ k54 : Nat, l0 k54 xa2 p3 A9_0 n9_0 c9_0 A9_0 n9_0 c9_0 (n9_0 : Int) (0 : Int) w14 (fun (w30 : World) => ∀ _ : Fr,
  ∃ k51 : Nat, l1 k51 p3 A12_0 n12_0 c12_0 (n12_0 : Int) (0 : Int) w30 (fun (w39 : World) => ∀ _ : Fr,
  Calls Try.prog 32 #[.pointer p3, .int .i64 xa2] w39 fun e40 w41 => ∃ (x42_0 : Int) (x42_1 : Int), e40 = .returned (.tuple #[.int .i64 x42_0, .int .i64 x42_1]) ∧ (
  sel (x42_1 == (0 : Int)) (
  sel ((n12_0 : Int) == (0 : Int)) (
  sel (x42_0 == (0 : Int)) (
  Q (.returned (.bool true)) w41) (
  Calls Try.prog 15 #[.slice A12_0 n12_0 c12_0, .int .i64 x42_0] w41 fun e43 w44 => ∃ (b45 : Bool), e43 = .returned (.bool b45) ∧ (
  Q (.returned (.bool b45)) w44))) (
  Calls Try.prog 15 #[.slice A12_0 n12_0 c12_0, .int .i64 x42_0] w41 fun e46 w47 => ∃ (b48 : Bool), e46 = .returned (.bool b48) ∧ (
  Q (.returned (.bool b48)) w47))) (
  Q (.returned (.bool false)) w41))) (fun (b49 : Bool) (w50 : World) => ∀ _ : Fr,
  Q (.returned (.bool b49)) w50)) (fun (b52 : Bool) (w53 : World) => ∀ _ : Fr,
  Q (.returned (.bool b52)) w53))))))))))))
def D : Nat → Option DH := dtab []
def l0LO : LO := ⟨[], [6], [(0, [2, 7, 10])], []⟩
def l0Tk (k : Nat) : Spec := fun Q σ w =>
  gInt .i64 (σ 2) fun xt2 =>
  gPtr (σ 7) fun pt7 =>
  gSlice (σ 8) fun At8 nt8 ct8 =>
  gSlice (σ 69) fun At69 nt69 ct69 =>
  gInt .i64 (σ 70) fun xt70 =>
  gInt .i64 (σ 71) fun xt71 =>
  l0 k xt2 pt7 At8 nt8 ct8 At69 nt69 ct69 xt70 xt71 w (fun (w : World) => ∀ d : Fr, Q (.exit 0) (ov d [(2, .int .i64 xt2), (7, .pointer pt7), (10, σ 10)]) w) (fun (bq6 : Bool) (w : World) => ∀ d : Fr, Q .ret (ov d [(6, .bool bq6)]) w)
def l0T : Spec := fun Q σ w => ∃ k, l0Tk k Q σ w
def l0tb : List (List Nat × Spec) := []
noncomputable def l0b : Code := (subC [0, 0, 1, 0, 1, 1, 1, 1, 1, 1, 1] body).getD .skip
theorem l0_eq (k : Nat) (xt2 : Int) (pt7 : Option Addr) (At8 : Option Addr) (nt8 : Nat) (ct8 : Nat) (At69 : Option Addr) (nt69 : Nat) (ct69 : Nat) (xt70 : Int) (xt71 : Int) (Q : PQ) (σ : Fr) (w : World) :
    l0 (k + 1) xt2 pt7 At8 nt8 ct8 At69 nt69 ct69 xt70 xt71 w (fun (w : World) => ∀ d : Fr, Q (.exit 0) (ov d [(2, .int .i64 xt2), (7, .pointer pt7), (10, σ 10)]) w) (fun (bq6 : Bool) (w : World) => ∀ d : Fr, Q .ret (ov d [(6, .bool bq6)]) w) = codeW Try.prog hT 160 D (tab l0tb) [0, 0, 1, 0, 1, 1, 1, 1, 1, 1, 1] l0b (thenQ (l0Tk k Q) (widen l0LO Q)) (ov σ [(2, .int .i64 xt2), (7, .pointer pt7), (8, .slice At8 nt8 ct8), (69, .slice At69 nt69 ct69), (70, .int .i64 xt70), (71, .int .i64 xt71)]) w := by kernel_rfl
theorem l0_snd : ∀ c, subC [0, 1, 0, 1, 1, 1, 1, 1, 1, 1] body = some c → Snd Try.prog 160 c l0T := by
  refine loop_of (hT := hT) (D := D) (l := l0tb) (b := l0b) (lo := l0LO) (by kernel_rfl) (by
    intro x hx
    simp only [l0tb, List.not_mem_nil] at hx
    ) (by kernel_rfl) (by kernel_rfl) ?_ ?_
  · intro Q σ w h
    unfold l0Tk at h
    obtain ⟨xt2, h2, hn⟩ := gInt_elim h
    clear h
    have h := hn
    clear hn
    obtain ⟨pt7, h7, hn⟩ := gPtr_elim h
    clear h
    have h := hn
    clear hn
    obtain ⟨At8, nt8, ct8, h8, hn⟩ := gSlice_elim h
    clear h
    have h := hn
    clear hn
    obtain ⟨At69, nt69, ct69, h69, hn⟩ := gSlice_elim h
    clear h
    have h := hn
    clear hn
    obtain ⟨xt70, h70, hn⟩ := gInt_elim h
    clear h
    have h := hn
    clear hn
    obtain ⟨xt71, h71, hn⟩ := gInt_elim h
    clear h
    have h := hn
    clear hn
    exact h
  · intro k Q σ w h
    unfold l0Tk at h
    obtain ⟨xt2, h2, hn⟩ := gInt_elim h
    clear h
    have h := hn
    clear hn
    obtain ⟨pt7, h7, hn⟩ := gPtr_elim h
    clear h
    have h := hn
    clear hn
    obtain ⟨At8, nt8, ct8, h8, hn⟩ := gSlice_elim h
    clear h
    have h := hn
    clear hn
    obtain ⟨At69, nt69, ct69, h69, hn⟩ := gSlice_elim h
    clear h
    have h := hn
    clear hn
    obtain ⟨xt70, h70, hn⟩ := gInt_elim h
    clear h
    have h := hn
    clear hn
    obtain ⟨xt71, h71, hn⟩ := gInt_elim h
    clear h
    have h := hn
    clear hn
    rw [l0_eq (σ := σ)] at h
    have e : (ov σ [(2, .int .i64 xt2), (7, .pointer pt7), (8, .slice At8 nt8 ct8), (69, .slice At69 nt69 ct69), (70, .int .i64 xt70), (71, .int .i64 xt71)]) = σ := ov_self (by simp [h2, h7, h8, h69, h70, h71])
    rw [e] at h
    exact h
def l1LO : LO := ⟨[], [6], [(2, [2, 7, 10])], []⟩
def l1Tk (k : Nat) : Spec := fun Q σ w =>
  gPtr (σ 7) fun pt7 =>
  gSlice (σ 121) fun At121 nt121 ct121 =>
  gInt .i64 (σ 122) fun xt122 =>
  gInt .i64 (σ 123) fun xt123 =>
  l1 k pt7 At121 nt121 ct121 xt122 xt123 w (fun (w : World) => ∀ d : Fr, Q (.exit 2) (ov d [(2, σ 2), (7, .pointer pt7), (10, σ 10)]) w) (fun (bq6 : Bool) (w : World) => ∀ d : Fr, Q .ret (ov d [(6, .bool bq6)]) w)
def l1T : Spec := fun Q σ w => ∃ k, l1Tk k Q σ w
def l1tb : List (List Nat × Spec) := []
noncomputable def l1b : Code := (subC [0, 0, 1, 0, 1, 1, 1, 1, 1, 1, 1, 1] body).getD .skip
theorem l1_eq (k : Nat) (pt7 : Option Addr) (At121 : Option Addr) (nt121 : Nat) (ct121 : Nat) (xt122 : Int) (xt123 : Int) (Q : PQ) (σ : Fr) (w : World) :
    l1 (k + 1) pt7 At121 nt121 ct121 xt122 xt123 w (fun (w : World) => ∀ d : Fr, Q (.exit 2) (ov d [(2, σ 2), (7, .pointer pt7), (10, σ 10)]) w) (fun (bq6 : Bool) (w : World) => ∀ d : Fr, Q .ret (ov d [(6, .bool bq6)]) w) = codeW Try.prog hT 160 D (tab l1tb) [0, 0, 1, 0, 1, 1, 1, 1, 1, 1, 1, 1] l1b (thenQ (l1Tk k Q) (widen l1LO Q)) (ov σ [(7, .pointer pt7), (121, .slice At121 nt121 ct121), (122, .int .i64 xt122), (123, .int .i64 xt123)]) w := by kernel_rfl
theorem l1_snd : ∀ c, subC [0, 1, 0, 1, 1, 1, 1, 1, 1, 1, 1] body = some c → Snd Try.prog 160 c l1T := by
  refine loop_of (hT := hT) (D := D) (l := l1tb) (b := l1b) (lo := l1LO) (by kernel_rfl) (by
    intro x hx
    simp only [l1tb, List.not_mem_nil] at hx
    ) (by kernel_rfl) (by kernel_rfl) ?_ ?_
  · intro Q σ w h
    unfold l1Tk at h
    obtain ⟨pt7, h7, hn⟩ := gPtr_elim h
    clear h
    have h := hn
    clear hn
    obtain ⟨At121, nt121, ct121, h121, hn⟩ := gSlice_elim h
    clear h
    have h := hn
    clear hn
    obtain ⟨xt122, h122, hn⟩ := gInt_elim h
    clear h
    have h := hn
    clear hn
    obtain ⟨xt123, h123, hn⟩ := gInt_elim h
    clear h
    have h := hn
    clear hn
    exact h
  · intro k Q σ w h
    unfold l1Tk at h
    obtain ⟨pt7, h7, hn⟩ := gPtr_elim h
    clear h
    have h := hn
    clear hn
    obtain ⟨At121, nt121, ct121, h121, hn⟩ := gSlice_elim h
    clear h
    have h := hn
    clear hn
    obtain ⟨xt122, h122, hn⟩ := gInt_elim h
    clear h
    have h := hn
    clear hn
    obtain ⟨xt123, h123, hn⟩ := gInt_elim h
    clear h
    have h := hn
    clear hn
    rw [l1_eq (σ := σ)] at h
    have e : (ov σ [(7, .pointer pt7), (121, .slice At121 nt121 ct121), (122, .int .i64 xt122), (123, .int .i64 xt123)]) = σ := ov_self (by simp [h7, h121, h122, h123])
    rw [e] at h
    exact h
def tb : List (List Nat × Spec) := [([0, 1, 0, 1, 1, 1, 1, 1, 1, 1], l0T), ([0, 1, 0, 1, 1, 1, 1, 1, 1, 1, 1], l1T)]
theorem wp_eq (Aa0 : Option Addr) (na0 : Nat) (ca0 : Nat) (Aa1 : Option Addr) (na1 : Nat) (ca1 : Nat) (xa2 : Int) (w : World) (Q : Ending → World → Prop) :
    wp Aa0 na0 ca0 Aa1 na1 ca1 xa2 w Q = codeW Try.prog hT 160 D (tab tb) [] body (topQ Try.prog hT 160 [.tmp 6] Q) (argsF [.slice Aa0 na0 ca0, .slice Aa1 na1 ca1, .int .i64 xa2]) w := by kernel_rfl
theorem ok (Aa0 : Option Addr) (na0 : Nat) (ca0 : Nat) (Aa1 : Option Addr) (na1 : Nat) (ca1 : Nat) (xa2 : Int) (w : World) (Q : Ending → World → Prop) (h : wp Aa0 na0 ca0 Aa1 na1 ca1 xa2 w Q) : Calls Try.prog 6 #[.slice Aa0 na0 ca0, .slice Aa1 na1 ca1, .int .i64 xa2] w Q := by
  rw [wp_eq] at h
  exact calls_of_codeW (c := body) (rs := [.tmp 6]) Try.func6 (by kernel_rfl) (by kernel_rfl) (by kernel_rfl) (by kernel_rfl) (by kernel_rfl) (tab_snd (by
    intro x hx
    simp only [tb, List.mem_cons, List.not_mem_nil, or_false] at hx
    rcases hx with rfl | rfl
    · exact l0_snd
    · exact l1_snd)) (by kernel_rfl) h
end f_law16_EulerTrees
end Go.Proofs.Ytkkobfajahmfaaa.Rd
