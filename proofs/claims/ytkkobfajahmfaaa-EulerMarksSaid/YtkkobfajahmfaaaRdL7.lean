/- The printed readings of some functions: each function's code reckoned by the kernel to its predicate transformer. -/
import Derived.Test.YtkkobfajahmfaaaHint
namespace Go.Proofs.Ytkkobfajahmfaaa.Rd
open Go.Dn
set_option maxRecDepth 100000
set_option linter.unusedVariables false
namespace f_law16_EulerMarks
/-! skein/skeinlaw16.EulerMarks: function 7 -/
noncomputable def body : Code := (Try.f7.body).getD .skip
def l0 : Nat → Option Addr → Option Addr → Nat → Nat → Int → Int → World → (World → Prop) → (Bool → World → Prop) → Prop
  | 0, _, _, _, _, _, _, _, _, _ => False
  | k + 1, pt7, At67, nt67, ct67, xt68, xt69, w, K0, Kr =>
    sel (decide (xt69 < xt68)) (
    optB At67 fun a19 =>
    req (decide (0 ≤ xt69 ∧ xt69 < (nt67 : Int))) <|
    ldI w (a19.add (xt69.toNat * 1)) .i64 fun x20 =>
    Calls Try.prog 34 #[.pointer pt7, .int .i64 x20, .bool true] w fun e21 w22 => ∃ (x23 : Int), e21 = .returned (.int .i64 x23) ∧ (
    sel (x23 != (0 : Int)) (
    Kr false w22) (
    l0 k pt7 At67 nt67 ct67 xt68 (IntKind.i64.wrap (xt69 + (1 : Int))) w22 K0 Kr))) (
    K0  w)
def l1 : Nat → Option Addr → Option Addr → Nat → Nat → Int → Int → World → (World → Prop) → (Bool → World → Prop) → Prop
  | 0, _, _, _, _, _, _, _, _, _ => False
  | k + 1, pt7, At78, nt78, ct78, xt79, xt80, w, K2, Kr =>
    sel (decide (xt80 < xt79)) (
    optB At78 fun a25 =>
    req (decide (0 ≤ xt80 ∧ xt80 < (nt78 : Int))) <|
    ldI w (a25.add (xt80.toNat * 1)) .i64 fun x26 =>
    Calls Try.prog 31 #[.pointer pt7, .int .i64 x26, .bool true] w fun e27 w28 => ∃ (x29 : Int), e27 = .returned (.int .i64 x29) ∧ (
    sel (x29 != (0 : Int)) (
    Kr false w28) (
    l1 k pt7 At78 nt78 ct78 xt79 (IntKind.i64.wrap (xt80 + (1 : Int))) w28 K2 Kr))) (
    K2  w)
def l2 : Nat → Int → Option Addr → Option Addr → Nat → Nat → Int → World → ((Option Addr) → Nat → Nat → World → Prop) → (Bool → World → Prop) → Prop
  | 0, _, _, _, _, _, _, _, _, _ => False
  | k + 1, xt2, pt7, At8, nt8, ct8, xt18, w, K4, Kr =>
    sel (decide (xt18 > (0 : Int))) (
    Calls Try.prog 33 #[.pointer pt7, .int .i64 xt2] w fun e31 w32 => ∃ (x33_0 : Int) (x33_1 : Int), e31 = .returned (.tuple #[.int .i64 x33_0, .int .i64 x33_1]) ∧ (
    sel (x33_1 != (0 : Int)) (
    Kr false w32) (
    Calls Try.prog 15 #[.slice At8 nt8 ct8, .int .i64 x33_0] w32 fun e34 w35 => ∃ (b36 : Bool), e34 = .returned (.bool b36) ∧ (
    sel (!b36) (
    Kr false w35) (
    Calls Try.prog 34 #[.pointer pt7, .int .i64 x33_0, .bool false] w35 fun e37 w38 => ∃ (x39 : Int), e37 = .returned (.int .i64 x39) ∧ (
    sel (x39 != (0 : Int)) (
    Kr false w38) (
    Calls Try.prog 35 #[.slice At8 nt8 ct8, .int .i64 x33_0] w38 fun e40 w41 => ∃ (A42 : Option Addr) (n42 : Nat) (c42 : Nat), e40 = .returned (.slice A42 n42 c42) ∧ (
    l2 k xt2 pt7 A42 n42 c42 (IntKind.i64.wrap (xt18 - (1 : Int))) w41 K4 Kr)))))))) (
    K4 At8 nt8 ct8 w)
def l3 : Nat → Int → Option Addr → Option Addr → Nat → Nat → Int → World → ((Option Addr) → Nat → Nat → World → Prop) → (Bool → World → Prop) → Prop
  | 0, _, _, _, _, _, _, _, _, _ => False
  | k + 1, xt2, pt7, At10, nt10, ct10, xt21, w, K6, Kr =>
    sel (decide (xt21 > (0 : Int))) (
    Calls Try.prog 32 #[.pointer pt7, .int .i64 xt2] w fun e45 w46 => ∃ (x47_0 : Int) (x47_1 : Int), e45 = .returned (.tuple #[.int .i64 x47_0, .int .i64 x47_1]) ∧ (
    sel (x47_1 != (0 : Int)) (
    Kr false w46) (
    Calls Try.prog 15 #[.slice At10 nt10 ct10, .int .i64 x47_0] w46 fun e48 w49 => ∃ (b50 : Bool), e48 = .returned (.bool b50) ∧ (
    sel (!b50) (
    Kr false w49) (
    Calls Try.prog 31 #[.pointer pt7, .int .i64 x47_0, .bool false] w49 fun e51 w52 => ∃ (x53 : Int), e51 = .returned (.int .i64 x53) ∧ (
    sel (x53 != (0 : Int)) (
    Kr false w52) (
    Calls Try.prog 35 #[.slice At10 nt10 ct10, .int .i64 x47_0] w52 fun e54 w55 => ∃ (A56 : Option Addr) (n56 : Nat) (c56 : Nat), e54 = .returned (.slice A56 n56 c56) ∧ (
    l3 k xt2 pt7 A56 n56 c56 (IntKind.i64.wrap (xt21 - (1 : Int))) w55 K6 Kr)))))))) (
    K6 At10 nt10 ct10 w)
def wp (Aa0 : Option Addr) (na0 : Nat) (ca0 : Nat) (Aa1 : Option Addr) (na1 : Nat) (ca1 : Nat) (xa2 : Int) (w : World) (Q : Ending → World → Prop) : Prop :=
  Calls Try.prog 8 #[.slice Aa0 na0 ca0, .slice Aa1 na1 ca1] w fun e1 w2 => ∃ (p3 : Option Addr), e1 = .returned (.pointer p3) ∧ (
  sel p3.isNone (
  Q (.returned (.bool false)) w2) (
  Calls Try.prog 9 #[] w2 fun e4 w5 => ∃ (b6 : Bool), e4 = .returned (.bool b6) ∧ (
  sel (!b6) (
  Q (.returned (.bool false)) w5) (
  Calls Try.prog 10 #[.pointer p3, .int .i64 xa2] w5 fun e7 w8 => ∃ (A9_0 : Option Addr) (n9_0 : Nat) (c9_0 : Nat) (x9_1 : Int), e7 = .returned (.tuple #[.slice A9_0 n9_0 c9_0, .int .i64 x9_1]) ∧ (
  Calls Try.prog 11 #[.pointer p3, .int .i64 xa2] w8 fun e10 w11 => ∃ (A12_0 : Option Addr) (n12_0 : Nat) (c12_0 : Nat) (x12_1 : Int), e10 = .returned (.tuple #[.slice A12_0 n12_0 c12_0, .int .i64 x12_1]) ∧ (
  sel (x9_1 != (0 : Int)) (
  Calls Try.prog 33 #[.pointer p3, .int .i64 xa2] w11 fun e13 w14 => ∃ (x15_0 : Int) (x15_1 : Int), e13 = .returned (.tuple #[.int .i64 x15_0, .int .i64 x15_1]) ∧ (
  sel (x15_0 == (0 : Int)) (
  Q (.returned (.bool (x15_1 == (51 : Int)))) w14) (
  Q (.returned (.bool false)) w14))) (
  sel (x12_1 != (0 : Int)) (
  Calls Try.prog 33 #[.pointer p3, .int .i64 xa2] w11 fun e16 w17 => ∃ (x18_0 : Int) (x18_1 : Int), e16 = .returned (.tuple #[.int .i64 x18_0, .int .i64 x18_1]) ∧ (
  sel (x18_0 == (0 : Int)) (
  Q (.returned (.bool (x18_1 == (51 : Int)))) w17) (
  Q (.returned (.bool false)) w17))) (
  ∃ k76 : Nat, l0 k76 p3 A9_0 n9_0 c9_0 (n9_0 : Int) (0 : Int) w11 (fun (w24 : World) => ∀ _ : Fr,
  ∃ k73 : Nat, l1 k73 p3 A12_0 n12_0 c12_0 (n12_0 : Int) (0 : Int) w24 (fun (w30 : World) => ∀ _ : Fr,
  ∃ k70 : Nat, l2 k70 xa2 p3 A9_0 n9_0 c9_0 (n9_0 : Int) w30 (fun (A43 : Option Addr) (n43 : Nat) (c43 : Nat) (w44 : World) => ∀ _ : Fr,
  ∃ k67 : Nat, l3 k67 xa2 p3 A12_0 n12_0 c12_0 (n12_0 : Int) w44 (fun (A57 : Option Addr) (n57 : Nat) (c57 : Nat) (w58 : World) => ∀ _ : Fr,
  Calls Try.prog 33 #[.pointer p3, .int .i64 xa2] w58 fun e59 w60 => ∃ (x61_0 : Int) (x61_1 : Int), e59 = .returned (.tuple #[.int .i64 x61_0, .int .i64 x61_1]) ∧ (
  Calls Try.prog 32 #[.pointer p3, .int .i64 xa2] w60 fun e62 w63 => ∃ (x64_0 : Int) (x64_1 : Int), e62 = .returned (.tuple #[.int .i64 x64_0, .int .i64 x64_1]) ∧ (
  sel (x61_0 == (0 : Int)) (
  sel (x64_0 == (0 : Int)) (
  sel (x61_1 == (0 : Int)) (
  sel (x64_1 == (0 : Int)) (
  sel ((n43 : Int) == (0 : Int)) (
  Q (.returned (.bool ((n57 : Int) == (0 : Int)))) w63) (
  Q (.returned (.bool false)) w63)) (
  Q (.returned (.bool false)) w63)) (
  Q (.returned (.bool false)) w63)) (
  Q (.returned (.bool false)) w63)) (
  Q (.returned (.bool false)) w63)))) (fun (b65 : Bool) (w66 : World) => ∀ _ : Fr,
  Q (.returned (.bool b65)) w66)) (fun (b68 : Bool) (w69 : World) => ∀ _ : Fr,
  Q (.returned (.bool b68)) w69)) (fun (b71 : Bool) (w72 : World) => ∀ _ : Fr,
  Q (.returned (.bool b71)) w72)) (fun (b74 : Bool) (w75 : World) => ∀ _ : Fr,
  Q (.returned (.bool b74)) w75)))))))))
def D : Nat → Option DH := dtab []
def l0LO : LO := ⟨[], [6], [(0, [2, 7, 8, 10])], []⟩
def l0Tk (k : Nat) : Spec := fun Q σ w =>
  gPtr (σ 7) fun pt7 =>
  gSlice (σ 67) fun At67 nt67 ct67 =>
  gInt .i64 (σ 68) fun xt68 =>
  gInt .i64 (σ 69) fun xt69 =>
  l0 k pt7 At67 nt67 ct67 xt68 xt69 w (fun (w : World) => ∀ d : Fr, Q (.exit 0) (ov d [(2, σ 2), (7, .pointer pt7), (8, σ 8), (10, σ 10)]) w) (fun (bq6 : Bool) (w : World) => ∀ d : Fr, Q .ret (ov d [(6, .bool bq6)]) w)
def l0T : Spec := fun Q σ w => ∃ k, l0Tk k Q σ w
def l0tb : List (List Nat × Spec) := []
noncomputable def l0b : Code := (subC [0, 0, 1, 0, 1, 1, 1, 1, 1, 1] body).getD .skip
theorem l0_eq (k : Nat) (pt7 : Option Addr) (At67 : Option Addr) (nt67 : Nat) (ct67 : Nat) (xt68 : Int) (xt69 : Int) (Q : PQ) (σ : Fr) (w : World) :
    l0 (k + 1) pt7 At67 nt67 ct67 xt68 xt69 w (fun (w : World) => ∀ d : Fr, Q (.exit 0) (ov d [(2, σ 2), (7, .pointer pt7), (8, σ 8), (10, σ 10)]) w) (fun (bq6 : Bool) (w : World) => ∀ d : Fr, Q .ret (ov d [(6, .bool bq6)]) w) = codeW Try.prog hT 183 D (tab l0tb) [0, 0, 1, 0, 1, 1, 1, 1, 1, 1] l0b (thenQ (l0Tk k Q) (widen l0LO Q)) (ov σ [(7, .pointer pt7), (67, .slice At67 nt67 ct67), (68, .int .i64 xt68), (69, .int .i64 xt69)]) w := by kernel_rfl
theorem l0_snd : ∀ c, subC [0, 1, 0, 1, 1, 1, 1, 1, 1] body = some c → Snd Try.prog 183 c l0T := by
  refine loop_of (hT := hT) (D := D) (l := l0tb) (b := l0b) (lo := l0LO) (by kernel_rfl) (by
    intro x hx
    simp only [l0tb, List.not_mem_nil] at hx
    ) (by kernel_rfl) (by kernel_rfl) ?_ ?_
  · intro Q σ w h
    unfold l0Tk at h
    obtain ⟨pt7, h7, hn⟩ := gPtr_elim h
    clear h
    have h := hn
    clear hn
    obtain ⟨At67, nt67, ct67, h67, hn⟩ := gSlice_elim h
    clear h
    have h := hn
    clear hn
    obtain ⟨xt68, h68, hn⟩ := gInt_elim h
    clear h
    have h := hn
    clear hn
    obtain ⟨xt69, h69, hn⟩ := gInt_elim h
    clear h
    have h := hn
    clear hn
    exact h
  · intro k Q σ w h
    unfold l0Tk at h
    obtain ⟨pt7, h7, hn⟩ := gPtr_elim h
    clear h
    have h := hn
    clear hn
    obtain ⟨At67, nt67, ct67, h67, hn⟩ := gSlice_elim h
    clear h
    have h := hn
    clear hn
    obtain ⟨xt68, h68, hn⟩ := gInt_elim h
    clear h
    have h := hn
    clear hn
    obtain ⟨xt69, h69, hn⟩ := gInt_elim h
    clear h
    have h := hn
    clear hn
    rw [l0_eq (σ := σ)] at h
    have e : (ov σ [(7, .pointer pt7), (67, .slice At67 nt67 ct67), (68, .int .i64 xt68), (69, .int .i64 xt69)]) = σ := ov_self (by simp [h7, h67, h68, h69])
    rw [e] at h
    exact h
def l1LO : LO := ⟨[], [6], [(2, [2, 7, 8, 10])], []⟩
def l1Tk (k : Nat) : Spec := fun Q σ w =>
  gPtr (σ 7) fun pt7 =>
  gSlice (σ 78) fun At78 nt78 ct78 =>
  gInt .i64 (σ 79) fun xt79 =>
  gInt .i64 (σ 80) fun xt80 =>
  l1 k pt7 At78 nt78 ct78 xt79 xt80 w (fun (w : World) => ∀ d : Fr, Q (.exit 2) (ov d [(2, σ 2), (7, .pointer pt7), (8, σ 8), (10, σ 10)]) w) (fun (bq6 : Bool) (w : World) => ∀ d : Fr, Q .ret (ov d [(6, .bool bq6)]) w)
def l1T : Spec := fun Q σ w => ∃ k, l1Tk k Q σ w
def l1tb : List (List Nat × Spec) := []
noncomputable def l1b : Code := (subC [0, 0, 1, 0, 1, 1, 1, 1, 1, 1, 1] body).getD .skip
theorem l1_eq (k : Nat) (pt7 : Option Addr) (At78 : Option Addr) (nt78 : Nat) (ct78 : Nat) (xt79 : Int) (xt80 : Int) (Q : PQ) (σ : Fr) (w : World) :
    l1 (k + 1) pt7 At78 nt78 ct78 xt79 xt80 w (fun (w : World) => ∀ d : Fr, Q (.exit 2) (ov d [(2, σ 2), (7, .pointer pt7), (8, σ 8), (10, σ 10)]) w) (fun (bq6 : Bool) (w : World) => ∀ d : Fr, Q .ret (ov d [(6, .bool bq6)]) w) = codeW Try.prog hT 183 D (tab l1tb) [0, 0, 1, 0, 1, 1, 1, 1, 1, 1, 1] l1b (thenQ (l1Tk k Q) (widen l1LO Q)) (ov σ [(7, .pointer pt7), (78, .slice At78 nt78 ct78), (79, .int .i64 xt79), (80, .int .i64 xt80)]) w := by kernel_rfl
theorem l1_snd : ∀ c, subC [0, 1, 0, 1, 1, 1, 1, 1, 1, 1] body = some c → Snd Try.prog 183 c l1T := by
  refine loop_of (hT := hT) (D := D) (l := l1tb) (b := l1b) (lo := l1LO) (by kernel_rfl) (by
    intro x hx
    simp only [l1tb, List.not_mem_nil] at hx
    ) (by kernel_rfl) (by kernel_rfl) ?_ ?_
  · intro Q σ w h
    unfold l1Tk at h
    obtain ⟨pt7, h7, hn⟩ := gPtr_elim h
    clear h
    have h := hn
    clear hn
    obtain ⟨At78, nt78, ct78, h78, hn⟩ := gSlice_elim h
    clear h
    have h := hn
    clear hn
    obtain ⟨xt79, h79, hn⟩ := gInt_elim h
    clear h
    have h := hn
    clear hn
    obtain ⟨xt80, h80, hn⟩ := gInt_elim h
    clear h
    have h := hn
    clear hn
    exact h
  · intro k Q σ w h
    unfold l1Tk at h
    obtain ⟨pt7, h7, hn⟩ := gPtr_elim h
    clear h
    have h := hn
    clear hn
    obtain ⟨At78, nt78, ct78, h78, hn⟩ := gSlice_elim h
    clear h
    have h := hn
    clear hn
    obtain ⟨xt79, h79, hn⟩ := gInt_elim h
    clear h
    have h := hn
    clear hn
    obtain ⟨xt80, h80, hn⟩ := gInt_elim h
    clear h
    have h := hn
    clear hn
    rw [l1_eq (σ := σ)] at h
    have e : (ov σ [(7, .pointer pt7), (78, .slice At78 nt78 ct78), (79, .int .i64 xt79), (80, .int .i64 xt80)]) = σ := ov_self (by simp [h7, h78, h79, h80])
    rw [e] at h
    exact h
def l2LO : LO := ⟨[], [6], [(4, [2, 7, 8, 10])], []⟩
def l2Tk (k : Nat) : Spec := fun Q σ w =>
  gInt .i64 (σ 2) fun xt2 =>
  gPtr (σ 7) fun pt7 =>
  gSlice (σ 8) fun At8 nt8 ct8 =>
  gInt .i64 (σ 18) fun xt18 =>
  l2 k xt2 pt7 At8 nt8 ct8 xt18 w (fun (Aq8 : Option Addr) (nq8 : Nat) (cq8 : Nat) (w : World) => ∀ d : Fr, Q (.exit 4) (ov d [(2, .int .i64 xt2), (7, .pointer pt7), (8, .slice Aq8 nq8 cq8), (10, σ 10)]) w) (fun (bq6 : Bool) (w : World) => ∀ d : Fr, Q .ret (ov d [(6, .bool bq6)]) w)
def l2T : Spec := fun Q σ w => ∃ k, l2Tk k Q σ w
def l2tb : List (List Nat × Spec) := []
noncomputable def l2b : Code := (subC [0, 0, 1, 0, 1, 1, 1, 1, 1, 1, 1, 1] body).getD .skip
theorem l2_eq (k : Nat) (xt2 : Int) (pt7 : Option Addr) (At8 : Option Addr) (nt8 : Nat) (ct8 : Nat) (xt18 : Int) (Q : PQ) (σ : Fr) (w : World) :
    l2 (k + 1) xt2 pt7 At8 nt8 ct8 xt18 w (fun (Aq8 : Option Addr) (nq8 : Nat) (cq8 : Nat) (w : World) => ∀ d : Fr, Q (.exit 4) (ov d [(2, .int .i64 xt2), (7, .pointer pt7), (8, .slice Aq8 nq8 cq8), (10, σ 10)]) w) (fun (bq6 : Bool) (w : World) => ∀ d : Fr, Q .ret (ov d [(6, .bool bq6)]) w) = codeW Try.prog hT 183 D (tab l2tb) [0, 0, 1, 0, 1, 1, 1, 1, 1, 1, 1, 1] l2b (thenQ (l2Tk k Q) (widen l2LO Q)) (ov σ [(2, .int .i64 xt2), (7, .pointer pt7), (8, .slice At8 nt8 ct8), (18, .int .i64 xt18)]) w := by kernel_rfl
theorem l2_snd : ∀ c, subC [0, 1, 0, 1, 1, 1, 1, 1, 1, 1, 1] body = some c → Snd Try.prog 183 c l2T := by
  refine loop_of (hT := hT) (D := D) (l := l2tb) (b := l2b) (lo := l2LO) (by kernel_rfl) (by
    intro x hx
    simp only [l2tb, List.not_mem_nil] at hx
    ) (by kernel_rfl) (by kernel_rfl) ?_ ?_
  · intro Q σ w h
    unfold l2Tk at h
    obtain ⟨xt2, h2, hn⟩ := gInt_elim h
    clear h
    have h := hn
    clear hn
    obtain ⟨pt7, h7, hn⟩ := gPtr_elim h
    clear h
    have h := hn
    clear hn
    obtain ⟨At8, nt8, ct8, h8, hn⟩ := gSlice_elim h
    clear h
    have h := hn
    clear hn
    obtain ⟨xt18, h18, hn⟩ := gInt_elim h
    clear h
    have h := hn
    clear hn
    exact h
  · intro k Q σ w h
    unfold l2Tk at h
    obtain ⟨xt2, h2, hn⟩ := gInt_elim h
    clear h
    have h := hn
    clear hn
    obtain ⟨pt7, h7, hn⟩ := gPtr_elim h
    clear h
    have h := hn
    clear hn
    obtain ⟨At8, nt8, ct8, h8, hn⟩ := gSlice_elim h
    clear h
    have h := hn
    clear hn
    obtain ⟨xt18, h18, hn⟩ := gInt_elim h
    clear h
    have h := hn
    clear hn
    rw [l2_eq (σ := σ)] at h
    have e : (ov σ [(2, .int .i64 xt2), (7, .pointer pt7), (8, .slice At8 nt8 ct8), (18, .int .i64 xt18)]) = σ := ov_self (by simp [h2, h7, h8, h18])
    rw [e] at h
    exact h
def l3LO : LO := ⟨[], [6], [(6, [2, 7, 8, 10])], []⟩
def l3Tk (k : Nat) : Spec := fun Q σ w =>
  gInt .i64 (σ 2) fun xt2 =>
  gPtr (σ 7) fun pt7 =>
  gSlice (σ 10) fun At10 nt10 ct10 =>
  gInt .i64 (σ 21) fun xt21 =>
  l3 k xt2 pt7 At10 nt10 ct10 xt21 w (fun (Aq10 : Option Addr) (nq10 : Nat) (cq10 : Nat) (w : World) => ∀ d : Fr, Q (.exit 6) (ov d [(2, .int .i64 xt2), (7, .pointer pt7), (8, σ 8), (10, .slice Aq10 nq10 cq10)]) w) (fun (bq6 : Bool) (w : World) => ∀ d : Fr, Q .ret (ov d [(6, .bool bq6)]) w)
def l3T : Spec := fun Q σ w => ∃ k, l3Tk k Q σ w
def l3tb : List (List Nat × Spec) := []
noncomputable def l3b : Code := (subC [0, 0, 1, 0, 1, 1, 1, 1, 1, 1, 1, 1, 1] body).getD .skip
theorem l3_eq (k : Nat) (xt2 : Int) (pt7 : Option Addr) (At10 : Option Addr) (nt10 : Nat) (ct10 : Nat) (xt21 : Int) (Q : PQ) (σ : Fr) (w : World) :
    l3 (k + 1) xt2 pt7 At10 nt10 ct10 xt21 w (fun (Aq10 : Option Addr) (nq10 : Nat) (cq10 : Nat) (w : World) => ∀ d : Fr, Q (.exit 6) (ov d [(2, .int .i64 xt2), (7, .pointer pt7), (8, σ 8), (10, .slice Aq10 nq10 cq10)]) w) (fun (bq6 : Bool) (w : World) => ∀ d : Fr, Q .ret (ov d [(6, .bool bq6)]) w) = codeW Try.prog hT 183 D (tab l3tb) [0, 0, 1, 0, 1, 1, 1, 1, 1, 1, 1, 1, 1] l3b (thenQ (l3Tk k Q) (widen l3LO Q)) (ov σ [(2, .int .i64 xt2), (7, .pointer pt7), (10, .slice At10 nt10 ct10), (21, .int .i64 xt21)]) w := by kernel_rfl
theorem l3_snd : ∀ c, subC [0, 1, 0, 1, 1, 1, 1, 1, 1, 1, 1, 1] body = some c → Snd Try.prog 183 c l3T := by
  refine loop_of (hT := hT) (D := D) (l := l3tb) (b := l3b) (lo := l3LO) (by kernel_rfl) (by
    intro x hx
    simp only [l3tb, List.not_mem_nil] at hx
    ) (by kernel_rfl) (by kernel_rfl) ?_ ?_
  · intro Q σ w h
    unfold l3Tk at h
    obtain ⟨xt2, h2, hn⟩ := gInt_elim h
    clear h
    have h := hn
    clear hn
    obtain ⟨pt7, h7, hn⟩ := gPtr_elim h
    clear h
    have h := hn
    clear hn
    obtain ⟨At10, nt10, ct10, h10, hn⟩ := gSlice_elim h
    clear h
    have h := hn
    clear hn
    obtain ⟨xt21, h21, hn⟩ := gInt_elim h
    clear h
    have h := hn
    clear hn
    exact h
  · intro k Q σ w h
    unfold l3Tk at h
    obtain ⟨xt2, h2, hn⟩ := gInt_elim h
    clear h
    have h := hn
    clear hn
    obtain ⟨pt7, h7, hn⟩ := gPtr_elim h
    clear h
    have h := hn
    clear hn
    obtain ⟨At10, nt10, ct10, h10, hn⟩ := gSlice_elim h
    clear h
    have h := hn
    clear hn
    obtain ⟨xt21, h21, hn⟩ := gInt_elim h
    clear h
    have h := hn
    clear hn
    rw [l3_eq (σ := σ)] at h
    have e : (ov σ [(2, .int .i64 xt2), (7, .pointer pt7), (10, .slice At10 nt10 ct10), (21, .int .i64 xt21)]) = σ := ov_self (by simp [h2, h7, h10, h21])
    rw [e] at h
    exact h
def tb : List (List Nat × Spec) := [([0, 1, 0, 1, 1, 1, 1, 1, 1], l0T), ([0, 1, 0, 1, 1, 1, 1, 1, 1, 1], l1T), ([0, 1, 0, 1, 1, 1, 1, 1, 1, 1, 1], l2T), ([0, 1, 0, 1, 1, 1, 1, 1, 1, 1, 1, 1], l3T)]
theorem wp_eq (Aa0 : Option Addr) (na0 : Nat) (ca0 : Nat) (Aa1 : Option Addr) (na1 : Nat) (ca1 : Nat) (xa2 : Int) (w : World) (Q : Ending → World → Prop) :
    wp Aa0 na0 ca0 Aa1 na1 ca1 xa2 w Q = codeW Try.prog hT 183 D (tab tb) [] body (topQ Try.prog hT 183 [.tmp 6] Q) (argsF [.slice Aa0 na0 ca0, .slice Aa1 na1 ca1, .int .i64 xa2]) w := by kernel_rfl
theorem ok (Aa0 : Option Addr) (na0 : Nat) (ca0 : Nat) (Aa1 : Option Addr) (na1 : Nat) (ca1 : Nat) (xa2 : Int) (w : World) (Q : Ending → World → Prop) (h : wp Aa0 na0 ca0 Aa1 na1 ca1 xa2 w Q) : Calls Try.prog 7 #[.slice Aa0 na0 ca0, .slice Aa1 na1 ca1, .int .i64 xa2] w Q := by
  rw [wp_eq] at h
  exact calls_of_codeW (c := body) (rs := [.tmp 6]) Try.func7 (by kernel_rfl) (by kernel_rfl) (by kernel_rfl) (by kernel_rfl) (by kernel_rfl) (tab_snd (by
    intro x hx
    simp only [tb, List.mem_cons, List.not_mem_nil, or_false] at hx
    rcases hx with rfl | rfl | rfl | rfl
    · exact l0_snd
    · exact l1_snd
    · exact l2_snd
    · exact l3_snd)) (by kernel_rfl) h
end f_law16_EulerMarks
end Go.Proofs.Ytkkobfajahmfaaa.Rd
