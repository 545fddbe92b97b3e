/- The printed readings of some functions: each function's code reckoned by the kernel to its predicate transformer. -/
import Derived.Test.YtpokaafedpnbdaaDoorHint
namespace Go.Proofs.YtpokaafedpnbdaaDoor.Rd
open Go.Dn
set_option maxRecDepth 100000
set_option linter.unusedVariables false
namespace f_law09_WalNoise
/-! skein/skeinlaw09.WalNoise: function 5 -/
noncomputable def body : Code := (Tryd.f5.body).getD .skip
def l0 : Nat → Option Addr → Option Addr → Nat → Nat → Int → Int → World → (World → Prop) → Prop
  | 0, _, _, _, _, _, _, _, _ => False
  | k + 1, pt8, At31, nt31, ct31, xt32, xt33, w, K0 =>
    sel (decide (xt33 < xt32)) (
    optB At31 fun a7 =>
    req (decide (0 ≤ xt33 ∧ xt33 < (nt31 : Int))) <|
    ldS w (a7.add (xt33.toNat * 1)) fun A8 n8 c8 =>
    Calls Tryd.prog 11 #[.slice A8 n8 c8] w fun e9 w10 => ∃ (A11 : Option Addr) (n11 : Nat) (c11 : Nat), e9 = .returned (.slice A11 n11 c11) ∧ (
    Calls Tryd.prog 10 #[.pointer pt8, .int .i64 (7 : Int), .slice A11 n11 c11] w10 fun e12 w13 => ∃ (x14_0 : Int) (x14_1 : Int), e12 = .returned (.tuple #[.int .i64 x14_0, .int .i64 x14_1]) ∧ (
    l0 k pt8 At31 nt31 ct31 xt32 (IntKind.i64.wrap (xt33 + (1 : Int))) w13 K0))) (
    K0  w)
def l1 : Nat → Option Addr → Nat → Nat → World → ((Option Addr) → Nat → Nat → World → Prop) → Prop
  | 0, _, _, _, _, _ => False
  | k + 1, At13, nt13, ct13, w, K2 =>
    sel (decide ((nt13 : Int) < (512 : Int))) (
    alW w (.cells #[.int .u8 (0 : Int)] 5) fun B28 w29 =>
    Runs Tryd.prog (Builtin.append_ #[29, 29] 29 #[.slice At13 nt13 ct13, .slice (some (⟨B28, 0, Option.none⟩ : Addr)) 1 1]) w29 fun v31 w30 => ∃ (A32 : Option Addr) (n32 : Nat) (c32 : Nat), v31 = (.slice A32 n32 c32) ∧ (
    l1 k A32 n32 c32 w30 K2)) (
    K2 At13 nt13 ct13 w)
def wp (Aa0 : Option Addr) (na0 : Nat) (ca0 : Nat) (Aa1 : Option Addr) (na1 : Nat) (ca1 : Nat) (xa2 : Int) (w : World) (Q : Ending → World → Prop) : Prop :=
  Calls Tryd.prog 8 #[] w fun e1 w2 => ∃ (b3 : Bool), e1 = .returned (.bool b3) ∧ (
  sel (!b3) (
  Q (.returned (.bool false)) w2) (
  Calls Tryd.prog 9 #[.int .i64 (6 : Int)] w2 fun e4 w5 => ∃ (p6_0 : Option Addr) (p6_1 : Option Addr), e4 = .returned (.tuple #[.pointer p6_0, .pointer p6_1]) ∧ (
  sel p6_0.isNone (
  Q (.returned (.bool false)) w5) (
  sel p6_1.isNone (
  Q (.returned (.bool false)) w5) (
  ∃ k63 : Nat, l0 k63 p6_1 Aa0 na0 ca0 (na0 : Int) (0 : Int) w5 (fun (w15 : World) => ∀ _ : Fr,
  Calls Tryd.prog 12 #[.pointer p6_1] w15 fun e16 w17 => ∃ (x18 : Int), e16 = .returned (.int .i64 x18) ∧ (
  sel (x18 != (0 : Int)) (
  Q (.returned (.bool false)) w17) (
  Calls Tryd.prog 20 #[.pointer p6_1, .int .i64 (0 : Int)] w17 fun e19 w20 => ∃ (A21 : Option Addr) (n21 : Nat) (c21 : Nat), e19 = .returned (.slice A21 n21 c21) ∧ (
  Calls Tryd.prog 21 #[.pointer p6_1] w20 fun e22 w23 => ∃ (x24 : Int), e22 = .returned (.int .i64 x24) ∧ (
  sel (decide (xa2 < (1 : Int))) (
  Q (.returned (.bool true)) w23) (
  sel (decide (xa2 > (6 : Int))) (
  Q (.returned (.bool true)) w23) (
  sel (decide (xa2 ≤ (IntKind.i64.wrap ((IntKind.i64.wrap ((6 : Int) - (IntKind.i64.wrap ((IntKind.i64.wrap (x24 + (497 : Int))).tdiv (498 : Int))))) + (1 : Int))))) (
  Q (.returned (.bool true)) w23) (
  sel (decide ((na1 : Int) > (512 : Int))) (
  Q (.returned (.bool true)) w23) (
  Calls Tryd.prog 11 #[.slice Aa1 na1 ca1] w23 fun e25 w26 => ∃ (A27 : Option Addr) (n27 : Nat) (c27 : Nat), e25 = .returned (.slice A27 n27 c27) ∧ (
  ∃ k62 : Nat, l1 k62 A27 n27 c27 w26 (fun (A33 : Option Addr) (n33 : Nat) (c33 : Nat) (w34 : World) => ∀ _ : Fr,
  Calls Tryd.prog 22 #[.slice A33 n33 c33] w34 fun e35 w36 => ∃ (x37_0 : Int) (A37_1 : Option Addr) (n37_1 : Nat) (c37_1 : Nat), e35 = .returned (.tuple #[.int .i64 x37_0, .slice A37_1 n37_1 c37_1]) ∧ (
  Calls Tryd.prog 23 #[.pointer p6_1] w36 fun e38 w39 => ∃ (x40 : Int), e38 = .returned (.int .i64 x40) ∧ (
  sel (x37_0 == (IntKind.i64.wrap (x40.tdiv (16777216 : Int)))) (
  Q (.returned (.bool true)) w39) (
  sel (decide (x37_0 > (137438953472 : Int))) (
  Q (.returned (.bool true)) w39) (
  Calls Tryd.prog 24 #[.pointer p6_0, .int .i64 xa2, .slice Aa1 na1 ca1] w39 fun e41 w42 => ∃ (x43 : Int), e41 = .returned (.int .i64 x43) ∧ (
  Calls Tryd.prog 18 #[.pointer p6_0, .int .i64 (1 : Int), .int .i64 (6 : Int)] w42 fun e44 w45 => ∃ (p46_0 : Option Addr) (A46_1 : Option Addr) (n46_1 : Nat) (c46_1 : Nat) (x46_2 : Int), e44 = .returned (.tuple #[.pointer p46_0, .slice A46_1 n46_1 c46_1, .int .i64 x46_2]) ∧ (
  sel (x46_2 == (0 : Int)) (
  sel (!p46_0.isNone) (
  Calls Tryd.prog 25 #[.slice A46_1 n46_1 c46_1, .slice A21 n21 c21] w45 fun e47 w48 => ∃ (b49 : Bool), e47 = .returned (.bool b49) ∧ (
  sel b49 (
  Calls Tryd.prog 23 #[.pointer p46_0] w48 fun e50 w51 => ∃ (x52 : Int), e50 = .returned (.int .i64 x52) ∧ (
  Calls Tryd.prog 23 #[.pointer p6_1] w51 fun e53 w54 => ∃ (x55 : Int), e53 = .returned (.int .i64 x55) ∧ (
  sel (x52 == x55) (
  Calls Tryd.prog 13 #[.pointer p46_0] w54 fun e56 w57 => ∃ (x58 : Int), e56 = .returned (.int .i64 x58) ∧ (
  sel (x58 == (0 : Int)) (
  Calls Tryd.prog 23 #[.pointer p46_0] w57 fun e59 w60 => ∃ (x61 : Int), e59 = .returned (.int .i64 x61) ∧ (
  Q (.returned (.bool (decide (x61 > (IntKind.i64.wrap (x37_0 * (16777216 : Int))))))) w60)) (
  Q (.returned (.bool false)) w57))) (
  Q (.returned (.bool false)) w54)))) (
  Q (.returned (.bool false)) w48))) (
  Q (.returned (.bool false)) w45)) (
  Q (.returned (.bool false)) w45)))))))))))))))))))))))
def D : Nat → Option DH := dtab []
def l0LO : LO := ⟨[], [], [(0, [1, 2, 7, 8])], []⟩
def l0Tk (k : Nat) : Spec := fun Q σ w =>
  gPtr (σ 8) fun pt8 =>
  gSlice (σ 31) fun At31 nt31 ct31 =>
  gInt .i64 (σ 32) fun xt32 =>
  gInt .i64 (σ 33) fun xt33 =>
  l0 k pt8 At31 nt31 ct31 xt32 xt33 w (fun (w : World) => ∀ d : Fr, Q (.exit 0) (ov d [(1, σ 1), (2, σ 2), (7, σ 7), (8, .pointer pt8)]) w)
def l0T : Spec := fun Q σ w => ∃ k, l0Tk k Q σ w
def l0tb : List (List Nat × Spec) := []
noncomputable def l0b : Code := (subC [0, 0, 1, 0, 1, 1, 1, 1] body).getD .skip
theorem l0_eq (k : Nat) (pt8 : Option Addr) (At31 : Option Addr) (nt31 : Nat) (ct31 : Nat) (xt32 : Int) (xt33 : Int) (Q : PQ) (σ : Fr) (w : World) :
    l0 (k + 1) pt8 At31 nt31 ct31 xt32 xt33 w (fun (w : World) => ∀ d : Fr, Q (.exit 0) (ov d [(1, σ 1), (2, σ 2), (7, σ 7), (8, .pointer pt8)]) w) = codeW Tryd.prog hT 131 D (tab l0tb) [0, 0, 1, 0, 1, 1, 1, 1] l0b (thenQ (l0Tk k Q) (widen l0LO Q)) (ov σ [(8, .pointer pt8), (31, .slice At31 nt31 ct31), (32, .int .i64 xt32), (33, .int .i64 xt33)]) w := by kernel_rfl
theorem l0_snd : ∀ c, subC [0, 1, 0, 1, 1, 1, 1] body = some c → Snd Tryd.prog 131 c l0T := by
  refine loop_of (hT := hT) (D := D) (l := l0tb) (b := l0b) (lo := l0LO) (by kernel_rfl) (by
    intro x hx
    simp only [l0tb, List.not_mem_nil] at hx
    ) (by kernel_rfl) (by kernel_rfl) ?_ ?_
  · intro Q σ w h
    unfold l0Tk at h
    obtain ⟨pt8, h8, hn⟩ := gPtr_elim h
    clear h
    have h := hn
    clear hn
    obtain ⟨At31, nt31, ct31, h31, hn⟩ := gSlice_elim h
    clear h
    have h := hn
    clear hn
    obtain ⟨xt32, h32, hn⟩ := gInt_elim h
    clear h
    have h := hn
    clear hn
    obtain ⟨xt33, h33, hn⟩ := gInt_elim h
    clear h
    have h := hn
    clear hn
    exact h
  · intro k Q σ w h
    unfold l0Tk at h
    obtain ⟨pt8, h8, hn⟩ := gPtr_elim h
    clear h
    have h := hn
    clear hn
    obtain ⟨At31, nt31, ct31, h31, hn⟩ := gSlice_elim h
    clear h
    have h := hn
    clear hn
    obtain ⟨xt32, h32, hn⟩ := gInt_elim h
    clear h
    have h := hn
    clear hn
    obtain ⟨xt33, h33, hn⟩ := gInt_elim h
    clear h
    have h := hn
    clear hn
    rw [l0_eq (σ := σ)] at h
    have e : (ov σ [(8, .pointer pt8), (31, .slice At31 nt31 ct31), (32, .int .i64 xt32), (33, .int .i64 xt33)]) = σ := ov_self (by simp [h8, h31, h32, h33])
    rw [e] at h
    exact h
def l1LO : LO := ⟨[], [], [(2, [1, 2, 7, 8, 11, 13])], []⟩
def l1Tk (k : Nat) : Spec := fun Q σ w =>
  gSlice (σ 13) fun At13 nt13 ct13 =>
  l1 k At13 nt13 ct13 w (fun (Aq13 : Option Addr) (nq13 : Nat) (cq13 : Nat) (w : World) => ∀ d : Fr, Q (.exit 2) (ov d [(1, σ 1), (2, σ 2), (7, σ 7), (8, σ 8), (11, σ 11), (13, .slice Aq13 nq13 cq13)]) w)
def l1T : Spec := fun Q σ w => ∃ k, l1Tk k Q σ w
def l1tb : List (List Nat × Spec) := []
noncomputable def l1b : Code := (subC [0, 0, 0, 1, 1, 1, 1, 1, 1, 1, 1, 1, 1] body).getD .skip
theorem l1_eq (k : Nat) (At13 : Option Addr) (nt13 : Nat) (ct13 : Nat) (Q : PQ) (σ : Fr) (w : World) :
    l1 (k + 1) At13 nt13 ct13 w (fun (Aq13 : Option Addr) (nq13 : Nat) (cq13 : Nat) (w : World) => ∀ d : Fr, Q (.exit 2) (ov d [(1, σ 1), (2, σ 2), (7, σ 7), (8, σ 8), (11, σ 11), (13, .slice Aq13 nq13 cq13)]) w) = codeW Tryd.prog hT 131 D (tab l1tb) [0, 0, 0, 1, 1, 1, 1, 1, 1, 1, 1, 1, 1] l1b (thenQ (l1Tk k Q) (widen l1LO Q)) (ov σ [(13, .slice At13 nt13 ct13)]) w := by kernel_rfl
theorem l1_snd : ∀ c, subC [0, 0, 1, 1, 1, 1, 1, 1, 1, 1, 1, 1] body = some c → Snd Tryd.prog 131 c l1T := by
  refine loop_of (hT := hT) (D := D) (l := l1tb) (b := l1b) (lo := l1LO) (by kernel_rfl) (by
    intro x hx
    simp only [l1tb, List.not_mem_nil] at hx
    ) (by kernel_rfl) (by kernel_rfl) ?_ ?_
  · intro Q σ w h
    unfold l1Tk at h
    obtain ⟨At13, nt13, ct13, h13, hn⟩ := gSlice_elim h
    clear h
    have h := hn
    clear hn
    exact h
  · intro k Q σ w h
    unfold l1Tk at h
    obtain ⟨At13, nt13, ct13, h13, hn⟩ := gSlice_elim h
    clear h
    have h := hn
    clear hn
    rw [l1_eq (σ := σ)] at h
    have e : (ov σ [(13, .slice At13 nt13 ct13)]) = σ := ov_self (by simp [h13])
    rw [e] at h
    exact h
def tb : List (List Nat × Spec) := [([0, 1, 0, 1, 1, 1, 1], l0T), ([0, 0, 1, 1, 1, 1, 1, 1, 1, 1, 1, 1], l1T)]
theorem wp_eq (Aa0 : Option Addr) (na0 : Nat) (ca0 : Nat) (Aa1 : Option Addr) (na1 : Nat) (ca1 : Nat) (xa2 : Int) (w : World) (Q : Ending → World → Prop) :
    wp Aa0 na0 ca0 Aa1 na1 ca1 xa2 w Q = codeW Tryd.prog hT 131 D (tab tb) [] body (topQ Tryd.prog hT 131 [.tmp 6] Q) (argsF [.slice Aa0 na0 ca0, .slice Aa1 na1 ca1, .int .i64 xa2]) w := by kernel_rfl
theorem ok (Aa0 : Option Addr) (na0 : Nat) (ca0 : Nat) (Aa1 : Option Addr) (na1 : Nat) (ca1 : Nat) (xa2 : Int) (w : World) (Q : Ending → World → Prop) (h : wp Aa0 na0 ca0 Aa1 na1 ca1 xa2 w Q) : Calls Tryd.prog 5 #[.slice Aa0 na0 ca0, .slice Aa1 na1 ca1, .int .i64 xa2] w Q := by
  rw [wp_eq] at h
  exact calls_of_codeW (c := body) (rs := [.tmp 6]) Tryd.func5 (by kernel_rfl) (by kernel_rfl) (by kernel_rfl) (by kernel_rfl) (by kernel_rfl) (tab_snd (by
    intro x hx
    simp only [tb, List.mem_cons, List.not_mem_nil, or_false] at hx
    rcases hx with rfl | rfl
    · exact l0_snd
    · exact l1_snd)) (by kernel_rfl) h
end f_law09_WalNoise
end Go.Proofs.YtpokaafedpnbdaaDoor.Rd
