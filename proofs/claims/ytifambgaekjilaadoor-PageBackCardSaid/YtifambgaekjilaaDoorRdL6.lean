/- The printed readings of some functions: each function's code reckoned by the kernel to its predicate transformer. -/
import Derived.Test.YtifambgaekjilaaDoorHint
namespace Go.Proofs.YtifambgaekjilaaDoor.Rd
open Go.Dn
set_option maxRecDepth 100000
set_option linter.unusedVariables false
namespace f_law08_PageBack
/-! skein/skeinlaw08.PageBack: function 6 -/
noncomputable def body : Code := (Tryd.f6.body).getD .skip
def l0 : Nat → Option Addr → Option Addr → Option Addr → Nat → Nat → Int → Int → World → (World → Prop) → (Bool → World → Prop) → Prop
  | 0, _, _, _, _, _, _, _, _, _, _ => False
  | k + 1, pt5, pt6, At30, nt30, ct30, xt31, xt32, w, K0, Kr =>
    sel (decide (xt32 < xt31)) (
    optB At30 fun a13 =>
    req (decide (0 ≤ xt32 ∧ xt32 < (nt30 : Int))) <|
    ldI w (a13.add (xt32.toNat * 3)) .i64 fun x14 =>
    ldI w ((a13.add (xt32.toNat * 3)).add 1) .i64 fun x15 =>
    ldS w ((a13.add (xt32.toNat * 3)).add 2) fun A16 n16 c16 =>
    alW w (.cells #[.int .i64 (0 : Int), .int .i64 (0 : Int), .slice none 0 0] 51) fun B17 w18 =>
    stW w18 (⟨B17, 0, Option.none⟩ : Addr) (.int .i64 x14) fun w19 =>
    stW w19 ((⟨B17, 0, Option.none⟩ : Addr).add 1) (.int .i64 x15) fun w20 =>
    stW w20 ((⟨B17, 0, Option.none⟩ : Addr).add 2) (.slice A16 n16 c16) fun w21 =>
    ldI w21 (⟨B17, 0, Option.none⟩ : Addr) .i64 fun x22 =>
    ldI w21 ((⟨B17, 0, Option.none⟩ : Addr).add 1) .i64 fun x23 =>
    ldS w21 ((⟨B17, 0, Option.none⟩ : Addr).add 2) fun A24 n24 c24 =>
    Calls Tryd.prog 25 #[.pointer pt5, .agg #[.int .i64 (0 : Int), .int .u8 (0 : Int), .int .u32 (0 : Int), .slice none 0 0], .agg #[.int .i64 x22, .int .i64 x23, .slice A24 n24 c24]] w21 fun e25 w26 => ∃ (x27_0_0 : Int) (x27_0_1 : Int) (x27_0_2 : Int) (A27_0_3 : Option Addr) (n27_0_3 : Nat) (c27_0_3 : Nat) (b27_1 : Bool), e25 = .returned (.tuple #[.agg #[.int .i64 x27_0_0, .int .u8 x27_0_1, .int .u32 x27_0_2, .slice A27_0_3 n27_0_3 c27_0_3], .bool b27_1]) ∧ (
    ldI w26 (⟨B17, 0, Option.none⟩ : Addr) .i64 fun x28 =>
    ldI w26 ((⟨B17, 0, Option.none⟩ : Addr).add 1) .i64 fun x29 =>
    ldS w26 ((⟨B17, 0, Option.none⟩ : Addr).add 2) fun A30 n30 c30 =>
    Calls Tryd.prog 25 #[.pointer pt6, .agg #[.int .i64 (0 : Int), .int .u8 (0 : Int), .int .u32 (0 : Int), .slice none 0 0], .agg #[.int .i64 x28, .int .i64 x29, .slice A30 n30 c30]] w26 fun e31 w32 => ∃ (x33_0_0 : Int) (x33_0_1 : Int) (x33_0_2 : Int) (A33_0_3 : Option Addr) (n33_0_3 : Nat) (c33_0_3 : Nat) (b33_1 : Bool), e31 = .returned (.tuple #[.agg #[.int .i64 x33_0_0, .int .u8 x33_0_1, .int .u32 x33_0_2, .slice A33_0_3 n33_0_3 c33_0_3], .bool b33_1]) ∧ (
    Calls Tryd.prog 19 #[.pointer pt5] w32 fun e34 w35 => ∃ (x36 : Int), e34 = .returned (.int .i64 x36) ∧ (
    Calls Tryd.prog 19 #[.pointer pt6] w35 fun e37 w38 => ∃ (x39 : Int), e37 = .returned (.int .i64 x39) ∧ (
    sel (x36 != x39) (
    Kr false w38) (
    Calls Tryd.prog 18 #[.pointer pt5] w38 fun e40 w41 => ∃ (x42 : Int), e40 = .returned (.int .i64 x42) ∧ (
    Calls Tryd.prog 18 #[.pointer pt6] w41 fun e43 w44 => ∃ (x45 : Int), e43 = .returned (.int .i64 x45) ∧ (
    sel (x42 != x45) (
    Kr false w44) (
    l0 k pt5 pt6 At30 nt30 ct30 xt31 (IntKind.i64.wrap (xt32 + (1 : Int))) w44 K0 Kr))))))))) (
    K0  w)
def wp (Aa0 : Option Addr) (na0 : Nat) (ca0 : Nat) (Aa1 : Option Addr) (na1 : Nat) (ca1 : Nat) (w : World) (Q : Ending → World → Prop) : Prop :=
  Calls Tryd.prog 16 #[.slice Aa0 na0 ca0] w fun e1 w2 => ∃ (p3 : Option Addr), e1 = .returned (.pointer p3) ∧ (
  sel p3.isNone (
  Q (.returned (.bool false)) w2) (
  Calls Tryd.prog 7 #[] w2 fun e4 w5 => ∃ (b6 : Bool), e4 = .returned (.bool b6) ∧ (
  sel (!b6) (
  Q (.returned (.bool false)) w5) (
  Calls Tryd.prog 15 #[.pointer p3] w5 fun e7 w8 => ∃ (A9 : Option Addr) (n9 : Nat) (c9 : Nat), e7 = .returned (.slice A9 n9 c9) ∧ (
  Calls Tryd.prog 9 #[.slice A9 n9 c9] w8 fun e10 w11 => ∃ (p12_0 : Option Addr) (x12_1 : Int), e10 = .returned (.tuple #[.pointer p12_0, .int .i64 x12_1]) ∧ (
  sel (x12_1 != (0 : Int)) (
  Q (.returned (.bool false)) w11) (
  sel p12_0.isNone (
  Q (.returned (.bool false)) w11) (
  ∃ k79 : Nat, l0 k79 p3 p12_0 Aa1 na1 ca1 (na1 : Int) (0 : Int) w11 (fun (w46 : World) => ∀ _ : Fr,
  Calls Tryd.prog 15 #[.pointer p3] w46 fun e47 w48 => ∃ (A49 : Option Addr) (n49 : Nat) (c49 : Nat), e47 = .returned (.slice A49 n49 c49) ∧ (
  Calls Tryd.prog 15 #[.pointer p12_0] w48 fun e50 w51 => ∃ (A52 : Option Addr) (n52 : Nat) (c52 : Nat), e50 = .returned (.slice A52 n52 c52) ∧ (
  Calls Tryd.prog 14 #[.slice A49 n49 c49, .slice A52 n52 c52] w51 fun e53 w54 => ∃ (b55 : Bool), e53 = .returned (.bool b55) ∧ (
  sel b55 (
  Calls Tryd.prog 17 #[.pointer p3] w54 fun e56 w57 => ∃ (A58 : Option Addr) (n58 : Nat) (c58 : Nat), e56 = .returned (.slice A58 n58 c58) ∧ (
  Calls Tryd.prog 17 #[.pointer p12_0] w57 fun e59 w60 => ∃ (A61 : Option Addr) (n61 : Nat) (c61 : Nat), e59 = .returned (.slice A61 n61 c61) ∧ (
  Calls Tryd.prog 23 #[.slice A58 n58 c58, .slice A61 n61 c61] w60 fun e62 w63 => ∃ (b64 : Bool), e62 = .returned (.bool b64) ∧ (
  sel b64 (
  Calls Tryd.prog 26 #[.pointer p3] w63 fun e65 w66 => ∃ (x67 : Int), e65 = .returned (.int .i64 x67) ∧ (
  Calls Tryd.prog 26 #[.pointer p12_0] w66 fun e68 w69 => ∃ (x70 : Int), e68 = .returned (.int .i64 x70) ∧ (
  sel (x67 == x70) (
  Calls Tryd.prog 27 #[.pointer p3] w69 fun e71 w72 => ∃ (x73 : Int), e71 = .returned (.int .u32 x73) ∧ (
  Calls Tryd.prog 27 #[.pointer p12_0] w72 fun e74 w75 => ∃ (x76 : Int), e74 = .returned (.int .u32 x76) ∧ (
  Q (.returned (.bool (x73 == x76))) w75))) (
  Q (.returned (.bool false)) w69)))) (
  Q (.returned (.bool false)) w63))))) (
  Q (.returned (.bool false)) w54))))) (fun (b77 : Bool) (w78 : World) => ∀ _ : Fr,
  Q (.returned (.bool b77)) w78)))))))))
def D : Nat → Option DH := dtab []
def l0LO : LO := ⟨[], [4], [(0, [5, 6])], []⟩
def l0Tk (k : Nat) : Spec := fun Q σ w =>
  gPtr (σ 5) fun pt5 =>
  gPtr (σ 6) fun pt6 =>
  gSlice (σ 30) fun At30 nt30 ct30 =>
  gInt .i64 (σ 31) fun xt31 =>
  gInt .i64 (σ 32) fun xt32 =>
  l0 k pt5 pt6 At30 nt30 ct30 xt31 xt32 w (fun (w : World) => ∀ d : Fr, Q (.exit 0) (ov d [(5, .pointer pt5), (6, .pointer pt6)]) w) (fun (bq4 : Bool) (w : World) => ∀ d : Fr, Q .ret (ov d [(4, .bool bq4)]) w)
def l0T : Spec := fun Q σ w => ∃ k, l0Tk k Q σ w
def l0tb : List (List Nat × Spec) := []
noncomputable def l0b : Code := (subC [0, 0, 1, 0, 1, 1, 1, 1, 1] body).getD .skip
theorem l0_eq (k : Nat) (pt5 : Option Addr) (pt6 : Option Addr) (At30 : Option Addr) (nt30 : Nat) (ct30 : Nat) (xt31 : Int) (xt32 : Int) (Q : PQ) (σ : Fr) (w : World) :
    l0 (k + 1) pt5 pt6 At30 nt30 ct30 xt31 xt32 w (fun (w : World) => ∀ d : Fr, Q (.exit 0) (ov d [(5, .pointer pt5), (6, .pointer pt6)]) w) (fun (bq4 : Bool) (w : World) => ∀ d : Fr, Q .ret (ov d [(4, .bool bq4)]) w) = codeW Tryd.prog hT 83 D (tab l0tb) [0, 0, 1, 0, 1, 1, 1, 1, 1] l0b (thenQ (l0Tk k Q) (widen l0LO Q)) (ov σ [(5, .pointer pt5), (6, .pointer pt6), (30, .slice At30 nt30 ct30), (31, .int .i64 xt31), (32, .int .i64 xt32)]) w := by kernel_rfl
theorem l0_snd : ∀ c, subC [0, 1, 0, 1, 1, 1, 1, 1] body = some c → Snd Tryd.prog 83 c l0T := by
  refine loop_of (hT := hT) (D := D) (l := l0tb) (b := l0b) (lo := l0LO) (by kernel_rfl) (by
    intro x hx
    simp only [l0tb, List.not_mem_nil] at hx
    ) (by kernel_rfl) (by kernel_rfl) ?_ ?_
  · intro Q σ w h
    unfold l0Tk at h
    obtain ⟨pt5, h5, hn⟩ := gPtr_elim h
    clear h
    have h := hn
    clear hn
    obtain ⟨pt6, h6, hn⟩ := gPtr_elim h
    clear h
    have h := hn
    clear hn
    obtain ⟨At30, nt30, ct30, h30, hn⟩ := gSlice_elim h
    clear h
    have h := hn
    clear hn
    obtain ⟨xt31, h31, hn⟩ := gInt_elim h
    clear h
    have h := hn
    clear hn
    obtain ⟨xt32, h32, hn⟩ := gInt_elim h
    clear h
    have h := hn
    clear hn
    exact h
  · intro k Q σ w h
    unfold l0Tk at h
    obtain ⟨pt5, h5, hn⟩ := gPtr_elim h
    clear h
    have h := hn
    clear hn
    obtain ⟨pt6, h6, hn⟩ := gPtr_elim h
    clear h
    have h := hn
    clear hn
    obtain ⟨At30, nt30, ct30, h30, hn⟩ := gSlice_elim h
    clear h
    have h := hn
    clear hn
    obtain ⟨xt31, h31, hn⟩ := gInt_elim h
    clear h
    have h := hn
    clear hn
    obtain ⟨xt32, h32, hn⟩ := gInt_elim h
    clear h
    have h := hn
    clear hn
    rw [l0_eq (σ := σ)] at h
    have e : (ov σ [(5, .pointer pt5), (6, .pointer pt6), (30, .slice At30 nt30 ct30), (31, .int .i64 xt31), (32, .int .i64 xt32)]) = σ := ov_self (by simp [h5, h6, h30, h31, h32])
    rw [e] at h
    exact h
def tb : List (List Nat × Spec) := [([0, 1, 0, 1, 1, 1, 1, 1], l0T)]
theorem wp_eq (Aa0 : Option Addr) (na0 : Nat) (ca0 : Nat) (Aa1 : Option Addr) (na1 : Nat) (ca1 : Nat) (w : World) (Q : Ending → World → Prop) :
    wp Aa0 na0 ca0 Aa1 na1 ca1 w Q = codeW Tryd.prog hT 83 D (tab tb) [] body (topQ Tryd.prog hT 83 [.tmp 4] Q) (argsF [.slice Aa0 na0 ca0, .slice Aa1 na1 ca1]) w := by kernel_rfl
theorem ok (Aa0 : Option Addr) (na0 : Nat) (ca0 : Nat) (Aa1 : Option Addr) (na1 : Nat) (ca1 : Nat) (w : World) (Q : Ending → World → Prop) (h : wp Aa0 na0 ca0 Aa1 na1 ca1 w Q) : Calls Tryd.prog 6 #[.slice Aa0 na0 ca0, .slice Aa1 na1 ca1] w Q := by
  rw [wp_eq] at h
  exact calls_of_codeW (c := body) (rs := [.tmp 4]) Tryd.func6 (by kernel_rfl) (by kernel_rfl) (by kernel_rfl) (by kernel_rfl) (by kernel_rfl) (tab_snd (by
    intro x hx
    simp only [tb, List.mem_cons, List.not_mem_nil, or_false] at hx
    subst hx
    exact l0_snd)) (by kernel_rfl) h
end f_law08_PageBack
end Go.Proofs.YtifambgaekjilaaDoor.Rd
