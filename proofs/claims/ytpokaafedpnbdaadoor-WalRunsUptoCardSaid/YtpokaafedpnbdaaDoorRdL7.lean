/- The printed readings of some functions: each function's code reckoned by the kernel to its predicate transformer. -/
import Derived.Test.YtpokaafedpnbdaaDoorHint
namespace Go.Proofs.YtpokaafedpnbdaaDoor.Rd
open Go.Dn
set_option maxRecDepth 100000
set_option linter.unusedVariables false
namespace f_law09_WalRuns
/-! skein/skeinlaw09.WalRuns: function 7 -/
noncomputable def body : Code := (Tryd.f7.body).getD .skip
def l0 : Nat → Option Addr → Option Addr → Nat → Nat → Int → Int → World → (World → Prop) → Prop
  | 0, _, _, _, _, _, _, _, _ => False
  | k + 1, pt8, At35, nt35, ct35, xt36, xt37, w, K0 =>
    sel (decide (xt37 < xt36)) (
    optB At35 fun a7 =>
    req (decide (0 ≤ xt37 ∧ xt37 < (nt35 : Int))) <|
    ldI w (a7.add (xt37.toNat * 6)) .i64 fun x8 =>
    ldI w ((a7.add (xt37.toNat * 6)).add 1) .i64 fun x9 =>
    ldI w ((a7.add (xt37.toNat * 6)).add 2) .i64 fun x10 =>
    ldS w ((a7.add (xt37.toNat * 6)).add 3) fun A11 n11 c11 =>
    ldS w ((a7.add (xt37.toNat * 6)).add 4) fun A12 n12 c12 =>
    ldS w ((a7.add (xt37.toNat * 6)).add 5) fun A13 n13 c13 =>
    alW w (.cells #[.int .i64 (0 : Int), .int .i64 (0 : Int), .int .i64 (0 : Int), .slice none 0 0, .slice none 0 0, .slice none 0 0] 33) fun B14 w15 =>
    stW w15 (⟨B14, 0, Option.none⟩ : Addr) (.int .i64 x8) fun w16 =>
    stW w16 ((⟨B14, 0, Option.none⟩ : Addr).add 1) (.int .i64 x9) fun w17 =>
    stW w17 ((⟨B14, 0, Option.none⟩ : Addr).add 2) (.int .i64 x10) fun w18 =>
    stW w18 ((⟨B14, 0, Option.none⟩ : Addr).add 3) (.slice A11 n11 c11) fun w19 =>
    stW w19 ((⟨B14, 0, Option.none⟩ : Addr).add 4) (.slice A12 n12 c12) fun w20 =>
    stW w20 ((⟨B14, 0, Option.none⟩ : Addr).add 5) (.slice A13 n13 c13) fun w21 =>
    ldI w21 (⟨B14, 0, Option.none⟩ : Addr) .i64 fun x22 =>
    sel (decide (x22 ≥ (1 : Int))) (
    ldI w21 (⟨B14, 0, Option.none⟩ : Addr) .i64 fun x23 =>
    sel (decide (x23 ≤ (3 : Int))) (
    ldI w21 (⟨B14, 0, Option.none⟩ : Addr) .i64 fun x24 =>
    ldI w21 ((⟨B14, 0, Option.none⟩ : Addr).add 1) .i64 fun x25 =>
    ldI w21 ((⟨B14, 0, Option.none⟩ : Addr).add 2) .i64 fun x26 =>
    ldS w21 ((⟨B14, 0, Option.none⟩ : Addr).add 3) fun A27 n27 c27 =>
    ldS w21 ((⟨B14, 0, Option.none⟩ : Addr).add 4) fun A28 n28 c28 =>
    ldS w21 ((⟨B14, 0, Option.none⟩ : Addr).add 5) fun A29 n29 c29 =>
    Calls Tryd.prog 29 #[.pointer pt8, .agg #[.int .i64 (0 : Int), .int .i64 (0 : Int), .int .i64 (0 : Int), .int .i64 (0 : Int), .slice none 0 0, .int .i64 (0 : Int), .slice none 0 0, .bool false, .bool false], .agg #[.slice none 0 0, .slice none 0 0, .int .i64 (0 : Int), .bool false], .agg #[.int .i64 x24, .int .i64 x25, .int .i64 x26, .slice A27 n27 c27, .slice A28 n28 c28, .slice A29 n29 c29]] w21 fun e30 w31 => ∃ (x32_0_0 : Int) (x32_0_1 : Int) (x32_0_2 : Int) (x32_0_3 : Int) (A32_0_4 : Option Addr) (n32_0_4 : Nat) (c32_0_4 : Nat) (x32_0_5 : Int) (A32_0_6 : Option Addr) (n32_0_6 : Nat) (c32_0_6 : Nat) (b32_0_7 : Bool) (b32_0_8 : Bool) (A32_1_0 : Option Addr) (n32_1_0 : Nat) (c32_1_0 : Nat) (A32_1_1 : Option Addr) (n32_1_1 : Nat) (c32_1_1 : Nat) (x32_1_2 : Int) (b32_1_3 : Bool) (b32_2 : Bool), e30 = .returned (.tuple #[.agg #[.int .i64 x32_0_0, .int .i64 x32_0_1, .int .i64 x32_0_2, .int .i64 x32_0_3, .slice A32_0_4 n32_0_4 c32_0_4, .int .i64 x32_0_5, .slice A32_0_6 n32_0_6 c32_0_6, .bool b32_0_7, .bool b32_0_8], .agg #[.slice A32_1_0 n32_1_0 c32_1_0, .slice A32_1_1 n32_1_1 c32_1_1, .int .i64 x32_1_2, .bool b32_1_3], .bool b32_2]) ∧ (
    l0 k pt8 At35 nt35 ct35 xt36 (IntKind.i64.wrap (xt37 + (1 : Int))) w31 K0)) (
    l0 k pt8 At35 nt35 ct35 xt36 (IntKind.i64.wrap (xt37 + (1 : Int))) w21 K0)) (
    l0 k pt8 At35 nt35 ct35 xt36 (IntKind.i64.wrap (xt37 + (1 : Int))) w21 K0)) (
    K0  w)
def wp (xa0 : Int) (Aa1 : Option Addr) (na1 : Nat) (ca1 : Nat) (Aa2 : Option Addr) (na2 : Nat) (ca2 : Nat) (w : World) (Q : Ending → World → Prop) : Prop :=
  Calls Tryd.prog 8 #[] w fun e1 w2 => ∃ (b3 : Bool), e1 = .returned (.bool b3) ∧ (
  sel (!b3) (
  Q (.returned (.bool false)) w2) (
  sel (decide (xa0 < (1 : Int))) (
  Q (.returned (.bool true)) w2) (
  sel (decide (xa0 > (9 : Int))) (
  Q (.returned (.bool true)) w2) (
  Calls Tryd.prog 9 #[.int .i64 xa0] w2 fun e4 w5 => ∃ (p6_0 : Option Addr) (p6_1 : Option Addr), e4 = .returned (.tuple #[.pointer p6_0, .pointer p6_1]) ∧ (
  sel p6_0.isNone (
  Q (.returned (.bool false)) w5) (
  sel p6_1.isNone (
  Q (.returned (.bool false)) w5) (
  ∃ k72 : Nat, l0 k72 p6_1 Aa1 na1 ca1 (na1 : Int) (0 : Int) w5 (fun (w33 : World) => ∀ _ : Fr,
  Calls Tryd.prog 23 #[.pointer p6_1] w33 fun e34 w35 => ∃ (x36 : Int), e34 = .returned (.int .i64 x36) ∧ (
  Calls Tryd.prog 13 #[.pointer p6_1] w35 fun e37 w38 => ∃ (x39 : Int), e37 = .returned (.int .i64 x39) ∧ (
  sel (x39 != (0 : Int)) (
  Q (.returned (.bool false)) w38) (
  Calls Tryd.prog 23 #[.pointer p6_1] w38 fun e40 w41 => ∃ (x42 : Int), e40 = .returned (.int .i64 x42) ∧ (
  sel (decide (x42 ≤ x36)) (
  Q (.returned (.bool false)) w41) (
  Calls Tryd.prog 28 #[.pointer p6_1] w41 fun e43 w44 => ∃ (x45 : Int), e43 = .returned (.int .i64 x45) ∧ (
  Calls Tryd.prog 23 #[.pointer p6_1] w44 fun e46 w47 => ∃ (x48 : Int), e46 = .returned (.int .i64 x48) ∧ (
  sel (x45 != x48) (
  Q (.returned (.bool false)) w47) (
  Calls Tryd.prog 21 #[.pointer p6_1] w47 fun e49 w50 => ∃ (x51 : Int), e49 = .returned (.int .i64 x51) ∧ (
  sel (x51 != (IntKind.i64.wrap (xa0 * (498 : Int)))) (
  Q (.returned (.bool false)) w50) (
  Calls Tryd.prog 20 #[.pointer p6_1, .int .i64 (0 : Int)] w50 fun e52 w53 => ∃ (A54 : Option Addr) (n54 : Nat) (c54 : Nat), e52 = .returned (.slice A54 n54 c54) ∧ (
  sel ((n54 : Int) != (0 : Int)) (
  Q (.returned (.bool false)) w53) (
  Calls Tryd.prog 23 #[.pointer p6_1] w53 fun e55 w56 => ∃ (x57 : Int), e55 = .returned (.int .i64 x57) ∧ (
  Calls Tryd.prog 17 #[.pointer p6_0, .slice Aa2 na2 ca2] w56 fun e58 w59 => e58 = .returned (.tuple #[]) ∧ (
  Calls Tryd.prog 18 #[.pointer p6_0, .int .i64 (1 : Int), .int .i64 xa0] w59 fun e60 w61 => ∃ (p62_0 : Option Addr) (A62_1 : Option Addr) (n62_1 : Nat) (c62_1 : Nat) (x62_2 : Int), e60 = .returned (.tuple #[.pointer p62_0, .slice A62_1 n62_1 c62_1, .int .i64 x62_2]) ∧ (
  sel (x62_2 == (0 : Int)) (
  sel (!p62_0.isNone) (
  sel ((n62_1 : Int) == (0 : Int)) (
  Calls Tryd.prog 23 #[.pointer p62_0] w61 fun e63 w64 => ∃ (x65 : Int), e63 = .returned (.int .i64 x65) ∧ (
  sel (x65 == x57) (
  Calls Tryd.prog 13 #[.pointer p62_0] w64 fun e66 w67 => ∃ (x68 : Int), e66 = .returned (.int .i64 x68) ∧ (
  sel (x68 == (0 : Int)) (
  Calls Tryd.prog 23 #[.pointer p62_0] w67 fun e69 w70 => ∃ (x71 : Int), e69 = .returned (.int .i64 x71) ∧ (
  Q (.returned (.bool (decide (x71 > x57)))) w70)) (
  Q (.returned (.bool false)) w67))) (
  Q (.returned (.bool false)) w64))) (
  Q (.returned (.bool false)) w61)) (
  Q (.returned (.bool false)) w61)) (
  Q (.returned (.bool false)) w61))))))))))))))))))))))))
def D : Nat → Option DH := dtab []
def l0LO : LO := ⟨[], [], [(0, [0, 2, 7, 8])], []⟩
def l0Tk (k : Nat) : Spec := fun Q σ w =>
  gPtr (σ 8) fun pt8 =>
  gSlice (σ 35) fun At35 nt35 ct35 =>
  gInt .i64 (σ 36) fun xt36 =>
  gInt .i64 (σ 37) fun xt37 =>
  l0 k pt8 At35 nt35 ct35 xt36 xt37 w (fun (w : World) => ∀ d : Fr, Q (.exit 0) (ov d [(0, σ 0), (2, σ 2), (7, σ 7), (8, .pointer pt8)]) w)
def l0T : Spec := fun Q σ w => ∃ k, l0Tk k Q σ w
def l0tb : List (List Nat × Spec) := []
noncomputable def l0b : Code := (subC [0, 0, 1, 0, 1, 1, 1, 1, 1] body).getD .skip
theorem l0_eq (k : Nat) (pt8 : Option Addr) (At35 : Option Addr) (nt35 : Nat) (ct35 : Nat) (xt36 : Int) (xt37 : Int) (Q : PQ) (σ : Fr) (w : World) :
    l0 (k + 1) pt8 At35 nt35 ct35 xt36 xt37 w (fun (w : World) => ∀ d : Fr, Q (.exit 0) (ov d [(0, σ 0), (2, σ 2), (7, σ 7), (8, .pointer pt8)]) w) = codeW Tryd.prog hT 126 D (tab l0tb) [0, 0, 1, 0, 1, 1, 1, 1, 1] l0b (thenQ (l0Tk k Q) (widen l0LO Q)) (ov σ [(8, .pointer pt8), (35, .slice At35 nt35 ct35), (36, .int .i64 xt36), (37, .int .i64 xt37)]) w := by kernel_rfl
theorem l0_snd : ∀ c, subC [0, 1, 0, 1, 1, 1, 1, 1] body = some c → Snd Tryd.prog 126 c l0T := by
  refine loop_of (hT := hT) (D := D) (l := l0tb) (b := l0b) (lo := l0LO) (by kernel_rfl) (by
    intro x hx
    simp only [l0tb, List.not_mem_nil] at hx
    ) (by kernel_rfl) (by kernel_rfl) ?_ ?_
  · intro Q σ w h
    unfold l0Tk at h
    obtain ⟨pt8, h8, hn⟩ := gPtr_elim h
    clear h
    have h := hn
    clear hn
    obtain ⟨At35, nt35, ct35, h35, hn⟩ := gSlice_elim h
    clear h
    have h := hn
    clear hn
    obtain ⟨xt36, h36, hn⟩ := gInt_elim h
    clear h
    have h := hn
    clear hn
    obtain ⟨xt37, h37, hn⟩ := gInt_elim h
    clear h
    have h := hn
    clear hn
    exact h
  · intro k Q σ w h
    unfold l0Tk at h
    obtain ⟨pt8, h8, hn⟩ := gPtr_elim h
    clear h
    have h := hn
    clear hn
    obtain ⟨At35, nt35, ct35, h35, hn⟩ := gSlice_elim h
    clear h
    have h := hn
    clear hn
    obtain ⟨xt36, h36, hn⟩ := gInt_elim h
    clear h
    have h := hn
    clear hn
    obtain ⟨xt37, h37, hn⟩ := gInt_elim h
    clear h
    have h := hn
    clear hn
    rw [l0_eq (σ := σ)] at h
    have e : (ov σ [(8, .pointer pt8), (35, .slice At35 nt35 ct35), (36, .int .i64 xt36), (37, .int .i64 xt37)]) = σ := ov_self (by simp [h8, h35, h36, h37])
    rw [e] at h
    exact h
def tb : List (List Nat × Spec) := [([0, 1, 0, 1, 1, 1, 1, 1], l0T)]
theorem wp_eq (xa0 : Int) (Aa1 : Option Addr) (na1 : Nat) (ca1 : Nat) (Aa2 : Option Addr) (na2 : Nat) (ca2 : Nat) (w : World) (Q : Ending → World → Prop) :
    wp xa0 Aa1 na1 ca1 Aa2 na2 ca2 w Q = codeW Tryd.prog hT 126 D (tab tb) [] body (topQ Tryd.prog hT 126 [.tmp 6] Q) (argsF [.int .i64 xa0, .slice Aa1 na1 ca1, .slice Aa2 na2 ca2]) w := by kernel_rfl
theorem ok (xa0 : Int) (Aa1 : Option Addr) (na1 : Nat) (ca1 : Nat) (Aa2 : Option Addr) (na2 : Nat) (ca2 : Nat) (w : World) (Q : Ending → World → Prop) (h : wp xa0 Aa1 na1 ca1 Aa2 na2 ca2 w Q) : Calls Tryd.prog 7 #[.int .i64 xa0, .slice Aa1 na1 ca1, .slice Aa2 na2 ca2] w Q := by
  rw [wp_eq] at h
  exact calls_of_codeW (c := body) (rs := [.tmp 6]) Tryd.func7 (by kernel_rfl) (by kernel_rfl) (by kernel_rfl) (by kernel_rfl) (by kernel_rfl) (tab_snd (by
    intro x hx
    simp only [tb, List.mem_cons, List.not_mem_nil, or_false] at hx
    subst hx
    exact l0_snd)) (by kernel_rfl) h
end f_law09_WalRuns
end Go.Proofs.YtpokaafedpnbdaaDoor.Rd
