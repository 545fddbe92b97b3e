/- The printed readings of some functions: each function's code reckoned by the kernel to its predicate transformer. -/
import Derived.Test.YthekjlglnmhlaaaHint
namespace Go.Proofs.Ythekjlglnmhlaaa.Rd
open Go.Dn
set_option maxRecDepth 100000
set_option linter.unusedVariables false
namespace f_law07_DiskSafe
/-! skein/skeinlaw07.DiskSafe: function 4 -/
noncomputable def body : Code := (Try.f4.body).getD .skip
def l0 : Nat → Option Addr → Option Addr → Nat → Nat → Int → Int → World → (World → Prop) → Prop
  | 0, _, _, _, _, _, _, _, _ => False
  | k + 1, pt9, At25, nt25, ct25, xt26, xt27, w, K0 =>
    sel (decide (xt27 < xt26)) (
    optB At25 fun a7 =>
    req (decide (0 ≤ xt27 ∧ xt27 < (nt25 : Int))) <|
    ldI w (a7.add (xt27.toNat * 5)) .i64 fun x8 =>
    ldI w ((a7.add (xt27.toNat * 5)).add 1) .i64 fun x9 =>
    ldS w ((a7.add (xt27.toNat * 5)).add 2) fun A10 n10 c10 =>
    ldS w ((a7.add (xt27.toNat * 5)).add 3) fun A11 n11 c11 =>
    ldS w ((a7.add (xt27.toNat * 5)).add 4) fun A12 n12 c12 =>
    alW w (.cells #[.int .i64 (0 : Int), .int .i64 (0 : Int), .slice none 0 0, .slice none 0 0, .slice none 0 0] 41) fun B13 w14 =>
    stW w14 (⟨B13, 0, Option.none⟩ : Addr) (.int .i64 x8) fun w15 =>
    stW w15 ((⟨B13, 0, Option.none⟩ : Addr).add 1) (.int .i64 x9) fun w16 =>
    stW w16 ((⟨B13, 0, Option.none⟩ : Addr).add 2) (.slice A10 n10 c10) fun w17 =>
    stW w17 ((⟨B13, 0, Option.none⟩ : Addr).add 3) (.slice A11 n11 c11) fun w18 =>
    stW w18 ((⟨B13, 0, Option.none⟩ : Addr).add 4) (.slice A12 n12 c12) fun w19 =>
    ldI w19 (⟨B13, 0, Option.none⟩ : Addr) .i64 fun x20 =>
    ldI w19 ((⟨B13, 0, Option.none⟩ : Addr).add 1) .i64 fun x21 =>
    ldS w19 ((⟨B13, 0, Option.none⟩ : Addr).add 2) fun A22 n22 c22 =>
    ldS w19 ((⟨B13, 0, Option.none⟩ : Addr).add 3) fun A23 n23 c23 =>
    ldS w19 ((⟨B13, 0, Option.none⟩ : Addr).add 4) fun A24 n24 c24 =>
    Calls Try.prog 18 #[.pointer pt9, .agg #[.int .i64 x20, .int .i64 x21, .slice A22 n22 c22, .slice A23 n23 c23, .slice A24 n24 c24]] w19 fun e25 w26 => e25 = .returned (.tuple #[]) ∧ (
    l0 k pt9 At25 nt25 ct25 xt26 (IntKind.i64.wrap (xt27 + (1 : Int))) w26 K0)) (
    K0  w)
def l1 : Nat → Int → Option Addr → Option Addr → Nat → Nat → Int → Int → World → (World → Prop) → Prop
  | 0, _, _, _, _, _, _, _, _, _ => False
  | k + 1, xt1, pt9, At64, nt64, ct64, xt65, xt66, w, K2 =>
    sel (decide (xt66 < xt65)) (
    optB At64 fun a40 =>
    req (decide (0 ≤ xt66 ∧ xt66 < (nt64 : Int))) <|
    ldI w (a40.add (xt66.toNat * 5)) .i64 fun x41 =>
    ldI w ((a40.add (xt66.toNat * 5)).add 1) .i64 fun x42 =>
    ldS w ((a40.add (xt66.toNat * 5)).add 2) fun A43 n43 c43 =>
    ldS w ((a40.add (xt66.toNat * 5)).add 3) fun A44 n44 c44 =>
    ldS w ((a40.add (xt66.toNat * 5)).add 4) fun A45 n45 c45 =>
    alW w (.cells #[.int .i64 (0 : Int), .int .i64 (0 : Int), .slice none 0 0, .slice none 0 0, .slice none 0 0] 41) fun B46 w47 =>
    stW w47 (⟨B46, 0, Option.none⟩ : Addr) (.int .i64 x41) fun w48 =>
    stW w48 ((⟨B46, 0, Option.none⟩ : Addr).add 1) (.int .i64 x42) fun w49 =>
    stW w49 ((⟨B46, 0, Option.none⟩ : Addr).add 2) (.slice A43 n43 c43) fun w50 =>
    stW w50 ((⟨B46, 0, Option.none⟩ : Addr).add 3) (.slice A44 n44 c44) fun w51 =>
    stW w51 ((⟨B46, 0, Option.none⟩ : Addr).add 4) (.slice A45 n45 c45) fun w52 =>
    ldI w52 (⟨B46, 0, Option.none⟩ : Addr) .i64 fun x53 =>
    sel (x53 != (2 : Int)) (
    ldI w52 (⟨B46, 0, Option.none⟩ : Addr) .i64 fun x54 =>
    ldI w52 ((⟨B46, 0, Option.none⟩ : Addr).add 1) .i64 fun x55 =>
    ldS w52 ((⟨B46, 0, Option.none⟩ : Addr).add 2) fun A56 n56 c56 =>
    ldS w52 ((⟨B46, 0, Option.none⟩ : Addr).add 3) fun A57 n57 c57 =>
    ldS w52 ((⟨B46, 0, Option.none⟩ : Addr).add 4) fun A58 n58 c58 =>
    Calls Try.prog 18 #[.pointer pt9, .agg #[.int .i64 x54, .int .i64 x55, .slice A56 n56 c56, .slice A57 n57 c57, .slice A58 n58 c58]] w52 fun e59 w60 => e59 = .returned (.tuple #[]) ∧ (
    l1 k xt1 pt9 At64 nt64 ct64 xt65 (IntKind.i64.wrap (xt66 + (1 : Int))) w60 K2)) (
    ldI w52 ((⟨B46, 0, Option.none⟩ : Addr).add 1) .i64 fun x61 =>
    sel (x61 != xt1) (
    ldI w52 (⟨B46, 0, Option.none⟩ : Addr) .i64 fun x62 =>
    ldI w52 ((⟨B46, 0, Option.none⟩ : Addr).add 1) .i64 fun x63 =>
    ldS w52 ((⟨B46, 0, Option.none⟩ : Addr).add 2) fun A64 n64 c64 =>
    ldS w52 ((⟨B46, 0, Option.none⟩ : Addr).add 3) fun A65 n65 c65 =>
    ldS w52 ((⟨B46, 0, Option.none⟩ : Addr).add 4) fun A66 n66 c66 =>
    Calls Try.prog 18 #[.pointer pt9, .agg #[.int .i64 x62, .int .i64 x63, .slice A64 n64 c64, .slice A65 n65 c65, .slice A66 n66 c66]] w52 fun e67 w68 => e67 = .returned (.tuple #[]) ∧ (
    l1 k xt1 pt9 At64 nt64 ct64 xt65 (IntKind.i64.wrap (xt66 + (1 : Int))) w68 K2)) (
    l1 k xt1 pt9 At64 nt64 ct64 xt65 (IntKind.i64.wrap (xt66 + (1 : Int))) w52 K2))) (
    K2  w)
def wp (Aa0 : Option Addr) (na0 : Nat) (ca0 : Nat) (xa1 : Int) (Aa2 : Option Addr) (na2 : Nat) (ca2 : Nat) (Aa3 : Option Addr) (na3 : Nat) (ca3 : Nat) (w : World) (Q : Ending → World → Prop) : Prop :=
  Calls Try.prog 9 #[] w fun e1 w2 => ∃ (b3 : Bool), e1 = .returned (.bool b3) ∧ (
  sel (!b3) (
  Q (.returned (.bool false)) w2) (
  Calls Try.prog 10 #[.int .i64 (8 : Int)] w2 fun e4 w5 => ∃ (p6 : Option Addr), e4 = .returned (.pointer p6) ∧ (
  sel p6.isNone (
  Q (.returned (.bool false)) w5) (
  ∃ k85 : Nat, l0 k85 p6 Aa0 na0 ca0 (na0 : Int) (0 : Int) w5 (fun (w27 : World) => ∀ _ : Fr,
  Calls Try.prog 19 #[.slice Aa2 na2 ca2] w27 fun e28 w29 => ∃ (A30 : Option Addr) (n30 : Nat) (c30 : Nat), e28 = .returned (.slice A30 n30 c30) ∧ (
  Calls Try.prog 16 #[.pointer p6, .int .i64 xa1, .slice A30 n30 c30] w29 fun e31 w32 => ∃ (x33 : Int), e31 = .returned (.int .i64 x33) ∧ (
  Calls Try.prog 20 #[.pointer p6] w32 fun e34 w35 => ∃ (x36 : Int), e34 = .returned (.int .i64 x36) ∧ (
  sel (x33 != (0 : Int)) (
  sel (x33 != (0 : Int)) (
  Q (.returned (.bool true)) w35) (
  sel (x36 == (71 : Int)) (
  Q (.returned (.bool true)) w35) (
  Q (.returned (.bool (x36 == (70 : Int)))) w35))) (
  sel (x36 != (0 : Int)) (
  sel (x33 != (0 : Int)) (
  Q (.returned (.bool true)) w35) (
  sel (x36 == (71 : Int)) (
  Q (.returned (.bool true)) w35) (
  Q (.returned (.bool (x36 == (70 : Int)))) w35))) (
  Calls Try.prog 17 #[.pointer p6, .int .i64 xa1] w35 fun e37 w38 => ∃ (A39_0 : Option Addr) (n39_0 : Nat) (c39_0 : Nat) (x39_1 : Int), e37 = .returned (.tuple #[.slice A39_0 n39_0 c39_0, .int .i64 x39_1]) ∧ (
  ∃ k84 : Nat, l1 k84 xa1 p6 Aa3 na3 ca3 (na3 : Int) (0 : Int) w38 (fun (w69 : World) => ∀ _ : Fr,
  Calls Try.prog 21 #[.pointer p6, .slice none 0 0] w69 fun e70 w71 => e70 = .returned (.tuple #[]) ∧ (
  Calls Try.prog 17 #[.pointer p6, .int .i64 xa1] w71 fun e72 w73 => ∃ (A74_0 : Option Addr) (n74_0 : Nat) (c74_0 : Nat) (x74_1 : Int), e72 = .returned (.tuple #[.slice A74_0 n74_0 c74_0, .int .i64 x74_1]) ∧ (
  sel (x74_1 == (0 : Int)) (
  Calls Try.prog 22 #[.slice A74_0 n74_0 c74_0, .slice A39_0 n39_0 c39_0] w73 fun e75 w76 => ∃ (b77 : Bool), e75 = .returned (.bool b77) ∧ (
  sel b77 (
  Calls Try.prog 23 #[.slice A74_0 n74_0 c74_0, .int .i64 (0 : Int), .int .i64 (na2 : Int)] w76 fun e78 w79 => ∃ (A80 : Option Addr) (n80 : Nat) (c80 : Nat), e78 = .returned (.slice A80 n80 c80) ∧ (
  Calls Try.prog 22 #[.slice A80 n80 c80, .slice Aa2 na2 ca2] w79 fun e81 w82 => ∃ (b83 : Bool), e81 = .returned (.bool b83) ∧ (
  Q (.returned (.bool b83)) w82))) (
  Q (.returned (.bool false)) w76))) (
  Q (.returned (.bool false)) w73)))))))))))))))
def D : Nat → Option DH := dtab []
def l0LO : LO := ⟨[], [], [(0, [1, 2, 3, 9])], []⟩
def l0Tk (k : Nat) : Spec := fun Q σ w =>
  gPtr (σ 9) fun pt9 =>
  gSlice (σ 25) fun At25 nt25 ct25 =>
  gInt .i64 (σ 26) fun xt26 =>
  gInt .i64 (σ 27) fun xt27 =>
  l0 k pt9 At25 nt25 ct25 xt26 xt27 w (fun (w : World) => ∀ d : Fr, Q (.exit 0) (ov d [(1, σ 1), (2, σ 2), (3, σ 3), (9, .pointer pt9)]) w)
def l0T : Spec := fun Q σ w => ∃ k, l0Tk k Q σ w
def l0tb : List (List Nat × Spec) := []
noncomputable def l0b : Code := (subC [0, 0, 1, 0, 1, 1, 1, 1] body).getD .skip
theorem l0_eq (k : Nat) (pt9 : Option Addr) (At25 : Option Addr) (nt25 : Nat) (ct25 : Nat) (xt26 : Int) (xt27 : Int) (Q : PQ) (σ : Fr) (w : World) :
    l0 (k + 1) pt9 At25 nt25 ct25 xt26 xt27 w (fun (w : World) => ∀ d : Fr, Q (.exit 0) (ov d [(1, σ 1), (2, σ 2), (3, σ 3), (9, .pointer pt9)]) w) = codeW Try.prog hT 106 D (tab l0tb) [0, 0, 1, 0, 1, 1, 1, 1] l0b (thenQ (l0Tk k Q) (widen l0LO Q)) (ov σ [(9, .pointer pt9), (25, .slice At25 nt25 ct25), (26, .int .i64 xt26), (27, .int .i64 xt27)]) w := by kernel_rfl
theorem l0_snd : ∀ c, subC [0, 1, 0, 1, 1, 1, 1] body = some c → Snd Try.prog 106 c l0T := by
  refine loop_of (hT := hT) (D := D) (l := l0tb) (b := l0b) (lo := l0LO) (by kernel_rfl) (by
    intro x hx
    simp only [l0tb, List.not_mem_nil] at hx
    ) (by kernel_rfl) (by kernel_rfl) ?_ ?_
  · intro Q σ w h
    unfold l0Tk at h
    obtain ⟨pt9, h9, hn⟩ := gPtr_elim h
    clear h
    have h := hn
    clear hn
    obtain ⟨At25, nt25, ct25, h25, hn⟩ := gSlice_elim h
    clear h
    have h := hn
    clear hn
    obtain ⟨xt26, h26, hn⟩ := gInt_elim h
    clear h
    have h := hn
    clear hn
    obtain ⟨xt27, h27, hn⟩ := gInt_elim h
    clear h
    have h := hn
    clear hn
    exact h
  · intro k Q σ w h
    unfold l0Tk at h
    obtain ⟨pt9, h9, hn⟩ := gPtr_elim h
    clear h
    have h := hn
    clear hn
    obtain ⟨At25, nt25, ct25, h25, hn⟩ := gSlice_elim h
    clear h
    have h := hn
    clear hn
    obtain ⟨xt26, h26, hn⟩ := gInt_elim h
    clear h
    have h := hn
    clear hn
    obtain ⟨xt27, h27, hn⟩ := gInt_elim h
    clear h
    have h := hn
    clear hn
    rw [l0_eq (σ := σ)] at h
    have e : (ov σ [(9, .pointer pt9), (25, .slice At25 nt25 ct25), (26, .int .i64 xt26), (27, .int .i64 xt27)]) = σ := ov_self (by simp [h9, h25, h26, h27])
    rw [e] at h
    exact h
def l1LO : LO := ⟨[], [], [(2, [1, 2, 9, 14])], []⟩
def l1Tk (k : Nat) : Spec := fun Q σ w =>
  gInt .i64 (σ 1) fun xt1 =>
  gPtr (σ 9) fun pt9 =>
  gSlice (σ 64) fun At64 nt64 ct64 =>
  gInt .i64 (σ 65) fun xt65 =>
  gInt .i64 (σ 66) fun xt66 =>
  l1 k xt1 pt9 At64 nt64 ct64 xt65 xt66 w (fun (w : World) => ∀ d : Fr, Q (.exit 2) (ov d [(1, .int .i64 xt1), (2, σ 2), (9, .pointer pt9), (14, σ 14)]) w)
def l1T : Spec := fun Q σ w => ∃ k, l1Tk k Q σ w
def l1tb : List (List Nat × Spec) := []
noncomputable def l1b : Code := (subC [0, 0, 1, 0, 1, 1, 1, 1, 1, 1, 1, 1, 1] body).getD .skip
theorem l1_eq (k : Nat) (xt1 : Int) (pt9 : Option Addr) (At64 : Option Addr) (nt64 : Nat) (ct64 : Nat) (xt65 : Int) (xt66 : Int) (Q : PQ) (σ : Fr) (w : World) :
    l1 (k + 1) xt1 pt9 At64 nt64 ct64 xt65 xt66 w (fun (w : World) => ∀ d : Fr, Q (.exit 2) (ov d [(1, .int .i64 xt1), (2, σ 2), (9, .pointer pt9), (14, σ 14)]) w) = codeW Try.prog hT 106 D (tab l1tb) [0, 0, 1, 0, 1, 1, 1, 1, 1, 1, 1, 1, 1] l1b (thenQ (l1Tk k Q) (widen l1LO Q)) (ov σ [(1, .int .i64 xt1), (9, .pointer pt9), (64, .slice At64 nt64 ct64), (65, .int .i64 xt65), (66, .int .i64 xt66)]) w := by kernel_rfl
theorem l1_snd : ∀ c, subC [0, 1, 0, 1, 1, 1, 1, 1, 1, 1, 1, 1] body = some c → Snd Try.prog 106 c l1T := by
  refine loop_of (hT := hT) (D := D) (l := l1tb) (b := l1b) (lo := l1LO) (by kernel_rfl) (by
    intro x hx
    simp only [l1tb, List.not_mem_nil] at hx
    ) (by kernel_rfl) (by kernel_rfl) ?_ ?_
  · intro Q σ w h
    unfold l1Tk at h
    obtain ⟨xt1, h1, hn⟩ := gInt_elim h
    clear h
    have h := hn
    clear hn
    obtain ⟨pt9, h9, hn⟩ := gPtr_elim h
    clear h
    have h := hn
    clear hn
    obtain ⟨At64, nt64, ct64, h64, hn⟩ := gSlice_elim h
    clear h
    have h := hn
    clear hn
    obtain ⟨xt65, h65, hn⟩ := gInt_elim h
    clear h
    have h := hn
    clear hn
    obtain ⟨xt66, h66, hn⟩ := gInt_elim h
    clear h
    have h := hn
    clear hn
    exact h
  · intro k Q σ w h
    unfold l1Tk at h
    obtain ⟨xt1, h1, hn⟩ := gInt_elim h
    clear h
    have h := hn
    clear hn
    obtain ⟨pt9, h9, hn⟩ := gPtr_elim h
    clear h
    have h := hn
    clear hn
    obtain ⟨At64, nt64, ct64, h64, hn⟩ := gSlice_elim h
    clear h
    have h := hn
    clear hn
    obtain ⟨xt65, h65, hn⟩ := gInt_elim h
    clear h
    have h := hn
    clear hn
    obtain ⟨xt66, h66, hn⟩ := gInt_elim h
    clear h
    have h := hn
    clear hn
    rw [l1_eq (σ := σ)] at h
    have e : (ov σ [(1, .int .i64 xt1), (9, .pointer pt9), (64, .slice At64 nt64 ct64), (65, .int .i64 xt65), (66, .int .i64 xt66)]) = σ := ov_self (by simp [h1, h9, h64, h65, h66])
    rw [e] at h
    exact h
def tb : List (List Nat × Spec) := [([0, 1, 0, 1, 1, 1, 1], l0T), ([0, 1, 0, 1, 1, 1, 1, 1, 1, 1, 1, 1], l1T)]
theorem wp_eq (Aa0 : Option Addr) (na0 : Nat) (ca0 : Nat) (xa1 : Int) (Aa2 : Option Addr) (na2 : Nat) (ca2 : Nat) (Aa3 : Option Addr) (na3 : Nat) (ca3 : Nat) (w : World) (Q : Ending → World → Prop) :
    wp Aa0 na0 ca0 xa1 Aa2 na2 ca2 Aa3 na3 ca3 w Q = codeW Try.prog hT 106 D (tab tb) [] body (topQ Try.prog hT 106 [.tmp 8] Q) (argsF [.slice Aa0 na0 ca0, .int .i64 xa1, .slice Aa2 na2 ca2, .slice Aa3 na3 ca3]) w := by kernel_rfl
theorem ok (Aa0 : Option Addr) (na0 : Nat) (ca0 : Nat) (xa1 : Int) (Aa2 : Option Addr) (na2 : Nat) (ca2 : Nat) (Aa3 : Option Addr) (na3 : Nat) (ca3 : Nat) (w : World) (Q : Ending → World → Prop) (h : wp Aa0 na0 ca0 xa1 Aa2 na2 ca2 Aa3 na3 ca3 w Q) : Calls Try.prog 4 #[.slice Aa0 na0 ca0, .int .i64 xa1, .slice Aa2 na2 ca2, .slice Aa3 na3 ca3] w Q := by
  rw [wp_eq] at h
  exact calls_of_codeW (c := body) (rs := [.tmp 8]) Try.func4 (by kernel_rfl) (by kernel_rfl) (by kernel_rfl) (by kernel_rfl) (by kernel_rfl) (tab_snd (by
    intro x hx
    simp only [tb, List.mem_cons, List.not_mem_nil, or_false] at hx
    rcases hx with rfl | rfl
    · exact l0_snd
    · exact l1_snd)) (by kernel_rfl) h
end f_law07_DiskSafe
end Go.Proofs.Ythekjlglnmhlaaa.Rd
