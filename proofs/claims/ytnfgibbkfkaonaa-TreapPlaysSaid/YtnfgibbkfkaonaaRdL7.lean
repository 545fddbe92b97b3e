/- The printed readings of some functions: each function's code reckoned by the kernel to its predicate transformer. -/
import Derived.Test.YtnfgibbkfkaonaaHint
namespace Go.Proofs.Ytnfgibbkfkaonaa.Rd
open Go.Dn
set_option maxRecDepth 100000
set_option linter.unusedVariables false
namespace f_law15_TreapPlays
/-! skein/skeinlaw15.TreapPlays: function 7 -/
noncomputable def body : Code := (Try.f7.body).getD .skip
def l0 : Nat → Option Addr → Addr → Option Addr → Nat → Nat → Int → Int → World → (World → Prop) → (Bool → World → Prop) → Prop
  | 0, _, _, _, _, _, _, _, _, _, _ => False
  | k + 1, pt5, at6, At22, nt22, ct22, xt23, xt24, w, K0, Kr =>
    sel (decide (xt24 < xt23)) (
    optB At22 fun a12 =>
    req (decide (0 ≤ xt24 ∧ xt24 < (nt22 : Int))) <|
    ldI w (a12.add (xt24.toNat * 5)) .i64 fun x13 =>
    ldI w ((a12.add (xt24.toNat * 5)).add 1) .i64 fun x14 =>
    ldI w ((a12.add (xt24.toNat * 5)).add 2) .i64 fun x15 =>
    ldI w ((a12.add (xt24.toNat * 5)).add 3) .i64 fun x16 =>
    ldI w ((a12.add (xt24.toNat * 5)).add 4) .u8 fun x17 =>
    alW w (.cells #[.int .i64 (0 : Int), .int .i64 (0 : Int), .int .i64 (0 : Int), .int .i64 (0 : Int), .int .u8 (0 : Int)] 30) fun B18 w19 =>
    stW w19 (⟨B18, 0, Option.none⟩ : Addr) (.int .i64 x13) fun w20 =>
    stW w20 ((⟨B18, 0, Option.none⟩ : Addr).add 1) (.int .i64 x14) fun w21 =>
    stW w21 ((⟨B18, 0, Option.none⟩ : Addr).add 2) (.int .i64 x15) fun w22 =>
    stW w22 ((⟨B18, 0, Option.none⟩ : Addr).add 3) (.int .i64 x16) fun w23 =>
    stW w23 ((⟨B18, 0, Option.none⟩ : Addr).add 4) (.int .u8 x17) fun w24 =>
    ldS w24 at6 fun A25 n25 c25 =>
    ldS w24 (at6.add 1) fun A26 n26 c26 =>
    ldS w24 (at6.add 2) fun A27 n27 c27 =>
    ldI w24 (⟨B18, 0, Option.none⟩ : Addr) .i64 fun x28 =>
    ldI w24 ((⟨B18, 0, Option.none⟩ : Addr).add 1) .i64 fun x29 =>
    ldI w24 ((⟨B18, 0, Option.none⟩ : Addr).add 2) .i64 fun x30 =>
    ldI w24 ((⟨B18, 0, Option.none⟩ : Addr).add 3) .i64 fun x31 =>
    ldI w24 ((⟨B18, 0, Option.none⟩ : Addr).add 4) .u8 fun x32 =>
    Calls Try.prog 10 #[.pointer pt5, .agg #[.slice A25 n25 c25, .slice A26 n26 c26, .slice A27 n27 c27], .agg #[.int .i64 x28, .int .i64 x29, .int .i64 x30, .int .i64 x31, .int .u8 x32]] w24 fun e33 w34 => ∃ (A35_0_0 : Option Addr) (n35_0_0 : Nat) (c35_0_0 : Nat) (A35_0_1 : Option Addr) (n35_0_1 : Nat) (c35_0_1 : Nat) (A35_0_2 : Option Addr) (n35_0_2 : Nat) (c35_0_2 : Nat) (b35_1 : Bool), e33 = .returned (.tuple #[.agg #[.slice A35_0_0 n35_0_0 c35_0_0, .slice A35_0_1 n35_0_1 c35_0_1, .slice A35_0_2 n35_0_2 c35_0_2], .bool b35_1]) ∧ (
    alW w34 (.cells #[.slice none 0 0, .slice none 0 0, .slice none 0 0] 34) fun B36 w37 =>
    stW w37 (⟨B36, 0, Option.none⟩ : Addr) (.slice A35_0_0 n35_0_0 c35_0_0) fun w38 =>
    stW w38 ((⟨B36, 0, Option.none⟩ : Addr).add 1) (.slice A35_0_1 n35_0_1 c35_0_1) fun w39 =>
    stW w39 ((⟨B36, 0, Option.none⟩ : Addr).add 2) (.slice A35_0_2 n35_0_2 c35_0_2) fun w40 =>
    ldS w40 (⟨B36, 0, Option.none⟩ : Addr) fun A41 n41 c41 =>
    ldS w40 ((⟨B36, 0, Option.none⟩ : Addr).add 1) fun A42 n42 c42 =>
    ldS w40 ((⟨B36, 0, Option.none⟩ : Addr).add 2) fun A43 n43 c43 =>
    stW w40 at6 (.slice A41 n41 c41) fun w44 =>
    stW w44 (at6.add 1) (.slice A42 n42 c42) fun w45 =>
    stW w45 (at6.add 2) (.slice A43 n43 c43) fun w46 =>
    sel (!b35_1) (
    Kr false w46) (
    ldS w46 at6 fun A47 n47 c47 =>
    ldS w46 (at6.add 1) fun A48 n48 c48 =>
    ldS w46 (at6.add 2) fun A49 n49 c49 =>
    ldI w46 (⟨B18, 0, Option.none⟩ : Addr) .i64 fun x50 =>
    ldI w46 ((⟨B18, 0, Option.none⟩ : Addr).add 1) .i64 fun x51 =>
    ldI w46 ((⟨B18, 0, Option.none⟩ : Addr).add 2) .i64 fun x52 =>
    ldI w46 ((⟨B18, 0, Option.none⟩ : Addr).add 3) .i64 fun x53 =>
    ldI w46 ((⟨B18, 0, Option.none⟩ : Addr).add 4) .u8 fun x54 =>
    Calls Try.prog 26 #[.pointer pt5, .agg #[.slice A47 n47 c47, .slice A48 n48 c48, .slice A49 n49 c49], .agg #[.int .i64 x50, .int .i64 x51, .int .i64 x52, .int .i64 x53, .int .u8 x54]] w46 fun e55 w56 => ∃ (b57 : Bool), e55 = .returned (.bool b57) ∧ (
    sel (!b57) (
    Kr false w56) (
    l0 k pt5 at6 At22 nt22 ct22 xt23 (IntKind.i64.wrap (xt24 + (1 : Int))) w56 K0 Kr))))) (
    K0  w)
def l2 : Nat → Option Addr → Addr → Int → Int → World → (World → Prop) → (Bool → World → Prop) → Prop
  | 0, _, _, _, _, _, _, _ => False
  | k + 1, pt5, at6, xt11, xt12, w, K4, Kr =>
    sel (decide (xt12 ≤ (11 : Int))) (
    ldS w at6 fun A60 n60 c60 =>
    ldS w (at6.add 1) fun A61 n61 c61 =>
    ldS w (at6.add 2) fun A62 n62 c62 =>
    Calls Try.prog 26 #[.pointer pt5, .agg #[.slice A60 n60 c60, .slice A61 n61 c61, .slice A62 n62 c62], .agg #[.int .i64 xt12, .int .i64 (IntKind.i64.wrap (xt11 + (1 : Int))), .int .i64 (IntKind.i64.wrap (xt11.tdiv (2 : Int))), .int .i64 (0 : Int), .int .u8 (0 : Int)]] w fun e63 w64 => ∃ (b65 : Bool), e63 = .returned (.bool b65) ∧ (
    sel (!b65) (
    Kr false w64) (
    l2 k pt5 at6 xt11 (IntKind.i64.wrap (xt12 + (1 : Int))) w64 K4 Kr))) (
    K4  w)
def l1 : Nat → Option Addr → Addr → Int → Int → World → (World → Prop) → (Bool → World → Prop) → Prop
  | 0, _, _, _, _, _, _, _ => False
  | k + 1, pt5, at6, xt48, xt49, w, K2, Kr =>
    sel (decide (xt49 < xt48)) (
    ∃ k69 : Nat, l2 k69 pt5 at6 xt49 (5 : Int) w (fun (w66 : World) => ∀ _ : Fr,
    l1 k pt5 at6 xt48 (IntKind.i64.wrap (xt49 + (1 : Int))) w66 K2 Kr) (fun (b67 : Bool) (w68 : World) => ∀ _ : Fr,
    Kr b67 w68)) (
    K2  w)
def wp (Aa0 : Option Addr) (na0 : Nat) (ca0 : Nat) (Aa1 : Option Addr) (na1 : Nat) (ca1 : Nat) (w : World) (Q : Ending → World → Prop) : Prop :=
  Calls Try.prog 8 #[.slice Aa0 na0 ca0] w fun e1 w2 => ∃ (p3 : Option Addr), e1 = .returned (.pointer p3) ∧ (
  sel p3.isNone (
  Q (.returned (.bool false)) w2) (
  Calls Try.prog 9 #[] w2 fun e4 w5 => ∃ (b6 : Bool), e4 = .returned (.bool b6) ∧ (
  sel (!b6) (
  Q (.returned (.bool false)) w5) (
  alW w5 (.cells #[.slice none 0 0, .slice none 0 0, .slice none 0 0] 34) fun B7 w8 =>
  stW w8 (⟨B7, 0, Option.none⟩ : Addr) (.slice none 0 0) fun w9 =>
  stW w9 ((⟨B7, 0, Option.none⟩ : Addr).add 1) (.slice none 0 0) fun w10 =>
  stW w10 ((⟨B7, 0, Option.none⟩ : Addr).add 2) (.slice none 0 0) fun w11 =>
  ∃ k76 : Nat, l0 k76 p3 (⟨B7, 0, Option.none⟩ : Addr) Aa1 na1 ca1 (na1 : Int) (0 : Int) w11 (fun (w58 : World) => ∀ _ : Fr,
  ldS w58 ((⟨B7, 0, Option.none⟩ : Addr).add 1) fun A59 n59 c59 =>
  ∃ k73 : Nat, l1 k73 p3 (⟨B7, 0, Option.none⟩ : Addr) (n59 : Int) (0 : Int) w58 (fun (w70 : World) => ∀ _ : Fr,
  Q (.returned (.bool true)) w70) (fun (b71 : Bool) (w72 : World) => ∀ _ : Fr,
  Q (.returned (.bool b71)) w72)) (fun (b74 : Bool) (w75 : World) => ∀ _ : Fr,
  Q (.returned (.bool b74)) w75)))))
def D : Nat → Option DH := dtab []
def l0LO : LO := ⟨[], [4], [(0, [5, 6])], []⟩
def l0Tk (k : Nat) : Spec := fun Q σ w =>
  gPtr (σ 5) fun pt5 =>
  gAd (σ 6) fun at6 =>
  gSlice (σ 22) fun At22 nt22 ct22 =>
  gInt .i64 (σ 23) fun xt23 =>
  gInt .i64 (σ 24) fun xt24 =>
  l0 k pt5 at6 At22 nt22 ct22 xt23 xt24 w (fun (w : World) => ∀ d : Fr, Q (.exit 0) (ov d [(5, .pointer pt5), (6, .pointer (some at6))]) w) (fun (bq4 : Bool) (w : World) => ∀ d : Fr, Q .ret (ov d [(4, .bool bq4)]) w)
def l0T : Spec := fun Q σ w => ∃ k, l0Tk k Q σ w
def l0tb : List (List Nat × Spec) := []
noncomputable def l0b : Code := (subC [0, 0, 1, 0, 1, 1, 1, 1] body).getD .skip
theorem l0_eq (k : Nat) (pt5 : Option Addr) (at6 : Addr) (At22 : Option Addr) (nt22 : Nat) (ct22 : Nat) (xt23 : Int) (xt24 : Int) (Q : PQ) (σ : Fr) (w : World) :
    l0 (k + 1) pt5 at6 At22 nt22 ct22 xt23 xt24 w (fun (w : World) => ∀ d : Fr, Q (.exit 0) (ov d [(5, .pointer pt5), (6, .pointer (some at6))]) w) (fun (bq4 : Bool) (w : World) => ∀ d : Fr, Q .ret (ov d [(4, .bool bq4)]) w) = codeW Try.prog hT 67 D (tab l0tb) [0, 0, 1, 0, 1, 1, 1, 1] l0b (thenQ (l0Tk k Q) (widen l0LO Q)) (ov σ [(5, .pointer pt5), (6, .pointer (some at6)), (22, .slice At22 nt22 ct22), (23, .int .i64 xt23), (24, .int .i64 xt24)]) w := by kernel_rfl
theorem l0_snd : ∀ c, subC [0, 1, 0, 1, 1, 1, 1] body = some c → Snd Try.prog 67 c l0T := by
  refine loop_of (hT := hT) (D := D) (l := l0tb) (b := l0b) (lo := l0LO) (by kernel_rfl) (by
    intro x hx
    simp only [l0tb, List.not_mem_nil] at hx
    ) (by kernel_rfl) (by kernel_rfl) ?_ ?_
  · intro Q σ w h
    unfold l0Tk at h
    obtain ⟨pt5, h5, hn⟩ := gPtr_elim h
    clear h
    have h := hn
    clear hn
    obtain ⟨at6, h6, hn⟩ := gAd_elim h
    clear h
    have h := hn
    clear hn
    obtain ⟨At22, nt22, ct22, h22, hn⟩ := gSlice_elim h
    clear h
    have h := hn
    clear hn
    obtain ⟨xt23, h23, hn⟩ := gInt_elim h
    clear h
    have h := hn
    clear hn
    obtain ⟨xt24, h24, hn⟩ := gInt_elim h
    clear h
    have h := hn
    clear hn
    exact h
  · intro k Q σ w h
    unfold l0Tk at h
    obtain ⟨pt5, h5, hn⟩ := gPtr_elim h
    clear h
    have h := hn
    clear hn
    obtain ⟨at6, h6, hn⟩ := gAd_elim h
    clear h
    have h := hn
    clear hn
    obtain ⟨At22, nt22, ct22, h22, hn⟩ := gSlice_elim h
    clear h
    have h := hn
    clear hn
    obtain ⟨xt23, h23, hn⟩ := gInt_elim h
    clear h
    have h := hn
    clear hn
    obtain ⟨xt24, h24, hn⟩ := gInt_elim h
    clear h
    have h := hn
    clear hn
    rw [l0_eq (σ := σ)] at h
    have e : (ov σ [(5, .pointer pt5), (6, .pointer (some at6)), (22, .slice At22 nt22 ct22), (23, .int .i64 xt23), (24, .int .i64 xt24)]) = σ := ov_self (by simp [h5, h6, h22, h23, h24])
    rw [e] at h
    exact h
def l2LO : LO := ⟨[], [4], [(4, [5, 6, 48, 49])], []⟩
def l2Tk (k : Nat) : Spec := fun Q σ w =>
  gPtr (σ 5) fun pt5 =>
  gAd (σ 6) fun at6 =>
  gInt .i64 (σ 11) fun xt11 =>
  gInt .i64 (σ 12) fun xt12 =>
  l2 k pt5 at6 xt11 xt12 w (fun (w : World) => ∀ d : Fr, Q (.exit 4) (ov d [(5, .pointer pt5), (6, .pointer (some at6)), (48, σ 48), (49, σ 49)]) w) (fun (bq4 : Bool) (w : World) => ∀ d : Fr, Q .ret (ov d [(4, .bool bq4)]) w)
def l2T : Spec := fun Q σ w => ∃ k, l2Tk k Q σ w
def l2tb : List (List Nat × Spec) := []
noncomputable def l2b : Code := (subC [0, 0, 1, 1, 0, 0, 1, 1, 0, 0, 1, 0, 1, 1, 1, 1, 1] body).getD .skip
theorem l2_eq (k : Nat) (pt5 : Option Addr) (at6 : Addr) (xt11 : Int) (xt12 : Int) (Q : PQ) (σ : Fr) (w : World) :
    l2 (k + 1) pt5 at6 xt11 xt12 w (fun (w : World) => ∀ d : Fr, Q (.exit 4) (ov d [(5, .pointer pt5), (6, .pointer (some at6)), (48, σ 48), (49, σ 49)]) w) (fun (bq4 : Bool) (w : World) => ∀ d : Fr, Q .ret (ov d [(4, .bool bq4)]) w) = codeW Try.prog hT 67 D (tab l2tb) [0, 0, 1, 1, 0, 0, 1, 1, 0, 0, 1, 0, 1, 1, 1, 1, 1] l2b (thenQ (l2Tk k Q) (widen l2LO Q)) (ov σ [(5, .pointer pt5), (6, .pointer (some at6)), (11, .int .i64 xt11), (12, .int .i64 xt12)]) w := by kernel_rfl
theorem l2_snd : ∀ c, subC [0, 1, 1, 0, 0, 1, 1, 0, 0, 1, 0, 1, 1, 1, 1, 1] body = some c → Snd Try.prog 67 c l2T := by
  refine loop_of (hT := hT) (D := D) (l := l2tb) (b := l2b) (lo := l2LO) (by kernel_rfl) (by
    intro x hx
    simp only [l2tb, List.not_mem_nil] at hx
    ) (by kernel_rfl) (by kernel_rfl) ?_ ?_
  · intro Q σ w h
    unfold l2Tk at h
    obtain ⟨pt5, h5, hn⟩ := gPtr_elim h
    clear h
    have h := hn
    clear hn
    obtain ⟨at6, h6, hn⟩ := gAd_elim h
    clear h
    have h := hn
    clear hn
    obtain ⟨xt11, h11, hn⟩ := gInt_elim h
    clear h
    have h := hn
    clear hn
    obtain ⟨xt12, h12, hn⟩ := gInt_elim h
    clear h
    have h := hn
    clear hn
    exact h
  · intro k Q σ w h
    unfold l2Tk at h
    obtain ⟨pt5, h5, hn⟩ := gPtr_elim h
    clear h
    have h := hn
    clear hn
    obtain ⟨at6, h6, hn⟩ := gAd_elim h
    clear h
    have h := hn
    clear hn
    obtain ⟨xt11, h11, hn⟩ := gInt_elim h
    clear h
    have h := hn
    clear hn
    obtain ⟨xt12, h12, hn⟩ := gInt_elim h
    clear h
    have h := hn
    clear hn
    rw [l2_eq (σ := σ)] at h
    have e : (ov σ [(5, .pointer pt5), (6, .pointer (some at6)), (11, .int .i64 xt11), (12, .int .i64 xt12)]) = σ := ov_self (by simp [h5, h6, h11, h12])
    rw [e] at h
    exact h
def l1LO : LO := ⟨[], [4], [(2, [])], []⟩
def l1Tk (k : Nat) : Spec := fun Q σ w =>
  gPtr (σ 5) fun pt5 =>
  gAd (σ 6) fun at6 =>
  gInt .i64 (σ 48) fun xt48 =>
  gInt .i64 (σ 49) fun xt49 =>
  l1 k pt5 at6 xt48 xt49 w (fun (w : World) => ∀ d : Fr, Q (.exit 2) (ov d []) w) (fun (bq4 : Bool) (w : World) => ∀ d : Fr, Q .ret (ov d [(4, .bool bq4)]) w)
def l1T : Spec := fun Q σ w => ∃ k, l1Tk k Q σ w
def l1tb : List (List Nat × Spec) := [([0, 1, 1, 0, 0, 1, 1, 0, 0, 1, 0, 1, 1, 1, 1, 1], l2T)]
noncomputable def l1b : Code := (subC [0, 0, 1, 0, 1, 1, 1, 1, 1] body).getD .skip
theorem l1_eq (k : Nat) (pt5 : Option Addr) (at6 : Addr) (xt48 : Int) (xt49 : Int) (Q : PQ) (σ : Fr) (w : World) :
    l1 (k + 1) pt5 at6 xt48 xt49 w (fun (w : World) => ∀ d : Fr, Q (.exit 2) (ov d []) w) (fun (bq4 : Bool) (w : World) => ∀ d : Fr, Q .ret (ov d [(4, .bool bq4)]) w) = codeW Try.prog hT 67 D (tab l1tb) [0, 0, 1, 0, 1, 1, 1, 1, 1] l1b (thenQ (l1Tk k Q) (widen l1LO Q)) (ov σ [(5, .pointer pt5), (6, .pointer (some at6)), (48, .int .i64 xt48), (49, .int .i64 xt49)]) w := by kernel_rfl
theorem l1_snd : ∀ c, subC [0, 1, 0, 1, 1, 1, 1, 1] body = some c → Snd Try.prog 67 c l1T := by
  refine loop_of (hT := hT) (D := D) (l := l1tb) (b := l1b) (lo := l1LO) (by kernel_rfl) (by
    intro x hx
    simp only [l1tb, List.mem_cons, List.not_mem_nil, or_false] at hx
    subst hx
    exact l2_snd) (by kernel_rfl) (by kernel_rfl) ?_ ?_
  · intro Q σ w h
    unfold l1Tk at h
    obtain ⟨pt5, h5, hn⟩ := gPtr_elim h
    clear h
    have h := hn
    clear hn
    obtain ⟨at6, h6, hn⟩ := gAd_elim h
    clear h
    have h := hn
    clear hn
    obtain ⟨xt48, h48, hn⟩ := gInt_elim h
    clear h
    have h := hn
    clear hn
    obtain ⟨xt49, h49, hn⟩ := gInt_elim h
    clear h
    have h := hn
    clear hn
    exact h
  · intro k Q σ w h
    unfold l1Tk at h
    obtain ⟨pt5, h5, hn⟩ := gPtr_elim h
    clear h
    have h := hn
    clear hn
    obtain ⟨at6, h6, hn⟩ := gAd_elim h
    clear h
    have h := hn
    clear hn
    obtain ⟨xt48, h48, hn⟩ := gInt_elim h
    clear h
    have h := hn
    clear hn
    obtain ⟨xt49, h49, hn⟩ := gInt_elim h
    clear h
    have h := hn
    clear hn
    rw [l1_eq (σ := σ)] at h
    have e : (ov σ [(5, .pointer pt5), (6, .pointer (some at6)), (48, .int .i64 xt48), (49, .int .i64 xt49)]) = σ := ov_self (by simp [h5, h6, h48, h49])
    rw [e] at h
    exact h
def tb : List (List Nat × Spec) := [([0, 1, 0, 1, 1, 1, 1], l0T), ([0, 1, 1, 0, 0, 1, 1, 0, 0, 1, 0, 1, 1, 1, 1, 1], l2T), ([0, 1, 0, 1, 1, 1, 1, 1], l1T)]
theorem wp_eq (Aa0 : Option Addr) (na0 : Nat) (ca0 : Nat) (Aa1 : Option Addr) (na1 : Nat) (ca1 : Nat) (w : World) (Q : Ending → World → Prop) :
    wp Aa0 na0 ca0 Aa1 na1 ca1 w Q = codeW Try.prog hT 67 D (tab tb) [] body (topQ Try.prog hT 67 [.tmp 4] Q) (argsF [.slice Aa0 na0 ca0, .slice Aa1 na1 ca1]) w := by kernel_rfl
theorem ok (Aa0 : Option Addr) (na0 : Nat) (ca0 : Nat) (Aa1 : Option Addr) (na1 : Nat) (ca1 : Nat) (w : World) (Q : Ending → World → Prop) (h : wp Aa0 na0 ca0 Aa1 na1 ca1 w Q) : Calls Try.prog 7 #[.slice Aa0 na0 ca0, .slice Aa1 na1 ca1] w Q := by
  rw [wp_eq] at h
  exact calls_of_codeW (c := body) (rs := [.tmp 4]) Try.func7 (by kernel_rfl) (by kernel_rfl) (by kernel_rfl) (by kernel_rfl) (by kernel_rfl) (tab_snd (by
    intro x hx
    simp only [tb, List.mem_cons, List.not_mem_nil, or_false] at hx
    rcases hx with rfl | rfl | rfl
    · exact l0_snd
    · exact l2_snd
    · exact l1_snd)) (by kernel_rfl) h
end f_law15_TreapPlays
end Go.Proofs.Ytnfgibbkfkaonaa.Rd
