/- The printed readings of some functions: each function's code reckoned by the kernel to its predicate transformer. -/
import Derived.Test.YtnfgibbkfkaonaaHint
namespace Go.Proofs.Ytnfgibbkfkaonaa.Rd
open Go.Dn
set_option maxRecDepth 100000
set_option linter.unusedVariables false
namespace f_law15_TreapSeeds
/-! skein/skeinlaw15.TreapSeeds: function 3 -/
noncomputable def body : Code := (Try.f3.body).getD .skip
def j1 (At11 : Option Addr) (nt11 : Nat) (ct11 : Nat) (xt12 : Int) (At13 : Option Addr) (nt13 : Nat) (ct13 : Nat) (xt14 : Int) (at15 : Addr) (xt16 : Int) (at17 : Addr) (xt18 : Int) (xt19 : Int) (xt20 : Int) (xt21 : Int) (xt22 : Int) (w : World) (Kn : World → Prop) (Kr : Bool → World → Prop) : Prop :=
  Calls Try.prog 15 #[.slice At11 nt11 ct11, .slice At13 nt13 ct13] w fun e71 w72 => ∃ (b73 : Bool), e71 = .returned (.bool b73) ∧ (
  sel (!b73) (
  Kr false w72) (
  sel (xt12 != xt14) (
  Kr false w72) (
  ldI w72 at15 .i64 fun x74 =>
  ldI w72 (at15.add 1) .i64 fun x75 =>
  ldI w72 at17 .i64 fun x76 =>
  ldI w72 (at17.add 1) .i64 fun x77 =>
  sel (!((x74 == x76) && ((x75 == x77) && true))) (
  Kr false w72) (
  sel (xt16 != xt18) (
  Kr false w72) (
  sel (xt19 != xt21) (
  Kr false w72) (
  sel (xt20 != xt22) (
  Kr false w72) (
  Kn  w72)))))))
def l0 : Nat → Option Addr → Option Addr → Option Addr → Nat → Nat → Int → Int → World → (World → Prop) → (Bool → World → Prop) → Prop
  | 0, _, _, _, _, _, _, _, _, _, _ => False
  | k + 1, pt7, pt8, At37, nt37, ct37, xt38, xt39, w, K0, Kr =>
    sel (decide (xt39 < xt38)) (
    optB At37 fun a10 =>
    req (decide (0 ≤ xt39 ∧ xt39 < (nt37 : Int))) <|
    ldI w (a10.add (xt39.toNat * 5)) .i64 fun x11 =>
    ldI w ((a10.add (xt39.toNat * 5)).add 1) .i64 fun x12 =>
    ldI w ((a10.add (xt39.toNat * 5)).add 2) .i64 fun x13 =>
    ldI w ((a10.add (xt39.toNat * 5)).add 3) .i64 fun x14 =>
    ldI w ((a10.add (xt39.toNat * 5)).add 4) .u8 fun x15 =>
    alW w (.cells #[.int .i64 (0 : Int), .int .i64 (0 : Int), .int .i64 (0 : Int), .int .i64 (0 : Int), .int .u8 (0 : Int)] 30) fun B16 w17 =>
    stW w17 (⟨B16, 0, Option.none⟩ : Addr) (.int .i64 x11) fun w18 =>
    stW w18 ((⟨B16, 0, Option.none⟩ : Addr).add 1) (.int .i64 x12) fun w19 =>
    stW w19 ((⟨B16, 0, Option.none⟩ : Addr).add 2) (.int .i64 x13) fun w20 =>
    stW w20 ((⟨B16, 0, Option.none⟩ : Addr).add 3) (.int .i64 x14) fun w21 =>
    stW w21 ((⟨B16, 0, Option.none⟩ : Addr).add 4) (.int .u8 x15) fun w22 =>
    ldI w22 (⟨B16, 0, Option.none⟩ : Addr) .i64 fun x23 =>
    ldI w22 ((⟨B16, 0, Option.none⟩ : Addr).add 1) .i64 fun x24 =>
    ldI w22 ((⟨B16, 0, Option.none⟩ : Addr).add 2) .i64 fun x25 =>
    ldI w22 ((⟨B16, 0, Option.none⟩ : Addr).add 3) .i64 fun x26 =>
    ldI w22 ((⟨B16, 0, Option.none⟩ : Addr).add 4) .u8 fun x27 =>
    Calls Try.prog 10 #[.pointer pt7, .agg #[.slice none 0 0, .slice none 0 0, .slice none 0 0], .agg #[.int .i64 x23, .int .i64 x24, .int .i64 x25, .int .i64 x26, .int .u8 x27]] w22 fun e28 w29 => ∃ (A30_0_0 : Option Addr) (n30_0_0 : Nat) (c30_0_0 : Nat) (A30_0_1 : Option Addr) (n30_0_1 : Nat) (c30_0_1 : Nat) (A30_0_2 : Option Addr) (n30_0_2 : Nat) (c30_0_2 : Nat) (b30_1 : Bool), e28 = .returned (.tuple #[.agg #[.slice A30_0_0 n30_0_0 c30_0_0, .slice A30_0_1 n30_0_1 c30_0_1, .slice A30_0_2 n30_0_2 c30_0_2], .bool b30_1]) ∧ (
    ldI w29 (⟨B16, 0, Option.none⟩ : Addr) .i64 fun x31 =>
    ldI w29 ((⟨B16, 0, Option.none⟩ : Addr).add 1) .i64 fun x32 =>
    ldI w29 ((⟨B16, 0, Option.none⟩ : Addr).add 2) .i64 fun x33 =>
    ldI w29 ((⟨B16, 0, Option.none⟩ : Addr).add 3) .i64 fun x34 =>
    ldI w29 ((⟨B16, 0, Option.none⟩ : Addr).add 4) .u8 fun x35 =>
    Calls Try.prog 10 #[.pointer pt8, .agg #[.slice none 0 0, .slice none 0 0, .slice none 0 0], .agg #[.int .i64 x31, .int .i64 x32, .int .i64 x33, .int .i64 x34, .int .u8 x35]] w29 fun e36 w37 => ∃ (A38_0_0 : Option Addr) (n38_0_0 : Nat) (c38_0_0 : Nat) (A38_0_1 : Option Addr) (n38_0_1 : Nat) (c38_0_1 : Nat) (A38_0_2 : Option Addr) (n38_0_2 : Nat) (c38_0_2 : Nat) (b38_1 : Bool), e36 = .returned (.tuple #[.agg #[.slice A38_0_0 n38_0_0 c38_0_0, .slice A38_0_1 n38_0_1 c38_0_1, .slice A38_0_2 n38_0_2 c38_0_2], .bool b38_1]) ∧ (
    ldI w37 ((⟨B16, 0, Option.none⟩ : Addr).add 1) .i64 fun x39 =>
    Calls Try.prog 11 #[.pointer pt7, .int .i64 x39] w37 fun e40 w41 => ∃ (A42_0 : Option Addr) (n42_0 : Nat) (c42_0 : Nat) (x42_1 : Int), e40 = .returned (.tuple #[.slice A42_0 n42_0 c42_0, .int .i64 x42_1]) ∧ (
    ldI w41 ((⟨B16, 0, Option.none⟩ : Addr).add 1) .i64 fun x43 =>
    Calls Try.prog 11 #[.pointer pt8, .int .i64 x43] w41 fun e44 w45 => ∃ (A46_0 : Option Addr) (n46_0 : Nat) (c46_0 : Nat) (x46_1 : Int), e44 = .returned (.tuple #[.slice A46_0 n46_0 c46_0, .int .i64 x46_1]) ∧ (
    ldI w45 ((⟨B16, 0, Option.none⟩ : Addr).add 2) .i64 fun x47 =>
    Calls Try.prog 12 #[.pointer pt7, .int .i64 x47] w45 fun e48 w49 => ∃ (x50_0_0 : Int) (x50_0_1 : Int) (x50_1 : Int), e48 = .returned (.tuple #[.agg #[.int .i64 x50_0_0, .int .i64 x50_0_1], .int .i64 x50_1]) ∧ (
    alW w49 (.cells #[.int .i64 (0 : Int), .int .i64 (0 : Int)] 27) fun B51 w52 =>
    stW w52 (⟨B51, 0, Option.none⟩ : Addr) (.int .i64 x50_0_0) fun w53 =>
    stW w53 ((⟨B51, 0, Option.none⟩ : Addr).add 1) (.int .i64 x50_0_1) fun w54 =>
    ldI w54 ((⟨B16, 0, Option.none⟩ : Addr).add 2) .i64 fun x55 =>
    Calls Try.prog 12 #[.pointer pt8, .int .i64 x55] w54 fun e56 w57 => ∃ (x58_0_0 : Int) (x58_0_1 : Int) (x58_1 : Int), e56 = .returned (.tuple #[.agg #[.int .i64 x58_0_0, .int .i64 x58_0_1], .int .i64 x58_1]) ∧ (
    alW w57 (.cells #[.int .i64 (0 : Int), .int .i64 (0 : Int)] 27) fun B59 w60 =>
    stW w60 (⟨B59, 0, Option.none⟩ : Addr) (.int .i64 x58_0_0) fun w61 =>
    stW w61 ((⟨B59, 0, Option.none⟩ : Addr).add 1) (.int .i64 x58_0_1) fun w62 =>
    ldI w62 ((⟨B16, 0, Option.none⟩ : Addr).add 1) .i64 fun x63 =>
    Calls Try.prog 13 #[.pointer pt7, .int .i64 x63, .func (.func 14) #[] #[]] w62 fun e64 w65 => ∃ (x66_0 : Int) (x66_1 : Int), e64 = .returned (.tuple #[.int .i64 x66_0, .int .i64 x66_1]) ∧ (
    ldI w65 ((⟨B16, 0, Option.none⟩ : Addr).add 1) .i64 fun x67 =>
    Calls Try.prog 13 #[.pointer pt8, .int .i64 x67, .func (.func 14) #[] #[]] w65 fun e68 w69 => ∃ (x70_0 : Int) (x70_1 : Int), e68 = .returned (.tuple #[.int .i64 x70_0, .int .i64 x70_1]) ∧ (
    j1 A42_0 n42_0 c42_0 x42_1 A46_0 n46_0 c46_0 x46_1 (⟨B51, 0, Option.none⟩ : Addr) x50_1 (⟨B59, 0, Option.none⟩ : Addr) x58_1 x66_0 x66_1 x70_0 x70_1 w69 (fun (w78 : World) => ∀ _ : Fr,
    l0 k pt7 pt8 At37 nt37 ct37 xt38 (IntKind.i64.wrap (xt39 + (1 : Int))) w78 K0 Kr) (fun (b79 : Bool) (w80 : World) => ∀ _ : Fr,
    Kr b79 w80)))))))))) (
    K0  w)
def wp (Aa0 : Option Addr) (na0 : Nat) (ca0 : Nat) (Aa1 : Option Addr) (na1 : Nat) (ca1 : Nat) (Aa2 : Option Addr) (na2 : Nat) (ca2 : Nat) (w : World) (Q : Ending → World → Prop) : Prop :=
  Calls Try.prog 8 #[.slice Aa0 na0 ca0] w fun e1 w2 => ∃ (p3 : Option Addr), e1 = .returned (.pointer p3) ∧ (
  Calls Try.prog 8 #[.slice Aa1 na1 ca1] w2 fun e4 w5 => ∃ (p6 : Option Addr), e4 = .returned (.pointer p6) ∧ (
  sel p3.isNone (
  Q (.returned (.bool false)) w5) (
  sel p6.isNone (
  Q (.returned (.bool false)) w5) (
  Calls Try.prog 9 #[] w5 fun e7 w8 => ∃ (b9 : Bool), e7 = .returned (.bool b9) ∧ (
  sel (!b9) (
  Q (.returned (.bool false)) w8) (
  ∃ k84 : Nat, l0 k84 p3 p6 Aa2 na2 ca2 (na2 : Int) (0 : Int) w8 (fun (w81 : World) => ∀ _ : Fr,
  Q (.returned (.bool true)) w81) (fun (b82 : Bool) (w83 : World) => ∀ _ : Fr,
  Q (.returned (.bool b82)) w83)))))))
def D : Nat → Option DH := dtab []
def j1LO : LO := ⟨[7, 8, 37, 38, 39], [6], [], []⟩
def j1T : Spec := fun Q σ w =>
  gSlice (σ 11) fun At11 nt11 ct11 =>
  gInt .i64 (σ 12) fun xt12 =>
  gSlice (σ 13) fun At13 nt13 ct13 =>
  gInt .i64 (σ 14) fun xt14 =>
  gAd (σ 15) fun at15 =>
  gInt .i64 (σ 16) fun xt16 =>
  gAd (σ 17) fun at17 =>
  gInt .i64 (σ 18) fun xt18 =>
  gInt .i64 (σ 19) fun xt19 =>
  gInt .i64 (σ 20) fun xt20 =>
  gInt .i64 (σ 21) fun xt21 =>
  gInt .i64 (σ 22) fun xt22 =>
  j1 At11 nt11 ct11 xt12 At13 nt13 ct13 xt14 at15 xt16 at17 xt18 xt19 xt20 xt21 xt22 w (fun (w : World) => ∀ d : Fr, Q .normal (ov d [(7, σ 7), (8, σ 8), (37, σ 37), (38, σ 38), (39, σ 39)]) w) (fun (bq6 : Bool) (w : World) => ∀ d : Fr, Q .ret (ov d [(6, .bool bq6)]) w)
def j1tb : List (List Nat × Spec) := []
noncomputable def j1b : Code := (subC [1, 1, 1, 1, 1, 1, 1, 1, 1, 0, 0, 1, 1, 0, 0, 1, 0, 1, 1, 1] body).getD .skip
theorem j1_eq (At11 : Option Addr) (nt11 : Nat) (ct11 : Nat) (xt12 : Int) (At13 : Option Addr) (nt13 : Nat) (ct13 : Nat) (xt14 : Int) (at15 : Addr) (xt16 : Int) (at17 : Addr) (xt18 : Int) (xt19 : Int) (xt20 : Int) (xt21 : Int) (xt22 : Int) (Q : PQ) (σ : Fr) (w : World) :
    j1 At11 nt11 ct11 xt12 At13 nt13 ct13 xt14 at15 xt16 at17 xt18 xt19 xt20 xt21 xt22 w (fun (w : World) => ∀ d : Fr, Q .normal (ov d [(7, σ 7), (8, σ 8), (37, σ 37), (38, σ 38), (39, σ 39)]) w) (fun (bq6 : Bool) (w : World) => ∀ d : Fr, Q .ret (ov d [(6, .bool bq6)]) w) = codeW Try.prog hT 123 D (tab j1tb) [1, 1, 1, 1, 1, 1, 1, 1, 1, 0, 0, 1, 1, 0, 0, 1, 0, 1, 1, 1] j1b (widen j1LO Q) (ov σ [(11, .slice At11 nt11 ct11), (12, .int .i64 xt12), (13, .slice At13 nt13 ct13), (14, .int .i64 xt14), (15, .pointer (some at15)), (16, .int .i64 xt16), (17, .pointer (some at17)), (18, .int .i64 xt18), (19, .int .i64 xt19), (20, .int .i64 xt20), (21, .int .i64 xt21), (22, .int .i64 xt22)]) w := by kernel_rfl
theorem j1_snd : ∀ c, subC [1, 1, 1, 1, 1, 1, 1, 1, 1, 0, 0, 1, 1, 0, 0, 1, 0, 1, 1, 1] body = some c → Snd Try.prog 123 c j1T := by
  refine cut_of (hT := hT) (D := D) (l := j1tb) (b := j1b) (lo := j1LO) (by kernel_rfl) (by
    intro x hx
    simp only [j1tb, List.not_mem_nil] at hx
    ) (by kernel_rfl) (by kernel_rfl) ?_
  intro Q σ w h
  unfold j1T at h
  obtain ⟨At11, nt11, ct11, h11, hn⟩ := gSlice_elim h
  clear h
  have h := hn
  clear hn
  obtain ⟨xt12, h12, hn⟩ := gInt_elim h
  clear h
  have h := hn
  clear hn
  obtain ⟨At13, nt13, ct13, h13, hn⟩ := gSlice_elim h
  clear h
  have h := hn
  clear hn
  obtain ⟨xt14, h14, hn⟩ := gInt_elim h
  clear h
  have h := hn
  clear hn
  obtain ⟨at15, h15, hn⟩ := gAd_elim h
  clear h
  have h := hn
  clear hn
  obtain ⟨xt16, h16, hn⟩ := gInt_elim h
  clear h
  have h := hn
  clear hn
  obtain ⟨at17, h17, hn⟩ := gAd_elim h
  clear h
  have h := hn
  clear hn
  obtain ⟨xt18, h18, hn⟩ := gInt_elim h
  clear h
  have h := hn
  clear hn
  obtain ⟨xt19, h19, hn⟩ := gInt_elim h
  clear h
  have h := hn
  clear hn
  obtain ⟨xt20, h20, hn⟩ := gInt_elim h
  clear h
  have h := hn
  clear hn
  obtain ⟨xt21, h21, hn⟩ := gInt_elim h
  clear h
  have h := hn
  clear hn
  obtain ⟨xt22, h22, hn⟩ := gInt_elim h
  clear h
  have h := hn
  clear hn
  rw [j1_eq (σ := σ)] at h
  have e : (ov σ [(11, .slice At11 nt11 ct11), (12, .int .i64 xt12), (13, .slice At13 nt13 ct13), (14, .int .i64 xt14), (15, .pointer (some at15)), (16, .int .i64 xt16), (17, .pointer (some at17)), (18, .int .i64 xt18), (19, .int .i64 xt19), (20, .int .i64 xt20), (21, .int .i64 xt21), (22, .int .i64 xt22)]) = σ := ov_self (by simp [h11, h12, h13, h14, h15, h16, h17, h18, h19, h20, h21, h22])
  rw [e] at h
  exact h
def l0LO : LO := ⟨[], [6], [(0, [])], []⟩
def l0Tk (k : Nat) : Spec := fun Q σ w =>
  gPtr (σ 7) fun pt7 =>
  gPtr (σ 8) fun pt8 =>
  gSlice (σ 37) fun At37 nt37 ct37 =>
  gInt .i64 (σ 38) fun xt38 =>
  gInt .i64 (σ 39) fun xt39 =>
  l0 k pt7 pt8 At37 nt37 ct37 xt38 xt39 w (fun (w : World) => ∀ d : Fr, Q (.exit 0) (ov d []) w) (fun (bq6 : Bool) (w : World) => ∀ d : Fr, Q .ret (ov d [(6, .bool bq6)]) w)
def l0T : Spec := fun Q σ w => ∃ k, l0Tk k Q σ w
def l0tb : List (List Nat × Spec) := [([1, 1, 1, 1, 1, 1, 1, 1, 1, 0, 0, 1, 1, 0, 0, 1, 0, 1, 1, 1], j1T)]
noncomputable def l0b : Code := (subC [0, 0, 1, 0, 1, 1, 1] body).getD .skip
theorem l0_eq (k : Nat) (pt7 : Option Addr) (pt8 : Option Addr) (At37 : Option Addr) (nt37 : Nat) (ct37 : Nat) (xt38 : Int) (xt39 : Int) (Q : PQ) (σ : Fr) (w : World) :
    l0 (k + 1) pt7 pt8 At37 nt37 ct37 xt38 xt39 w (fun (w : World) => ∀ d : Fr, Q (.exit 0) (ov d []) w) (fun (bq6 : Bool) (w : World) => ∀ d : Fr, Q .ret (ov d [(6, .bool bq6)]) w) = codeW Try.prog hT 123 D (tab l0tb) [0, 0, 1, 0, 1, 1, 1] l0b (thenQ (l0Tk k Q) (widen l0LO Q)) (ov σ [(7, .pointer pt7), (8, .pointer pt8), (37, .slice At37 nt37 ct37), (38, .int .i64 xt38), (39, .int .i64 xt39)]) w := by kernel_rfl
theorem l0_snd : ∀ c, subC [0, 1, 0, 1, 1, 1] body = some c → Snd Try.prog 123 c l0T := by
  refine loop_of (hT := hT) (D := D) (l := l0tb) (b := l0b) (lo := l0LO) (by kernel_rfl) (by
    intro x hx
    simp only [l0tb, List.mem_cons, List.not_mem_nil, or_false] at hx
    subst hx
    exact j1_snd) (by kernel_rfl) (by kernel_rfl) ?_ ?_
  · intro Q σ w h
    unfold l0Tk at h
    obtain ⟨pt7, h7, hn⟩ := gPtr_elim h
    clear h
    have h := hn
    clear hn
    obtain ⟨pt8, h8, hn⟩ := gPtr_elim h
    clear h
    have h := hn
    clear hn
    obtain ⟨At37, nt37, ct37, h37, hn⟩ := gSlice_elim h
    clear h
    have h := hn
    clear hn
    obtain ⟨xt38, h38, hn⟩ := gInt_elim h
    clear h
    have h := hn
    clear hn
    obtain ⟨xt39, h39, hn⟩ := gInt_elim h
    clear h
    have h := hn
    clear hn
    exact h
  · intro k Q σ w h
    unfold l0Tk at h
    obtain ⟨pt7, h7, hn⟩ := gPtr_elim h
    clear h
    have h := hn
    clear hn
    obtain ⟨pt8, h8, hn⟩ := gPtr_elim h
    clear h
    have h := hn
    clear hn
    obtain ⟨At37, nt37, ct37, h37, hn⟩ := gSlice_elim h
    clear h
    have h := hn
    clear hn
    obtain ⟨xt38, h38, hn⟩ := gInt_elim h
    clear h
    have h := hn
    clear hn
    obtain ⟨xt39, h39, hn⟩ := gInt_elim h
    clear h
    have h := hn
    clear hn
    rw [l0_eq (σ := σ)] at h
    have e : (ov σ [(7, .pointer pt7), (8, .pointer pt8), (37, .slice At37 nt37 ct37), (38, .int .i64 xt38), (39, .int .i64 xt39)]) = σ := ov_self (by simp [h7, h8, h37, h38, h39])
    rw [e] at h
    exact h
def tb : List (List Nat × Spec) := [([1, 1, 1, 1, 1, 1, 1, 1, 1, 0, 0, 1, 1, 0, 0, 1, 0, 1, 1, 1], j1T), ([0, 1, 0, 1, 1, 1], l0T)]
theorem wp_eq (Aa0 : Option Addr) (na0 : Nat) (ca0 : Nat) (Aa1 : Option Addr) (na1 : Nat) (ca1 : Nat) (Aa2 : Option Addr) (na2 : Nat) (ca2 : Nat) (w : World) (Q : Ending → World → Prop) :
    wp Aa0 na0 ca0 Aa1 na1 ca1 Aa2 na2 ca2 w Q = codeW Try.prog hT 123 D (tab tb) [] body (topQ Try.prog hT 123 [.tmp 6] Q) (argsF [.slice Aa0 na0 ca0, .slice Aa1 na1 ca1, .slice Aa2 na2 ca2]) w := by kernel_rfl
theorem ok (Aa0 : Option Addr) (na0 : Nat) (ca0 : Nat) (Aa1 : Option Addr) (na1 : Nat) (ca1 : Nat) (Aa2 : Option Addr) (na2 : Nat) (ca2 : Nat) (w : World) (Q : Ending → World → Prop) (h : wp Aa0 na0 ca0 Aa1 na1 ca1 Aa2 na2 ca2 w Q) : Calls Try.prog 3 #[.slice Aa0 na0 ca0, .slice Aa1 na1 ca1, .slice Aa2 na2 ca2] w Q := by
  rw [wp_eq] at h
  exact calls_of_codeW (c := body) (rs := [.tmp 6]) Try.func3 (by kernel_rfl) (by kernel_rfl) (by kernel_rfl) (by kernel_rfl) (by kernel_rfl) (tab_snd (by
    intro x hx
    simp only [tb, List.mem_cons, List.not_mem_nil, or_false] at hx
    rcases hx with rfl | rfl
    · exact j1_snd
    · exact l0_snd)) (by kernel_rfl) h
end f_law15_TreapSeeds
end Go.Proofs.Ytnfgibbkfkaonaa.Rd
