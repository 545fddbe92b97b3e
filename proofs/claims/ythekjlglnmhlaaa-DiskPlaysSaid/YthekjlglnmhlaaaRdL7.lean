/- The printed readings of some functions: each function's code reckoned by the kernel to its predicate transformer. -/
import Derived.Test.YthekjlglnmhlaaaHint
namespace Go.Proofs.Ythekjlglnmhlaaa.Rd
open Go.Dn
set_option maxRecDepth 100000
set_option linter.unusedVariables false
namespace f_law07_DiskAtoms
/-! skein/skeinlaw07.DiskAtoms: function 7 -/
noncomputable def body : Code := (Try.f7.body).getD .skip
def l0 : Nat → Option Addr → Option Addr → Nat → Nat → Int → Int → World → (World → Prop) → Prop
  | 0, _, _, _, _, _, _, _, _ => False
  | k + 1, pt5, At21, nt21, ct21, xt22, xt23, w, K0 =>
    sel (decide (xt23 < xt22)) (
    optB At21 fun a7 =>
    req (decide (0 ≤ xt23 ∧ xt23 < (nt21 : Int))) <|
    ldI w (a7.add (xt23.toNat * 5)) .i64 fun x8 =>
    ldI w ((a7.add (xt23.toNat * 5)).add 1) .i64 fun x9 =>
    ldS w ((a7.add (xt23.toNat * 5)).add 2) fun A10 n10 c10 =>
    ldS w ((a7.add (xt23.toNat * 5)).add 3) fun A11 n11 c11 =>
    ldS w ((a7.add (xt23.toNat * 5)).add 4) fun A12 n12 c12 =>
    alW w (.cells #[.int .i64 (0 : Int), .int .i64 (0 : Int), .slice none 0 0, .slice none 0 0, .slice none 0 0] 41) fun B13 w14 =>
    stW w14 (⟨B13, 0, Option.none⟩ : Addr) (.int .i64 x8) fun w15 =>
    stW w15 ((⟨B13, 0, Option.none⟩ : Addr).add 1) (.int .i64 x9) fun w16 =>
    stW w16 ((⟨B13, 0, Option.none⟩ : Addr).add 2) (.slice A10 n10 c10) fun w17 =>
    stW w17 ((⟨B13, 0, Option.none⟩ : Addr).add 3) (.slice A11 n11 c11) fun w18 =>
    stW w18 ((⟨B13, 0, Option.none⟩ : Addr).add 4) (.slice A12 n12 c12) fun w19 =>
    ldI w19 (⟨B13, 0, Option.none⟩ : Addr) .i64 fun x20 =>
    ldI w19 ((⟨B13, 0, Option.none⟩ : Addr).add 1) .i64 fun x21 =>
    ldS w19 ((⟨B13, 0, Option.none⟩ : Addr).add 2) fun A22 n22 c22 =>
    ldS w19 ((⟨B13, 0, Option.none⟩ : Addr).add 3) fun A23 n23 c23 =>
    ldS w19 ((⟨B13, 0, Option.none⟩ : Addr).add 4) fun A24 n24 c24 =>
    Calls Try.prog 18 #[.pointer pt5, .agg #[.int .i64 x20, .int .i64 x21, .slice A22 n22 c22, .slice A23 n23 c23, .slice A24 n24 c24]] w19 fun e25 w26 => e25 = .returned (.tuple #[]) ∧ (
    l0 k pt5 At21 nt21 ct21 xt22 (IntKind.i64.wrap (xt23 + (1 : Int))) w26 K0)) (
    K0  w)
def j2 (At13 : Option Addr) (nt13 : Nat) (ct13 : Nat) (xt14 : Int) (At15 : Option Addr) (nt15 : Nat) (ct15 : Nat) (w : World) (Kn : World → Prop) (Kr : Bool → World → Prop) : Prop :=
  sel (xt14 != (0 : Int)) (
  Kr false w) (
  Calls Try.prog 22 #[.slice At13 nt13 ct13, .slice At15 nt15 ct15] w fun e57 w58 => ∃ (b59 : Bool), e57 = .returned (.bool b59) ∧ (
  sel (!b59) (
  Kr false w58) (
  Kn  w58)))
def l1 : Nat → Option Addr → Nat → Nat → Option Addr → Option Addr → Nat → Nat → Option Addr → Nat → Nat → Option Addr → Nat → Nat → Int → World → (World → Prop) → (Bool → World → Prop) → Prop
  | 0, _, _, _, _, _, _, _, _, _, _, _, _, _, _, _, _, _ => False
  | k + 1, At1, nt1, ct1, pt5, At8, nt8, ct8, At9, nt9, ct9, At10, nt10, ct10, xt12, w, K2, Kr =>
    sel (decide (xt12 < (6 : Int))) (
    Calls Try.prog 17 #[.pointer pt5, .int .i64 xt12] w fun e42 w43 => ∃ (A44_0 : Option Addr) (n44_0 : Nat) (c44_0 : Nat) (x44_1 : Int), e42 = .returned (.tuple #[.slice A44_0 n44_0 c44_0, .int .i64 x44_1]) ∧ (
    Calls Try.prog 23 #[.slice At8 nt8 ct8, .int .i64 (IntKind.i64.wrap ((512 : Int) * xt12)), .int .i64 (IntKind.i64.wrap ((IntKind.i64.wrap ((512 : Int) * xt12)) + (512 : Int)))] w43 fun e45 w46 => ∃ (A47 : Option Addr) (n47 : Nat) (c47 : Nat), e45 = .returned (.slice A47 n47 c47) ∧ (
    Calls Try.prog 35 #[.slice At10 nt10 ct10, .int .i64 xt12] w46 fun e48 w49 => ∃ (b50 : Bool), e48 = .returned (.bool b50) ∧ (
    sel b50 (
    Calls Try.prog 35 #[.slice At1 nt1 ct1, .int .i64 xt12] w49 fun e51 w52 => ∃ (b53 : Bool), e51 = .returned (.bool b53) ∧ (
    sel b53 (
    Calls Try.prog 23 #[.slice At9 nt9 ct9, .int .i64 (IntKind.i64.wrap ((512 : Int) * xt12)), .int .i64 (IntKind.i64.wrap ((IntKind.i64.wrap ((512 : Int) * xt12)) + (512 : Int)))] w52 fun e54 w55 => ∃ (A56 : Option Addr) (n56 : Nat) (c56 : Nat), e54 = .returned (.slice A56 n56 c56) ∧ (
    j2 A44_0 n44_0 c44_0 x44_1 A56 n56 c56 w55 (fun (w60 : World) => ∀ _ : Fr,
    l1 k At1 nt1 ct1 pt5 At8 nt8 ct8 At9 nt9 ct9 At10 nt10 ct10 (IntKind.i64.wrap (xt12 + (1 : Int))) w60 K2 Kr) (fun (b61 : Bool) (w62 : World) => ∀ _ : Fr,
    Kr b61 w62))) (
    j2 A44_0 n44_0 c44_0 x44_1 A47 n47 c47 w52 (fun (w63 : World) => ∀ _ : Fr,
    l1 k At1 nt1 ct1 pt5 At8 nt8 ct8 At9 nt9 ct9 At10 nt10 ct10 (IntKind.i64.wrap (xt12 + (1 : Int))) w63 K2 Kr) (fun (b64 : Bool) (w65 : World) => ∀ _ : Fr,
    Kr b64 w65)))) (
    j2 A44_0 n44_0 c44_0 x44_1 A47 n47 c47 w49 (fun (w66 : World) => ∀ _ : Fr,
    l1 k At1 nt1 ct1 pt5 At8 nt8 ct8 At9 nt9 ct9 At10 nt10 ct10 (IntKind.i64.wrap (xt12 + (1 : Int))) w66 K2 Kr) (fun (b67 : Bool) (w68 : World) => ∀ _ : Fr,
    Kr b67 w68)))))) (
    K2  w)
def wp (Aa0 : Option Addr) (na0 : Nat) (ca0 : Nat) (Aa1 : Option Addr) (na1 : Nat) (ca1 : Nat) (w : World) (Q : Ending → World → Prop) : Prop :=
  Calls Try.prog 9 #[] w fun e1 w2 => ∃ (b3 : Bool), e1 = .returned (.bool b3) ∧ (
  sel (!b3) (
  Q (.returned (.bool false)) w2) (
  Calls Try.prog 10 #[.int .i64 (6 : Int)] w2 fun e4 w5 => ∃ (p6 : Option Addr), e4 = .returned (.pointer p6) ∧ (
  sel p6.isNone (
  Q (.returned (.bool false)) w5) (
  ∃ k91 : Nat, l0 k91 p6 Aa0 na0 ca0 (na0 : Int) (0 : Int) w5 (fun (w27 : World) => ∀ _ : Fr,
  Calls Try.prog 27 #[.pointer p6] w27 fun e28 w29 => ∃ (A30 : Option Addr) (n30 : Nat) (c30 : Nat), e28 = .returned (.slice A30 n30 c30) ∧ (
  Calls Try.prog 26 #[.pointer p6] w29 fun e31 w32 => ∃ (A33 : Option Addr) (n33 : Nat) (c33 : Nat), e31 = .returned (.slice A33 n33 c33) ∧ (
  Calls Try.prog 13 #[.pointer p6] w32 fun e34 w35 => ∃ (A36 : Option Addr) (n36 : Nat) (c36 : Nat), e34 = .returned (.slice A36 n36 c36) ∧ (
  Calls Try.prog 14 #[.pointer p6] w35 fun e37 w38 => ∃ (x39 : Int), e37 = .returned (.int .i64 x39) ∧ (
  Calls Try.prog 21 #[.pointer p6, .slice Aa1 na1 ca1] w38 fun e40 w41 => e40 = .returned (.tuple #[]) ∧ (
  ∃ k90 : Nat, l1 k90 Aa1 na1 ca1 p6 A30 n30 c30 A33 n33 c33 A36 n36 c36 (0 : Int) w41 (fun (w69 : World) => ∀ _ : Fr,
  Calls Try.prog 15 #[.pointer p6] w69 fun e70 w71 => ∃ (b72 : Bool), e70 = .returned (.bool b72) ∧ (
  sel b72 (
  Calls Try.prog 14 #[.pointer p6] w71 fun e73 w74 => ∃ (x75 : Int), e73 = .returned (.int .i64 x75) ∧ (
  sel (x75 == x39) (
  Calls Try.prog 13 #[.pointer p6] w74 fun e76 w77 => ∃ (A78 : Option Addr) (n78 : Nat) (c78 : Nat), e76 = .returned (.slice A78 n78 c78) ∧ (
  sel ((n78 : Int) == (0 : Int)) (
  Calls Try.prog 27 #[.pointer p6] w77 fun e79 w80 => ∃ (A81 : Option Addr) (n81 : Nat) (c81 : Nat), e79 = .returned (.slice A81 n81 c81) ∧ (
  Calls Try.prog 26 #[.pointer p6] w80 fun e82 w83 => ∃ (A84 : Option Addr) (n84 : Nat) (c84 : Nat), e82 = .returned (.slice A84 n84 c84) ∧ (
  Calls Try.prog 22 #[.slice A81 n81 c81, .slice A84 n84 c84] w83 fun e85 w86 => ∃ (b87 : Bool), e85 = .returned (.bool b87) ∧ (
  Q (.returned (.bool b87)) w86)))) (
  Q (.returned (.bool false)) w77))) (
  Q (.returned (.bool false)) w74))) (
  Q (.returned (.bool false)) w71))) (fun (b88 : Bool) (w89 : World) => ∀ _ : Fr,
  Q (.returned (.bool b88)) w89)))))))))))
def D : Nat → Option DH := dtab []
def l0LO : LO := ⟨[], [], [(0, [1, 5])], []⟩
def l0Tk (k : Nat) : Spec := fun Q σ w =>
  gPtr (σ 5) fun pt5 =>
  gSlice (σ 21) fun At21 nt21 ct21 =>
  gInt .i64 (σ 22) fun xt22 =>
  gInt .i64 (σ 23) fun xt23 =>
  l0 k pt5 At21 nt21 ct21 xt22 xt23 w (fun (w : World) => ∀ d : Fr, Q (.exit 0) (ov d [(1, σ 1), (5, .pointer pt5)]) w)
def l0T : Spec := fun Q σ w => ∃ k, l0Tk k Q σ w
def l0tb : List (List Nat × Spec) := []
noncomputable def l0b : Code := (subC [0, 0, 1, 0, 1, 1, 1, 1] body).getD .skip
theorem l0_eq (k : Nat) (pt5 : Option Addr) (At21 : Option Addr) (nt21 : Nat) (ct21 : Nat) (xt22 : Int) (xt23 : Int) (Q : PQ) (σ : Fr) (w : World) :
    l0 (k + 1) pt5 At21 nt21 ct21 xt22 xt23 w (fun (w : World) => ∀ d : Fr, Q (.exit 0) (ov d [(1, σ 1), (5, .pointer pt5)]) w) = codeW Try.prog hT 103 D (tab l0tb) [0, 0, 1, 0, 1, 1, 1, 1] l0b (thenQ (l0Tk k Q) (widen l0LO Q)) (ov σ [(5, .pointer pt5), (21, .slice At21 nt21 ct21), (22, .int .i64 xt22), (23, .int .i64 xt23)]) w := by kernel_rfl
theorem l0_snd : ∀ c, subC [0, 1, 0, 1, 1, 1, 1] body = some c → Snd Try.prog 103 c l0T := by
  refine loop_of (hT := hT) (D := D) (l := l0tb) (b := l0b) (lo := l0LO) (by kernel_rfl) (by
    intro x hx
    simp only [l0tb, List.not_mem_nil] at hx
    ) (by kernel_rfl) (by kernel_rfl) ?_ ?_
  · intro Q σ w h
    unfold l0Tk at h
    obtain ⟨pt5, h5, hn⟩ := gPtr_elim h
    clear h
    have h := hn
    clear hn
    obtain ⟨At21, nt21, ct21, h21, hn⟩ := gSlice_elim h
    clear h
    have h := hn
    clear hn
    obtain ⟨xt22, h22, hn⟩ := gInt_elim h
    clear h
    have h := hn
    clear hn
    obtain ⟨xt23, h23, hn⟩ := gInt_elim h
    clear h
    have h := hn
    clear hn
    exact h
  · intro k Q σ w h
    unfold l0Tk at h
    obtain ⟨pt5, h5, hn⟩ := gPtr_elim h
    clear h
    have h := hn
    clear hn
    obtain ⟨At21, nt21, ct21, h21, hn⟩ := gSlice_elim h
    clear h
    have h := hn
    clear hn
    obtain ⟨xt22, h22, hn⟩ := gInt_elim h
    clear h
    have h := hn
    clear hn
    obtain ⟨xt23, h23, hn⟩ := gInt_elim h
    clear h
    have h := hn
    clear hn
    rw [l0_eq (σ := σ)] at h
    have e : (ov σ [(5, .pointer pt5), (21, .slice At21 nt21 ct21), (22, .int .i64 xt22), (23, .int .i64 xt23)]) = σ := ov_self (by simp [h5, h21, h22, h23])
    rw [e] at h
    exact h
def j2LO : LO := ⟨[1, 5, 8, 9, 10, 11, 12], [4], [], []⟩
def j2T : Spec := fun Q σ w =>
  gSlice (σ 13) fun At13 nt13 ct13 =>
  gInt .i64 (σ 14) fun xt14 =>
  gSlice (σ 15) fun At15 nt15 ct15 =>
  j2 At13 nt13 ct13 xt14 At15 nt15 ct15 w (fun (w : World) => ∀ d : Fr, Q .normal (ov d [(1, σ 1), (5, σ 5), (8, σ 8), (9, σ 9), (10, σ 10), (11, σ 11), (12, σ 12)]) w) (fun (bq4 : Bool) (w : World) => ∀ d : Fr, Q .ret (ov d [(4, .bool bq4)]) w)
def j2tb : List (List Nat × Spec) := []
noncomputable def j2b : Code := (subC [1, 1, 1, 0, 0, 1, 0, 0, 1, 0, 1, 1, 1, 1, 1, 1, 1, 1] body).getD .skip
theorem j2_eq (At13 : Option Addr) (nt13 : Nat) (ct13 : Nat) (xt14 : Int) (At15 : Option Addr) (nt15 : Nat) (ct15 : Nat) (Q : PQ) (σ : Fr) (w : World) :
    j2 At13 nt13 ct13 xt14 At15 nt15 ct15 w (fun (w : World) => ∀ d : Fr, Q .normal (ov d [(1, σ 1), (5, σ 5), (8, σ 8), (9, σ 9), (10, σ 10), (11, σ 11), (12, σ 12)]) w) (fun (bq4 : Bool) (w : World) => ∀ d : Fr, Q .ret (ov d [(4, .bool bq4)]) w) = codeW Try.prog hT 103 D (tab j2tb) [1, 1, 1, 0, 0, 1, 0, 0, 1, 0, 1, 1, 1, 1, 1, 1, 1, 1] j2b (widen j2LO Q) (ov σ [(13, .slice At13 nt13 ct13), (14, .int .i64 xt14), (15, .slice At15 nt15 ct15)]) w := by kernel_rfl
theorem j2_snd : ∀ c, subC [1, 1, 1, 0, 0, 1, 0, 0, 1, 0, 1, 1, 1, 1, 1, 1, 1, 1] body = some c → Snd Try.prog 103 c j2T := by
  refine cut_of (hT := hT) (D := D) (l := j2tb) (b := j2b) (lo := j2LO) (by kernel_rfl) (by
    intro x hx
    simp only [j2tb, List.not_mem_nil] at hx
    ) (by kernel_rfl) (by kernel_rfl) ?_
  intro Q σ w h
  unfold j2T at h
  obtain ⟨At13, nt13, ct13, h13, hn⟩ := gSlice_elim h
  clear h
  have h := hn
  clear hn
  obtain ⟨xt14, h14, hn⟩ := gInt_elim h
  clear h
  have h := hn
  clear hn
  obtain ⟨At15, nt15, ct15, h15, hn⟩ := gSlice_elim h
  clear h
  have h := hn
  clear hn
  rw [j2_eq (σ := σ)] at h
  have e : (ov σ [(13, .slice At13 nt13 ct13), (14, .int .i64 xt14), (15, .slice At15 nt15 ct15)]) = σ := ov_self (by simp [h13, h14, h15])
  rw [e] at h
  exact h
def l1LO : LO := ⟨[], [4], [(2, [5, 11])], []⟩
def l1Tk (k : Nat) : Spec := fun Q σ w =>
  gSlice (σ 1) fun At1 nt1 ct1 =>
  gPtr (σ 5) fun pt5 =>
  gSlice (σ 8) fun At8 nt8 ct8 =>
  gSlice (σ 9) fun At9 nt9 ct9 =>
  gSlice (σ 10) fun At10 nt10 ct10 =>
  gInt .i64 (σ 12) fun xt12 =>
  l1 k At1 nt1 ct1 pt5 At8 nt8 ct8 At9 nt9 ct9 At10 nt10 ct10 xt12 w (fun (w : World) => ∀ d : Fr, Q (.exit 2) (ov d [(5, .pointer pt5), (11, σ 11)]) w) (fun (bq4 : Bool) (w : World) => ∀ d : Fr, Q .ret (ov d [(4, .bool bq4)]) w)
def l1T : Spec := fun Q σ w => ∃ k, l1Tk k Q σ w
def l1tb : List (List Nat × Spec) := [([1, 1, 1, 0, 0, 1, 0, 0, 1, 0, 1, 1, 1, 1, 1, 1, 1, 1], j2T)]
noncomputable def l1b : Code := (subC [0, 0, 1, 0, 1, 1, 1, 1, 1, 1, 1, 1] body).getD .skip
theorem l1_eq (k : Nat) (At1 : Option Addr) (nt1 : Nat) (ct1 : Nat) (pt5 : Option Addr) (At8 : Option Addr) (nt8 : Nat) (ct8 : Nat) (At9 : Option Addr) (nt9 : Nat) (ct9 : Nat) (At10 : Option Addr) (nt10 : Nat) (ct10 : Nat) (xt12 : Int) (Q : PQ) (σ : Fr) (w : World) :
    l1 (k + 1) At1 nt1 ct1 pt5 At8 nt8 ct8 At9 nt9 ct9 At10 nt10 ct10 xt12 w (fun (w : World) => ∀ d : Fr, Q (.exit 2) (ov d [(5, .pointer pt5), (11, σ 11)]) w) (fun (bq4 : Bool) (w : World) => ∀ d : Fr, Q .ret (ov d [(4, .bool bq4)]) w) = codeW Try.prog hT 103 D (tab l1tb) [0, 0, 1, 0, 1, 1, 1, 1, 1, 1, 1, 1] l1b (thenQ (l1Tk k Q) (widen l1LO Q)) (ov σ [(1, .slice At1 nt1 ct1), (5, .pointer pt5), (8, .slice At8 nt8 ct8), (9, .slice At9 nt9 ct9), (10, .slice At10 nt10 ct10), (12, .int .i64 xt12)]) w := by kernel_rfl
theorem l1_snd : ∀ c, subC [0, 1, 0, 1, 1, 1, 1, 1, 1, 1, 1] body = some c → Snd Try.prog 103 c l1T := by
  refine loop_of (hT := hT) (D := D) (l := l1tb) (b := l1b) (lo := l1LO) (by kernel_rfl) (by
    intro x hx
    simp only [l1tb, List.mem_cons, List.not_mem_nil, or_false] at hx
    subst hx
    exact j2_snd) (by kernel_rfl) (by kernel_rfl) ?_ ?_
  · intro Q σ w h
    unfold l1Tk at h
    obtain ⟨At1, nt1, ct1, h1, hn⟩ := gSlice_elim h
    clear h
    have h := hn
    clear hn
    obtain ⟨pt5, h5, hn⟩ := gPtr_elim h
    clear h
    have h := hn
    clear hn
    obtain ⟨At8, nt8, ct8, h8, hn⟩ := gSlice_elim h
    clear h
    have h := hn
    clear hn
    obtain ⟨At9, nt9, ct9, h9, hn⟩ := gSlice_elim h
    clear h
    have h := hn
    clear hn
    obtain ⟨At10, nt10, ct10, h10, hn⟩ := gSlice_elim h
    clear h
    have h := hn
    clear hn
    obtain ⟨xt12, h12, hn⟩ := gInt_elim h
    clear h
    have h := hn
    clear hn
    exact h
  · intro k Q σ w h
    unfold l1Tk at h
    obtain ⟨At1, nt1, ct1, h1, hn⟩ := gSlice_elim h
    clear h
    have h := hn
    clear hn
    obtain ⟨pt5, h5, hn⟩ := gPtr_elim h
    clear h
    have h := hn
    clear hn
    obtain ⟨At8, nt8, ct8, h8, hn⟩ := gSlice_elim h
    clear h
    have h := hn
    clear hn
    obtain ⟨At9, nt9, ct9, h9, hn⟩ := gSlice_elim h
    clear h
    have h := hn
    clear hn
    obtain ⟨At10, nt10, ct10, h10, hn⟩ := gSlice_elim h
    clear h
    have h := hn
    clear hn
    obtain ⟨xt12, h12, hn⟩ := gInt_elim h
    clear h
    have h := hn
    clear hn
    rw [l1_eq (σ := σ)] at h
    have e : (ov σ [(1, .slice At1 nt1 ct1), (5, .pointer pt5), (8, .slice At8 nt8 ct8), (9, .slice At9 nt9 ct9), (10, .slice At10 nt10 ct10), (12, .int .i64 xt12)]) = σ := ov_self (by simp [h1, h5, h8, h9, h10, h12])
    rw [e] at h
    exact h
def tb : List (List Nat × Spec) := [([0, 1, 0, 1, 1, 1, 1], l0T), ([1, 1, 1, 0, 0, 1, 0, 0, 1, 0, 1, 1, 1, 1, 1, 1, 1, 1], j2T), ([0, 1, 0, 1, 1, 1, 1, 1, 1, 1, 1], l1T)]
theorem wp_eq (Aa0 : Option Addr) (na0 : Nat) (ca0 : Nat) (Aa1 : Option Addr) (na1 : Nat) (ca1 : Nat) (w : World) (Q : Ending → World → Prop) :
    wp Aa0 na0 ca0 Aa1 na1 ca1 w Q = codeW Try.prog hT 103 D (tab tb) [] body (topQ Try.prog hT 103 [.tmp 4] Q) (argsF [.slice Aa0 na0 ca0, .slice Aa1 na1 ca1]) w := by kernel_rfl
theorem ok (Aa0 : Option Addr) (na0 : Nat) (ca0 : Nat) (Aa1 : Option Addr) (na1 : Nat) (ca1 : Nat) (w : World) (Q : Ending → World → Prop) (h : wp Aa0 na0 ca0 Aa1 na1 ca1 w Q) : Calls Try.prog 7 #[.slice Aa0 na0 ca0, .slice Aa1 na1 ca1] w Q := by
  rw [wp_eq] at h
  exact calls_of_codeW (c := body) (rs := [.tmp 4]) Try.func7 (by kernel_rfl) (by kernel_rfl) (by kernel_rfl) (by kernel_rfl) (by kernel_rfl) (tab_snd (by
    intro x hx
    simp only [tb, List.mem_cons, List.not_mem_nil, or_false] at hx
    rcases hx with rfl | rfl | rfl
    · exact l0_snd
    · exact j2_snd
    · exact l1_snd)) (by kernel_rfl) h
end f_law07_DiskAtoms
end Go.Proofs.Ythekjlglnmhlaaa.Rd
