/- The printed readings of some functions: each function's code reckoned by the kernel to its predicate transformer. -/
import Derived.Test.YtbfcjnbjhpfdfaaHint
namespace Go.Proofs.Ytbfcjnbjhpfdfaa.Rd
open Go.Dn
set_option maxRecDepth 100000
set_option linter.unusedVariables false
namespace f_law14_MvccPlays
/-! skein/skeinlaw14.MvccPlays: function 3 -/
noncomputable def body : Code := (Try.f3.body).getD .skip
def l1 : Nat → Option Addr → Nat → Nat → Int → Int → World → (World → Prop) → Prop
  | 0, _, _, _, _, _, _, _ => False
  | k + 1, At11, nt11, ct11, xt63, xt64, w, K2 =>
    sel (decide (xt64 < xt63)) (
    optB At11 fun a64 =>
    req (decide (0 ≤ xt64 ∧ xt64 < (nt11 : Int))) <|
    stW w (a64.add (xt64.toNat * 1)) (.int .i64 (-1 : Int)) fun w65 =>
    l1 k At11 nt11 ct11 xt63 (IntKind.i64.wrap (xt64 + (1 : Int))) w65 K2) (
    K2  w)
def l0 : Nat → Option Addr → Addr → Option Addr → Nat → Nat → Int → Int → World → (World → Prop) → (Bool → World → Prop) → Prop
  | 0, _, _, _, _, _, _, _, _, _, _ => False
  | k + 1, pt5, at6, At23, nt23, ct23, xt24, xt25, w, K0, Kr =>
    sel (decide (xt25 < xt24)) (
    optB At23 fun a14 =>
    req (decide (0 ≤ xt25 ∧ xt25 < (nt23 : Int))) <|
    ldI w (a14.add (xt25.toNat * 3)) .i64 fun x15 =>
    ldI w ((a14.add (xt25.toNat * 3)).add 1) .i64 fun x16 =>
    ldS w ((a14.add (xt25.toNat * 3)).add 2) fun A17 n17 c17 =>
    alW w (.cells #[.int .i64 (0 : Int), .int .i64 (0 : Int), .slice none 0 0] 32) fun B18 w19 =>
    stW w19 (⟨B18, 0, Option.none⟩ : Addr) (.int .i64 x15) fun w20 =>
    stW w20 ((⟨B18, 0, Option.none⟩ : Addr).add 1) (.int .i64 x16) fun w21 =>
    stW w21 ((⟨B18, 0, Option.none⟩ : Addr).add 2) (.slice A17 n17 c17) fun w22 =>
    ldS w22 at6 fun A23 n23 c23 =>
    ldI w22 (at6.add 1) .i64 fun x24 =>
    ldI w22 (⟨B18, 0, Option.none⟩ : Addr) .i64 fun x25 =>
    ldI w22 ((⟨B18, 0, Option.none⟩ : Addr).add 1) .i64 fun x26 =>
    ldS w22 ((⟨B18, 0, Option.none⟩ : Addr).add 2) fun A27 n27 c27 =>
    Calls Try.prog 11 #[.pointer pt5, .agg #[.slice A23 n23 c23, .int .i64 x24], .agg #[.int .i64 x25, .int .i64 x26, .slice A27 n27 c27]] w22 fun e28 w29 => ∃ (A30_0_0 : Option Addr) (n30_0_0 : Nat) (c30_0_0 : Nat) (x30_0_1 : Int) (b30_1 : Bool), e28 = .returned (.tuple #[.agg #[.slice A30_0_0 n30_0_0 c30_0_0, .int .i64 x30_0_1], .bool b30_1]) ∧ (
    alW w29 (.cells #[.slice none 0 0, .int .i64 (0 : Int)] 28) fun B31 w32 =>
    stW w32 (⟨B31, 0, Option.none⟩ : Addr) (.slice A30_0_0 n30_0_0 c30_0_0) fun w33 =>
    stW w33 ((⟨B31, 0, Option.none⟩ : Addr).add 1) (.int .i64 x30_0_1) fun w34 =>
    ldS w34 (⟨B31, 0, Option.none⟩ : Addr) fun A35 n35 c35 =>
    ldI w34 ((⟨B31, 0, Option.none⟩ : Addr).add 1) .i64 fun x36 =>
    stW w34 at6 (.slice A35 n35 c35) fun w37 =>
    stW w37 (at6.add 1) (.int .i64 x36) fun w38 =>
    Calls Try.prog 12 #[.pointer pt5] w38 fun e39 w40 => ∃ (A41 : Option Addr) (n41 : Nat) (c41 : Nat), e39 = .returned (.slice A41 n41 c41) ∧ (
    drW w40 fun w42 =>
    ∃ S43 : World → Prop, S43 w42 ∧ (
    sel (!b30_1) (
    S43 w42 ∧ (
    S43 w42 ∧ (
    S43 w42 ∧ (
    S43 w42 ∧ (
    Kr false w42))))) (
    hdI S43 (at6.add 1) .i64 fun x44 =>
    Calls Try.prog 13 #[.pointer pt5] w42 fun e45 w46 => ∃ (x47 : Int), e45 = .returned (.int .i64 x47) ∧ (
    S43 w46 ∧ (
    sel (x47 != x44) (
    S43 w46 ∧ (
    S43 w46 ∧ (
    S43 w46 ∧ (
    Kr false w46)))) (
    hdS S43 at6 fun A48 n48 c48 =>
    hdI S43 (at6.add 1) .i64 fun x49 =>
    Calls Try.prog 14 #[.pointer pt5] w46 fun e50 w51 => ∃ (x52 : Int), e50 = .returned (.int .i64 x52) ∧ (
    S43 w51 ∧ (
    Calls Try.prog 15 #[.agg #[.slice A48 n48 c48, .int .i64 x49]] w51 fun e53 w54 => ∃ (x55 : Int), e53 = .returned (.int .i64 x55) ∧ (
    S43 w54 ∧ (
    sel (x52 != x55) (
    S43 w54 ∧ (
    Kr false w54)) (
    hdS S43 at6 fun A56 n56 c56 =>
    hdI S43 (at6.add 1) .i64 fun x57 =>
    Calls Try.prog 17 #[.agg #[.slice A56 n56 c56, .int .i64 x57]] w54 fun e58 w59 => ∃ (A60 : Option Addr) (n60 : Nat) (c60 : Nat), e58 = .returned (.slice A60 n60 c60) ∧ (
    S43 w59 ∧ (
    Calls Try.prog 16 #[.slice A41 n41 c41, .slice A60 n60 c60] w59 fun e61 w62 => ∃ (b63 : Bool), e61 = .returned (.bool b63) ∧ (
    sel (!b63) (
    Kr false w62) (
    ∃ k67 : Nat, l1 k67 A41 n41 c41 (n41 : Int) (0 : Int) w62 (fun (w66 : World) => ∀ _ : Fr,
    l0 k pt5 at6 At23 nt23 ct23 xt24 (IntKind.i64.wrap (xt25 + (1 : Int))) w66 K0 Kr)))))))))))))))))) (
    K0  w)
def wp (xa0 : Int) (Aa1 : Option Addr) (na1 : Nat) (ca1 : Nat) (w : World) (Q : Ending → World → Prop) : Prop :=
  Calls Try.prog 8 #[.int .i64 xa0] w fun e1 w2 => ∃ (p3 : Option Addr), e1 = .returned (.pointer p3) ∧ (
  sel p3.isNone (
  Q (.returned (.bool false)) w2) (
  Calls Try.prog 9 #[] w2 fun e4 w5 => ∃ (b6 : Bool), e4 = .returned (.bool b6) ∧ (
  sel (!b6) (
  Q (.returned (.bool false)) w5) (
  Calls Try.prog 10 #[.int .i64 xa0] w5 fun e7 w8 => ∃ (A9_0 : Option Addr) (n9_0 : Nat) (c9_0 : Nat) (x9_1 : Int), e7 = .returned (.agg #[.slice A9_0 n9_0 c9_0, .int .i64 x9_1]) ∧ (
  alW w8 (.cells #[.slice none 0 0, .int .i64 (0 : Int)] 28) fun B10 w11 =>
  stW w11 (⟨B10, 0, Option.none⟩ : Addr) (.slice A9_0 n9_0 c9_0) fun w12 =>
  stW w12 ((⟨B10, 0, Option.none⟩ : Addr).add 1) (.int .i64 x9_1) fun w13 =>
  ∃ k84 : Nat, l0 k84 p3 (⟨B10, 0, Option.none⟩ : Addr) Aa1 na1 ca1 (na1 : Int) (0 : Int) w13 (fun (w68 : World) => ∀ _ : Fr,
  drW w68 fun w69 =>
  ∃ S70 : World → Prop, S70 w69 ∧ (
  hdS S70 (⟨B10, 0, Option.none⟩ : Addr) fun A71 n71 c71 =>
  hdI S70 ((⟨B10, 0, Option.none⟩ : Addr).add 1) .i64 fun x72 =>
  Calls Try.prog 12 #[.pointer p3] w69 fun e73 w74 => ∃ (A75 : Option Addr) (n75 : Nat) (c75 : Nat), e73 = .returned (.slice A75 n75 c75) ∧ (
  S70 w74 ∧ (
  Calls Try.prog 17 #[.agg #[.slice A71 n71 c71, .int .i64 x72]] w74 fun e76 w77 => ∃ (A78 : Option Addr) (n78 : Nat) (c78 : Nat), e76 = .returned (.slice A78 n78 c78) ∧ (
  Calls Try.prog 16 #[.slice A75 n75 c75, .slice A78 n78 c78] w77 fun e79 w80 => ∃ (b81 : Bool), e79 = .returned (.bool b81) ∧ (
  Q (.returned (.bool b81)) w80)))))) (fun (b82 : Bool) (w83 : World) => ∀ _ : Fr,
  Q (.returned (.bool b82)) w83))))))
def D : Nat → Option DH := dtab [(11, .held [.fst 0, .fst 1, .fst 2, .fst 3, .fst 5, .fst 6, .eff 4, .fst 7, .fst 8, .fst 9, .fst 10, .fst 12, .eff 11, .eff 13, .fst 14, .fst 15, .fst 16, .fst 17, .fst 18, .eff 19] [.eff 20, .fst 21, .fst 22]), (19, .held [.fst 0, .fst 2, .eff 1] [.eff 3, .eff 4, .fst 5])]
def l1LO : LO := ⟨[], [], [(2, [5, 6, 23, 24, 25])], []⟩
def l1Tk (k : Nat) : Spec := fun Q σ w =>
  gSlice (σ 11) fun At11 nt11 ct11 =>
  gInt .i64 (σ 63) fun xt63 =>
  gInt .i64 (σ 64) fun xt64 =>
  l1 k At11 nt11 ct11 xt63 xt64 w (fun (w : World) => ∀ d : Fr, Q (.exit 2) (ov d [(5, σ 5), (6, σ 6), (23, σ 23), (24, σ 24), (25, σ 25)]) w)
def l1T : Spec := fun Q σ w => ∃ k, l1Tk k Q σ w
def l1tb : List (List Nat × Spec) := []
noncomputable def l1b : Code := (subC [0, 0, 1, 1, 1, 1, 1, 1, 0, 0, 1, 1, 0, 0, 1, 0, 1, 1, 1, 1] body).getD .skip
theorem l1_eq (k : Nat) (At11 : Option Addr) (nt11 : Nat) (ct11 : Nat) (xt63 : Int) (xt64 : Int) (Q : PQ) (σ : Fr) (w : World) :
    l1 (k + 1) At11 nt11 ct11 xt63 xt64 w (fun (w : World) => ∀ d : Fr, Q (.exit 2) (ov d [(5, σ 5), (6, σ 6), (23, σ 23), (24, σ 24), (25, σ 25)]) w) = codeW Try.prog hT 77 D (tab l1tb) [0, 0, 1, 1, 1, 1, 1, 1, 0, 0, 1, 1, 0, 0, 1, 0, 1, 1, 1, 1] l1b (thenQ (l1Tk k Q) (widen l1LO Q)) (ov σ [(11, .slice At11 nt11 ct11), (63, .int .i64 xt63), (64, .int .i64 xt64)]) w := by kernel_rfl
theorem l1_snd : ∀ c, subC [0, 1, 1, 1, 1, 1, 1, 0, 0, 1, 1, 0, 0, 1, 0, 1, 1, 1, 1] body = some c → Snd Try.prog 77 c l1T := by
  refine loop_of (hT := hT) (D := D) (l := l1tb) (b := l1b) (lo := l1LO) (by kernel_rfl) (by
    intro x hx
    simp only [l1tb, List.not_mem_nil] at hx
    ) (by kernel_rfl) (by kernel_rfl) ?_ ?_
  · intro Q σ w h
    unfold l1Tk at h
    obtain ⟨At11, nt11, ct11, h11, hn⟩ := gSlice_elim h
    clear h
    have h := hn
    clear hn
    obtain ⟨xt63, h63, hn⟩ := gInt_elim h
    clear h
    have h := hn
    clear hn
    obtain ⟨xt64, h64, hn⟩ := gInt_elim h
    clear h
    have h := hn
    clear hn
    exact h
  · intro k Q σ w h
    unfold l1Tk at h
    obtain ⟨At11, nt11, ct11, h11, hn⟩ := gSlice_elim h
    clear h
    have h := hn
    clear hn
    obtain ⟨xt63, h63, hn⟩ := gInt_elim h
    clear h
    have h := hn
    clear hn
    obtain ⟨xt64, h64, hn⟩ := gInt_elim h
    clear h
    have h := hn
    clear hn
    rw [l1_eq (σ := σ)] at h
    have e : (ov σ [(11, .slice At11 nt11 ct11), (63, .int .i64 xt63), (64, .int .i64 xt64)]) = σ := ov_self (by simp [h11, h63, h64])
    rw [e] at h
    exact h
def l0LO : LO := ⟨[], [4], [(0, [5, 6])], []⟩
def l0Tk (k : Nat) : Spec := fun Q σ w =>
  gPtr (σ 5) fun pt5 =>
  gAd (σ 6) fun at6 =>
  gSlice (σ 23) fun At23 nt23 ct23 =>
  gInt .i64 (σ 24) fun xt24 =>
  gInt .i64 (σ 25) fun xt25 =>
  l0 k pt5 at6 At23 nt23 ct23 xt24 xt25 w (fun (w : World) => ∀ d : Fr, Q (.exit 0) (ov d [(5, .pointer pt5), (6, .pointer (some at6))]) w) (fun (bq4 : Bool) (w : World) => ∀ d : Fr, Q .ret (ov d [(4, .bool bq4)]) w)
def l0T : Spec := fun Q σ w => ∃ k, l0Tk k Q σ w
def l0tb : List (List Nat × Spec) := [([0, 1, 1, 1, 1, 1, 1, 0, 0, 1, 1, 0, 0, 1, 0, 1, 1, 1, 1], l1T)]
noncomputable def l0b : Code := (subC [0, 0, 1, 0, 1, 1, 1, 1] body).getD .skip
theorem l0_eq (k : Nat) (pt5 : Option Addr) (at6 : Addr) (At23 : Option Addr) (nt23 : Nat) (ct23 : Nat) (xt24 : Int) (xt25 : Int) (Q : PQ) (σ : Fr) (w : World) :
    l0 (k + 1) pt5 at6 At23 nt23 ct23 xt24 xt25 w (fun (w : World) => ∀ d : Fr, Q (.exit 0) (ov d [(5, .pointer pt5), (6, .pointer (some at6))]) w) (fun (bq4 : Bool) (w : World) => ∀ d : Fr, Q .ret (ov d [(4, .bool bq4)]) w) = codeW Try.prog hT 77 D (tab l0tb) [0, 0, 1, 0, 1, 1, 1, 1] l0b (thenQ (l0Tk k Q) (widen l0LO Q)) (ov σ [(5, .pointer pt5), (6, .pointer (some at6)), (23, .slice At23 nt23 ct23), (24, .int .i64 xt24), (25, .int .i64 xt25)]) w := by kernel_rfl
theorem l0_snd : ∀ c, subC [0, 1, 0, 1, 1, 1, 1] body = some c → Snd Try.prog 77 c l0T := by
  refine loop_of (hT := hT) (D := D) (l := l0tb) (b := l0b) (lo := l0LO) (by kernel_rfl) (by
    intro x hx
    simp only [l0tb, List.mem_cons, List.not_mem_nil, or_false] at hx
    subst hx
    exact l1_snd) (by kernel_rfl) (by kernel_rfl) ?_ ?_
  · intro Q σ w h
    unfold l0Tk at h
    obtain ⟨pt5, h5, hn⟩ := gPtr_elim h
    clear h
    have h := hn
    clear hn
    obtain ⟨at6, h6, hn⟩ := gAd_elim h
    clear h
    have h := hn
    clear hn
    obtain ⟨At23, nt23, ct23, h23, hn⟩ := gSlice_elim h
    clear h
    have h := hn
    clear hn
    obtain ⟨xt24, h24, hn⟩ := gInt_elim h
    clear h
    have h := hn
    clear hn
    obtain ⟨xt25, h25, hn⟩ := gInt_elim h
    clear h
    have h := hn
    clear hn
    exact h
  · intro k Q σ w h
    unfold l0Tk at h
    obtain ⟨pt5, h5, hn⟩ := gPtr_elim h
    clear h
    have h := hn
    clear hn
    obtain ⟨at6, h6, hn⟩ := gAd_elim h
    clear h
    have h := hn
    clear hn
    obtain ⟨At23, nt23, ct23, h23, hn⟩ := gSlice_elim h
    clear h
    have h := hn
    clear hn
    obtain ⟨xt24, h24, hn⟩ := gInt_elim h
    clear h
    have h := hn
    clear hn
    obtain ⟨xt25, h25, hn⟩ := gInt_elim h
    clear h
    have h := hn
    clear hn
    rw [l0_eq (σ := σ)] at h
    have e : (ov σ [(5, .pointer pt5), (6, .pointer (some at6)), (23, .slice At23 nt23 ct23), (24, .int .i64 xt24), (25, .int .i64 xt25)]) = σ := ov_self (by simp [h5, h6, h23, h24, h25])
    rw [e] at h
    exact h
def tb : List (List Nat × Spec) := [([0, 1, 1, 1, 1, 1, 1, 0, 0, 1, 1, 0, 0, 1, 0, 1, 1, 1, 1], l1T), ([0, 1, 0, 1, 1, 1, 1], l0T)]
theorem wp_eq (xa0 : Int) (Aa1 : Option Addr) (na1 : Nat) (ca1 : Nat) (w : World) (Q : Ending → World → Prop) :
    wp xa0 Aa1 na1 ca1 w Q = codeW Try.prog hT 77 D (tab tb) [] body (topQ Try.prog hT 77 [.tmp 4] Q) (argsF [.int .i64 xa0, .slice Aa1 na1 ca1]) w := by kernel_rfl
theorem ok (xa0 : Int) (Aa1 : Option Addr) (na1 : Nat) (ca1 : Nat) (w : World) (Q : Ending → World → Prop) (h : wp xa0 Aa1 na1 ca1 w Q) : Calls Try.prog 3 #[.int .i64 xa0, .slice Aa1 na1 ca1] w Q := by
  rw [wp_eq] at h
  exact calls_of_codeW (c := body) (rs := [.tmp 4]) Try.func3 (by kernel_rfl) (by kernel_rfl) (by kernel_rfl) (by kernel_rfl) (by kernel_rfl) (tab_snd (by
    intro x hx
    simp only [tb, List.mem_cons, List.not_mem_nil, or_false] at hx
    rcases hx with rfl | rfl
    · exact l1_snd
    · exact l0_snd)) (by kernel_rfl) h
end f_law14_MvccPlays
namespace f_law14_MvccFirst
/-! skein/skeinlaw14.MvccFirst: function 4 -/
noncomputable def body : Code := (Try.f4.body).getD .skip
def l2 : Nat → Option Addr → Int → Option Addr → Nat → Nat → Int → Int → World → (World → Prop) → (Bool → World → Prop) → Prop
  | 0, _, _, _, _, _, _, _, _, _, _ => False
  | k + 1, pt5, xt8, At180, nt180, ct180, xt181, xt182, w, K3, Kr =>
    sel (decide (xt182 < xt181)) (
    optB At180 fun a53 =>
    req (decide (0 ≤ xt182 ∧ xt182 < (nt180 : Int))) <|
    ldI w (a53.add (xt182.toNat * 1)) .i64 fun x54 =>
    Calls Try.prog 20 #[.pointer pt5, .int .i64 x54] w fun e55 w56 => ∃ (x57_0 : Int) (x57_1 : Int), e55 = .returned (.tuple #[.int .i64 x57_0, .int .i64 x57_1]) ∧ (
    sel (x57_1 != (0 : Int)) (
    Kr false w56) (
    sel (decide (x57_0 < xt8)) (
    Kr false w56) (
    l2 k pt5 xt8 At180 nt180 ct180 xt181 (IntKind.i64.wrap (xt182 + (1 : Int))) w56 K3 Kr)))) (
    K3  w)
def j1 (pt5 : Option Addr) (xt8 : Int) (w : World) (Kn : Int → World → Prop) (Kr : Bool → World → Prop) : Prop :=
  Calls Try.prog 14 #[.pointer pt5] w fun e38 w39 => ∃ (x40 : Int), e38 = .returned (.int .i64 x40) ∧ (
  sel (decide (x40 < xt8)) (
  Kr false w39) (
  Calls Try.prog 14 #[.pointer pt5] w39 fun e41 w42 => ∃ (x43 : Int), e41 = .returned (.int .i64 x43) ∧ (
  Calls Try.prog 13 #[.pointer pt5] w42 fun e44 w45 => ∃ (x46 : Int), e44 = .returned (.int .i64 x46) ∧ (
  sel (decide (x43 > x46)) (
  Kr false w45) (
  Calls Try.prog 14 #[.pointer pt5] w45 fun e47 w48 => ∃ (x49 : Int), e47 = .returned (.int .i64 x49) ∧ (
  Calls Try.prog 12 #[.pointer pt5] w48 fun e50 w51 => ∃ (A52 : Option Addr) (n52 : Nat) (c52 : Nat), e50 = .returned (.slice A52 n52 c52) ∧ (
  ∃ k61 : Nat, l2 k61 pt5 x49 A52 n52 c52 (n52 : Int) (0 : Int) w51 (fun (w58 : World) => ∀ _ : Fr,
  Kn x49 w58) (fun (b59 : Bool) (w60 : World) => ∀ _ : Fr,
  Kr b59 w60))))))))
def l0 : Nat → Option Addr → Option Addr → Nat → Nat → Option Addr → Nat → Nat → Int → Option Addr → Nat → Nat → Int → Int → World → ((Option Addr) → Nat → Nat → World → Prop) → (Bool → World → Prop) → Prop
  | 0, _, _, _, _, _, _, _, _, _, _, _, _, _, _, _, _ => False
  | k + 1, pt5, At6, nt6, ct6, At7, nt7, ct7, xt8, At38, nt38, ct38, xt39, xt40, w, K0, Kr =>
    sel (decide (xt40 < xt39)) (
    optB At38 fun a14 =>
    req (decide (0 ≤ xt40 ∧ xt40 < (nt38 : Int))) <|
    ldI w (a14.add (xt40.toNat * 3)) .i64 fun x15 =>
    ldI w ((a14.add (xt40.toNat * 3)).add 1) .i64 fun x16 =>
    ldS w ((a14.add (xt40.toNat * 3)).add 2) fun A17 n17 c17 =>
    alW w (.cells #[.int .i64 (0 : Int), .int .i64 (0 : Int), .slice none 0 0] 32) fun B18 w19 =>
    stW w19 (⟨B18, 0, Option.none⟩ : Addr) (.int .i64 x15) fun w20 =>
    stW w20 ((⟨B18, 0, Option.none⟩ : Addr).add 1) (.int .i64 x16) fun w21 =>
    stW w21 ((⟨B18, 0, Option.none⟩ : Addr).add 2) (.slice A17 n17 c17) fun w22 =>
    Calls Try.prog 13 #[.pointer pt5] w22 fun e23 w24 => ∃ (x25 : Int), e23 = .returned (.int .i64 x25) ∧ (
    ldI w24 (⟨B18, 0, Option.none⟩ : Addr) .i64 fun x26 =>
    sel (x26 == (1 : Int)) (
    Calls Try.prog 18 #[.pointer pt5] w24 fun e27 w28 => ∃ (x29_0 : Int) (x29_1 : Int), e27 = .returned (.tuple #[.int .i64 x29_0, .int .i64 x29_1]) ∧ (
    sel (x29_1 == (0 : Int)) (
    sel (x29_0 != (IntKind.i64.wrap ((nt6 : Int) + (1 : Int)))) (
    Kr false w28) (
    sel (x29_1 != (0 : Int)) (
    sel (x29_1 != (142 : Int)) (
    Kr false w28) (
    Calls Try.prog 12 #[.pointer pt5] w28 fun e30 w31 => ∃ (A32 : Option Addr) (n32 : Nat) (c32 : Nat), e30 = .returned (.slice A32 n32 c32) ∧ (
    sel ((n32 : Int) != (8 : Int)) (
    Kr false w31) (
    sel (x29_1 == (0 : Int)) (
    alW w31 (.cells #[.slice none 0 0] 30) fun B33 w34 =>
    Runs Try.prog (Builtin.append_ #[42, 42] 42 #[.slice At6 nt6 ct6, .slice (some (⟨B33, 0, Option.none⟩ : Addr)) 1 1]) w34 fun v36 w35 => ∃ (A37 : Option Addr) (n37 : Nat) (c37 : Nat), v36 = (.slice A37 n37 c37) ∧ (
    j1 pt5 xt8 w35 (fun (x62 : Int) (w63 : World) => ∀ _ : Fr,
    l0 k pt5 A37 n37 c37 At7 nt7 ct7 x62 At38 nt38 ct38 xt39 (IntKind.i64.wrap (xt40 + (1 : Int))) w63 K0 Kr) (fun (b64 : Bool) (w65 : World) => ∀ _ : Fr,
    Kr b64 w65))) (
    j1 pt5 xt8 w31 (fun (x66 : Int) (w67 : World) => ∀ _ : Fr,
    l0 k pt5 At6 nt6 ct6 At7 nt7 ct7 x66 At38 nt38 ct38 xt39 (IntKind.i64.wrap (xt40 + (1 : Int))) w67 K0 Kr) (fun (b68 : Bool) (w69 : World) => ∀ _ : Fr,
    Kr b68 w69)))))) (
    sel (x29_1 == (0 : Int)) (
    alW w28 (.cells #[.slice none 0 0] 30) fun B70 w71 =>
    Runs Try.prog (Builtin.append_ #[42, 42] 42 #[.slice At6 nt6 ct6, .slice (some (⟨B70, 0, Option.none⟩ : Addr)) 1 1]) w71 fun v73 w72 => ∃ (A74 : Option Addr) (n74 : Nat) (c74 : Nat), v73 = (.slice A74 n74 c74) ∧ (
    j1 pt5 xt8 w72 (fun (x75 : Int) (w76 : World) => ∀ _ : Fr,
    l0 k pt5 A74 n74 c74 At7 nt7 ct7 x75 At38 nt38 ct38 xt39 (IntKind.i64.wrap (xt40 + (1 : Int))) w76 K0 Kr) (fun (b77 : Bool) (w78 : World) => ∀ _ : Fr,
    Kr b77 w78))) (
    j1 pt5 xt8 w28 (fun (x79 : Int) (w80 : World) => ∀ _ : Fr,
    l0 k pt5 At6 nt6 ct6 At7 nt7 ct7 x79 At38 nt38 ct38 xt39 (IntKind.i64.wrap (xt40 + (1 : Int))) w80 K0 Kr) (fun (b81 : Bool) (w82 : World) => ∀ _ : Fr,
    Kr b81 w82))))) (
    sel (x29_1 != (0 : Int)) (
    sel (x29_1 != (142 : Int)) (
    Kr false w28) (
    Calls Try.prog 12 #[.pointer pt5] w28 fun e83 w84 => ∃ (A85 : Option Addr) (n85 : Nat) (c85 : Nat), e83 = .returned (.slice A85 n85 c85) ∧ (
    sel ((n85 : Int) != (8 : Int)) (
    Kr false w84) (
    sel (x29_1 == (0 : Int)) (
    alW w84 (.cells #[.slice none 0 0] 30) fun B86 w87 =>
    Runs Try.prog (Builtin.append_ #[42, 42] 42 #[.slice At6 nt6 ct6, .slice (some (⟨B86, 0, Option.none⟩ : Addr)) 1 1]) w87 fun v89 w88 => ∃ (A90 : Option Addr) (n90 : Nat) (c90 : Nat), v89 = (.slice A90 n90 c90) ∧ (
    j1 pt5 xt8 w88 (fun (x91 : Int) (w92 : World) => ∀ _ : Fr,
    l0 k pt5 A90 n90 c90 At7 nt7 ct7 x91 At38 nt38 ct38 xt39 (IntKind.i64.wrap (xt40 + (1 : Int))) w92 K0 Kr) (fun (b93 : Bool) (w94 : World) => ∀ _ : Fr,
    Kr b93 w94))) (
    j1 pt5 xt8 w84 (fun (x95 : Int) (w96 : World) => ∀ _ : Fr,
    l0 k pt5 At6 nt6 ct6 At7 nt7 ct7 x95 At38 nt38 ct38 xt39 (IntKind.i64.wrap (xt40 + (1 : Int))) w96 K0 Kr) (fun (b97 : Bool) (w98 : World) => ∀ _ : Fr,
    Kr b97 w98)))))) (
    sel (x29_1 == (0 : Int)) (
    alW w28 (.cells #[.slice none 0 0] 30) fun B99 w100 =>
    Runs Try.prog (Builtin.append_ #[42, 42] 42 #[.slice At6 nt6 ct6, .slice (some (⟨B99, 0, Option.none⟩ : Addr)) 1 1]) w100 fun v102 w101 => ∃ (A103 : Option Addr) (n103 : Nat) (c103 : Nat), v102 = (.slice A103 n103 c103) ∧ (
    j1 pt5 xt8 w101 (fun (x104 : Int) (w105 : World) => ∀ _ : Fr,
    l0 k pt5 A103 n103 c103 At7 nt7 ct7 x104 At38 nt38 ct38 xt39 (IntKind.i64.wrap (xt40 + (1 : Int))) w105 K0 Kr) (fun (b106 : Bool) (w107 : World) => ∀ _ : Fr,
    Kr b106 w107))) (
    j1 pt5 xt8 w28 (fun (x108 : Int) (w109 : World) => ∀ _ : Fr,
    l0 k pt5 At6 nt6 ct6 At7 nt7 ct7 x108 At38 nt38 ct38 xt39 (IntKind.i64.wrap (xt40 + (1 : Int))) w109 K0 Kr) (fun (b110 : Bool) (w111 : World) => ∀ _ : Fr,
    Kr b110 w111)))))) (
    sel (x26 == (2 : Int)) (
    ldI w24 ((⟨B18, 0, Option.none⟩ : Addr).add 1) .i64 fun x112 =>
    ldS w24 ((⟨B18, 0, Option.none⟩ : Addr).add 2) fun A113 n113 c113 =>
    Calls Try.prog 19 #[.pointer pt5, .int .i64 x112, .slice A113 n113 c113] w24 fun e114 w115 => ∃ (x116 : Int), e114 = .returned (.int .i64 x116) ∧ (
    sel (x116 == (0 : Int)) (
    drW w115 fun w117 =>
    ∃ S118 : World → Prop, S118 w117 ∧ (
    hdI S118 ((⟨B18, 0, Option.none⟩ : Addr).add 1) .i64 fun x119 =>
    hdI S118 ((⟨B18, 0, Option.none⟩ : Addr).add 1) .i64 fun x120 =>
    optB At6 fun a121 =>
    req (decide (0 ≤ (IntKind.i64.wrap (x120 - (1 : Int))) ∧ (IntKind.i64.wrap (x120 - (1 : Int))) < (nt6 : Int))) <|
    hdS S118 (a121.add ((IntKind.i64.wrap (x120 - (1 : Int))).toNat * 1)) fun A122 n122 c122 =>
    hdS S118 ((⟨B18, 0, Option.none⟩ : Addr).add 2) fun A123 n123 c123 =>
    Runs Try.prog (Builtin.append_ #[30, 30] 30 #[.slice A122 n122 c122, .slice A123 n123 c123]) w117 fun v125 w124 => ∃ (A126 : Option Addr) (n126 : Nat) (c126 : Nat), v125 = (.slice A126 n126 c126) ∧ (
    S118 w124 ∧ (
    optB At6 fun a127 =>
    req (decide (0 ≤ (IntKind.i64.wrap (x119 - (1 : Int))) ∧ (IntKind.i64.wrap (x119 - (1 : Int))) < (nt6 : Int))) <|
    stW w124 (a127.add ((IntKind.i64.wrap (x119 - (1 : Int))).toNat * 1)) (.slice A126 n126 c126) fun w128 =>
    j1 pt5 xt8 w128 (fun (x129 : Int) (w130 : World) => ∀ _ : Fr,
    l0 k pt5 At6 nt6 ct6 At7 nt7 ct7 x129 At38 nt38 ct38 xt39 (IntKind.i64.wrap (xt40 + (1 : Int))) w130 K0 Kr) (fun (b131 : Bool) (w132 : World) => ∀ _ : Fr,
    Kr b131 w132))))) (
    j1 pt5 xt8 w115 (fun (x133 : Int) (w134 : World) => ∀ _ : Fr,
    l0 k pt5 At6 nt6 ct6 At7 nt7 ct7 x133 At38 nt38 ct38 xt39 (IntKind.i64.wrap (xt40 + (1 : Int))) w134 K0 Kr) (fun (b135 : Bool) (w136 : World) => ∀ _ : Fr,
    Kr b135 w136)))) (
    sel (x26 == (3 : Int)) (
    ldI w24 ((⟨B18, 0, Option.none⟩ : Addr).add 1) .i64 fun x137 =>
    Calls Try.prog 20 #[.pointer pt5, .int .i64 x137] w24 fun e138 w139 => ∃ (x140_0 : Int) (x140_1 : Int), e138 = .returned (.tuple #[.int .i64 x140_0, .int .i64 x140_1]) ∧ (
    ldI w139 ((⟨B18, 0, Option.none⟩ : Addr).add 1) .i64 fun x141 =>
    Calls Try.prog 21 #[.pointer pt5, .int .i64 x141] w139 fun e142 w143 => ∃ (x144_0 : Int) (x144_1 : Int), e142 = .returned (.tuple #[.int .i64 x144_0, .int .i64 x144_1]) ∧ (
    sel (x144_1 == (0 : Int)) (
    ldI w143 ((⟨B18, 0, Option.none⟩ : Addr).add 1) .i64 fun x145 =>
    optB At6 fun a146 =>
    req (decide (0 ≤ (IntKind.i64.wrap (x145 - (1 : Int))) ∧ (IntKind.i64.wrap (x145 - (1 : Int))) < (nt6 : Int))) <|
    ldS w143 (a146.add ((IntKind.i64.wrap (x145 - (1 : Int))).toNat * 1)) fun A147 n147 c147 =>
    sel (decide ((n147 : Int) > (0 : Int))) (
    sel (x144_0 != (IntKind.i64.wrap (x25 + (1 : Int)))) (
    Kr false w143) (
    Calls Try.prog 13 #[.pointer pt5] w143 fun e148 w149 => ∃ (x150 : Int), e148 = .returned (.int .i64 x150) ∧ (
    sel (x150 != x144_0) (
    Kr false w149) (
    ldI w149 ((⟨B18, 0, Option.none⟩ : Addr).add 1) .i64 fun x151 =>
    optB At6 fun a152 =>
    req (decide (0 ≤ (IntKind.i64.wrap (x151 - (1 : Int))) ∧ (IntKind.i64.wrap (x151 - (1 : Int))) < (nt6 : Int))) <|
    ldS w149 (a152.add ((IntKind.i64.wrap (x151 - (1 : Int))).toNat * 1)) fun A153 n153 c153 =>
    alW w149 (.cells #[.int .i64 x140_0, .int .i64 x144_0, .slice A153 n153 c153] 51) fun B154 w155 =>
    Runs Try.prog (Builtin.append_ #[43, 43] 43 #[.slice At7 nt7 ct7, .slice (some (⟨B154, 0, Option.none⟩ : Addr)) 1 1]) w155 fun v157 w156 => ∃ (A158 : Option Addr) (n158 : Nat) (c158 : Nat), v157 = (.slice A158 n158 c158) ∧ (
    j1 pt5 xt8 w156 (fun (x159 : Int) (w160 : World) => ∀ _ : Fr,
    l0 k pt5 At6 nt6 ct6 A158 n158 c158 x159 At38 nt38 ct38 xt39 (IntKind.i64.wrap (xt40 + (1 : Int))) w160 K0 Kr) (fun (b161 : Bool) (w162 : World) => ∀ _ : Fr,
    Kr b161 w162)))))) (
    Calls Try.prog 13 #[.pointer pt5] w143 fun e163 w164 => ∃ (x165 : Int), e163 = .returned (.int .i64 x165) ∧ (
    sel (x165 != x25) (
    Kr false w164) (
    j1 pt5 xt8 w164 (fun (x166 : Int) (w167 : World) => ∀ _ : Fr,
    l0 k pt5 At6 nt6 ct6 At7 nt7 ct7 x166 At38 nt38 ct38 xt39 (IntKind.i64.wrap (xt40 + (1 : Int))) w167 K0 Kr) (fun (b168 : Bool) (w169 : World) => ∀ _ : Fr,
    Kr b168 w169))))) (
    Calls Try.prog 13 #[.pointer pt5] w143 fun e170 w171 => ∃ (x172 : Int), e170 = .returned (.int .i64 x172) ∧ (
    sel (x172 != x25) (
    Kr false w171) (
    j1 pt5 xt8 w171 (fun (x173 : Int) (w174 : World) => ∀ _ : Fr,
    l0 k pt5 At6 nt6 ct6 At7 nt7 ct7 x173 At38 nt38 ct38 xt39 (IntKind.i64.wrap (xt40 + (1 : Int))) w174 K0 Kr) (fun (b175 : Bool) (w176 : World) => ∀ _ : Fr,
    Kr b175 w176))))))) (
    sel (x26 == (4 : Int)) (
    ldI w24 ((⟨B18, 0, Option.none⟩ : Addr).add 1) .i64 fun x177 =>
    Calls Try.prog 22 #[.pointer pt5, .int .i64 x177] w24 fun e178 w179 => ∃ (x180 : Int), e178 = .returned (.int .i64 x180) ∧ (
    j1 pt5 xt8 w179 (fun (x181 : Int) (w182 : World) => ∀ _ : Fr,
    l0 k pt5 At6 nt6 ct6 At7 nt7 ct7 x181 At38 nt38 ct38 xt39 (IntKind.i64.wrap (xt40 + (1 : Int))) w182 K0 Kr) (fun (b183 : Bool) (w184 : World) => ∀ _ : Fr,
    Kr b183 w184))) (
    j1 pt5 xt8 w24 (fun (x185 : Int) (w186 : World) => ∀ _ : Fr,
    l0 k pt5 At6 nt6 ct6 At7 nt7 ct7 x185 At38 nt38 ct38 xt39 (IntKind.i64.wrap (xt40 + (1 : Int))) w186 K0 Kr) (fun (b187 : Bool) (w188 : World) => ∀ _ : Fr,
    Kr b187 w188))))))) (
    K0 At7 nt7 ct7 w)
def l4 : Nat → Addr → Option Addr → Nat → Nat → Int → Int → World → (World → Prop) → (Bool → World → Prop) → Prop
  | 0, _, _, _, _, _, _, _, _, _ => False
  | k + 1, at23, At211, nt211, ct211, xt212, xt213, w, K7, Kr =>
    sel (decide (xt213 < xt212)) (
    optB At211 fun a200 =>
    req (decide (0 ≤ xt213 ∧ xt213 < (nt211 : Int))) <|
    ldI w (a200.add (xt213.toNat * 3)) .i64 fun x201 =>
    ldI w ((a200.add (xt213.toNat * 3)).add 1) .i64 fun x202 =>
    ldS w ((a200.add (xt213.toNat * 3)).add 2) fun A203 n203 c203 =>
    alW w (.cells #[.int .i64 (0 : Int), .int .i64 (0 : Int), .slice none 0 0] 51) fun B204 w205 =>
    stW w205 (⟨B204, 0, Option.none⟩ : Addr) (.int .i64 x201) fun w206 =>
    stW w206 ((⟨B204, 0, Option.none⟩ : Addr).add 1) (.int .i64 x202) fun w207 =>
    stW w207 ((⟨B204, 0, Option.none⟩ : Addr).add 2) (.slice A203 n203 c203) fun w208 =>
    ldI w208 (⟨B204, 0, Option.none⟩ : Addr) .i64 fun x209 =>
    ldI w208 (at23.add 1) .i64 fun x210 =>
    sel (decide (x209 < x210)) (
    ldS w208 (at23.add 2) fun A211 n211 c211 =>
    ldS w208 ((⟨B204, 0, Option.none⟩ : Addr).add 2) fun A212 n212 c212 =>
    Calls Try.prog 23 #[.slice A211 n211 c211, .slice A212 n212 c212] w208 fun e213 w214 => ∃ (b215 : Bool), e213 = .returned (.bool b215) ∧ (
    sel b215 (
    Kr false w214) (
    l4 k at23 At211 nt211 ct211 xt212 (IntKind.i64.wrap (xt213 + (1 : Int))) w214 K7 Kr))) (
    l4 k at23 At211 nt211 ct211 xt212 (IntKind.i64.wrap (xt213 + (1 : Int))) w208 K7 Kr)) (
    K7  w)
def l3 : Nat → Option Addr → Nat → Nat → Option Addr → Nat → Nat → Int → Int → World → (World → Prop) → (Bool → World → Prop) → Prop
  | 0, _, _, _, _, _, _, _, _, _, _, _ => False
  | k + 1, At7, nt7, ct7, At201, nt201, ct201, xt202, xt203, w, K5, Kr =>
    sel (decide (xt203 < xt202)) (
    optB At201 fun a191 =>
    req (decide (0 ≤ xt203 ∧ xt203 < (nt201 : Int))) <|
    ldI w (a191.add (xt203.toNat * 3)) .i64 fun x192 =>
    ldI w ((a191.add (xt203.toNat * 3)).add 1) .i64 fun x193 =>
    ldS w ((a191.add (xt203.toNat * 3)).add 2) fun A194 n194 c194 =>
    alW w (.cells #[.int .i64 (0 : Int), .int .i64 (0 : Int), .slice none 0 0] 51) fun B195 w196 =>
    stW w196 (⟨B195, 0, Option.none⟩ : Addr) (.int .i64 x192) fun w197 =>
    stW w197 ((⟨B195, 0, Option.none⟩ : Addr).add 1) (.int .i64 x193) fun w198 =>
    stW w198 ((⟨B195, 0, Option.none⟩ : Addr).add 2) (.slice A194 n194 c194) fun w199 =>
    req (decide (0 ≤ (IntKind.i64.wrap (xt203 + (1 : Int))) ∧ (IntKind.i64.wrap (xt203 + (1 : Int))) ≤ (nt7 : Int))) <|
    ∃ k219 : Nat, l4 k219 (⟨B195, 0, Option.none⟩ : Addr) (slA At7 ((IntKind.i64.wrap (xt203 + (1 : Int))).toNat) ct7 3) (nt7 - (IntKind.i64.wrap (xt203 + (1 : Int))).toNat) (ct7 - (IntKind.i64.wrap (xt203 + (1 : Int))).toNat) (((nt7 - (IntKind.i64.wrap (xt203 + (1 : Int))).toNat) : Nat) : Int) (0 : Int) w199 (fun (w216 : World) => ∀ _ : Fr,
    l3 k At7 nt7 ct7 At201 nt201 ct201 xt202 (IntKind.i64.wrap (xt203 + (1 : Int))) w216 K5 Kr) (fun (b217 : Bool) (w218 : World) => ∀ _ : Fr,
    Kr b217 w218)) (
    K5  w)
def wp (xa0 : Int) (Aa1 : Option Addr) (na1 : Nat) (ca1 : Nat) (w : World) (Q : Ending → World → Prop) : Prop :=
  Calls Try.prog 8 #[.int .i64 xa0] w fun e1 w2 => ∃ (p3 : Option Addr), e1 = .returned (.pointer p3) ∧ (
  sel p3.isNone (
  Q (.returned (.bool false)) w2) (
  Calls Try.prog 9 #[] w2 fun e4 w5 => ∃ (b6 : Bool), e4 = .returned (.bool b6) ∧ (
  sel (!b6) (
  Q (.returned (.bool false)) w5) (
  alW w5 (.cells #[] 30) fun B7 w8 =>
  alW w8 (.cells #[] 51) fun B9 w10 =>
  Calls Try.prog 14 #[.pointer p3] w10 fun e11 w12 => ∃ (x13 : Int), e11 = .returned (.int .i64 x13) ∧ (
  ∃ k226 : Nat, l0 k226 p3 (some (⟨B7, 0, Option.none⟩ : Addr)) 0 0 (some (⟨B9, 0, Option.none⟩ : Addr)) 0 0 x13 Aa1 na1 ca1 (na1 : Int) (0 : Int) w12 (fun (A189 : Option Addr) (n189 : Nat) (c189 : Nat) (w190 : World) => ∀ _ : Fr,
  ∃ k223 : Nat, l3 k223 A189 n189 c189 A189 n189 c189 (n189 : Int) (0 : Int) w190 (fun (w220 : World) => ∀ _ : Fr,
  Q (.returned (.bool true)) w220) (fun (b221 : Bool) (w222 : World) => ∀ _ : Fr,
  Q (.returned (.bool b221)) w222)) (fun (b224 : Bool) (w225 : World) => ∀ _ : Fr,
  Q (.returned (.bool b224)) w225))))))
def D : Nat → Option DH := dtab [(20, .held [.fst 0, .fst 1, .fst 2, .fst 3, .fst 4, .fst 5, .fst 6, .fst 7, .fst 8, .fst 9, .fst 10, .fst 11, .eff 12] [.fst 13, .eff 14])]
def l2LO : LO := ⟨[], [4], [(3, [5, 6, 7, 8, 38, 39, 40])], []⟩
def l2Tk (k : Nat) : Spec := fun Q σ w =>
  gPtr (σ 5) fun pt5 =>
  gInt .i64 (σ 8) fun xt8 =>
  gSlice (σ 180) fun At180 nt180 ct180 =>
  gInt .i64 (σ 181) fun xt181 =>
  gInt .i64 (σ 182) fun xt182 =>
  l2 k pt5 xt8 At180 nt180 ct180 xt181 xt182 w (fun (w : World) => ∀ d : Fr, Q (.exit 3) (ov d [(5, .pointer pt5), (6, σ 6), (7, σ 7), (8, .int .i64 xt8), (38, σ 38), (39, σ 39), (40, σ 40)]) w) (fun (bq4 : Bool) (w : World) => ∀ d : Fr, Q .ret (ov d [(4, .bool bq4)]) w)
def l2T : Spec := fun Q σ w => ∃ k, l2Tk k Q σ w
def l2tb : List (List Nat × Spec) := []
noncomputable def l2b : Code := (subC [0, 0, 1, 1, 1, 1, 1, 1, 0, 0, 1, 1, 0, 0, 1, 0, 1, 1, 1, 1, 1, 1] body).getD .skip
theorem l2_eq (k : Nat) (pt5 : Option Addr) (xt8 : Int) (At180 : Option Addr) (nt180 : Nat) (ct180 : Nat) (xt181 : Int) (xt182 : Int) (Q : PQ) (σ : Fr) (w : World) :
    l2 (k + 1) pt5 xt8 At180 nt180 ct180 xt181 xt182 w (fun (w : World) => ∀ d : Fr, Q (.exit 3) (ov d [(5, .pointer pt5), (6, σ 6), (7, σ 7), (8, .int .i64 xt8), (38, σ 38), (39, σ 39), (40, σ 40)]) w) (fun (bq4 : Bool) (w : World) => ∀ d : Fr, Q .ret (ov d [(4, .bool bq4)]) w) = codeW Try.prog hT 231 D (tab l2tb) [0, 0, 1, 1, 1, 1, 1, 1, 0, 0, 1, 1, 0, 0, 1, 0, 1, 1, 1, 1, 1, 1] l2b (thenQ (l2Tk k Q) (widen l2LO Q)) (ov σ [(5, .pointer pt5), (8, .int .i64 xt8), (180, .slice At180 nt180 ct180), (181, .int .i64 xt181), (182, .int .i64 xt182)]) w := by kernel_rfl
theorem l2_snd : ∀ c, subC [0, 1, 1, 1, 1, 1, 1, 0, 0, 1, 1, 0, 0, 1, 0, 1, 1, 1, 1, 1, 1] body = some c → Snd Try.prog 231 c l2T := by
  refine loop_of (hT := hT) (D := D) (l := l2tb) (b := l2b) (lo := l2LO) (by kernel_rfl) (by
    intro x hx
    simp only [l2tb, List.not_mem_nil] at hx
    ) (by kernel_rfl) (by kernel_rfl) ?_ ?_
  · intro Q σ w h
    unfold l2Tk at h
    obtain ⟨pt5, h5, hn⟩ := gPtr_elim h
    clear h
    have h := hn
    clear hn
    obtain ⟨xt8, h8, hn⟩ := gInt_elim h
    clear h
    have h := hn
    clear hn
    obtain ⟨At180, nt180, ct180, h180, hn⟩ := gSlice_elim h
    clear h
    have h := hn
    clear hn
    obtain ⟨xt181, h181, hn⟩ := gInt_elim h
    clear h
    have h := hn
    clear hn
    obtain ⟨xt182, h182, hn⟩ := gInt_elim h
    clear h
    have h := hn
    clear hn
    exact h
  · intro k Q σ w h
    unfold l2Tk at h
    obtain ⟨pt5, h5, hn⟩ := gPtr_elim h
    clear h
    have h := hn
    clear hn
    obtain ⟨xt8, h8, hn⟩ := gInt_elim h
    clear h
    have h := hn
    clear hn
    obtain ⟨At180, nt180, ct180, h180, hn⟩ := gSlice_elim h
    clear h
    have h := hn
    clear hn
    obtain ⟨xt181, h181, hn⟩ := gInt_elim h
    clear h
    have h := hn
    clear hn
    obtain ⟨xt182, h182, hn⟩ := gInt_elim h
    clear h
    have h := hn
    clear hn
    rw [l2_eq (σ := σ)] at h
    have e : (ov σ [(5, .pointer pt5), (8, .int .i64 xt8), (180, .slice At180 nt180 ct180), (181, .int .i64 xt181), (182, .int .i64 xt182)]) = σ := ov_self (by simp [h5, h8, h180, h181, h182])
    rw [e] at h
    exact h
def j1LO : LO := ⟨[5, 6, 7, 8, 38, 39, 40], [4], [], []⟩
def j1T : Spec := fun Q σ w =>
  gPtr (σ 5) fun pt5 =>
  gInt .i64 (σ 8) fun xt8 =>
  j1 pt5 xt8 w (fun (xq8 : Int) (w : World) => ∀ d : Fr, Q .normal (ov d [(5, .pointer pt5), (6, σ 6), (7, σ 7), (8, .int .i64 xq8), (38, σ 38), (39, σ 39), (40, σ 40)]) w) (fun (bq4 : Bool) (w : World) => ∀ d : Fr, Q .ret (ov d [(4, .bool bq4)]) w)
def j1tb : List (List Nat × Spec) := [([0, 1, 1, 1, 1, 1, 1, 0, 0, 1, 1, 0, 0, 1, 0, 1, 1, 1, 1, 1, 1], l2T)]
noncomputable def j1b : Code := (subC [1, 1, 1, 0, 0, 1, 1, 0, 0, 1, 0, 1, 1, 1, 1, 1, 1] body).getD .skip
theorem j1_eq (pt5 : Option Addr) (xt8 : Int) (Q : PQ) (σ : Fr) (w : World) :
    j1 pt5 xt8 w (fun (xq8 : Int) (w : World) => ∀ d : Fr, Q .normal (ov d [(5, .pointer pt5), (6, σ 6), (7, σ 7), (8, .int .i64 xq8), (38, σ 38), (39, σ 39), (40, σ 40)]) w) (fun (bq4 : Bool) (w : World) => ∀ d : Fr, Q .ret (ov d [(4, .bool bq4)]) w) = codeW Try.prog hT 231 D (tab j1tb) [1, 1, 1, 0, 0, 1, 1, 0, 0, 1, 0, 1, 1, 1, 1, 1, 1] j1b (widen j1LO Q) (ov σ [(5, .pointer pt5), (8, .int .i64 xt8)]) w := by kernel_rfl
theorem j1_snd : ∀ c, subC [1, 1, 1, 0, 0, 1, 1, 0, 0, 1, 0, 1, 1, 1, 1, 1, 1] body = some c → Snd Try.prog 231 c j1T := by
  refine cut_of (hT := hT) (D := D) (l := j1tb) (b := j1b) (lo := j1LO) (by kernel_rfl) (by
    intro x hx
    simp only [j1tb, List.mem_cons, List.not_mem_nil, or_false] at hx
    subst hx
    exact l2_snd) (by kernel_rfl) (by kernel_rfl) ?_
  intro Q σ w h
  unfold j1T at h
  obtain ⟨pt5, h5, hn⟩ := gPtr_elim h
  clear h
  have h := hn
  clear hn
  obtain ⟨xt8, h8, hn⟩ := gInt_elim h
  clear h
  have h := hn
  clear hn
  rw [j1_eq (σ := σ)] at h
  have e : (ov σ [(5, .pointer pt5), (8, .int .i64 xt8)]) = σ := ov_self (by simp [h5, h8])
  rw [e] at h
  exact h
def l0LO : LO := ⟨[], [4], [(0, [7])], []⟩
def l0Tk (k : Nat) : Spec := fun Q σ w =>
  gPtr (σ 5) fun pt5 =>
  gSlice (σ 6) fun At6 nt6 ct6 =>
  gSlice (σ 7) fun At7 nt7 ct7 =>
  gInt .i64 (σ 8) fun xt8 =>
  gSlice (σ 38) fun At38 nt38 ct38 =>
  gInt .i64 (σ 39) fun xt39 =>
  gInt .i64 (σ 40) fun xt40 =>
  l0 k pt5 At6 nt6 ct6 At7 nt7 ct7 xt8 At38 nt38 ct38 xt39 xt40 w (fun (Aq7 : Option Addr) (nq7 : Nat) (cq7 : Nat) (w : World) => ∀ d : Fr, Q (.exit 0) (ov d [(7, .slice Aq7 nq7 cq7)]) w) (fun (bq4 : Bool) (w : World) => ∀ d : Fr, Q .ret (ov d [(4, .bool bq4)]) w)
def l0T : Spec := fun Q σ w => ∃ k, l0Tk k Q σ w
def l0tb : List (List Nat × Spec) := [([0, 1, 1, 1, 1, 1, 1, 0, 0, 1, 1, 0, 0, 1, 0, 1, 1, 1, 1, 1, 1], l2T), ([1, 1, 1, 0, 0, 1, 1, 0, 0, 1, 0, 1, 1, 1, 1, 1, 1], j1T)]
noncomputable def l0b : Code := (subC [0, 0, 1, 0, 1, 1, 1, 1, 1, 1] body).getD .skip
theorem l0_eq (k : Nat) (pt5 : Option Addr) (At6 : Option Addr) (nt6 : Nat) (ct6 : Nat) (At7 : Option Addr) (nt7 : Nat) (ct7 : Nat) (xt8 : Int) (At38 : Option Addr) (nt38 : Nat) (ct38 : Nat) (xt39 : Int) (xt40 : Int) (Q : PQ) (σ : Fr) (w : World) :
    l0 (k + 1) pt5 At6 nt6 ct6 At7 nt7 ct7 xt8 At38 nt38 ct38 xt39 xt40 w (fun (Aq7 : Option Addr) (nq7 : Nat) (cq7 : Nat) (w : World) => ∀ d : Fr, Q (.exit 0) (ov d [(7, .slice Aq7 nq7 cq7)]) w) (fun (bq4 : Bool) (w : World) => ∀ d : Fr, Q .ret (ov d [(4, .bool bq4)]) w) = codeW Try.prog hT 231 D (tab l0tb) [0, 0, 1, 0, 1, 1, 1, 1, 1, 1] l0b (thenQ (l0Tk k Q) (widen l0LO Q)) (ov σ [(5, .pointer pt5), (6, .slice At6 nt6 ct6), (7, .slice At7 nt7 ct7), (8, .int .i64 xt8), (38, .slice At38 nt38 ct38), (39, .int .i64 xt39), (40, .int .i64 xt40)]) w := by kernel_rfl
theorem l0_snd : ∀ c, subC [0, 1, 0, 1, 1, 1, 1, 1, 1] body = some c → Snd Try.prog 231 c l0T := by
  refine loop_of (hT := hT) (D := D) (l := l0tb) (b := l0b) (lo := l0LO) (by kernel_rfl) (by
    intro x hx
    simp only [l0tb, List.mem_cons, List.not_mem_nil, or_false] at hx
    rcases hx with rfl | rfl
    · exact l2_snd
    · exact j1_snd) (by kernel_rfl) (by kernel_rfl) ?_ ?_
  · intro Q σ w h
    unfold l0Tk at h
    obtain ⟨pt5, h5, hn⟩ := gPtr_elim h
    clear h
    have h := hn
    clear hn
    obtain ⟨At6, nt6, ct6, h6, hn⟩ := gSlice_elim h
    clear h
    have h := hn
    clear hn
    obtain ⟨At7, nt7, ct7, h7, hn⟩ := gSlice_elim h
    clear h
    have h := hn
    clear hn
    obtain ⟨xt8, h8, hn⟩ := gInt_elim h
    clear h
    have h := hn
    clear hn
    obtain ⟨At38, nt38, ct38, h38, hn⟩ := gSlice_elim h
    clear h
    have h := hn
    clear hn
    obtain ⟨xt39, h39, hn⟩ := gInt_elim h
    clear h
    have h := hn
    clear hn
    obtain ⟨xt40, h40, hn⟩ := gInt_elim h
    clear h
    have h := hn
    clear hn
    exact h
  · intro k Q σ w h
    unfold l0Tk at h
    obtain ⟨pt5, h5, hn⟩ := gPtr_elim h
    clear h
    have h := hn
    clear hn
    obtain ⟨At6, nt6, ct6, h6, hn⟩ := gSlice_elim h
    clear h
    have h := hn
    clear hn
    obtain ⟨At7, nt7, ct7, h7, hn⟩ := gSlice_elim h
    clear h
    have h := hn
    clear hn
    obtain ⟨xt8, h8, hn⟩ := gInt_elim h
    clear h
    have h := hn
    clear hn
    obtain ⟨At38, nt38, ct38, h38, hn⟩ := gSlice_elim h
    clear h
    have h := hn
    clear hn
    obtain ⟨xt39, h39, hn⟩ := gInt_elim h
    clear h
    have h := hn
    clear hn
    obtain ⟨xt40, h40, hn⟩ := gInt_elim h
    clear h
    have h := hn
    clear hn
    rw [l0_eq (σ := σ)] at h
    have e : (ov σ [(5, .pointer pt5), (6, .slice At6 nt6 ct6), (7, .slice At7 nt7 ct7), (8, .int .i64 xt8), (38, .slice At38 nt38 ct38), (39, .int .i64 xt39), (40, .int .i64 xt40)]) = σ := ov_self (by simp [h5, h6, h7, h8, h38, h39, h40])
    rw [e] at h
    exact h
def l4LO : LO := ⟨[], [4], [(7, [7, 201, 202, 203])], []⟩
def l4Tk (k : Nat) : Spec := fun Q σ w =>
  gAd (σ 23) fun at23 =>
  gSlice (σ 211) fun At211 nt211 ct211 =>
  gInt .i64 (σ 212) fun xt212 =>
  gInt .i64 (σ 213) fun xt213 =>
  l4 k at23 At211 nt211 ct211 xt212 xt213 w (fun (w : World) => ∀ d : Fr, Q (.exit 7) (ov d [(7, σ 7), (201, σ 201), (202, σ 202), (203, σ 203)]) w) (fun (bq4 : Bool) (w : World) => ∀ d : Fr, Q .ret (ov d [(4, .bool bq4)]) w)
def l4T : Spec := fun Q σ w => ∃ k, l4Tk k Q σ w
def l4tb : List (List Nat × Spec) := []
noncomputable def l4b : Code := (subC [0, 0, 1, 1, 0, 0, 1, 1, 0, 0, 1, 0, 1, 1, 1, 1, 1, 1, 1] body).getD .skip
theorem l4_eq (k : Nat) (at23 : Addr) (At211 : Option Addr) (nt211 : Nat) (ct211 : Nat) (xt212 : Int) (xt213 : Int) (Q : PQ) (σ : Fr) (w : World) :
    l4 (k + 1) at23 At211 nt211 ct211 xt212 xt213 w (fun (w : World) => ∀ d : Fr, Q (.exit 7) (ov d [(7, σ 7), (201, σ 201), (202, σ 202), (203, σ 203)]) w) (fun (bq4 : Bool) (w : World) => ∀ d : Fr, Q .ret (ov d [(4, .bool bq4)]) w) = codeW Try.prog hT 231 D (tab l4tb) [0, 0, 1, 1, 0, 0, 1, 1, 0, 0, 1, 0, 1, 1, 1, 1, 1, 1, 1] l4b (thenQ (l4Tk k Q) (widen l4LO Q)) (ov σ [(23, .pointer (some at23)), (211, .slice At211 nt211 ct211), (212, .int .i64 xt212), (213, .int .i64 xt213)]) w := by kernel_rfl
theorem l4_snd : ∀ c, subC [0, 1, 1, 0, 0, 1, 1, 0, 0, 1, 0, 1, 1, 1, 1, 1, 1, 1] body = some c → Snd Try.prog 231 c l4T := by
  refine loop_of (hT := hT) (D := D) (l := l4tb) (b := l4b) (lo := l4LO) (by kernel_rfl) (by
    intro x hx
    simp only [l4tb, List.not_mem_nil] at hx
    ) (by kernel_rfl) (by kernel_rfl) ?_ ?_
  · intro Q σ w h
    unfold l4Tk at h
    obtain ⟨at23, h23, hn⟩ := gAd_elim h
    clear h
    have h := hn
    clear hn
    obtain ⟨At211, nt211, ct211, h211, hn⟩ := gSlice_elim h
    clear h
    have h := hn
    clear hn
    obtain ⟨xt212, h212, hn⟩ := gInt_elim h
    clear h
    have h := hn
    clear hn
    obtain ⟨xt213, h213, hn⟩ := gInt_elim h
    clear h
    have h := hn
    clear hn
    exact h
  · intro k Q σ w h
    unfold l4Tk at h
    obtain ⟨at23, h23, hn⟩ := gAd_elim h
    clear h
    have h := hn
    clear hn
    obtain ⟨At211, nt211, ct211, h211, hn⟩ := gSlice_elim h
    clear h
    have h := hn
    clear hn
    obtain ⟨xt212, h212, hn⟩ := gInt_elim h
    clear h
    have h := hn
    clear hn
    obtain ⟨xt213, h213, hn⟩ := gInt_elim h
    clear h
    have h := hn
    clear hn
    rw [l4_eq (σ := σ)] at h
    have e : (ov σ [(23, .pointer (some at23)), (211, .slice At211 nt211 ct211), (212, .int .i64 xt212), (213, .int .i64 xt213)]) = σ := ov_self (by simp [h23, h211, h212, h213])
    rw [e] at h
    exact h
def l3LO : LO := ⟨[], [4], [(5, [])], []⟩
def l3Tk (k : Nat) : Spec := fun Q σ w =>
  gSlice (σ 7) fun At7 nt7 ct7 =>
  gSlice (σ 201) fun At201 nt201 ct201 =>
  gInt .i64 (σ 202) fun xt202 =>
  gInt .i64 (σ 203) fun xt203 =>
  l3 k At7 nt7 ct7 At201 nt201 ct201 xt202 xt203 w (fun (w : World) => ∀ d : Fr, Q (.exit 5) (ov d []) w) (fun (bq4 : Bool) (w : World) => ∀ d : Fr, Q .ret (ov d [(4, .bool bq4)]) w)
def l3T : Spec := fun Q σ w => ∃ k, l3Tk k Q σ w
def l3tb : List (List Nat × Spec) := [([0, 1, 1, 0, 0, 1, 1, 0, 0, 1, 0, 1, 1, 1, 1, 1, 1, 1], l4T)]
noncomputable def l3b : Code := (subC [0, 0, 1, 0, 1, 1, 1, 1, 1, 1, 1] body).getD .skip
theorem l3_eq (k : Nat) (At7 : Option Addr) (nt7 : Nat) (ct7 : Nat) (At201 : Option Addr) (nt201 : Nat) (ct201 : Nat) (xt202 : Int) (xt203 : Int) (Q : PQ) (σ : Fr) (w : World) :
    l3 (k + 1) At7 nt7 ct7 At201 nt201 ct201 xt202 xt203 w (fun (w : World) => ∀ d : Fr, Q (.exit 5) (ov d []) w) (fun (bq4 : Bool) (w : World) => ∀ d : Fr, Q .ret (ov d [(4, .bool bq4)]) w) = codeW Try.prog hT 231 D (tab l3tb) [0, 0, 1, 0, 1, 1, 1, 1, 1, 1, 1] l3b (thenQ (l3Tk k Q) (widen l3LO Q)) (ov σ [(7, .slice At7 nt7 ct7), (201, .slice At201 nt201 ct201), (202, .int .i64 xt202), (203, .int .i64 xt203)]) w := by kernel_rfl
theorem l3_snd : ∀ c, subC [0, 1, 0, 1, 1, 1, 1, 1, 1, 1] body = some c → Snd Try.prog 231 c l3T := by
  refine loop_of (hT := hT) (D := D) (l := l3tb) (b := l3b) (lo := l3LO) (by kernel_rfl) (by
    intro x hx
    simp only [l3tb, List.mem_cons, List.not_mem_nil, or_false] at hx
    subst hx
    exact l4_snd) (by kernel_rfl) (by kernel_rfl) ?_ ?_
  · intro Q σ w h
    unfold l3Tk at h
    obtain ⟨At7, nt7, ct7, h7, hn⟩ := gSlice_elim h
    clear h
    have h := hn
    clear hn
    obtain ⟨At201, nt201, ct201, h201, hn⟩ := gSlice_elim h
    clear h
    have h := hn
    clear hn
    obtain ⟨xt202, h202, hn⟩ := gInt_elim h
    clear h
    have h := hn
    clear hn
    obtain ⟨xt203, h203, hn⟩ := gInt_elim h
    clear h
    have h := hn
    clear hn
    exact h
  · intro k Q σ w h
    unfold l3Tk at h
    obtain ⟨At7, nt7, ct7, h7, hn⟩ := gSlice_elim h
    clear h
    have h := hn
    clear hn
    obtain ⟨At201, nt201, ct201, h201, hn⟩ := gSlice_elim h
    clear h
    have h := hn
    clear hn
    obtain ⟨xt202, h202, hn⟩ := gInt_elim h
    clear h
    have h := hn
    clear hn
    obtain ⟨xt203, h203, hn⟩ := gInt_elim h
    clear h
    have h := hn
    clear hn
    rw [l3_eq (σ := σ)] at h
    have e : (ov σ [(7, .slice At7 nt7 ct7), (201, .slice At201 nt201 ct201), (202, .int .i64 xt202), (203, .int .i64 xt203)]) = σ := ov_self (by simp [h7, h201, h202, h203])
    rw [e] at h
    exact h
def tb : List (List Nat × Spec) := [([0, 1, 1, 1, 1, 1, 1, 0, 0, 1, 1, 0, 0, 1, 0, 1, 1, 1, 1, 1, 1], l2T), ([1, 1, 1, 0, 0, 1, 1, 0, 0, 1, 0, 1, 1, 1, 1, 1, 1], j1T), ([0, 1, 0, 1, 1, 1, 1, 1, 1], l0T), ([0, 1, 1, 0, 0, 1, 1, 0, 0, 1, 0, 1, 1, 1, 1, 1, 1, 1], l4T), ([0, 1, 0, 1, 1, 1, 1, 1, 1, 1], l3T)]
theorem wp_eq (xa0 : Int) (Aa1 : Option Addr) (na1 : Nat) (ca1 : Nat) (w : World) (Q : Ending → World → Prop) :
    wp xa0 Aa1 na1 ca1 w Q = codeW Try.prog hT 231 D (tab tb) [] body (topQ Try.prog hT 231 [.tmp 4] Q) (argsF [.int .i64 xa0, .slice Aa1 na1 ca1]) w := by kernel_rfl
theorem ok (xa0 : Int) (Aa1 : Option Addr) (na1 : Nat) (ca1 : Nat) (w : World) (Q : Ending → World → Prop) (h : wp xa0 Aa1 na1 ca1 w Q) : Calls Try.prog 4 #[.int .i64 xa0, .slice Aa1 na1 ca1] w Q := by
  rw [wp_eq] at h
  exact calls_of_codeW (c := body) (rs := [.tmp 4]) Try.func4 (by kernel_rfl) (by kernel_rfl) (by kernel_rfl) (by kernel_rfl) (by kernel_rfl) (tab_snd (by
    intro x hx
    simp only [tb, List.mem_cons, List.not_mem_nil, or_false] at hx
    rcases hx with rfl | rfl | rfl | rfl | rfl
    · exact l2_snd
    · exact j1_snd
    · exact l0_snd
    · exact l4_snd
    · exact l3_snd)) (by kernel_rfl) h
end f_law14_MvccFirst
namespace f_law14_MvccAlone
/-! skein/skeinlaw14.MvccAlone: function 5 -/
noncomputable def body : Code := (Try.f5.body).getD .skip
def l0 : Nat → Option Addr → Option Addr → Nat → Nat → Int → Int → World → (World → Prop) → Prop
  | 0, _, _, _, _, _, _, _, _ => False
  | k + 1, pt9, At32, nt32, ct32, xt33, xt34, w, K0 =>
    sel (decide (xt34 < xt33)) (
    optB At32 fun a7 =>
    req (decide (0 ≤ xt34 ∧ xt34 < (nt32 : Int))) <|
    ldI w (a7.add (xt34.toNat * 3)) .i64 fun x8 =>
    ldI w ((a7.add (xt34.toNat * 3)).add 1) .i64 fun x9 =>
    ldS w ((a7.add (xt34.toNat * 3)).add 2) fun A10 n10 c10 =>
    alW w (.cells #[.int .i64 (0 : Int), .int .i64 (0 : Int), .slice none 0 0] 32) fun B11 w12 =>
    stW w12 (⟨B11, 0, Option.none⟩ : Addr) (.int .i64 x8) fun w13 =>
    stW w13 ((⟨B11, 0, Option.none⟩ : Addr).add 1) (.int .i64 x9) fun w14 =>
    stW w14 ((⟨B11, 0, Option.none⟩ : Addr).add 2) (.slice A10 n10 c10) fun w15 =>
    ldI w15 (⟨B11, 0, Option.none⟩ : Addr) .i64 fun x16 =>
    ldI w15 ((⟨B11, 0, Option.none⟩ : Addr).add 1) .i64 fun x17 =>
    ldS w15 ((⟨B11, 0, Option.none⟩ : Addr).add 2) fun A18 n18 c18 =>
    Calls Try.prog 11 #[.pointer pt9, .agg #[.slice none 0 0, .int .i64 (0 : Int)], .agg #[.int .i64 x16, .int .i64 x17, .slice A18 n18 c18]] w15 fun e19 w20 => ∃ (A21_0_0 : Option Addr) (n21_0_0 : Nat) (c21_0_0 : Nat) (x21_0_1 : Int) (b21_1 : Bool), e19 = .returned (.tuple #[.agg #[.slice A21_0_0 n21_0_0 c21_0_0, .int .i64 x21_0_1], .bool b21_1]) ∧ (
    l0 k pt9 At32 nt32 ct32 xt33 (IntKind.i64.wrap (xt34 + (1 : Int))) w20 K0)) (
    K0  w)
def l1 : Nat → Option Addr → Option Addr → Nat → Nat → Int → Int → World → (World → Prop) → (Bool → World → Prop) → Prop
  | 0, _, _, _, _, _, _, _, _, _ => False
  | k + 1, pt9, At44, nt44, ct44, xt45, xt46, w, K2, Kr =>
    sel (decide (xt46 < xt45)) (
    optB At44 fun a26 =>
    req (decide (0 ≤ xt46 ∧ xt46 < (nt44 : Int))) <|
    ldI w (a26.add (xt46.toNat * 1)) .i64 fun x27 =>
    Calls Try.prog 22 #[.pointer pt9, .int .i64 x27] w fun e28 w29 => ∃ (x30 : Int), e28 = .returned (.int .i64 x30) ∧ (
    sel (x30 != (0 : Int)) (
    Kr false w29) (
    l1 k pt9 At44 nt44 ct44 xt45 (IntKind.i64.wrap (xt46 + (1 : Int))) w29 K2 Kr))) (
    K2  w)
def j2 (At1 : Option Addr) (nt1 : Nat) (ct1 : Nat) (At2 : Option Addr) (nt2 : Nat) (ct2 : Nat) (xt22 : Int) (w : World) (Kr : Bool → World → Prop) : Prop :=
  Calls Try.prog 23 #[.slice At1 nt1 ct1, .slice At2 nt2 ct2] w fun e62 w63 => ∃ (b64 : Bool), e62 = .returned (.bool b64) ∧ (
  sel b64 (
  Kr (xt22 == (140 : Int)) w63) (
  Kr (xt22 == (0 : Int)) w63))
def wp (Aa0 : Option Addr) (na0 : Nat) (ca0 : Nat) (Aa1 : Option Addr) (na1 : Nat) (ca1 : Nat) (Aa2 : Option Addr) (na2 : Nat) (ca2 : Nat) (ba3 : Bool) (w : World) (Q : Ending → World → Prop) : Prop :=
  Calls Try.prog 8 #[.int .i64 (0 : Int)] w fun e1 w2 => ∃ (p3 : Option Addr), e1 = .returned (.pointer p3) ∧ (
  sel p3.isNone (
  Q (.returned (.bool false)) w2) (
  Calls Try.prog 9 #[] w2 fun e4 w5 => ∃ (b6 : Bool), e4 = .returned (.bool b6) ∧ (
  sel (!b6) (
  Q (.returned (.bool false)) w5) (
  ∃ k70 : Nat, l0 k70 p3 Aa0 na0 ca0 (na0 : Int) (0 : Int) w5 (fun (w22 : World) => ∀ _ : Fr,
  Calls Try.prog 12 #[.pointer p3] w22 fun e23 w24 => ∃ (A25 : Option Addr) (n25 : Nat) (c25 : Nat), e23 = .returned (.slice A25 n25 c25) ∧ (
  ∃ k69 : Nat, l1 k69 p3 A25 n25 c25 (n25 : Int) (0 : Int) w24 (fun (w31 : World) => ∀ _ : Fr,
  Calls Try.prog 18 #[.pointer p3] w31 fun e32 w33 => ∃ (x34_0 : Int) (x34_1 : Int), e32 = .returned (.tuple #[.int .i64 x34_0, .int .i64 x34_1]) ∧ (
  sel (x34_1 != (0 : Int)) (
  Q (.returned (.bool false)) w33) (
  Calls Try.prog 19 #[.pointer p3, .int .i64 x34_0, .slice Aa1 na1 ca1] w33 fun e35 w36 => ∃ (x37 : Int), e35 = .returned (.int .i64 x37) ∧ (
  sel (x37 != (0 : Int)) (
  Q (.returned (.bool false)) w36) (
  sel (!ba3) (
  Calls Try.prog 21 #[.pointer p3, .int .i64 x34_0] w36 fun e38 w39 => ∃ (x40_0 : Int) (x40_1 : Int), e38 = .returned (.tuple #[.int .i64 x40_0, .int .i64 x40_1]) ∧ (
  sel (x40_1 == (0 : Int)) (
  Calls Try.prog 13 #[.pointer p3] w39 fun e41 w42 => ∃ (x43 : Int), e41 = .returned (.int .i64 x43) ∧ (
  sel (x40_0 == x43) (
  Calls Try.prog 22 #[.pointer p3, .int .i64 x34_0] w42 fun e44 w45 => ∃ (x46 : Int), e44 = .returned (.int .i64 x46) ∧ (
  Q (.returned (.bool (x46 == (141 : Int)))) w45)) (
  Q (.returned (.bool false)) w42))) (
  Q (.returned (.bool false)) w39))) (
  Calls Try.prog 18 #[.pointer p3] w36 fun e47 w48 => ∃ (x49_0 : Int) (x49_1 : Int), e47 = .returned (.tuple #[.int .i64 x49_0, .int .i64 x49_1]) ∧ (
  sel (x49_1 != (0 : Int)) (
  Q (.returned (.bool false)) w48) (
  Calls Try.prog 19 #[.pointer p3, .int .i64 x49_0, .slice Aa2 na2 ca2] w48 fun e50 w51 => ∃ (x52 : Int), e50 = .returned (.int .i64 x52) ∧ (
  sel (x52 != (0 : Int)) (
  Q (.returned (.bool false)) w51) (
  Calls Try.prog 21 #[.pointer p3, .int .i64 x49_0] w51 fun e53 w54 => ∃ (x55_0 : Int) (x55_1 : Int), e53 = .returned (.tuple #[.int .i64 x55_0, .int .i64 x55_1]) ∧ (
  Calls Try.prog 24 #[.pointer p3, .int .i64 x34_0] w54 fun e56 w57 => ∃ (x58 : Int), e56 = .returned (.int .i64 x58) ∧ (
  Calls Try.prog 21 #[.pointer p3, .int .i64 x34_0] w57 fun e59 w60 => ∃ (x61_0 : Int) (x61_1 : Int), e59 = .returned (.tuple #[.int .i64 x61_0, .int .i64 x61_1]) ∧ (
  sel (x55_1 != (0 : Int)) (
  Q (.returned (.bool false)) w60) (
  sel (x61_1 != x58) (
  Q (.returned (.bool false)) w60) (
  j2 Aa1 na1 ca1 Aa2 na2 ca2 x58 w60 (fun (b65 : Bool) (w66 : World) => ∀ _ : Fr,
  Q (.returned (.bool b65)) w66)))))))))))))))) (fun (b67 : Bool) (w68 : World) => ∀ _ : Fr,
  Q (.returned (.bool b67)) w68)))))))
def D : Nat → Option DH := dtab []
def l0LO : LO := ⟨[], [], [(0, [1, 2, 3, 9])], []⟩
def l0Tk (k : Nat) : Spec := fun Q σ w =>
  gPtr (σ 9) fun pt9 =>
  gSlice (σ 32) fun At32 nt32 ct32 =>
  gInt .i64 (σ 33) fun xt33 =>
  gInt .i64 (σ 34) fun xt34 =>
  l0 k pt9 At32 nt32 ct32 xt33 xt34 w (fun (w : World) => ∀ d : Fr, Q (.exit 0) (ov d [(1, σ 1), (2, σ 2), (3, σ 3), (9, .pointer pt9)]) w)
def l0T : Spec := fun Q σ w => ∃ k, l0Tk k Q σ w
def l0tb : List (List Nat × Spec) := []
noncomputable def l0b : Code := (subC [0, 0, 1, 0, 1, 1, 1] body).getD .skip
theorem l0_eq (k : Nat) (pt9 : Option Addr) (At32 : Option Addr) (nt32 : Nat) (ct32 : Nat) (xt33 : Int) (xt34 : Int) (Q : PQ) (σ : Fr) (w : World) :
    l0 (k + 1) pt9 At32 nt32 ct32 xt33 xt34 w (fun (w : World) => ∀ d : Fr, Q (.exit 0) (ov d [(1, σ 1), (2, σ 2), (3, σ 3), (9, .pointer pt9)]) w) = codeW Try.prog hT 134 D (tab l0tb) [0, 0, 1, 0, 1, 1, 1] l0b (thenQ (l0Tk k Q) (widen l0LO Q)) (ov σ [(9, .pointer pt9), (32, .slice At32 nt32 ct32), (33, .int .i64 xt33), (34, .int .i64 xt34)]) w := by kernel_rfl
theorem l0_snd : ∀ c, subC [0, 1, 0, 1, 1, 1] body = some c → Snd Try.prog 134 c l0T := by
  refine loop_of (hT := hT) (D := D) (l := l0tb) (b := l0b) (lo := l0LO) (by kernel_rfl) (by
    intro x hx
    simp only [l0tb, List.not_mem_nil] at hx
    ) (by kernel_rfl) (by kernel_rfl) ?_ ?_
  · intro Q σ w h
    unfold l0Tk at h
    obtain ⟨pt9, h9, hn⟩ := gPtr_elim h
    clear h
    have h := hn
    clear hn
    obtain ⟨At32, nt32, ct32, h32, hn⟩ := gSlice_elim h
    clear h
    have h := hn
    clear hn
    obtain ⟨xt33, h33, hn⟩ := gInt_elim h
    clear h
    have h := hn
    clear hn
    obtain ⟨xt34, h34, hn⟩ := gInt_elim h
    clear h
    have h := hn
    clear hn
    exact h
  · intro k Q σ w h
    unfold l0Tk at h
    obtain ⟨pt9, h9, hn⟩ := gPtr_elim h
    clear h
    have h := hn
    clear hn
    obtain ⟨At32, nt32, ct32, h32, hn⟩ := gSlice_elim h
    clear h
    have h := hn
    clear hn
    obtain ⟨xt33, h33, hn⟩ := gInt_elim h
    clear h
    have h := hn
    clear hn
    obtain ⟨xt34, h34, hn⟩ := gInt_elim h
    clear h
    have h := hn
    clear hn
    rw [l0_eq (σ := σ)] at h
    have e : (ov σ [(9, .pointer pt9), (32, .slice At32 nt32 ct32), (33, .int .i64 xt33), (34, .int .i64 xt34)]) = σ := ov_self (by simp [h9, h32, h33, h34])
    rw [e] at h
    exact h
def l1LO : LO := ⟨[], [8], [(2, [1, 2, 3, 9])], []⟩
def l1Tk (k : Nat) : Spec := fun Q σ w =>
  gPtr (σ 9) fun pt9 =>
  gSlice (σ 44) fun At44 nt44 ct44 =>
  gInt .i64 (σ 45) fun xt45 =>
  gInt .i64 (σ 46) fun xt46 =>
  l1 k pt9 At44 nt44 ct44 xt45 xt46 w (fun (w : World) => ∀ d : Fr, Q (.exit 2) (ov d [(1, σ 1), (2, σ 2), (3, σ 3), (9, .pointer pt9)]) w) (fun (bq8 : Bool) (w : World) => ∀ d : Fr, Q .ret (ov d [(8, .bool bq8)]) w)
def l1T : Spec := fun Q σ w => ∃ k, l1Tk k Q σ w
def l1tb : List (List Nat × Spec) := []
noncomputable def l1b : Code := (subC [0, 0, 1, 0, 1, 1, 1, 1] body).getD .skip
theorem l1_eq (k : Nat) (pt9 : Option Addr) (At44 : Option Addr) (nt44 : Nat) (ct44 : Nat) (xt45 : Int) (xt46 : Int) (Q : PQ) (σ : Fr) (w : World) :
    l1 (k + 1) pt9 At44 nt44 ct44 xt45 xt46 w (fun (w : World) => ∀ d : Fr, Q (.exit 2) (ov d [(1, σ 1), (2, σ 2), (3, σ 3), (9, .pointer pt9)]) w) (fun (bq8 : Bool) (w : World) => ∀ d : Fr, Q .ret (ov d [(8, .bool bq8)]) w) = codeW Try.prog hT 134 D (tab l1tb) [0, 0, 1, 0, 1, 1, 1, 1] l1b (thenQ (l1Tk k Q) (widen l1LO Q)) (ov σ [(9, .pointer pt9), (44, .slice At44 nt44 ct44), (45, .int .i64 xt45), (46, .int .i64 xt46)]) w := by kernel_rfl
theorem l1_snd : ∀ c, subC [0, 1, 0, 1, 1, 1, 1] body = some c → Snd Try.prog 134 c l1T := by
  refine loop_of (hT := hT) (D := D) (l := l1tb) (b := l1b) (lo := l1LO) (by kernel_rfl) (by
    intro x hx
    simp only [l1tb, List.not_mem_nil] at hx
    ) (by kernel_rfl) (by kernel_rfl) ?_ ?_
  · intro Q σ w h
    unfold l1Tk at h
    obtain ⟨pt9, h9, hn⟩ := gPtr_elim h
    clear h
    have h := hn
    clear hn
    obtain ⟨At44, nt44, ct44, h44, hn⟩ := gSlice_elim h
    clear h
    have h := hn
    clear hn
    obtain ⟨xt45, h45, hn⟩ := gInt_elim h
    clear h
    have h := hn
    clear hn
    obtain ⟨xt46, h46, hn⟩ := gInt_elim h
    clear h
    have h := hn
    clear hn
    exact h
  · intro k Q σ w h
    unfold l1Tk at h
    obtain ⟨pt9, h9, hn⟩ := gPtr_elim h
    clear h
    have h := hn
    clear hn
    obtain ⟨At44, nt44, ct44, h44, hn⟩ := gSlice_elim h
    clear h
    have h := hn
    clear hn
    obtain ⟨xt45, h45, hn⟩ := gInt_elim h
    clear h
    have h := hn
    clear hn
    obtain ⟨xt46, h46, hn⟩ := gInt_elim h
    clear h
    have h := hn
    clear hn
    rw [l1_eq (σ := σ)] at h
    have e : (ov σ [(9, .pointer pt9), (44, .slice At44 nt44 ct44), (45, .int .i64 xt45), (46, .int .i64 xt46)]) = σ := ov_self (by simp [h9, h44, h45, h46])
    rw [e] at h
    exact h
def j2LO : LO := ⟨[], [8], [], []⟩
def j2T : Spec := fun Q σ w =>
  gSlice (σ 1) fun At1 nt1 ct1 =>
  gSlice (σ 2) fun At2 nt2 ct2 =>
  gInt .i64 (σ 22) fun xt22 =>
  j2 At1 nt1 ct1 At2 nt2 ct2 xt22 w (fun (bq8 : Bool) (w : World) => ∀ d : Fr, Q .ret (ov d [(8, .bool bq8)]) w)
def j2tb : List (List Nat × Spec) := []
noncomputable def j2b : Code := (subC [1, 1, 1, 1, 1, 1, 1, 1, 1, 1, 1, 1, 1, 1] body).getD .skip
theorem j2_eq (At1 : Option Addr) (nt1 : Nat) (ct1 : Nat) (At2 : Option Addr) (nt2 : Nat) (ct2 : Nat) (xt22 : Int) (Q : PQ) (σ : Fr) (w : World) :
    j2 At1 nt1 ct1 At2 nt2 ct2 xt22 w (fun (bq8 : Bool) (w : World) => ∀ d : Fr, Q .ret (ov d [(8, .bool bq8)]) w) = codeW Try.prog hT 134 D (tab j2tb) [1, 1, 1, 1, 1, 1, 1, 1, 1, 1, 1, 1, 1, 1] j2b (widen j2LO Q) (ov σ [(1, .slice At1 nt1 ct1), (2, .slice At2 nt2 ct2), (22, .int .i64 xt22)]) w := by kernel_rfl
theorem j2_snd : ∀ c, subC [1, 1, 1, 1, 1, 1, 1, 1, 1, 1, 1, 1, 1, 1] body = some c → Snd Try.prog 134 c j2T := by
  refine cut_of (hT := hT) (D := D) (l := j2tb) (b := j2b) (lo := j2LO) (by kernel_rfl) (by
    intro x hx
    simp only [j2tb, List.not_mem_nil] at hx
    ) (by kernel_rfl) (by kernel_rfl) ?_
  intro Q σ w h
  unfold j2T at h
  obtain ⟨At1, nt1, ct1, h1, hn⟩ := gSlice_elim h
  clear h
  have h := hn
  clear hn
  obtain ⟨At2, nt2, ct2, h2, hn⟩ := gSlice_elim h
  clear h
  have h := hn
  clear hn
  obtain ⟨xt22, h22, hn⟩ := gInt_elim h
  clear h
  have h := hn
  clear hn
  rw [j2_eq (σ := σ)] at h
  have e : (ov σ [(1, .slice At1 nt1 ct1), (2, .slice At2 nt2 ct2), (22, .int .i64 xt22)]) = σ := ov_self (by simp [h1, h2, h22])
  rw [e] at h
  exact h
def tb : List (List Nat × Spec) := [([0, 1, 0, 1, 1, 1], l0T), ([0, 1, 0, 1, 1, 1, 1], l1T), ([1, 1, 1, 1, 1, 1, 1, 1, 1, 1, 1, 1, 1, 1], j2T)]
theorem wp_eq (Aa0 : Option Addr) (na0 : Nat) (ca0 : Nat) (Aa1 : Option Addr) (na1 : Nat) (ca1 : Nat) (Aa2 : Option Addr) (na2 : Nat) (ca2 : Nat) (ba3 : Bool) (w : World) (Q : Ending → World → Prop) :
    wp Aa0 na0 ca0 Aa1 na1 ca1 Aa2 na2 ca2 ba3 w Q = codeW Try.prog hT 134 D (tab tb) [] body (topQ Try.prog hT 134 [.tmp 8] Q) (argsF [.slice Aa0 na0 ca0, .slice Aa1 na1 ca1, .slice Aa2 na2 ca2, .bool ba3]) w := by cases ba3 <;> kernel_rfl
theorem ok (Aa0 : Option Addr) (na0 : Nat) (ca0 : Nat) (Aa1 : Option Addr) (na1 : Nat) (ca1 : Nat) (Aa2 : Option Addr) (na2 : Nat) (ca2 : Nat) (ba3 : Bool) (w : World) (Q : Ending → World → Prop) (h : wp Aa0 na0 ca0 Aa1 na1 ca1 Aa2 na2 ca2 ba3 w Q) : Calls Try.prog 5 #[.slice Aa0 na0 ca0, .slice Aa1 na1 ca1, .slice Aa2 na2 ca2, .bool ba3] w Q := by
  rw [wp_eq] at h
  exact calls_of_codeW (c := body) (rs := [.tmp 8]) Try.func5 (by kernel_rfl) (by kernel_rfl) (by kernel_rfl) (by kernel_rfl) (by kernel_rfl) (tab_snd (by
    intro x hx
    simp only [tb, List.mem_cons, List.not_mem_nil, or_false] at hx
    rcases hx with rfl | rfl | rfl
    · exact l0_snd
    · exact l1_snd
    · exact j2_snd)) (by kernel_rfl) h
end f_law14_MvccAlone
namespace f_law14_MvccStarts
/-! skein/skeinlaw14.MvccStarts: function 6 -/
noncomputable def body : Code := (Try.f6.body).getD .skip
def l2 : Nat → Option Addr → Option Addr → Nat → Nat → Option Addr → Nat → Nat → Option Addr → Nat → Nat → Int → Int → World → ((Option Addr) → Nat → Nat → World → Prop) → (Bool → World → Prop) → Prop
  | 0, _, _, _, _, _, _, _, _, _, _, _, _, _, _, _ => False
  | k + 1, pt5, At6, nt6, ct6, At7, nt7, ct7, At16, nt16, ct16, xt126, xt127, w, K3, Kr =>
    sel (decide (xt127 < xt126)) (
    optB At7 fun a44 =>
    req (decide (0 ≤ xt127 ∧ xt127 < (nt7 : Int))) <|
    ldB w (a44.add (xt127.toNat * 1)) fun b45 =>
    sel (!b45) (
    alW w (.cells #[.int .i64 (IntKind.i64.wrap (xt127 + (1 : Int)))] 3) fun B46 w47 =>
    Runs Try.prog (Builtin.append_ #[35, 35] 35 #[.slice At16 nt16 ct16, .slice (some (⟨B46, 0, Option.none⟩ : Addr)) 1 1]) w47 fun v49 w48 => ∃ (A50 : Option Addr) (n50 : Nat) (c50 : Nat), v49 = (.slice A50 n50 c50) ∧ (
    Calls Try.prog 20 #[.pointer pt5, .int .i64 (IntKind.i64.wrap (xt127 + (1 : Int)))] w48 fun e51 w52 => ∃ (x53_0 : Int) (x53_1 : Int), e51 = .returned (.tuple #[.int .i64 x53_0, .int .i64 x53_1]) ∧ (
    sel (x53_1 != (0 : Int)) (
    Kr false w52) (
    optB At6 fun a54 =>
    req (decide (0 ≤ xt127 ∧ xt127 < (nt6 : Int))) <|
    ldI w52 (a54.add (xt127.toNat * 1)) .i64 fun x55 =>
    sel (x53_0 != x55) (
    Kr false w52) (
    l2 k pt5 At6 nt6 ct6 At7 nt7 ct7 A50 n50 c50 xt126 (IntKind.i64.wrap (xt127 + (1 : Int))) w52 K3 Kr))))) (
    l2 k pt5 At6 nt6 ct6 At7 nt7 ct7 At16 nt16 ct16 xt126 (IntKind.i64.wrap (xt127 + (1 : Int))) w K3 Kr)) (
    K3 At16 nt16 ct16 w)
def j1 (pt5 : Option Addr) (At6 : Option Addr) (nt6 : Nat) (ct6 : Nat) (At7 : Option Addr) (nt7 : Nat) (ct7 : Nat) (w : World) (Kn : World → Prop) (Kr : Bool → World → Prop) : Prop :=
  alW w (.cells #[] 3) fun B42 w43 =>
  ∃ k66 : Nat, l2 k66 pt5 At6 nt6 ct6 At7 nt7 ct7 (some (⟨B42, 0, Option.none⟩ : Addr)) 0 0 (nt7 : Int) (0 : Int) w43 (fun (A56 : Option Addr) (n56 : Nat) (c56 : Nat) (w57 : World) => ∀ _ : Fr,
  sel (decide ((n56 : Int) > (8 : Int))) (
  Kr false w57) (
  Calls Try.prog 12 #[.pointer pt5] w57 fun e58 w59 => ∃ (A60 : Option Addr) (n60 : Nat) (c60 : Nat), e58 = .returned (.slice A60 n60 c60) ∧ (
  Calls Try.prog 16 #[.slice A60 n60 c60, .slice A56 n56 c56] w59 fun e61 w62 => ∃ (b63 : Bool), e61 = .returned (.bool b63) ∧ (
  sel (!b63) (
  Kr false w62) (
  Kn  w62))))) (fun (b64 : Bool) (w65 : World) => ∀ _ : Fr,
  Kr b64 w65)
def l0 : Nat → Option Addr → Option Addr → Nat → Nat → Option Addr → Nat → Nat → Option Addr → Nat → Nat → Int → Int → World → (World → Prop) → (Bool → World → Prop) → Prop
  | 0, _, _, _, _, _, _, _, _, _, _, _, _, _, _, _ => False
  | k + 1, pt5, At6, nt6, ct6, At7, nt7, ct7, At30, nt30, ct30, xt31, xt32, w, K0, Kr =>
    sel (decide (xt32 < xt31)) (
    optB At30 fun a11 =>
    req (decide (0 ≤ xt32 ∧ xt32 < (nt30 : Int))) <|
    ldI w (a11.add (xt32.toNat * 3)) .i64 fun x12 =>
    ldI w ((a11.add (xt32.toNat * 3)).add 1) .i64 fun x13 =>
    ldS w ((a11.add (xt32.toNat * 3)).add 2) fun A14 n14 c14 =>
    alW w (.cells #[.int .i64 (0 : Int), .int .i64 (0 : Int), .slice none 0 0] 32) fun B15 w16 =>
    stW w16 (⟨B15, 0, Option.none⟩ : Addr) (.int .i64 x12) fun w17 =>
    stW w17 ((⟨B15, 0, Option.none⟩ : Addr).add 1) (.int .i64 x13) fun w18 =>
    stW w18 ((⟨B15, 0, Option.none⟩ : Addr).add 2) (.slice A14 n14 c14) fun w19 =>
    Calls Try.prog 13 #[.pointer pt5] w19 fun e20 w21 => ∃ (x22 : Int), e20 = .returned (.int .i64 x22) ∧ (
    ldI w21 ((⟨B15, 0, Option.none⟩ : Addr).add 1) .i64 fun x23 =>
    sel (decide (x23 ≥ (1 : Int))) (
    ldI w21 ((⟨B15, 0, Option.none⟩ : Addr).add 1) .i64 fun x24 =>
    sel (decide (x24 ≤ (nt7 : Int))) (
    ldI w21 ((⟨B15, 0, Option.none⟩ : Addr).add 1) .i64 fun x25 =>
    optB At7 fun a26 =>
    req (decide (0 ≤ (IntKind.i64.wrap (x25 - (1 : Int))) ∧ (IntKind.i64.wrap (x25 - (1 : Int))) < (nt7 : Int))) <|
    ldB w21 (a26.add ((IntKind.i64.wrap (x25 - (1 : Int))).toNat * 1)) fun b27 =>
    ldI w21 (⟨B15, 0, Option.none⟩ : Addr) .i64 fun x28 =>
    sel (x28 == (1 : Int)) (
    Calls Try.prog 18 #[.pointer pt5] w21 fun e29 w30 => ∃ (x31_0 : Int) (x31_1 : Int), e29 = .returned (.tuple #[.int .i64 x31_0, .int .i64 x31_1]) ∧ (
    sel (x31_1 == (0 : Int)) (
    alW w30 (.cells #[.int .i64 x22] 2) fun B32 w33 =>
    Runs Try.prog (Builtin.append_ #[55, 55] 55 #[.slice At6 nt6 ct6, .slice (some (⟨B32, 0, Option.none⟩ : Addr)) 1 1]) w33 fun v35 w34 => ∃ (A36 : Option Addr) (n36 : Nat) (c36 : Nat), v35 = (.slice A36 n36 c36) ∧ (
    alW w34 (.cells #[.bool false] 4) fun B37 w38 =>
    Runs Try.prog (Builtin.append_ #[56, 56] 56 #[.slice At7 nt7 ct7, .slice (some (⟨B37, 0, Option.none⟩ : Addr)) 1 1]) w38 fun v40 w39 => ∃ (A41 : Option Addr) (n41 : Nat) (c41 : Nat), v40 = (.slice A41 n41 c41) ∧ (
    sel (x31_0 != (n41 : Int)) (
    Kr false w39) (
    j1 pt5 A36 n36 c36 A41 n41 c41 w39 (fun (w67 : World) => ∀ _ : Fr,
    l0 k pt5 A36 n36 c36 A41 n41 c41 At30 nt30 ct30 xt31 (IntKind.i64.wrap (xt32 + (1 : Int))) w67 K0 Kr) (fun (b68 : Bool) (w69 : World) => ∀ _ : Fr,
    Kr b68 w69))))) (
    j1 pt5 At6 nt6 ct6 At7 nt7 ct7 w30 (fun (w70 : World) => ∀ _ : Fr,
    l0 k pt5 At6 nt6 ct6 At7 nt7 ct7 At30 nt30 ct30 xt31 (IntKind.i64.wrap (xt32 + (1 : Int))) w70 K0 Kr) (fun (b71 : Bool) (w72 : World) => ∀ _ : Fr,
    Kr b71 w72)))) (
    sel (x28 == (2 : Int)) (
    ldI w21 ((⟨B15, 0, Option.none⟩ : Addr).add 1) .i64 fun x73 =>
    ldS w21 ((⟨B15, 0, Option.none⟩ : Addr).add 2) fun A74 n74 c74 =>
    Calls Try.prog 19 #[.pointer pt5, .int .i64 x73, .slice A74 n74 c74] w21 fun e75 w76 => ∃ (x77 : Int), e75 = .returned (.int .i64 x77) ∧ (
    sel (!((x77 == (0 : Int)) == (!b27))) (
    Kr false w76) (
    j1 pt5 At6 nt6 ct6 At7 nt7 ct7 w76 (fun (w78 : World) => ∀ _ : Fr,
    l0 k pt5 At6 nt6 ct6 At7 nt7 ct7 At30 nt30 ct30 xt31 (IntKind.i64.wrap (xt32 + (1 : Int))) w78 K0 Kr) (fun (b79 : Bool) (w80 : World) => ∀ _ : Fr,
    Kr b79 w80)))) (
    sel (x28 == (3 : Int)) (
    ldI w21 ((⟨B15, 0, Option.none⟩ : Addr).add 1) .i64 fun x81 =>
    Calls Try.prog 21 #[.pointer pt5, .int .i64 x81] w21 fun e82 w83 => ∃ (x84_0 : Int) (x84_1 : Int), e82 = .returned (.tuple #[.int .i64 x84_0, .int .i64 x84_1]) ∧ (
    sel ((x84_1 == (141 : Int)) == (!b27)) (
    Kr false w83) (
    sel (!b27) (
    ldI w83 ((⟨B15, 0, Option.none⟩ : Addr).add 1) .i64 fun x85 =>
    optB At7 fun a86 =>
    req (decide (0 ≤ (IntKind.i64.wrap (x85 - (1 : Int))) ∧ (IntKind.i64.wrap (x85 - (1 : Int))) < (nt7 : Int))) <|
    stW w83 (a86.add ((IntKind.i64.wrap (x85 - (1 : Int))).toNat * 1)) (.bool true) fun w87 =>
    j1 pt5 At6 nt6 ct6 At7 nt7 ct7 w87 (fun (w88 : World) => ∀ _ : Fr,
    l0 k pt5 At6 nt6 ct6 At7 nt7 ct7 At30 nt30 ct30 xt31 (IntKind.i64.wrap (xt32 + (1 : Int))) w88 K0 Kr) (fun (b89 : Bool) (w90 : World) => ∀ _ : Fr,
    Kr b89 w90)) (
    j1 pt5 At6 nt6 ct6 At7 nt7 ct7 w83 (fun (w91 : World) => ∀ _ : Fr,
    l0 k pt5 At6 nt6 ct6 At7 nt7 ct7 At30 nt30 ct30 xt31 (IntKind.i64.wrap (xt32 + (1 : Int))) w91 K0 Kr) (fun (b92 : Bool) (w93 : World) => ∀ _ : Fr,
    Kr b92 w93))))) (
    sel (x28 == (4 : Int)) (
    ldI w21 ((⟨B15, 0, Option.none⟩ : Addr).add 1) .i64 fun x94 =>
    Calls Try.prog 22 #[.pointer pt5, .int .i64 x94] w21 fun e95 w96 => ∃ (x97 : Int), e95 = .returned (.int .i64 x97) ∧ (
    sel (!((x97 == (0 : Int)) == (!b27))) (
    Kr false w96) (
    sel (!b27) (
    ldI w96 ((⟨B15, 0, Option.none⟩ : Addr).add 1) .i64 fun x98 =>
    optB At7 fun a99 =>
    req (decide (0 ≤ (IntKind.i64.wrap (x98 - (1 : Int))) ∧ (IntKind.i64.wrap (x98 - (1 : Int))) < (nt7 : Int))) <|
    stW w96 (a99.add ((IntKind.i64.wrap (x98 - (1 : Int))).toNat * 1)) (.bool true) fun w100 =>
    j1 pt5 At6 nt6 ct6 At7 nt7 ct7 w100 (fun (w101 : World) => ∀ _ : Fr,
    l0 k pt5 At6 nt6 ct6 At7 nt7 ct7 At30 nt30 ct30 xt31 (IntKind.i64.wrap (xt32 + (1 : Int))) w101 K0 Kr) (fun (b102 : Bool) (w103 : World) => ∀ _ : Fr,
    Kr b102 w103)) (
    j1 pt5 At6 nt6 ct6 At7 nt7 ct7 w96 (fun (w104 : World) => ∀ _ : Fr,
    l0 k pt5 At6 nt6 ct6 At7 nt7 ct7 At30 nt30 ct30 xt31 (IntKind.i64.wrap (xt32 + (1 : Int))) w104 K0 Kr) (fun (b105 : Bool) (w106 : World) => ∀ _ : Fr,
    Kr b105 w106))))) (
    j1 pt5 At6 nt6 ct6 At7 nt7 ct7 w21 (fun (w107 : World) => ∀ _ : Fr,
    l0 k pt5 At6 nt6 ct6 At7 nt7 ct7 At30 nt30 ct30 xt31 (IntKind.i64.wrap (xt32 + (1 : Int))) w107 K0 Kr) (fun (b108 : Bool) (w109 : World) => ∀ _ : Fr,
    Kr b108 w109)))))) (
    ldI w21 (⟨B15, 0, Option.none⟩ : Addr) .i64 fun x110 =>
    sel (x110 == (1 : Int)) (
    Calls Try.prog 18 #[.pointer pt5] w21 fun e111 w112 => ∃ (x113_0 : Int) (x113_1 : Int), e111 = .returned (.tuple #[.int .i64 x113_0, .int .i64 x113_1]) ∧ (
    sel (x113_1 == (0 : Int)) (
    alW w112 (.cells #[.int .i64 x22] 2) fun B114 w115 =>
    Runs Try.prog (Builtin.append_ #[55, 55] 55 #[.slice At6 nt6 ct6, .slice (some (⟨B114, 0, Option.none⟩ : Addr)) 1 1]) w115 fun v117 w116 => ∃ (A118 : Option Addr) (n118 : Nat) (c118 : Nat), v117 = (.slice A118 n118 c118) ∧ (
    alW w116 (.cells #[.bool false] 4) fun B119 w120 =>
    Runs Try.prog (Builtin.append_ #[56, 56] 56 #[.slice At7 nt7 ct7, .slice (some (⟨B119, 0, Option.none⟩ : Addr)) 1 1]) w120 fun v122 w121 => ∃ (A123 : Option Addr) (n123 : Nat) (c123 : Nat), v122 = (.slice A123 n123 c123) ∧ (
    sel (x113_0 != (n123 : Int)) (
    Kr false w121) (
    j1 pt5 A118 n118 c118 A123 n123 c123 w121 (fun (w124 : World) => ∀ _ : Fr,
    l0 k pt5 A118 n118 c118 A123 n123 c123 At30 nt30 ct30 xt31 (IntKind.i64.wrap (xt32 + (1 : Int))) w124 K0 Kr) (fun (b125 : Bool) (w126 : World) => ∀ _ : Fr,
    Kr b125 w126))))) (
    j1 pt5 At6 nt6 ct6 At7 nt7 ct7 w112 (fun (w127 : World) => ∀ _ : Fr,
    l0 k pt5 At6 nt6 ct6 At7 nt7 ct7 At30 nt30 ct30 xt31 (IntKind.i64.wrap (xt32 + (1 : Int))) w127 K0 Kr) (fun (b128 : Bool) (w129 : World) => ∀ _ : Fr,
    Kr b128 w129)))) (
    sel (x110 == (2 : Int)) (
    ldI w21 ((⟨B15, 0, Option.none⟩ : Addr).add 1) .i64 fun x130 =>
    ldS w21 ((⟨B15, 0, Option.none⟩ : Addr).add 2) fun A131 n131 c131 =>
    Calls Try.prog 19 #[.pointer pt5, .int .i64 x130, .slice A131 n131 c131] w21 fun e132 w133 => ∃ (x134 : Int), e132 = .returned (.int .i64 x134) ∧ (
    sel (!((x134 == (0 : Int)) == false)) (
    Kr false w133) (
    j1 pt5 At6 nt6 ct6 At7 nt7 ct7 w133 (fun (w135 : World) => ∀ _ : Fr,
    l0 k pt5 At6 nt6 ct6 At7 nt7 ct7 At30 nt30 ct30 xt31 (IntKind.i64.wrap (xt32 + (1 : Int))) w135 K0 Kr) (fun (b136 : Bool) (w137 : World) => ∀ _ : Fr,
    Kr b136 w137)))) (
    sel (x110 == (3 : Int)) (
    ldI w21 ((⟨B15, 0, Option.none⟩ : Addr).add 1) .i64 fun x138 =>
    Calls Try.prog 21 #[.pointer pt5, .int .i64 x138] w21 fun e139 w140 => ∃ (x141_0 : Int) (x141_1 : Int), e139 = .returned (.tuple #[.int .i64 x141_0, .int .i64 x141_1]) ∧ (
    sel ((x141_1 == (141 : Int)) == false) (
    Kr false w140) (
    j1 pt5 At6 nt6 ct6 At7 nt7 ct7 w140 (fun (w142 : World) => ∀ _ : Fr,
    l0 k pt5 At6 nt6 ct6 At7 nt7 ct7 At30 nt30 ct30 xt31 (IntKind.i64.wrap (xt32 + (1 : Int))) w142 K0 Kr) (fun (b143 : Bool) (w144 : World) => ∀ _ : Fr,
    Kr b143 w144)))) (
    sel (x110 == (4 : Int)) (
    ldI w21 ((⟨B15, 0, Option.none⟩ : Addr).add 1) .i64 fun x145 =>
    Calls Try.prog 22 #[.pointer pt5, .int .i64 x145] w21 fun e146 w147 => ∃ (x148 : Int), e146 = .returned (.int .i64 x148) ∧ (
    sel (!((x148 == (0 : Int)) == false)) (
    Kr false w147) (
    j1 pt5 At6 nt6 ct6 At7 nt7 ct7 w147 (fun (w149 : World) => ∀ _ : Fr,
    l0 k pt5 At6 nt6 ct6 At7 nt7 ct7 At30 nt30 ct30 xt31 (IntKind.i64.wrap (xt32 + (1 : Int))) w149 K0 Kr) (fun (b150 : Bool) (w151 : World) => ∀ _ : Fr,
    Kr b150 w151)))) (
    j1 pt5 At6 nt6 ct6 At7 nt7 ct7 w21 (fun (w152 : World) => ∀ _ : Fr,
    l0 k pt5 At6 nt6 ct6 At7 nt7 ct7 At30 nt30 ct30 xt31 (IntKind.i64.wrap (xt32 + (1 : Int))) w152 K0 Kr) (fun (b153 : Bool) (w154 : World) => ∀ _ : Fr,
    Kr b153 w154))))))) (
    ldI w21 (⟨B15, 0, Option.none⟩ : Addr) .i64 fun x155 =>
    sel (x155 == (1 : Int)) (
    Calls Try.prog 18 #[.pointer pt5] w21 fun e156 w157 => ∃ (x158_0 : Int) (x158_1 : Int), e156 = .returned (.tuple #[.int .i64 x158_0, .int .i64 x158_1]) ∧ (
    sel (x158_1 == (0 : Int)) (
    alW w157 (.cells #[.int .i64 x22] 2) fun B159 w160 =>
    Runs Try.prog (Builtin.append_ #[55, 55] 55 #[.slice At6 nt6 ct6, .slice (some (⟨B159, 0, Option.none⟩ : Addr)) 1 1]) w160 fun v162 w161 => ∃ (A163 : Option Addr) (n163 : Nat) (c163 : Nat), v162 = (.slice A163 n163 c163) ∧ (
    alW w161 (.cells #[.bool false] 4) fun B164 w165 =>
    Runs Try.prog (Builtin.append_ #[56, 56] 56 #[.slice At7 nt7 ct7, .slice (some (⟨B164, 0, Option.none⟩ : Addr)) 1 1]) w165 fun v167 w166 => ∃ (A168 : Option Addr) (n168 : Nat) (c168 : Nat), v167 = (.slice A168 n168 c168) ∧ (
    sel (x158_0 != (n168 : Int)) (
    Kr false w166) (
    j1 pt5 A163 n163 c163 A168 n168 c168 w166 (fun (w169 : World) => ∀ _ : Fr,
    l0 k pt5 A163 n163 c163 A168 n168 c168 At30 nt30 ct30 xt31 (IntKind.i64.wrap (xt32 + (1 : Int))) w169 K0 Kr) (fun (b170 : Bool) (w171 : World) => ∀ _ : Fr,
    Kr b170 w171))))) (
    j1 pt5 At6 nt6 ct6 At7 nt7 ct7 w157 (fun (w172 : World) => ∀ _ : Fr,
    l0 k pt5 At6 nt6 ct6 At7 nt7 ct7 At30 nt30 ct30 xt31 (IntKind.i64.wrap (xt32 + (1 : Int))) w172 K0 Kr) (fun (b173 : Bool) (w174 : World) => ∀ _ : Fr,
    Kr b173 w174)))) (
    sel (x155 == (2 : Int)) (
    ldI w21 ((⟨B15, 0, Option.none⟩ : Addr).add 1) .i64 fun x175 =>
    ldS w21 ((⟨B15, 0, Option.none⟩ : Addr).add 2) fun A176 n176 c176 =>
    Calls Try.prog 19 #[.pointer pt5, .int .i64 x175, .slice A176 n176 c176] w21 fun e177 w178 => ∃ (x179 : Int), e177 = .returned (.int .i64 x179) ∧ (
    sel (!((x179 == (0 : Int)) == false)) (
    Kr false w178) (
    j1 pt5 At6 nt6 ct6 At7 nt7 ct7 w178 (fun (w180 : World) => ∀ _ : Fr,
    l0 k pt5 At6 nt6 ct6 At7 nt7 ct7 At30 nt30 ct30 xt31 (IntKind.i64.wrap (xt32 + (1 : Int))) w180 K0 Kr) (fun (b181 : Bool) (w182 : World) => ∀ _ : Fr,
    Kr b181 w182)))) (
    sel (x155 == (3 : Int)) (
    ldI w21 ((⟨B15, 0, Option.none⟩ : Addr).add 1) .i64 fun x183 =>
    Calls Try.prog 21 #[.pointer pt5, .int .i64 x183] w21 fun e184 w185 => ∃ (x186_0 : Int) (x186_1 : Int), e184 = .returned (.tuple #[.int .i64 x186_0, .int .i64 x186_1]) ∧ (
    sel ((x186_1 == (141 : Int)) == false) (
    Kr false w185) (
    j1 pt5 At6 nt6 ct6 At7 nt7 ct7 w185 (fun (w187 : World) => ∀ _ : Fr,
    l0 k pt5 At6 nt6 ct6 At7 nt7 ct7 At30 nt30 ct30 xt31 (IntKind.i64.wrap (xt32 + (1 : Int))) w187 K0 Kr) (fun (b188 : Bool) (w189 : World) => ∀ _ : Fr,
    Kr b188 w189)))) (
    sel (x155 == (4 : Int)) (
    ldI w21 ((⟨B15, 0, Option.none⟩ : Addr).add 1) .i64 fun x190 =>
    Calls Try.prog 22 #[.pointer pt5, .int .i64 x190] w21 fun e191 w192 => ∃ (x193 : Int), e191 = .returned (.int .i64 x193) ∧ (
    sel (!((x193 == (0 : Int)) == false)) (
    Kr false w192) (
    j1 pt5 At6 nt6 ct6 At7 nt7 ct7 w192 (fun (w194 : World) => ∀ _ : Fr,
    l0 k pt5 At6 nt6 ct6 At7 nt7 ct7 At30 nt30 ct30 xt31 (IntKind.i64.wrap (xt32 + (1 : Int))) w194 K0 Kr) (fun (b195 : Bool) (w196 : World) => ∀ _ : Fr,
    Kr b195 w196)))) (
    j1 pt5 At6 nt6 ct6 At7 nt7 ct7 w21 (fun (w197 : World) => ∀ _ : Fr,
    l0 k pt5 At6 nt6 ct6 At7 nt7 ct7 At30 nt30 ct30 xt31 (IntKind.i64.wrap (xt32 + (1 : Int))) w197 K0 Kr) (fun (b198 : Bool) (w199 : World) => ∀ _ : Fr,
    Kr b198 w199)))))))) (
    K0  w)
def wp (xa0 : Int) (Aa1 : Option Addr) (na1 : Nat) (ca1 : Nat) (w : World) (Q : Ending → World → Prop) : Prop :=
  Calls Try.prog 8 #[.int .i64 xa0] w fun e1 w2 => ∃ (p3 : Option Addr), e1 = .returned (.pointer p3) ∧ (
  sel p3.isNone (
  Q (.returned (.bool false)) w2) (
  Calls Try.prog 9 #[] w2 fun e4 w5 => ∃ (b6 : Bool), e4 = .returned (.bool b6) ∧ (
  sel (!b6) (
  Q (.returned (.bool false)) w5) (
  alW w5 (.cells #[] 2) fun B7 w8 =>
  alW w8 (.cells #[] 4) fun B9 w10 =>
  ∃ k203 : Nat, l0 k203 p3 (some (⟨B7, 0, Option.none⟩ : Addr)) 0 0 (some (⟨B9, 0, Option.none⟩ : Addr)) 0 0 Aa1 na1 ca1 (na1 : Int) (0 : Int) w10 (fun (w200 : World) => ∀ _ : Fr,
  Q (.returned (.bool true)) w200) (fun (b201 : Bool) (w202 : World) => ∀ _ : Fr,
  Q (.returned (.bool b201)) w202)))))
def D : Nat → Option DH := dtab []
def l2LO : LO := ⟨[], [4], [(3, [5, 6, 7, 16, 30, 31, 32])], []⟩
def l2Tk (k : Nat) : Spec := fun Q σ w =>
  gPtr (σ 5) fun pt5 =>
  gSlice (σ 6) fun At6 nt6 ct6 =>
  gSlice (σ 7) fun At7 nt7 ct7 =>
  gSlice (σ 16) fun At16 nt16 ct16 =>
  gInt .i64 (σ 126) fun xt126 =>
  gInt .i64 (σ 127) fun xt127 =>
  l2 k pt5 At6 nt6 ct6 At7 nt7 ct7 At16 nt16 ct16 xt126 xt127 w (fun (Aq16 : Option Addr) (nq16 : Nat) (cq16 : Nat) (w : World) => ∀ d : Fr, Q (.exit 3) (ov d [(5, .pointer pt5), (6, .slice At6 nt6 ct6), (7, .slice At7 nt7 ct7), (16, .slice Aq16 nq16 cq16), (30, σ 30), (31, σ 31), (32, σ 32)]) w) (fun (bq4 : Bool) (w : World) => ∀ d : Fr, Q .ret (ov d [(4, .bool bq4)]) w)
def l2T : Spec := fun Q σ w => ∃ k, l2Tk k Q σ w
def l2tb : List (List Nat × Spec) := []
noncomputable def l2b : Code := (subC [0, 0, 1, 0, 1, 1, 1, 1, 1, 0, 0, 1, 1, 0, 0, 1, 0, 1, 1, 1, 1, 1] body).getD .skip
theorem l2_eq (k : Nat) (pt5 : Option Addr) (At6 : Option Addr) (nt6 : Nat) (ct6 : Nat) (At7 : Option Addr) (nt7 : Nat) (ct7 : Nat) (At16 : Option Addr) (nt16 : Nat) (ct16 : Nat) (xt126 : Int) (xt127 : Int) (Q : PQ) (σ : Fr) (w : World) :
    l2 (k + 1) pt5 At6 nt6 ct6 At7 nt7 ct7 At16 nt16 ct16 xt126 xt127 w (fun (Aq16 : Option Addr) (nq16 : Nat) (cq16 : Nat) (w : World) => ∀ d : Fr, Q (.exit 3) (ov d [(5, .pointer pt5), (6, .slice At6 nt6 ct6), (7, .slice At7 nt7 ct7), (16, .slice Aq16 nq16 cq16), (30, σ 30), (31, σ 31), (32, σ 32)]) w) (fun (bq4 : Bool) (w : World) => ∀ d : Fr, Q .ret (ov d [(4, .bool bq4)]) w) = codeW Try.prog hT 169 D (tab l2tb) [0, 0, 1, 0, 1, 1, 1, 1, 1, 0, 0, 1, 1, 0, 0, 1, 0, 1, 1, 1, 1, 1] l2b (thenQ (l2Tk k Q) (widen l2LO Q)) (ov σ [(5, .pointer pt5), (6, .slice At6 nt6 ct6), (7, .slice At7 nt7 ct7), (16, .slice At16 nt16 ct16), (126, .int .i64 xt126), (127, .int .i64 xt127)]) w := by kernel_rfl
theorem l2_snd : ∀ c, subC [0, 1, 0, 1, 1, 1, 1, 1, 0, 0, 1, 1, 0, 0, 1, 0, 1, 1, 1, 1, 1] body = some c → Snd Try.prog 169 c l2T := by
  refine loop_of (hT := hT) (D := D) (l := l2tb) (b := l2b) (lo := l2LO) (by kernel_rfl) (by
    intro x hx
    simp only [l2tb, List.not_mem_nil] at hx
    ) (by kernel_rfl) (by kernel_rfl) ?_ ?_
  · intro Q σ w h
    unfold l2Tk at h
    obtain ⟨pt5, h5, hn⟩ := gPtr_elim h
    clear h
    have h := hn
    clear hn
    obtain ⟨At6, nt6, ct6, h6, hn⟩ := gSlice_elim h
    clear h
    have h := hn
    clear hn
    obtain ⟨At7, nt7, ct7, h7, hn⟩ := gSlice_elim h
    clear h
    have h := hn
    clear hn
    obtain ⟨At16, nt16, ct16, h16, hn⟩ := gSlice_elim h
    clear h
    have h := hn
    clear hn
    obtain ⟨xt126, h126, hn⟩ := gInt_elim h
    clear h
    have h := hn
    clear hn
    obtain ⟨xt127, h127, hn⟩ := gInt_elim h
    clear h
    have h := hn
    clear hn
    exact h
  · intro k Q σ w h
    unfold l2Tk at h
    obtain ⟨pt5, h5, hn⟩ := gPtr_elim h
    clear h
    have h := hn
    clear hn
    obtain ⟨At6, nt6, ct6, h6, hn⟩ := gSlice_elim h
    clear h
    have h := hn
    clear hn
    obtain ⟨At7, nt7, ct7, h7, hn⟩ := gSlice_elim h
    clear h
    have h := hn
    clear hn
    obtain ⟨At16, nt16, ct16, h16, hn⟩ := gSlice_elim h
    clear h
    have h := hn
    clear hn
    obtain ⟨xt126, h126, hn⟩ := gInt_elim h
    clear h
    have h := hn
    clear hn
    obtain ⟨xt127, h127, hn⟩ := gInt_elim h
    clear h
    have h := hn
    clear hn
    rw [l2_eq (σ := σ)] at h
    have e : (ov σ [(5, .pointer pt5), (6, .slice At6 nt6 ct6), (7, .slice At7 nt7 ct7), (16, .slice At16 nt16 ct16), (126, .int .i64 xt126), (127, .int .i64 xt127)]) = σ := ov_self (by simp [h5, h6, h7, h16, h126, h127])
    rw [e] at h
    exact h
def j1LO : LO := ⟨[5, 6, 7, 30, 31, 32], [4], [], []⟩
def j1T : Spec := fun Q σ w =>
  gPtr (σ 5) fun pt5 =>
  gSlice (σ 6) fun At6 nt6 ct6 =>
  gSlice (σ 7) fun At7 nt7 ct7 =>
  j1 pt5 At6 nt6 ct6 At7 nt7 ct7 w (fun (w : World) => ∀ d : Fr, Q .normal (ov d [(5, .pointer pt5), (6, .slice At6 nt6 ct6), (7, .slice At7 nt7 ct7), (30, σ 30), (31, σ 31), (32, σ 32)]) w) (fun (bq4 : Bool) (w : World) => ∀ d : Fr, Q .ret (ov d [(4, .bool bq4)]) w)
def j1tb : List (List Nat × Spec) := [([0, 1, 0, 1, 1, 1, 1, 1, 0, 0, 1, 1, 0, 0, 1, 0, 1, 1, 1, 1, 1], l2T)]
noncomputable def j1b : Code := (subC [1, 1, 1, 1, 0, 0, 1, 1, 0, 0, 1, 0, 1, 1, 1, 1, 1] body).getD .skip
theorem j1_eq (pt5 : Option Addr) (At6 : Option Addr) (nt6 : Nat) (ct6 : Nat) (At7 : Option Addr) (nt7 : Nat) (ct7 : Nat) (Q : PQ) (σ : Fr) (w : World) :
    j1 pt5 At6 nt6 ct6 At7 nt7 ct7 w (fun (w : World) => ∀ d : Fr, Q .normal (ov d [(5, .pointer pt5), (6, .slice At6 nt6 ct6), (7, .slice At7 nt7 ct7), (30, σ 30), (31, σ 31), (32, σ 32)]) w) (fun (bq4 : Bool) (w : World) => ∀ d : Fr, Q .ret (ov d [(4, .bool bq4)]) w) = codeW Try.prog hT 169 D (tab j1tb) [1, 1, 1, 1, 0, 0, 1, 1, 0, 0, 1, 0, 1, 1, 1, 1, 1] j1b (widen j1LO Q) (ov σ [(5, .pointer pt5), (6, .slice At6 nt6 ct6), (7, .slice At7 nt7 ct7)]) w := by kernel_rfl
theorem j1_snd : ∀ c, subC [1, 1, 1, 1, 0, 0, 1, 1, 0, 0, 1, 0, 1, 1, 1, 1, 1] body = some c → Snd Try.prog 169 c j1T := by
  refine cut_of (hT := hT) (D := D) (l := j1tb) (b := j1b) (lo := j1LO) (by kernel_rfl) (by
    intro x hx
    simp only [j1tb, List.mem_cons, List.not_mem_nil, or_false] at hx
    subst hx
    exact l2_snd) (by kernel_rfl) (by kernel_rfl) ?_
  intro Q σ w h
  unfold j1T at h
  obtain ⟨pt5, h5, hn⟩ := gPtr_elim h
  clear h
  have h := hn
  clear hn
  obtain ⟨At6, nt6, ct6, h6, hn⟩ := gSlice_elim h
  clear h
  have h := hn
  clear hn
  obtain ⟨At7, nt7, ct7, h7, hn⟩ := gSlice_elim h
  clear h
  have h := hn
  clear hn
  rw [j1_eq (σ := σ)] at h
  have e : (ov σ [(5, .pointer pt5), (6, .slice At6 nt6 ct6), (7, .slice At7 nt7 ct7)]) = σ := ov_self (by simp [h5, h6, h7])
  rw [e] at h
  exact h
def l0LO : LO := ⟨[], [4], [(0, [])], []⟩
def l0Tk (k : Nat) : Spec := fun Q σ w =>
  gPtr (σ 5) fun pt5 =>
  gSlice (σ 6) fun At6 nt6 ct6 =>
  gSlice (σ 7) fun At7 nt7 ct7 =>
  gSlice (σ 30) fun At30 nt30 ct30 =>
  gInt .i64 (σ 31) fun xt31 =>
  gInt .i64 (σ 32) fun xt32 =>
  l0 k pt5 At6 nt6 ct6 At7 nt7 ct7 At30 nt30 ct30 xt31 xt32 w (fun (w : World) => ∀ d : Fr, Q (.exit 0) (ov d []) w) (fun (bq4 : Bool) (w : World) => ∀ d : Fr, Q .ret (ov d [(4, .bool bq4)]) w)
def l0T : Spec := fun Q σ w => ∃ k, l0Tk k Q σ w
def l0tb : List (List Nat × Spec) := [([0, 1, 0, 1, 1, 1, 1, 1, 0, 0, 1, 1, 0, 0, 1, 0, 1, 1, 1, 1, 1], l2T), ([1, 1, 1, 1, 0, 0, 1, 1, 0, 0, 1, 0, 1, 1, 1, 1, 1], j1T)]
noncomputable def l0b : Code := (subC [0, 0, 1, 0, 1, 1, 1, 1, 1] body).getD .skip
theorem l0_eq (k : Nat) (pt5 : Option Addr) (At6 : Option Addr) (nt6 : Nat) (ct6 : Nat) (At7 : Option Addr) (nt7 : Nat) (ct7 : Nat) (At30 : Option Addr) (nt30 : Nat) (ct30 : Nat) (xt31 : Int) (xt32 : Int) (Q : PQ) (σ : Fr) (w : World) :
    l0 (k + 1) pt5 At6 nt6 ct6 At7 nt7 ct7 At30 nt30 ct30 xt31 xt32 w (fun (w : World) => ∀ d : Fr, Q (.exit 0) (ov d []) w) (fun (bq4 : Bool) (w : World) => ∀ d : Fr, Q .ret (ov d [(4, .bool bq4)]) w) = codeW Try.prog hT 169 D (tab l0tb) [0, 0, 1, 0, 1, 1, 1, 1, 1] l0b (thenQ (l0Tk k Q) (widen l0LO Q)) (ov σ [(5, .pointer pt5), (6, .slice At6 nt6 ct6), (7, .slice At7 nt7 ct7), (30, .slice At30 nt30 ct30), (31, .int .i64 xt31), (32, .int .i64 xt32)]) w := by kernel_rfl
theorem l0_snd : ∀ c, subC [0, 1, 0, 1, 1, 1, 1, 1] body = some c → Snd Try.prog 169 c l0T := by
  refine loop_of (hT := hT) (D := D) (l := l0tb) (b := l0b) (lo := l0LO) (by kernel_rfl) (by
    intro x hx
    simp only [l0tb, List.mem_cons, List.not_mem_nil, or_false] at hx
    rcases hx with rfl | rfl
    · exact l2_snd
    · exact j1_snd) (by kernel_rfl) (by kernel_rfl) ?_ ?_
  · intro Q σ w h
    unfold l0Tk at h
    obtain ⟨pt5, h5, hn⟩ := gPtr_elim h
    clear h
    have h := hn
    clear hn
    obtain ⟨At6, nt6, ct6, h6, hn⟩ := gSlice_elim h
    clear h
    have h := hn
    clear hn
    obtain ⟨At7, nt7, ct7, h7, hn⟩ := gSlice_elim h
    clear h
    have h := hn
    clear hn
    obtain ⟨At30, nt30, ct30, h30, hn⟩ := gSlice_elim h
    clear h
    have h := hn
    clear hn
    obtain ⟨xt31, h31, hn⟩ := gInt_elim h
    clear h
    have h := hn
    clear hn
    obtain ⟨xt32, h32, hn⟩ := gInt_elim h
    clear h
    have h := hn
    clear hn
    exact h
  · intro k Q σ w h
    unfold l0Tk at h
    obtain ⟨pt5, h5, hn⟩ := gPtr_elim h
    clear h
    have h := hn
    clear hn
    obtain ⟨At6, nt6, ct6, h6, hn⟩ := gSlice_elim h
    clear h
    have h := hn
    clear hn
    obtain ⟨At7, nt7, ct7, h7, hn⟩ := gSlice_elim h
    clear h
    have h := hn
    clear hn
    obtain ⟨At30, nt30, ct30, h30, hn⟩ := gSlice_elim h
    clear h
    have h := hn
    clear hn
    obtain ⟨xt31, h31, hn⟩ := gInt_elim h
    clear h
    have h := hn
    clear hn
    obtain ⟨xt32, h32, hn⟩ := gInt_elim h
    clear h
    have h := hn
    clear hn
    rw [l0_eq (σ := σ)] at h
    have e : (ov σ [(5, .pointer pt5), (6, .slice At6 nt6 ct6), (7, .slice At7 nt7 ct7), (30, .slice At30 nt30 ct30), (31, .int .i64 xt31), (32, .int .i64 xt32)]) = σ := ov_self (by simp [h5, h6, h7, h30, h31, h32])
    rw [e] at h
    exact h
def tb : List (List Nat × Spec) := [([0, 1, 0, 1, 1, 1, 1, 1, 0, 0, 1, 1, 0, 0, 1, 0, 1, 1, 1, 1, 1], l2T), ([1, 1, 1, 1, 0, 0, 1, 1, 0, 0, 1, 0, 1, 1, 1, 1, 1], j1T), ([0, 1, 0, 1, 1, 1, 1, 1], l0T)]
theorem wp_eq (xa0 : Int) (Aa1 : Option Addr) (na1 : Nat) (ca1 : Nat) (w : World) (Q : Ending → World → Prop) :
    wp xa0 Aa1 na1 ca1 w Q = codeW Try.prog hT 169 D (tab tb) [] body (topQ Try.prog hT 169 [.tmp 4] Q) (argsF [.int .i64 xa0, .slice Aa1 na1 ca1]) w := by kernel_rfl
theorem ok (xa0 : Int) (Aa1 : Option Addr) (na1 : Nat) (ca1 : Nat) (w : World) (Q : Ending → World → Prop) (h : wp xa0 Aa1 na1 ca1 w Q) : Calls Try.prog 6 #[.int .i64 xa0, .slice Aa1 na1 ca1] w Q := by
  rw [wp_eq] at h
  exact calls_of_codeW (c := body) (rs := [.tmp 4]) Try.func6 (by kernel_rfl) (by kernel_rfl) (by kernel_rfl) (by kernel_rfl) (by kernel_rfl) (tab_snd (by
    intro x hx
    simp only [tb, List.mem_cons, List.not_mem_nil, or_false] at hx
    rcases hx with rfl | rfl | rfl
    · exact l2_snd
    · exact j1_snd
    · exact l0_snd)) (by kernel_rfl) h
end f_law14_MvccStarts
namespace f_law14_MvccTry
/-! skein/skeinlaw14.MvccTry: function 7 -/
noncomputable def body : Code := (Try.f7.body).getD .skip
def l1 : Nat → Option Addr → Int → World → (World → Prop) → Prop
  | 0, _, _, _, _ => False
  | k + 1, pt6, xt9, w, K2 =>
    sel (decide (xt9 < (6 : Int))) (
    Calls Try.prog 24 #[.pointer pt6, .int .i64 xt9] w fun e19 w20 => ∃ (x21 : Int), e19 = .returned (.int .i64 x21) ∧ (
    l1 k pt6 (IntKind.i64.wrap (xt9 + (1 : Int))) w20 K2)) (
    K2  w)
def j2 (pt5 : Option Addr) (pt6 : Option Addr) (w : World) (Kn : World → Prop) (Kr : Bool → World → Prop) : Prop :=
  Calls Try.prog 13 #[.pointer pt5] w fun e36 w37 => ∃ (x38 : Int), e36 = .returned (.int .i64 x38) ∧ (
  Calls Try.prog 13 #[.pointer pt6] w37 fun e39 w40 => ∃ (x41 : Int), e39 = .returned (.int .i64 x41) ∧ (
  sel (x38 != x41) (
  Kr false w40) (
  Calls Try.prog 14 #[.pointer pt5] w40 fun e42 w43 => ∃ (x44 : Int), e42 = .returned (.int .i64 x44) ∧ (
  Calls Try.prog 14 #[.pointer pt6] w43 fun e45 w46 => ∃ (x47 : Int), e45 = .returned (.int .i64 x47) ∧ (
  sel (x44 != x47) (
  Kr false w46) (
  Calls Try.prog 12 #[.pointer pt5] w46 fun e48 w49 => ∃ (A50 : Option Addr) (n50 : Nat) (c50 : Nat), e48 = .returned (.slice A50 n50 c50) ∧ (
  Calls Try.prog 12 #[.pointer pt6] w49 fun e51 w52 => ∃ (A53 : Option Addr) (n53 : Nat) (c53 : Nat), e51 = .returned (.slice A53 n53 c53) ∧ (
  Calls Try.prog 16 #[.slice A50 n50 c50, .slice A53 n53 c53] w52 fun e54 w55 => ∃ (b56 : Bool), e54 = .returned (.bool b56) ∧ (
  sel (!b56) (
  Kr false w55) (
  Kn  w55))))))))))
def l0 : Nat → Option Addr → Option Addr → Option Addr → Nat → Nat → Int → Int → World → (World → Prop) → (Bool → World → Prop) → Prop
  | 0, _, _, _, _, _, _, _, _, _, _ => False
  | k + 1, pt5, pt6, At29, nt29, ct29, xt30, xt31, w, K0, Kr =>
    sel (decide (xt31 < xt30)) (
    optB At29 fun a10 =>
    req (decide (0 ≤ xt31 ∧ xt31 < (nt29 : Int))) <|
    ldI w (a10.add (xt31.toNat * 3)) .i64 fun x11 =>
    ldI w ((a10.add (xt31.toNat * 3)).add 1) .i64 fun x12 =>
    ldS w ((a10.add (xt31.toNat * 3)).add 2) fun A13 n13 c13 =>
    alW w (.cells #[.int .i64 (0 : Int), .int .i64 (0 : Int), .slice none 0 0] 32) fun B14 w15 =>
    stW w15 (⟨B14, 0, Option.none⟩ : Addr) (.int .i64 x11) fun w16 =>
    stW w16 ((⟨B14, 0, Option.none⟩ : Addr).add 1) (.int .i64 x12) fun w17 =>
    stW w17 ((⟨B14, 0, Option.none⟩ : Addr).add 2) (.slice A13 n13 c13) fun w18 =>
    ∃ k75 : Nat, l1 k75 pt6 (0 : Int) w18 (fun (w22 : World) => ∀ _ : Fr,
    ldI w22 (⟨B14, 0, Option.none⟩ : Addr) .i64 fun x23 =>
    sel (x23 == (3 : Int)) (
    ldI w22 ((⟨B14, 0, Option.none⟩ : Addr).add 1) .i64 fun x24 =>
    Calls Try.prog 24 #[.pointer pt6, .int .i64 x24] w22 fun e25 w26 => ∃ (x27 : Int), e25 = .returned (.int .i64 x27) ∧ (
    ldI w26 ((⟨B14, 0, Option.none⟩ : Addr).add 1) .i64 fun x28 =>
    Calls Try.prog 21 #[.pointer pt6, .int .i64 x28] w26 fun e29 w30 => ∃ (x31_0 : Int) (x31_1 : Int), e29 = .returned (.tuple #[.int .i64 x31_0, .int .i64 x31_1]) ∧ (
    ldI w30 ((⟨B14, 0, Option.none⟩ : Addr).add 1) .i64 fun x32 =>
    Calls Try.prog 21 #[.pointer pt5, .int .i64 x32] w30 fun e33 w34 => ∃ (x35_0 : Int) (x35_1 : Int), e33 = .returned (.tuple #[.int .i64 x35_0, .int .i64 x35_1]) ∧ (
    sel (x27 != x31_1) (
    Kr false w34) (
    sel (x31_1 != x35_1) (
    Kr false w34) (
    sel (x31_0 != x35_0) (
    Kr false w34) (
    j2 pt5 pt6 w34 (fun (w57 : World) => ∀ _ : Fr,
    l0 k pt5 pt6 At29 nt29 ct29 xt30 (IntKind.i64.wrap (xt31 + (1 : Int))) w57 K0 Kr) (fun (b58 : Bool) (w59 : World) => ∀ _ : Fr,
    Kr b58 w59)))))))) (
    ldI w22 (⟨B14, 0, Option.none⟩ : Addr) .i64 fun x60 =>
    ldI w22 ((⟨B14, 0, Option.none⟩ : Addr).add 1) .i64 fun x61 =>
    ldS w22 ((⟨B14, 0, Option.none⟩ : Addr).add 2) fun A62 n62 c62 =>
    Calls Try.prog 11 #[.pointer pt5, .agg #[.slice none 0 0, .int .i64 (0 : Int)], .agg #[.int .i64 x60, .int .i64 x61, .slice A62 n62 c62]] w22 fun e63 w64 => ∃ (A65_0_0 : Option Addr) (n65_0_0 : Nat) (c65_0_0 : Nat) (x65_0_1 : Int) (b65_1 : Bool), e63 = .returned (.tuple #[.agg #[.slice A65_0_0 n65_0_0 c65_0_0, .int .i64 x65_0_1], .bool b65_1]) ∧ (
    ldI w64 (⟨B14, 0, Option.none⟩ : Addr) .i64 fun x66 =>
    ldI w64 ((⟨B14, 0, Option.none⟩ : Addr).add 1) .i64 fun x67 =>
    ldS w64 ((⟨B14, 0, Option.none⟩ : Addr).add 2) fun A68 n68 c68 =>
    Calls Try.prog 11 #[.pointer pt6, .agg #[.slice none 0 0, .int .i64 (0 : Int)], .agg #[.int .i64 x66, .int .i64 x67, .slice A68 n68 c68]] w64 fun e69 w70 => ∃ (A71_0_0 : Option Addr) (n71_0_0 : Nat) (c71_0_0 : Nat) (x71_0_1 : Int) (b71_1 : Bool), e69 = .returned (.tuple #[.agg #[.slice A71_0_0 n71_0_0 c71_0_0, .int .i64 x71_0_1], .bool b71_1]) ∧ (
    j2 pt5 pt6 w70 (fun (w72 : World) => ∀ _ : Fr,
    l0 k pt5 pt6 At29 nt29 ct29 xt30 (IntKind.i64.wrap (xt31 + (1 : Int))) w72 K0 Kr) (fun (b73 : Bool) (w74 : World) => ∀ _ : Fr,
    Kr b73 w74)))))) (
    K0  w)
def wp (xa0 : Int) (Aa1 : Option Addr) (na1 : Nat) (ca1 : Nat) (w : World) (Q : Ending → World → Prop) : Prop :=
  Calls Try.prog 8 #[.int .i64 xa0] w fun e1 w2 => ∃ (p3 : Option Addr), e1 = .returned (.pointer p3) ∧ (
  Calls Try.prog 8 #[.int .i64 xa0] w2 fun e4 w5 => ∃ (p6 : Option Addr), e4 = .returned (.pointer p6) ∧ (
  sel p3.isNone (
  Q (.returned (.bool false)) w5) (
  sel p6.isNone (
  Q (.returned (.bool false)) w5) (
  Calls Try.prog 9 #[] w5 fun e7 w8 => ∃ (b9 : Bool), e7 = .returned (.bool b9) ∧ (
  sel (!b9) (
  Q (.returned (.bool false)) w8) (
  ∃ k79 : Nat, l0 k79 p3 p6 Aa1 na1 ca1 (na1 : Int) (0 : Int) w8 (fun (w76 : World) => ∀ _ : Fr,
  Q (.returned (.bool true)) w76) (fun (b77 : Bool) (w78 : World) => ∀ _ : Fr,
  Q (.returned (.bool b77)) w78)))))))
def D : Nat → Option DH := dtab []
def l1LO : LO := ⟨[], [], [(2, [5, 6, 8, 29, 30, 31])], []⟩
def l1Tk (k : Nat) : Spec := fun Q σ w =>
  gPtr (σ 6) fun pt6 =>
  gInt .i64 (σ 9) fun xt9 =>
  l1 k pt6 xt9 w (fun (w : World) => ∀ d : Fr, Q (.exit 2) (ov d [(5, σ 5), (6, .pointer pt6), (8, σ 8), (29, σ 29), (30, σ 30), (31, σ 31)]) w)
def l1T : Spec := fun Q σ w => ∃ k, l1Tk k Q σ w
def l1tb : List (List Nat × Spec) := []
noncomputable def l1b : Code := (subC [0, 0, 1, 0, 1, 0, 0, 1, 1, 0, 0, 1, 0, 1, 1, 1] body).getD .skip
theorem l1_eq (k : Nat) (pt6 : Option Addr) (xt9 : Int) (Q : PQ) (σ : Fr) (w : World) :
    l1 (k + 1) pt6 xt9 w (fun (w : World) => ∀ d : Fr, Q (.exit 2) (ov d [(5, σ 5), (6, .pointer pt6), (8, σ 8), (29, σ 29), (30, σ 30), (31, σ 31)]) w) = codeW Try.prog hT 105 D (tab l1tb) [0, 0, 1, 0, 1, 0, 0, 1, 1, 0, 0, 1, 0, 1, 1, 1] l1b (thenQ (l1Tk k Q) (widen l1LO Q)) (ov σ [(6, .pointer pt6), (9, .int .i64 xt9)]) w := by kernel_rfl
theorem l1_snd : ∀ c, subC [0, 1, 0, 1, 0, 0, 1, 1, 0, 0, 1, 0, 1, 1, 1] body = some c → Snd Try.prog 105 c l1T := by
  refine loop_of (hT := hT) (D := D) (l := l1tb) (b := l1b) (lo := l1LO) (by kernel_rfl) (by
    intro x hx
    simp only [l1tb, List.not_mem_nil] at hx
    ) (by kernel_rfl) (by kernel_rfl) ?_ ?_
  · intro Q σ w h
    unfold l1Tk at h
    obtain ⟨pt6, h6, hn⟩ := gPtr_elim h
    clear h
    have h := hn
    clear hn
    obtain ⟨xt9, h9, hn⟩ := gInt_elim h
    clear h
    have h := hn
    clear hn
    exact h
  · intro k Q σ w h
    unfold l1Tk at h
    obtain ⟨pt6, h6, hn⟩ := gPtr_elim h
    clear h
    have h := hn
    clear hn
    obtain ⟨xt9, h9, hn⟩ := gInt_elim h
    clear h
    have h := hn
    clear hn
    rw [l1_eq (σ := σ)] at h
    have e : (ov σ [(6, .pointer pt6), (9, .int .i64 xt9)]) = σ := ov_self (by simp [h6, h9])
    rw [e] at h
    exact h
def j2LO : LO := ⟨[5, 6, 29, 30, 31], [4], [], []⟩
def j2T : Spec := fun Q σ w =>
  gPtr (σ 5) fun pt5 =>
  gPtr (σ 6) fun pt6 =>
  j2 pt5 pt6 w (fun (w : World) => ∀ d : Fr, Q .normal (ov d [(5, .pointer pt5), (6, .pointer pt6), (29, σ 29), (30, σ 30), (31, σ 31)]) w) (fun (bq4 : Bool) (w : World) => ∀ d : Fr, Q .ret (ov d [(4, .bool bq4)]) w)
def j2tb : List (List Nat × Spec) := []
noncomputable def j2b : Code := (subC [1, 1, 1, 0, 0, 1, 1, 0, 0, 1, 0, 1, 1, 1] body).getD .skip
theorem j2_eq (pt5 : Option Addr) (pt6 : Option Addr) (Q : PQ) (σ : Fr) (w : World) :
    j2 pt5 pt6 w (fun (w : World) => ∀ d : Fr, Q .normal (ov d [(5, .pointer pt5), (6, .pointer pt6), (29, σ 29), (30, σ 30), (31, σ 31)]) w) (fun (bq4 : Bool) (w : World) => ∀ d : Fr, Q .ret (ov d [(4, .bool bq4)]) w) = codeW Try.prog hT 105 D (tab j2tb) [1, 1, 1, 0, 0, 1, 1, 0, 0, 1, 0, 1, 1, 1] j2b (widen j2LO Q) (ov σ [(5, .pointer pt5), (6, .pointer pt6)]) w := by kernel_rfl
theorem j2_snd : ∀ c, subC [1, 1, 1, 0, 0, 1, 1, 0, 0, 1, 0, 1, 1, 1] body = some c → Snd Try.prog 105 c j2T := by
  refine cut_of (hT := hT) (D := D) (l := j2tb) (b := j2b) (lo := j2LO) (by kernel_rfl) (by
    intro x hx
    simp only [j2tb, List.not_mem_nil] at hx
    ) (by kernel_rfl) (by kernel_rfl) ?_
  intro Q σ w h
  unfold j2T at h
  obtain ⟨pt5, h5, hn⟩ := gPtr_elim h
  clear h
  have h := hn
  clear hn
  obtain ⟨pt6, h6, hn⟩ := gPtr_elim h
  clear h
  have h := hn
  clear hn
  rw [j2_eq (σ := σ)] at h
  have e : (ov σ [(5, .pointer pt5), (6, .pointer pt6)]) = σ := ov_self (by simp [h5, h6])
  rw [e] at h
  exact h
def l0LO : LO := ⟨[], [4], [(0, [])], []⟩
def l0Tk (k : Nat) : Spec := fun Q σ w =>
  gPtr (σ 5) fun pt5 =>
  gPtr (σ 6) fun pt6 =>
  gSlice (σ 29) fun At29 nt29 ct29 =>
  gInt .i64 (σ 30) fun xt30 =>
  gInt .i64 (σ 31) fun xt31 =>
  l0 k pt5 pt6 At29 nt29 ct29 xt30 xt31 w (fun (w : World) => ∀ d : Fr, Q (.exit 0) (ov d []) w) (fun (bq4 : Bool) (w : World) => ∀ d : Fr, Q .ret (ov d [(4, .bool bq4)]) w)
def l0T : Spec := fun Q σ w => ∃ k, l0Tk k Q σ w
def l0tb : List (List Nat × Spec) := [([0, 1, 0, 1, 0, 0, 1, 1, 0, 0, 1, 0, 1, 1, 1], l1T), ([1, 1, 1, 0, 0, 1, 1, 0, 0, 1, 0, 1, 1, 1], j2T)]
noncomputable def l0b : Code := (subC [0, 0, 1, 0, 1, 1, 1] body).getD .skip
theorem l0_eq (k : Nat) (pt5 : Option Addr) (pt6 : Option Addr) (At29 : Option Addr) (nt29 : Nat) (ct29 : Nat) (xt30 : Int) (xt31 : Int) (Q : PQ) (σ : Fr) (w : World) :
    l0 (k + 1) pt5 pt6 At29 nt29 ct29 xt30 xt31 w (fun (w : World) => ∀ d : Fr, Q (.exit 0) (ov d []) w) (fun (bq4 : Bool) (w : World) => ∀ d : Fr, Q .ret (ov d [(4, .bool bq4)]) w) = codeW Try.prog hT 105 D (tab l0tb) [0, 0, 1, 0, 1, 1, 1] l0b (thenQ (l0Tk k Q) (widen l0LO Q)) (ov σ [(5, .pointer pt5), (6, .pointer pt6), (29, .slice At29 nt29 ct29), (30, .int .i64 xt30), (31, .int .i64 xt31)]) w := by kernel_rfl
theorem l0_snd : ∀ c, subC [0, 1, 0, 1, 1, 1] body = some c → Snd Try.prog 105 c l0T := by
  refine loop_of (hT := hT) (D := D) (l := l0tb) (b := l0b) (lo := l0LO) (by kernel_rfl) (by
    intro x hx
    simp only [l0tb, List.mem_cons, List.not_mem_nil, or_false] at hx
    rcases hx with rfl | rfl
    · exact l1_snd
    · exact j2_snd) (by kernel_rfl) (by kernel_rfl) ?_ ?_
  · intro Q σ w h
    unfold l0Tk at h
    obtain ⟨pt5, h5, hn⟩ := gPtr_elim h
    clear h
    have h := hn
    clear hn
    obtain ⟨pt6, h6, hn⟩ := gPtr_elim h
    clear h
    have h := hn
    clear hn
    obtain ⟨At29, nt29, ct29, h29, hn⟩ := gSlice_elim h
    clear h
    have h := hn
    clear hn
    obtain ⟨xt30, h30, hn⟩ := gInt_elim h
    clear h
    have h := hn
    clear hn
    obtain ⟨xt31, h31, hn⟩ := gInt_elim h
    clear h
    have h := hn
    clear hn
    exact h
  · intro k Q σ w h
    unfold l0Tk at h
    obtain ⟨pt5, h5, hn⟩ := gPtr_elim h
    clear h
    have h := hn
    clear hn
    obtain ⟨pt6, h6, hn⟩ := gPtr_elim h
    clear h
    have h := hn
    clear hn
    obtain ⟨At29, nt29, ct29, h29, hn⟩ := gSlice_elim h
    clear h
    have h := hn
    clear hn
    obtain ⟨xt30, h30, hn⟩ := gInt_elim h
    clear h
    have h := hn
    clear hn
    obtain ⟨xt31, h31, hn⟩ := gInt_elim h
    clear h
    have h := hn
    clear hn
    rw [l0_eq (σ := σ)] at h
    have e : (ov σ [(5, .pointer pt5), (6, .pointer pt6), (29, .slice At29 nt29 ct29), (30, .int .i64 xt30), (31, .int .i64 xt31)]) = σ := ov_self (by simp [h5, h6, h29, h30, h31])
    rw [e] at h
    exact h
def tb : List (List Nat × Spec) := [([0, 1, 0, 1, 0, 0, 1, 1, 0, 0, 1, 0, 1, 1, 1], l1T), ([1, 1, 1, 0, 0, 1, 1, 0, 0, 1, 0, 1, 1, 1], j2T), ([0, 1, 0, 1, 1, 1], l0T)]
theorem wp_eq (xa0 : Int) (Aa1 : Option Addr) (na1 : Nat) (ca1 : Nat) (w : World) (Q : Ending → World → Prop) :
    wp xa0 Aa1 na1 ca1 w Q = codeW Try.prog hT 105 D (tab tb) [] body (topQ Try.prog hT 105 [.tmp 4] Q) (argsF [.int .i64 xa0, .slice Aa1 na1 ca1]) w := by kernel_rfl
theorem ok (xa0 : Int) (Aa1 : Option Addr) (na1 : Nat) (ca1 : Nat) (w : World) (Q : Ending → World → Prop) (h : wp xa0 Aa1 na1 ca1 w Q) : Calls Try.prog 7 #[.int .i64 xa0, .slice Aa1 na1 ca1] w Q := by
  rw [wp_eq] at h
  exact calls_of_codeW (c := body) (rs := [.tmp 4]) Try.func7 (by kernel_rfl) (by kernel_rfl) (by kernel_rfl) (by kernel_rfl) (by kernel_rfl) (tab_snd (by
    intro x hx
    simp only [tb, List.mem_cons, List.not_mem_nil, or_false] at hx
    rcases hx with rfl | rfl | rfl
    · exact l1_snd
    · exact j2_snd
    · exact l0_snd)) (by kernel_rfl) h
end f_law14_MvccTry
end Go.Proofs.Ytbfcjnbjhpfdfaa.Rd
