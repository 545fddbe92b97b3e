/- The printed readings of some functions: each function's code reckoned by the kernel to its predicate transformer. -/
import Derived.Test.YthekjlglnmhlaaaHint
namespace Go.Proofs.Ythekjlglnmhlaaa.Rd
open Go.Dn
set_option maxRecDepth 100000
set_option linter.unusedVariables false
namespace f_law07_DiskLoad
/-! skein/skeinlaw07.DiskLoad: function 5 -/
noncomputable def body : Code := (Try.f5.body).getD .skip
def l0 : Nat → Option Addr → Option Addr → Nat → Nat → Int → Int → World → (World → Prop) → Prop
  | 0, _, _, _, _, _, _, _, _ => False
  | k + 1, pt5, At17, nt17, ct17, xt18, xt19, w, K0 =>
    sel (decide (xt19 < xt18)) (
    optB At17 fun a7 =>
    req (decide (0 ≤ xt19 ∧ xt19 < (nt17 : Int))) <|
    ldI w (a7.add (xt19.toNat * 5)) .i64 fun x8 =>
    ldI w ((a7.add (xt19.toNat * 5)).add 1) .i64 fun x9 =>
    ldS w ((a7.add (xt19.toNat * 5)).add 2) fun A10 n10 c10 =>
    ldS w ((a7.add (xt19.toNat * 5)).add 3) fun A11 n11 c11 =>
    ldS w ((a7.add (xt19.toNat * 5)).add 4) fun A12 n12 c12 =>
    alW w (.cells #[.int .i64 (0 : Int), .int .i64 (0 : Int), .slice none 0 0, .slice none 0 0, .slice none 0 0] 41) fun B13 w14 =>
    stW w14 (⟨B13, 0, Option.none⟩ : Addr) (.int .i64 x8) fun w15 =>
    stW w15 ((⟨B13, 0, Option.none⟩ : Addr).add 1) (.int .i64 x9) fun w16 =>
    stW w16 ((⟨B13, 0, Option.none⟩ : Addr).add 2) (.slice A10 n10 c10) fun w17 =>
    stW w17 ((⟨B13, 0, Option.none⟩ : Addr).add 3) (.slice A11 n11 c11) fun w18 =>
    stW w18 ((⟨B13, 0, Option.none⟩ : Addr).add 4) (.slice A12 n12 c12) fun w19 =>
    ldI w19 (⟨B13, 0, Option.none⟩ : Addr) .i64 fun x20 =>
    ldI w19 ((⟨B13, 0, Option.none⟩ : Addr).add 1) .i64 fun x21 =>
    ldS w19 ((⟨B13, 0, Option.none⟩ : Addr).add 2) fun A22 n22 c22 =>
    ldS w19 ((⟨B13, 0, Option.none⟩ : Addr).add 3) fun A23 n23 c23 =>
    ldS w19 ((⟨B13, 0, Option.none⟩ : Addr).add 4) fun A24 n24 c24 =>
    Calls Try.prog 18 #[.pointer pt5, .agg #[.int .i64 x20, .int .i64 x21, .slice A22 n22 c22, .slice A23 n23 c23, .slice A24 n24 c24]] w19 fun e25 w26 => e25 = .returned (.tuple #[]) ∧ (
    l0 k pt5 At17 nt17 ct17 xt18 (IntKind.i64.wrap (xt19 + (1 : Int))) w26 K0)) (
    K0  w)
def l1 : Nat → Option Addr → Option Addr → Option Addr → Nat → Nat → Int → Int → World → (World → Prop) → (Bool → World → Prop) → Prop
  | 0, _, _, _, _, _, _, _, _, _, _ => False
  | k + 1, pt5, pt8, At48, nt48, ct48, xt49, xt50, w, K2, Kr =>
    sel (decide (xt50 < xt49)) (
    optB At48 fun a47 =>
    req (decide (0 ≤ xt50 ∧ xt50 < (nt48 : Int))) <|
    ldI w (a47.add (xt50.toNat * 5)) .i64 fun x48 =>
    ldI w ((a47.add (xt50.toNat * 5)).add 1) .i64 fun x49 =>
    ldS w ((a47.add (xt50.toNat * 5)).add 2) fun A50 n50 c50 =>
    ldS w ((a47.add (xt50.toNat * 5)).add 3) fun A51 n51 c51 =>
    ldS w ((a47.add (xt50.toNat * 5)).add 4) fun A52 n52 c52 =>
    alW w (.cells #[.int .i64 (0 : Int), .int .i64 (0 : Int), .slice none 0 0, .slice none 0 0, .slice none 0 0] 41) fun B53 w54 =>
    stW w54 (⟨B53, 0, Option.none⟩ : Addr) (.int .i64 x48) fun w55 =>
    stW w55 ((⟨B53, 0, Option.none⟩ : Addr).add 1) (.int .i64 x49) fun w56 =>
    stW w56 ((⟨B53, 0, Option.none⟩ : Addr).add 2) (.slice A50 n50 c50) fun w57 =>
    stW w57 ((⟨B53, 0, Option.none⟩ : Addr).add 3) (.slice A51 n51 c51) fun w58 =>
    stW w58 ((⟨B53, 0, Option.none⟩ : Addr).add 4) (.slice A52 n52 c52) fun w59 =>
    ldI w59 (⟨B53, 0, Option.none⟩ : Addr) .i64 fun x60 =>
    sel (x60 == (5 : Int)) (
    l1 k pt5 pt8 At48 nt48 ct48 xt49 (IntKind.i64.wrap (xt50 + (1 : Int))) w59 K2 Kr) (
    ldI w59 (⟨B53, 0, Option.none⟩ : Addr) .i64 fun x61 =>
    ldI w59 ((⟨B53, 0, Option.none⟩ : Addr).add 1) .i64 fun x62 =>
    ldS w59 ((⟨B53, 0, Option.none⟩ : Addr).add 2) fun A63 n63 c63 =>
    ldS w59 ((⟨B53, 0, Option.none⟩ : Addr).add 3) fun A64 n64 c64 =>
    ldS w59 ((⟨B53, 0, Option.none⟩ : Addr).add 4) fun A65 n65 c65 =>
    Calls Try.prog 18 #[.pointer pt5, .agg #[.int .i64 x61, .int .i64 x62, .slice A63 n63 c63, .slice A64 n64 c64, .slice A65 n65 c65]] w59 fun e66 w67 => e66 = .returned (.tuple #[]) ∧ (
    ldI w67 (⟨B53, 0, Option.none⟩ : Addr) .i64 fun x68 =>
    ldI w67 ((⟨B53, 0, Option.none⟩ : Addr).add 1) .i64 fun x69 =>
    ldS w67 ((⟨B53, 0, Option.none⟩ : Addr).add 2) fun A70 n70 c70 =>
    ldS w67 ((⟨B53, 0, Option.none⟩ : Addr).add 3) fun A71 n71 c71 =>
    ldS w67 ((⟨B53, 0, Option.none⟩ : Addr).add 4) fun A72 n72 c72 =>
    Calls Try.prog 18 #[.pointer pt8, .agg #[.int .i64 x68, .int .i64 x69, .slice A70 n70 c70, .slice A71 n71 c71, .slice A72 n72 c72]] w67 fun e73 w74 => e73 = .returned (.tuple #[]) ∧ (
    Calls Try.prog 26 #[.pointer pt5] w74 fun e75 w76 => ∃ (A77 : Option Addr) (n77 : Nat) (c77 : Nat), e75 = .returned (.slice A77 n77 c77) ∧ (
    Calls Try.prog 26 #[.pointer pt8] w76 fun e78 w79 => ∃ (A80 : Option Addr) (n80 : Nat) (c80 : Nat), e78 = .returned (.slice A80 n80 c80) ∧ (
    Calls Try.prog 22 #[.slice A77 n77 c77, .slice A80 n80 c80] w79 fun e81 w82 => ∃ (b83 : Bool), e81 = .returned (.bool b83) ∧ (
    sel (!b83) (
    Kr false w82) (
    Calls Try.prog 27 #[.pointer pt5] w82 fun e84 w85 => ∃ (A86 : Option Addr) (n86 : Nat) (c86 : Nat), e84 = .returned (.slice A86 n86 c86) ∧ (
    Calls Try.prog 27 #[.pointer pt8] w85 fun e87 w88 => ∃ (A89 : Option Addr) (n89 : Nat) (c89 : Nat), e87 = .returned (.slice A89 n89 c89) ∧ (
    Calls Try.prog 22 #[.slice A86 n86 c86, .slice A89 n89 c89] w88 fun e90 w91 => ∃ (b92 : Bool), e90 = .returned (.bool b92) ∧ (
    sel (!b92) (
    Kr false w91) (
    Calls Try.prog 13 #[.pointer pt5] w91 fun e93 w94 => ∃ (A95 : Option Addr) (n95 : Nat) (c95 : Nat), e93 = .returned (.slice A95 n95 c95) ∧ (
    Calls Try.prog 13 #[.pointer pt8] w94 fun e96 w97 => ∃ (A98 : Option Addr) (n98 : Nat) (c98 : Nat), e96 = .returned (.slice A98 n98 c98) ∧ (
    Calls Try.prog 28 #[.slice A95 n95 c95, .slice A98 n98 c98] w97 fun e99 w100 => ∃ (b101 : Bool), e99 = .returned (.bool b101) ∧ (
    sel (!b101) (
    Kr false w100) (
    l1 k pt5 pt8 At48 nt48 ct48 xt49 (IntKind.i64.wrap (xt50 + (1 : Int))) w100 K2 Kr)))))))))))))))) (
    K2  w)
def wp (Aa0 : Option Addr) (na0 : Nat) (ca0 : Nat) (Aa1 : Option Addr) (na1 : Nat) (ca1 : Nat) (w : World) (Q : Ending → World → Prop) : Prop :=
  Calls Try.prog 9 #[] w fun e1 w2 => ∃ (b3 : Bool), e1 = .returned (.bool b3) ∧ (
  sel (!b3) (
  Q (.returned (.bool false)) w2) (
  Calls Try.prog 10 #[.int .i64 (5 : Int)] w2 fun e4 w5 => ∃ (p6 : Option Addr), e4 = .returned (.pointer p6) ∧ (
  sel p6.isNone (
  Q (.returned (.bool false)) w5) (
  ∃ k123 : Nat, l0 k123 p6 Aa0 na0 ca0 (na0 : Int) (0 : Int) w5 (fun (w27 : World) => ∀ _ : Fr,
  Calls Try.prog 24 #[.pointer p6, .slice none 0 0] w27 fun e28 w29 => e28 = .returned (.tuple #[]) ∧ (
  Calls Try.prog 13 #[.pointer p6] w29 fun e30 w31 => ∃ (A32 : Option Addr) (n32 : Nat) (c32 : Nat), e30 = .returned (.slice A32 n32 c32) ∧ (
  Calls Try.prog 21 #[.pointer p6, .slice A32 n32 c32] w31 fun e33 w34 => e33 = .returned (.tuple #[]) ∧ (
  Calls Try.prog 26 #[.pointer p6] w34 fun e35 w36 => ∃ (A37 : Option Addr) (n37 : Nat) (c37 : Nat), e35 = .returned (.slice A37 n37 c37) ∧ (
  Calls Try.prog 25 #[.slice A37 n37 c37] w36 fun e38 w39 => ∃ (p40 : Option Addr), e38 = .returned (.pointer p40) ∧ (
  sel p40.isNone (
  Q (.returned (.bool false)) w39) (
  Calls Try.prog 12 #[.pointer p40] w39 fun e41 w42 => ∃ (x43 : Int), e41 = .returned (.int .i64 x43) ∧ (
  sel (x43 != (5 : Int)) (
  Q (.returned (.bool false)) w42) (
  Calls Try.prog 14 #[.pointer p40] w42 fun e44 w45 => ∃ (x46 : Int), e44 = .returned (.int .i64 x46) ∧ (
  sel (x46 != (0 : Int)) (
  Q (.returned (.bool false)) w45) (
  ∃ k122 : Nat, l1 k122 p6 p40 Aa1 na1 ca1 (na1 : Int) (0 : Int) w45 (fun (w102 : World) => ∀ _ : Fr,
  Calls Try.prog 26 #[.pointer p40] w102 fun e103 w104 => ∃ (A105 : Option Addr) (n105 : Nat) (c105 : Nat), e103 = .returned (.slice A105 n105 c105) ∧ (
  alW w104 (.cells #[.int .u8 (111 : Int), .int .u8 (116 : Int), .int .u8 (104 : Int), .int .u8 (101 : Int), .int .u8 (114 : Int)] 5) fun B106 w107 =>
  Runs Try.prog (Go.convert 35 35 (.slice (some (⟨B106, 0, Option.none⟩ : Addr)) 5 5)) w107 fun v109 w108 => ∃ (A110 : Option Addr) (n110 : Nat) (c110 : Nat), v109 = (.slice A110 n110 c110) ∧ (
  Calls Try.prog 16 #[.pointer p6, .int .i64 (0 : Int), .slice A110 n110 c110] w108 fun e111 w112 => ∃ (x113 : Int), e111 = .returned (.int .i64 x113) ∧ (
  Calls Try.prog 26 #[.pointer p40] w112 fun e114 w115 => ∃ (A116 : Option Addr) (n116 : Nat) (c116 : Nat), e114 = .returned (.slice A116 n116 c116) ∧ (
  Calls Try.prog 22 #[.slice A116 n116 c116, .slice A105 n105 c105] w115 fun e117 w118 => ∃ (b119 : Bool), e117 = .returned (.bool b119) ∧ (
  Q (.returned (.bool b119)) w118)))))) (fun (b120 : Bool) (w121 : World) => ∀ _ : Fr,
  Q (.returned (.bool b120)) w121))))))))))))))))
def D : Nat → Option DH := dtab []
def l0LO : LO := ⟨[], [], [(0, [1, 5])], []⟩
def l0Tk (k : Nat) : Spec := fun Q σ w =>
  gPtr (σ 5) fun pt5 =>
  gSlice (σ 17) fun At17 nt17 ct17 =>
  gInt .i64 (σ 18) fun xt18 =>
  gInt .i64 (σ 19) fun xt19 =>
  l0 k pt5 At17 nt17 ct17 xt18 xt19 w (fun (w : World) => ∀ d : Fr, Q (.exit 0) (ov d [(1, σ 1), (5, .pointer pt5)]) w)
def l0T : Spec := fun Q σ w => ∃ k, l0Tk k Q σ w
def l0tb : List (List Nat × Spec) := []
noncomputable def l0b : Code := (subC [0, 0, 1, 0, 1, 1, 1, 1] body).getD .skip
theorem l0_eq (k : Nat) (pt5 : Option Addr) (At17 : Option Addr) (nt17 : Nat) (ct17 : Nat) (xt18 : Int) (xt19 : Int) (Q : PQ) (σ : Fr) (w : World) :
    l0 (k + 1) pt5 At17 nt17 ct17 xt18 xt19 w (fun (w : World) => ∀ d : Fr, Q (.exit 0) (ov d [(1, σ 1), (5, .pointer pt5)]) w) = codeW Try.prog hT 96 D (tab l0tb) [0, 0, 1, 0, 1, 1, 1, 1] l0b (thenQ (l0Tk k Q) (widen l0LO Q)) (ov σ [(5, .pointer pt5), (17, .slice At17 nt17 ct17), (18, .int .i64 xt18), (19, .int .i64 xt19)]) w := by kernel_rfl
theorem l0_snd : ∀ c, subC [0, 1, 0, 1, 1, 1, 1] body = some c → Snd Try.prog 96 c l0T := by
  refine loop_of (hT := hT) (D := D) (l := l0tb) (b := l0b) (lo := l0LO) (by kernel_rfl) (by
    intro x hx
    simp only [l0tb, List.not_mem_nil] at hx
    ) (by kernel_rfl) (by kernel_rfl) ?_ ?_
  · intro Q σ w h
    unfold l0Tk at h
    obtain ⟨pt5, h5, hn⟩ := gPtr_elim h
    clear h
    have h := hn
    clear hn
    obtain ⟨At17, nt17, ct17, h17, hn⟩ := gSlice_elim h
    clear h
    have h := hn
    clear hn
    obtain ⟨xt18, h18, hn⟩ := gInt_elim h
    clear h
    have h := hn
    clear hn
    obtain ⟨xt19, h19, hn⟩ := gInt_elim h
    clear h
    have h := hn
    clear hn
    exact h
  · intro k Q σ w h
    unfold l0Tk at h
    obtain ⟨pt5, h5, hn⟩ := gPtr_elim h
    clear h
    have h := hn
    clear hn
    obtain ⟨At17, nt17, ct17, h17, hn⟩ := gSlice_elim h
    clear h
    have h := hn
    clear hn
    obtain ⟨xt18, h18, hn⟩ := gInt_elim h
    clear h
    have h := hn
    clear hn
    obtain ⟨xt19, h19, hn⟩ := gInt_elim h
    clear h
    have h := hn
    clear hn
    rw [l0_eq (σ := σ)] at h
    have e : (ov σ [(5, .pointer pt5), (17, .slice At17 nt17 ct17), (18, .int .i64 xt18), (19, .int .i64 xt19)]) = σ := ov_self (by simp [h5, h17, h18, h19])
    rw [e] at h
    exact h
def l1LO : LO := ⟨[], [4], [(2, [5, 8])], []⟩
def l1Tk (k : Nat) : Spec := fun Q σ w =>
  gPtr (σ 5) fun pt5 =>
  gPtr (σ 8) fun pt8 =>
  gSlice (σ 48) fun At48 nt48 ct48 =>
  gInt .i64 (σ 49) fun xt49 =>
  gInt .i64 (σ 50) fun xt50 =>
  l1 k pt5 pt8 At48 nt48 ct48 xt49 xt50 w (fun (w : World) => ∀ d : Fr, Q (.exit 2) (ov d [(5, .pointer pt5), (8, .pointer pt8)]) w) (fun (bq4 : Bool) (w : World) => ∀ d : Fr, Q .ret (ov d [(4, .bool bq4)]) w)
def l1T : Spec := fun Q σ w => ∃ k, l1Tk k Q σ w
def l1tb : List (List Nat × Spec) := []
noncomputable def l1b : Code := (subC [0, 0, 1, 0, 1, 1, 1, 1, 1, 1, 1, 1, 1] body).getD .skip
theorem l1_eq (k : Nat) (pt5 : Option Addr) (pt8 : Option Addr) (At48 : Option Addr) (nt48 : Nat) (ct48 : Nat) (xt49 : Int) (xt50 : Int) (Q : PQ) (σ : Fr) (w : World) :
    l1 (k + 1) pt5 pt8 At48 nt48 ct48 xt49 xt50 w (fun (w : World) => ∀ d : Fr, Q (.exit 2) (ov d [(5, .pointer pt5), (8, .pointer pt8)]) w) (fun (bq4 : Bool) (w : World) => ∀ d : Fr, Q .ret (ov d [(4, .bool bq4)]) w) = codeW Try.prog hT 96 D (tab l1tb) [0, 0, 1, 0, 1, 1, 1, 1, 1, 1, 1, 1, 1] l1b (thenQ (l1Tk k Q) (widen l1LO Q)) (ov σ [(5, .pointer pt5), (8, .pointer pt8), (48, .slice At48 nt48 ct48), (49, .int .i64 xt49), (50, .int .i64 xt50)]) w := by kernel_rfl
theorem l1_snd : ∀ c, subC [0, 1, 0, 1, 1, 1, 1, 1, 1, 1, 1, 1] body = some c → Snd Try.prog 96 c l1T := by
  refine loop_of (hT := hT) (D := D) (l := l1tb) (b := l1b) (lo := l1LO) (by kernel_rfl) (by
    intro x hx
    simp only [l1tb, List.not_mem_nil] at hx
    ) (by kernel_rfl) (by kernel_rfl) ?_ ?_
  · intro Q σ w h
    unfold l1Tk at h
    obtain ⟨pt5, h5, hn⟩ := gPtr_elim h
    clear h
    have h := hn
    clear hn
    obtain ⟨pt8, h8, hn⟩ := gPtr_elim h
    clear h
    have h := hn
    clear hn
    obtain ⟨At48, nt48, ct48, h48, hn⟩ := gSlice_elim h
    clear h
    have h := hn
    clear hn
    obtain ⟨xt49, h49, hn⟩ := gInt_elim h
    clear h
    have h := hn
    clear hn
    obtain ⟨xt50, h50, hn⟩ := gInt_elim h
    clear h
    have h := hn
    clear hn
    exact h
  · intro k Q σ w h
    unfold l1Tk at h
    obtain ⟨pt5, h5, hn⟩ := gPtr_elim h
    clear h
    have h := hn
    clear hn
    obtain ⟨pt8, h8, hn⟩ := gPtr_elim h
    clear h
    have h := hn
    clear hn
    obtain ⟨At48, nt48, ct48, h48, hn⟩ := gSlice_elim h
    clear h
    have h := hn
    clear hn
    obtain ⟨xt49, h49, hn⟩ := gInt_elim h
    clear h
    have h := hn
    clear hn
    obtain ⟨xt50, h50, hn⟩ := gInt_elim h
    clear h
    have h := hn
    clear hn
    rw [l1_eq (σ := σ)] at h
    have e : (ov σ [(5, .pointer pt5), (8, .pointer pt8), (48, .slice At48 nt48 ct48), (49, .int .i64 xt49), (50, .int .i64 xt50)]) = σ := ov_self (by simp [h5, h8, h48, h49, h50])
    rw [e] at h
    exact h
def tb : List (List Nat × Spec) := [([0, 1, 0, 1, 1, 1, 1], l0T), ([0, 1, 0, 1, 1, 1, 1, 1, 1, 1, 1, 1], l1T)]
theorem wp_eq (Aa0 : Option Addr) (na0 : Nat) (ca0 : Nat) (Aa1 : Option Addr) (na1 : Nat) (ca1 : Nat) (w : World) (Q : Ending → World → Prop) :
    wp Aa0 na0 ca0 Aa1 na1 ca1 w Q = codeW Try.prog hT 96 D (tab tb) [] body (topQ Try.prog hT 96 [.tmp 4] Q) (argsF [.slice Aa0 na0 ca0, .slice Aa1 na1 ca1]) w := by kernel_rfl
theorem ok (Aa0 : Option Addr) (na0 : Nat) (ca0 : Nat) (Aa1 : Option Addr) (na1 : Nat) (ca1 : Nat) (w : World) (Q : Ending → World → Prop) (h : wp Aa0 na0 ca0 Aa1 na1 ca1 w Q) : Calls Try.prog 5 #[.slice Aa0 na0 ca0, .slice Aa1 na1 ca1] w Q := by
  rw [wp_eq] at h
  exact calls_of_codeW (c := body) (rs := [.tmp 4]) Try.func5 (by kernel_rfl) (by kernel_rfl) (by kernel_rfl) (by kernel_rfl) (by kernel_rfl) (tab_snd (by
    intro x hx
    simp only [tb, List.mem_cons, List.not_mem_nil, or_false] at hx
    rcases hx with rfl | rfl
    · exact l0_snd
    · exact l1_snd)) (by kernel_rfl) h
end f_law07_DiskLoad
end Go.Proofs.Ythekjlglnmhlaaa.Rd
