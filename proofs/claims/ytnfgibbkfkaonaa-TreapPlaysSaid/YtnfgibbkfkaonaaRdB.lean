/- The printed readings of some functions: each function's code reckoned by the kernel to its predicate transformer. -/
import Derived.Test.YtnfgibbkfkaonaaHint
namespace Go.Proofs.Ytnfgibbkfkaonaa.Rd
open Go.Dn
set_option maxRecDepth 100000
set_option linter.unusedVariables false
namespace f_ref15_Bad
/-! skein/skeinref15.Bad: function 28 -/
noncomputable def body : Code := (Try.f28.body).getD .skip
def wp (Aa0_0 : Option Addr) (na0_0 : Nat) (ca0_0 : Nat) (Aa0_1 : Option Addr) (na0_1 : Nat) (ca0_1 : Nat) (Aa0_2 : Option Addr) (na0_2 : Nat) (ca0_2 : Nat) (xa1 : Int) (w : World) (Q : Ending → World → Prop) : Prop :=
  alW w (.cells #[.slice Aa0_0 na0_0 ca0_0, .slice Aa0_1 na0_1 ca0_1, .slice Aa0_2 na0_2 ca0_2] 34) fun B1 w2 =>
  sel (decide (xa1 < (1 : Int))) (
  Q (.returned (.bool true)) w2) (
  ldS w2 ((⟨B1, 0, Option.none⟩ : Addr).add 1) fun A3 n3 c3 =>
  Q (.returned (.bool (decide (xa1 > (n3 : Int))))) w2)
def D : Nat → Option DH := dtab []
def tb : List (List Nat × Spec) := []
theorem wp_eq (Aa0_0 : Option Addr) (na0_0 : Nat) (ca0_0 : Nat) (Aa0_1 : Option Addr) (na0_1 : Nat) (ca0_1 : Nat) (Aa0_2 : Option Addr) (na0_2 : Nat) (ca0_2 : Nat) (xa1 : Int) (w : World) (Q : Ending → World → Prop) :
    wp Aa0_0 na0_0 ca0_0 Aa0_1 na0_1 ca0_1 Aa0_2 na0_2 ca0_2 xa1 w Q = codeW Try.prog hT 14 D (tab tb) [] body (topQ Try.prog hT 14 [.tmp 4] Q) (argsF [.agg #[.slice Aa0_0 na0_0 ca0_0, .slice Aa0_1 na0_1 ca0_1, .slice Aa0_2 na0_2 ca0_2], .int .i64 xa1]) w := by kernel_rfl
theorem ok (Aa0_0 : Option Addr) (na0_0 : Nat) (ca0_0 : Nat) (Aa0_1 : Option Addr) (na0_1 : Nat) (ca0_1 : Nat) (Aa0_2 : Option Addr) (na0_2 : Nat) (ca0_2 : Nat) (xa1 : Int) (w : World) (Q : Ending → World → Prop) (h : wp Aa0_0 na0_0 ca0_0 Aa0_1 na0_1 ca0_1 Aa0_2 na0_2 ca0_2 xa1 w Q) : Calls Try.prog 28 #[.agg #[.slice Aa0_0 na0_0 ca0_0, .slice Aa0_1 na0_1 ca0_1, .slice Aa0_2 na0_2 ca0_2], .int .i64 xa1] w Q := by
  rw [wp_eq] at h
  exact calls_of_codeW (c := body) (rs := [.tmp 4]) Try.func28 (by kernel_rfl) (by kernel_rfl) (by kernel_rfl) (by kernel_rfl) (by kernel_rfl) (tab_snd (by
    intro x hx
    simp only [tb, List.not_mem_nil] at hx
    )) (by kernel_rfl) h
end f_ref15_Bad
namespace f_ref15_Make
/-! skein/skeinref15.Make: function 29 -/
noncomputable def body : Code := (Try.f29.body).getD .skip
def l0 : Nat → Addr → Addr → Int → World → (World → Prop) → Prop
  | 0, _, _, _, _, _ => False
  | k + 1, at3, at7, xt8, w, K0 =>
    ldS w (at3.add 1) fun A10 n10 c10 =>
    sel (decide (xt8 < (n10 : Int))) (
    drW w fun w11 =>
    ∃ S12 : World → Prop, S12 w11 ∧ (
    hdS S12 (at7.add 1) fun A13 n13 c13 =>
    hdS S12 (at3.add 1) fun A14 n14 c14 =>
    optB A14 fun a15 =>
    req (decide (0 ≤ xt8 ∧ xt8 < (n14 : Int))) <|
    hdI S12 (a15.add (xt8.toNat * 1)) .i64 fun x16 =>
    alW w11 (.cells #[.int .i64 x16] 2) fun B17 w18 =>
    S12 w18 ∧ (
    Runs Try.prog (Builtin.append_ #[32, 32] 32 #[.slice A13 n13 c13, .slice (some (⟨B17, 0, Option.none⟩ : Addr)) 1 1]) w18 fun v20 w19 => ∃ (A21 : Option Addr) (n21 : Nat) (c21 : Nat), v20 = (.slice A21 n21 c21) ∧ (
    stW w19 (at7.add 1) (.slice A21 n21 c21) fun w22 =>
    drW w22 fun w23 =>
    ∃ S24 : World → Prop, S24 w23 ∧ (
    hdS S24 (at7.add 2) fun A25 n25 c25 =>
    hdS S24 (at3.add 2) fun A26 n26 c26 =>
    optB A26 fun a27 =>
    req (decide (0 ≤ xt8 ∧ xt8 < (n26 : Int))) <|
    hdI S24 (a27.add (xt8.toNat * 1)) .i64 fun x28 =>
    alW w23 (.cells #[.int .i64 x28] 3) fun B29 w30 =>
    S24 w30 ∧ (
    Runs Try.prog (Builtin.append_ #[22, 22] 22 #[.slice A25 n25 c25, .slice (some (⟨B29, 0, Option.none⟩ : Addr)) 1 1]) w30 fun v32 w31 => ∃ (A33 : Option Addr) (n33 : Nat) (c33 : Nat), v32 = (.slice A33 n33 c33) ∧ (
    stW w31 (at7.add 2) (.slice A33 n33 c33) fun w34 =>
    l0 k at3 at7 (IntKind.i64.wrap (xt8 + (1 : Int))) w34 K0))))))) (
    K0  w)
def l1 : Nat → Addr → Addr → Int → World → (World → Prop) → Prop
  | 0, _, _, _, _, _ => False
  | k + 1, at3, at7, xt9, w, K2 =>
    ldS w at3 fun A50 n50 c50 =>
    sel (decide (xt9 < (n50 : Int))) (
    drW w fun w51 =>
    ∃ S52 : World → Prop, S52 w51 ∧ (
    hdS S52 at7 fun A53 n53 c53 =>
    hdS S52 at3 fun A54 n54 c54 =>
    optB A54 fun a55 =>
    req (decide (0 ≤ xt9 ∧ xt9 < (n54 : Int))) <|
    hdS S52 (a55.add (xt9.toNat * 1)) fun A56 n56 c56 =>
    alW w51 (.cells #[.slice A56 n56 c56] 22) fun B57 w58 =>
    S52 w58 ∧ (
    Runs Try.prog (Builtin.append_ #[31, 31] 31 #[.slice A53 n53 c53, .slice (some (⟨B57, 0, Option.none⟩ : Addr)) 1 1]) w58 fun v60 w59 => ∃ (A61 : Option Addr) (n61 : Nat) (c61 : Nat), v60 = (.slice A61 n61 c61) ∧ (
    stW w59 at7 (.slice A61 n61 c61) fun w62 =>
    l1 k at3 at7 (IntKind.i64.wrap (xt9 + (1 : Int))) w62 K2)))) (
    K2  w)
def wp (Aa0_0 : Option Addr) (na0_0 : Nat) (ca0_0 : Nat) (Aa0_1 : Option Addr) (na0_1 : Nat) (ca0_1 : Nat) (Aa0_2 : Option Addr) (na0_2 : Nat) (ca0_2 : Nat) (xa1 : Int) (xa2 : Int) (w : World) (Q : Ending → World → Prop) : Prop :=
  alW w (.cells #[.slice Aa0_0 na0_0 ca0_0, .slice Aa0_1 na0_1 ca0_1, .slice Aa0_2 na0_2 ca0_2] 34) fun B1 w2 =>
  alW w2 (.cells #[.slice none 0 0, .slice none 0 0, .slice none 0 0] 34) fun B3 w4 =>
  alW w4 (.cells #[.slice none 0 0, .slice none 0 0, .slice none 0 0] 34) fun B5 w6 =>
  stW w6 (⟨B5, 0, Option.none⟩ : Addr) (.slice none 0 0) fun w7 =>
  stW w7 ((⟨B5, 0, Option.none⟩ : Addr).add 1) (.slice none 0 0) fun w8 =>
  stW w8 ((⟨B5, 0, Option.none⟩ : Addr).add 2) (.slice none 0 0) fun w9 =>
  ∃ k84 : Nat, l0 k84 (⟨B1, 0, Option.none⟩ : Addr) (⟨B5, 0, Option.none⟩ : Addr) (0 : Int) w9 (fun (w35 : World) => ∀ _ : Fr,
  ldS w35 ((⟨B5, 0, Option.none⟩ : Addr).add 1) fun A36 n36 c36 =>
  alW w35 (.cells #[.int .i64 xa1] 2) fun B37 w38 =>
  Runs Try.prog (Builtin.append_ #[32, 32] 32 #[.slice A36 n36 c36, .slice (some (⟨B37, 0, Option.none⟩ : Addr)) 1 1]) w38 fun v40 w39 => ∃ (A41 : Option Addr) (n41 : Nat) (c41 : Nat), v40 = (.slice A41 n41 c41) ∧ (
  stW w39 ((⟨B5, 0, Option.none⟩ : Addr).add 1) (.slice A41 n41 c41) fun w42 =>
  ldS w42 ((⟨B5, 0, Option.none⟩ : Addr).add 2) fun A43 n43 c43 =>
  alW w42 (.cells #[.int .i64 xa2] 3) fun B44 w45 =>
  Runs Try.prog (Builtin.append_ #[22, 22] 22 #[.slice A43 n43 c43, .slice (some (⟨B44, 0, Option.none⟩ : Addr)) 1 1]) w45 fun v47 w46 => ∃ (A48 : Option Addr) (n48 : Nat) (c48 : Nat), v47 = (.slice A48 n48 c48) ∧ (
  stW w46 ((⟨B5, 0, Option.none⟩ : Addr).add 2) (.slice A48 n48 c48) fun w49 =>
  ∃ k83 : Nat, l1 k83 (⟨B1, 0, Option.none⟩ : Addr) (⟨B5, 0, Option.none⟩ : Addr) (0 : Int) w49 (fun (w63 : World) => ∀ _ : Fr,
  ldS w63 (⟨B5, 0, Option.none⟩ : Addr) fun A64 n64 c64 =>
  ldS w63 ((⟨B5, 0, Option.none⟩ : Addr).add 1) fun A65 n65 c65 =>
  alW w63 (.cells #[.int .i64 (n65 : Int)] 3) fun B66 w67 =>
  alW w67 (.cells #[.slice (some (⟨B66, 0, Option.none⟩ : Addr)) 1 1] 22) fun B68 w69 =>
  Runs Try.prog (Builtin.append_ #[31, 31] 31 #[.slice A64 n64 c64, .slice (some (⟨B68, 0, Option.none⟩ : Addr)) 1 1]) w69 fun v71 w70 => ∃ (A72 : Option Addr) (n72 : Nat) (c72 : Nat), v71 = (.slice A72 n72 c72) ∧ (
  stW w70 (⟨B5, 0, Option.none⟩ : Addr) (.slice A72 n72 c72) fun w73 =>
  ldS w73 (⟨B5, 0, Option.none⟩ : Addr) fun A74 n74 c74 =>
  ldS w73 ((⟨B5, 0, Option.none⟩ : Addr).add 1) fun A75 n75 c75 =>
  ldS w73 ((⟨B5, 0, Option.none⟩ : Addr).add 2) fun A76 n76 c76 =>
  stW w73 (⟨B3, 0, Option.none⟩ : Addr) (.slice A74 n74 c74) fun w77 =>
  stW w77 ((⟨B3, 0, Option.none⟩ : Addr).add 1) (.slice A75 n75 c75) fun w78 =>
  stW w78 ((⟨B3, 0, Option.none⟩ : Addr).add 2) (.slice A76 n76 c76) fun w79 =>
  ldS w79 (⟨B3, 0, Option.none⟩ : Addr) fun A80 n80 c80 =>
  ldS w79 ((⟨B3, 0, Option.none⟩ : Addr).add 1) fun A81 n81 c81 =>
  ldS w79 ((⟨B3, 0, Option.none⟩ : Addr).add 2) fun A82 n82 c82 =>
  Q (.returned (.agg #[.slice A80 n80 c80, .slice A81 n81 c81, .slice A82 n82 c82])) w79)))))
def D : Nat → Option DH := dtab [(5, .held [.fst 0, .fst 1, .fst 2, .fst 3, .fst 4, .fst 5, .fst 6, .eff 7] [.eff 8, .fst 9, .eff 10]), (6, .held [.fst 0, .fst 1, .fst 2, .fst 3, .fst 4, .fst 5, .fst 6, .eff 7] [.eff 8, .fst 9, .eff 10]), (12, .held [.fst 0, .fst 1, .fst 2, .fst 3, .fst 4, .fst 5, .fst 6, .eff 7] [.eff 8, .fst 9, .eff 10])]
def l0LO : LO := ⟨[], [], [(0, [1, 2, 3, 6, 7])], []⟩
def l0Tk (k : Nat) : Spec := fun Q σ w =>
  gAd (σ 3) fun at3 =>
  gAd (σ 7) fun at7 =>
  gInt .i64 (σ 8) fun xt8 =>
  l0 k at3 at7 xt8 w (fun (w : World) => ∀ d : Fr, Q (.exit 0) (ov d [(1, σ 1), (2, σ 2), (3, .pointer (some at3)), (6, σ 6), (7, .pointer (some at7))]) w)
def l0T : Spec := fun Q σ w => ∃ k, l0Tk k Q σ w
def l0tb : List (List Nat × Spec) := []
noncomputable def l0b : Code := (subC [0, 0, 1, 0, 1, 1] body).getD .skip
theorem l0_eq (k : Nat) (at3 : Addr) (at7 : Addr) (xt8 : Int) (Q : PQ) (σ : Fr) (w : World) :
    l0 (k + 1) at3 at7 xt8 w (fun (w : World) => ∀ d : Fr, Q (.exit 0) (ov d [(1, σ 1), (2, σ 2), (3, .pointer (some at3)), (6, σ 6), (7, .pointer (some at7))]) w) = codeW Try.prog hT 77 D (tab l0tb) [0, 0, 1, 0, 1, 1] l0b (thenQ (l0Tk k Q) (widen l0LO Q)) (ov σ [(3, .pointer (some at3)), (7, .pointer (some at7)), (8, .int .i64 xt8)]) w := by kernel_rfl
theorem l0_snd : ∀ c, subC [0, 1, 0, 1, 1] body = some c → Snd Try.prog 77 c l0T := by
  refine loop_of (hT := hT) (D := D) (l := l0tb) (b := l0b) (lo := l0LO) (by kernel_rfl) (by
    intro x hx
    simp only [l0tb, List.not_mem_nil] at hx
    ) (by kernel_rfl) (by kernel_rfl) ?_ ?_
  · intro Q σ w h
    unfold l0Tk at h
    obtain ⟨at3, h3, hn⟩ := gAd_elim h
    clear h
    have h := hn
    clear hn
    obtain ⟨at7, h7, hn⟩ := gAd_elim h
    clear h
    have h := hn
    clear hn
    obtain ⟨xt8, h8, hn⟩ := gInt_elim h
    clear h
    have h := hn
    clear hn
    exact h
  · intro k Q σ w h
    unfold l0Tk at h
    obtain ⟨at3, h3, hn⟩ := gAd_elim h
    clear h
    have h := hn
    clear hn
    obtain ⟨at7, h7, hn⟩ := gAd_elim h
    clear h
    have h := hn
    clear hn
    obtain ⟨xt8, h8, hn⟩ := gInt_elim h
    clear h
    have h := hn
    clear hn
    rw [l0_eq (σ := σ)] at h
    have e : (ov σ [(3, .pointer (some at3)), (7, .pointer (some at7)), (8, .int .i64 xt8)]) = σ := ov_self (by simp [h3, h7, h8])
    rw [e] at h
    exact h
def l1LO : LO := ⟨[], [], [(2, [6, 7])], []⟩
def l1Tk (k : Nat) : Spec := fun Q σ w =>
  gAd (σ 3) fun at3 =>
  gAd (σ 7) fun at7 =>
  gInt .i64 (σ 9) fun xt9 =>
  l1 k at3 at7 xt9 w (fun (w : World) => ∀ d : Fr, Q (.exit 2) (ov d [(6, σ 6), (7, .pointer (some at7))]) w)
def l1T : Spec := fun Q σ w => ∃ k, l1Tk k Q σ w
def l1tb : List (List Nat × Spec) := []
noncomputable def l1b : Code := (subC [0, 0, 1, 0, 1, 1, 1, 1, 1] body).getD .skip
theorem l1_eq (k : Nat) (at3 : Addr) (at7 : Addr) (xt9 : Int) (Q : PQ) (σ : Fr) (w : World) :
    l1 (k + 1) at3 at7 xt9 w (fun (w : World) => ∀ d : Fr, Q (.exit 2) (ov d [(6, σ 6), (7, .pointer (some at7))]) w) = codeW Try.prog hT 77 D (tab l1tb) [0, 0, 1, 0, 1, 1, 1, 1, 1] l1b (thenQ (l1Tk k Q) (widen l1LO Q)) (ov σ [(3, .pointer (some at3)), (7, .pointer (some at7)), (9, .int .i64 xt9)]) w := by kernel_rfl
theorem l1_snd : ∀ c, subC [0, 1, 0, 1, 1, 1, 1, 1] body = some c → Snd Try.prog 77 c l1T := by
  refine loop_of (hT := hT) (D := D) (l := l1tb) (b := l1b) (lo := l1LO) (by kernel_rfl) (by
    intro x hx
    simp only [l1tb, List.not_mem_nil] at hx
    ) (by kernel_rfl) (by kernel_rfl) ?_ ?_
  · intro Q σ w h
    unfold l1Tk at h
    obtain ⟨at3, h3, hn⟩ := gAd_elim h
    clear h
    have h := hn
    clear hn
    obtain ⟨at7, h7, hn⟩ := gAd_elim h
    clear h
    have h := hn
    clear hn
    obtain ⟨xt9, h9, hn⟩ := gInt_elim h
    clear h
    have h := hn
    clear hn
    exact h
  · intro k Q σ w h
    unfold l1Tk at h
    obtain ⟨at3, h3, hn⟩ := gAd_elim h
    clear h
    have h := hn
    clear hn
    obtain ⟨at7, h7, hn⟩ := gAd_elim h
    clear h
    have h := hn
    clear hn
    obtain ⟨xt9, h9, hn⟩ := gInt_elim h
    clear h
    have h := hn
    clear hn
    rw [l1_eq (σ := σ)] at h
    have e : (ov σ [(3, .pointer (some at3)), (7, .pointer (some at7)), (9, .int .i64 xt9)]) = σ := ov_self (by simp [h3, h7, h9])
    rw [e] at h
    exact h
def tb : List (List Nat × Spec) := [([0, 1, 0, 1, 1], l0T), ([0, 1, 0, 1, 1, 1, 1, 1], l1T)]
theorem wp_eq (Aa0_0 : Option Addr) (na0_0 : Nat) (ca0_0 : Nat) (Aa0_1 : Option Addr) (na0_1 : Nat) (ca0_1 : Nat) (Aa0_2 : Option Addr) (na0_2 : Nat) (ca0_2 : Nat) (xa1 : Int) (xa2 : Int) (w : World) (Q : Ending → World → Prop) :
    wp Aa0_0 na0_0 ca0_0 Aa0_1 na0_1 ca0_1 Aa0_2 na0_2 ca0_2 xa1 xa2 w Q = codeW Try.prog hT 77 D (tab tb) [] body (topQ Try.prog hT 77 [.cell 6 34] Q) (argsF [.agg #[.slice Aa0_0 na0_0 ca0_0, .slice Aa0_1 na0_1 ca0_1, .slice Aa0_2 na0_2 ca0_2], .int .i64 xa1, .int .i64 xa2]) w := by kernel_rfl
theorem ok (Aa0_0 : Option Addr) (na0_0 : Nat) (ca0_0 : Nat) (Aa0_1 : Option Addr) (na0_1 : Nat) (ca0_1 : Nat) (Aa0_2 : Option Addr) (na0_2 : Nat) (ca0_2 : Nat) (xa1 : Int) (xa2 : Int) (w : World) (Q : Ending → World → Prop) (h : wp Aa0_0 na0_0 ca0_0 Aa0_1 na0_1 ca0_1 Aa0_2 na0_2 ca0_2 xa1 xa2 w Q) : Calls Try.prog 29 #[.agg #[.slice Aa0_0 na0_0 ca0_0, .slice Aa0_1 na0_1 ca0_1, .slice Aa0_2 na0_2 ca0_2], .int .i64 xa1, .int .i64 xa2] w Q := by
  rw [wp_eq] at h
  exact calls_of_codeW (c := body) (rs := [.cell 6 34]) Try.func29 (by kernel_rfl) (by kernel_rfl) (by kernel_rfl) (by kernel_rfl) (by kernel_rfl) (tab_snd (by
    intro x hx
    simp only [tb, List.mem_cons, List.not_mem_nil, or_false] at hx
    rcases hx with rfl | rfl
    · exact l0_snd
    · exact l1_snd)) (by kernel_rfl) h
end f_ref15_Make
namespace f_ref15_Row
/-! skein/skeinref15.Row: function 30 -/
noncomputable def body : Code := (Try.f30.body).getD .skip
def l0 : Nat → Int → Addr → Int → World → (World → Prop) → (Int → World → Prop) → Prop
  | 0, _, _, _, _, _, _ => False
  | k + 1, xt1, at2, xt5, w, K0, Kr =>
    ldS w at2 fun A3 n3 c3 =>
    sel (decide (xt5 < (n3 : Int))) (
    ldS w at2 fun A4 n4 c4 =>
    optB A4 fun a5 =>
    req (decide (0 ≤ xt5 ∧ xt5 < (n4 : Int))) <|
    ldS w (a5.add (xt5.toNat * 1)) fun A6 n6 c6 =>
    Calls Try.prog 43 #[.slice A6 n6 c6, .int .i64 xt1] w fun e7 w8 => ∃ (b9 : Bool), e7 = .returned (.bool b9) ∧ (
    sel b9 (
    Kr xt5 w8) (
    l0 k xt1 at2 (IntKind.i64.wrap (xt5 + (1 : Int))) w8 K0 Kr))) (
    K0  w)
def wp (Aa0_0 : Option Addr) (na0_0 : Nat) (ca0_0 : Nat) (Aa0_1 : Option Addr) (na0_1 : Nat) (ca0_1 : Nat) (Aa0_2 : Option Addr) (na0_2 : Nat) (ca0_2 : Nat) (xa1 : Int) (w : World) (Q : Ending → World → Prop) : Prop :=
  alW w (.cells #[.slice Aa0_0 na0_0 ca0_0, .slice Aa0_1 na0_1 ca0_1, .slice Aa0_2 na0_2 ca0_2] 34) fun B1 w2 =>
  ∃ k13 : Nat, l0 k13 xa1 (⟨B1, 0, Option.none⟩ : Addr) (0 : Int) w2 (fun (w10 : World) => ∀ _ : Fr,
  Q (.returned (.int .i64 (-1 : Int))) w10) (fun (x11 : Int) (w12 : World) => ∀ _ : Fr,
  Q (.returned (.int .i64 x11)) w12)
def D : Nat → Option DH := dtab []
def l0LO : LO := ⟨[], [4], [(0, [])], []⟩
def l0Tk (k : Nat) : Spec := fun Q σ w =>
  gInt .i64 (σ 1) fun xt1 =>
  gAd (σ 2) fun at2 =>
  gInt .i64 (σ 5) fun xt5 =>
  l0 k xt1 at2 xt5 w (fun (w : World) => ∀ d : Fr, Q (.exit 0) (ov d []) w) (fun (xq4 : Int) (w : World) => ∀ d : Fr, Q .ret (ov d [(4, .int .i64 xq4)]) w)
def l0T : Spec := fun Q σ w => ∃ k, l0Tk k Q σ w
def l0tb : List (List Nat × Spec) := []
noncomputable def l0b : Code := (subC [0, 0, 1, 0, 1] body).getD .skip
theorem l0_eq (k : Nat) (xt1 : Int) (at2 : Addr) (xt5 : Int) (Q : PQ) (σ : Fr) (w : World) :
    l0 (k + 1) xt1 at2 xt5 w (fun (w : World) => ∀ d : Fr, Q (.exit 0) (ov d []) w) (fun (xq4 : Int) (w : World) => ∀ d : Fr, Q .ret (ov d [(4, .int .i64 xq4)]) w) = codeW Try.prog hT 21 D (tab l0tb) [0, 0, 1, 0, 1] l0b (thenQ (l0Tk k Q) (widen l0LO Q)) (ov σ [(1, .int .i64 xt1), (2, .pointer (some at2)), (5, .int .i64 xt5)]) w := by kernel_rfl
theorem l0_snd : ∀ c, subC [0, 1, 0, 1] body = some c → Snd Try.prog 21 c l0T := by
  refine loop_of (hT := hT) (D := D) (l := l0tb) (b := l0b) (lo := l0LO) (by kernel_rfl) (by
    intro x hx
    simp only [l0tb, List.not_mem_nil] at hx
    ) (by kernel_rfl) (by kernel_rfl) ?_ ?_
  · intro Q σ w h
    unfold l0Tk at h
    obtain ⟨xt1, h1, hn⟩ := gInt_elim h
    clear h
    have h := hn
    clear hn
    obtain ⟨at2, h2, hn⟩ := gAd_elim h
    clear h
    have h := hn
    clear hn
    obtain ⟨xt5, h5, hn⟩ := gInt_elim h
    clear h
    have h := hn
    clear hn
    exact h
  · intro k Q σ w h
    unfold l0Tk at h
    obtain ⟨xt1, h1, hn⟩ := gInt_elim h
    clear h
    have h := hn
    clear hn
    obtain ⟨at2, h2, hn⟩ := gAd_elim h
    clear h
    have h := hn
    clear hn
    obtain ⟨xt5, h5, hn⟩ := gInt_elim h
    clear h
    have h := hn
    clear hn
    rw [l0_eq (σ := σ)] at h
    have e : (ov σ [(1, .int .i64 xt1), (2, .pointer (some at2)), (5, .int .i64 xt5)]) = σ := ov_self (by simp [h1, h2, h5])
    rw [e] at h
    exact h
def tb : List (List Nat × Spec) := [([0, 1, 0, 1], l0T)]
theorem wp_eq (Aa0_0 : Option Addr) (na0_0 : Nat) (ca0_0 : Nat) (Aa0_1 : Option Addr) (na0_1 : Nat) (ca0_1 : Nat) (Aa0_2 : Option Addr) (na0_2 : Nat) (ca0_2 : Nat) (xa1 : Int) (w : World) (Q : Ending → World → Prop) :
    wp Aa0_0 na0_0 ca0_0 Aa0_1 na0_1 ca0_1 Aa0_2 na0_2 ca0_2 xa1 w Q = codeW Try.prog hT 21 D (tab tb) [] body (topQ Try.prog hT 21 [.tmp 4] Q) (argsF [.agg #[.slice Aa0_0 na0_0 ca0_0, .slice Aa0_1 na0_1 ca0_1, .slice Aa0_2 na0_2 ca0_2], .int .i64 xa1]) w := by kernel_rfl
theorem ok (Aa0_0 : Option Addr) (na0_0 : Nat) (ca0_0 : Nat) (Aa0_1 : Option Addr) (na0_1 : Nat) (ca0_1 : Nat) (Aa0_2 : Option Addr) (na0_2 : Nat) (ca0_2 : Nat) (xa1 : Int) (w : World) (Q : Ending → World → Prop) (h : wp Aa0_0 na0_0 ca0_0 Aa0_1 na0_1 ca0_1 Aa0_2 na0_2 ca0_2 xa1 w Q) : Calls Try.prog 30 #[.agg #[.slice Aa0_0 na0_0 ca0_0, .slice Aa0_1 na0_1 ca0_1, .slice Aa0_2 na0_2 ca0_2], .int .i64 xa1] w Q := by
  rw [wp_eq] at h
  exact calls_of_codeW (c := body) (rs := [.tmp 4]) Try.func30 (by kernel_rfl) (by kernel_rfl) (by kernel_rfl) (by kernel_rfl) (by kernel_rfl) (tab_snd (by
    intro x hx
    simp only [tb, List.mem_cons, List.not_mem_nil, or_false] at hx
    subst hx
    exact l0_snd)) (by kernel_rfl) h
end f_ref15_Row
namespace f_ref15_Join
/-! skein/skeinref15.Join: function 31 -/
noncomputable def body : Code := (Try.f31.body).getD .skip
def l0 : Nat → Addr → Int → Int → Option Addr → Nat → Nat → Int → World → ((Option Addr) → Nat → Nat → World → Prop) → Prop
  | 0, _, _, _, _, _, _, _, _, _ => False
  | k + 1, at3, xt7, xt8, At9, nt9, ct9, xt10, w, K0 =>
    ldS w at3 fun A21 n21 c21 =>
    sel (decide (xt10 < (n21 : Int))) (
    sel (xt10 != xt7) (
    sel (xt10 != xt8) (
    ldS w at3 fun A22 n22 c22 =>
    optB A22 fun a23 =>
    req (decide (0 ≤ xt10 ∧ xt10 < (n22 : Int))) <|
    ldS w (a23.add (xt10.toNat * 1)) fun A24 n24 c24 =>
    alW w (.cells #[.slice A24 n24 c24] 22) fun B25 w26 =>
    Runs Try.prog (Builtin.append_ #[31, 31] 31 #[.slice At9 nt9 ct9, .slice (some (⟨B25, 0, Option.none⟩ : Addr)) 1 1]) w26 fun v28 w27 => ∃ (A29 : Option Addr) (n29 : Nat) (c29 : Nat), v28 = (.slice A29 n29 c29) ∧ (
    l0 k at3 xt7 xt8 A29 n29 c29 (IntKind.i64.wrap (xt10 + (1 : Int))) w27 K0)) (
    l0 k at3 xt7 xt8 At9 nt9 ct9 (IntKind.i64.wrap (xt10 + (1 : Int))) w K0)) (
    l0 k at3 xt7 xt8 At9 nt9 ct9 (IntKind.i64.wrap (xt10 + (1 : Int))) w K0)) (
    K0 At9 nt9 ct9 w)
def l1 : Nat → Addr → Int → Option Addr → Nat → Nat → Int → World → ((Option Addr) → Nat → Nat → World → Prop) → Prop
  | 0, _, _, _, _, _, _, _, _ => False
  | k + 1, at3, xt8, At11, nt11, ct11, xt12, w, K2 =>
    ldS w at3 fun A38 n38 c38 =>
    optB A38 fun a39 =>
    req (decide (0 ≤ xt8 ∧ xt8 < (n38 : Int))) <|
    ldS w (a39.add (xt8.toNat * 1)) fun A40 n40 c40 =>
    sel (decide (xt12 < (n40 : Int))) (
    ldS w at3 fun A41 n41 c41 =>
    optB A41 fun a42 =>
    req (decide (0 ≤ xt8 ∧ xt8 < (n41 : Int))) <|
    ldS w (a42.add (xt8.toNat * 1)) fun A43 n43 c43 =>
    optB A43 fun a44 =>
    req (decide (0 ≤ xt12 ∧ xt12 < (n43 : Int))) <|
    ldI w (a44.add (xt12.toNat * 1)) .i64 fun x45 =>
    alW w (.cells #[.int .i64 x45] 3) fun B46 w47 =>
    Runs Try.prog (Builtin.append_ #[22, 22] 22 #[.slice At11 nt11 ct11, .slice (some (⟨B46, 0, Option.none⟩ : Addr)) 1 1]) w47 fun v49 w48 => ∃ (A50 : Option Addr) (n50 : Nat) (c50 : Nat), v49 = (.slice A50 n50 c50) ∧ (
    l1 k at3 xt8 A50 n50 c50 (IntKind.i64.wrap (xt12 + (1 : Int))) w48 K2)) (
    K2 At11 nt11 ct11 w)
def wp (Aa0_0 : Option Addr) (na0_0 : Nat) (ca0_0 : Nat) (Aa0_1 : Option Addr) (na0_1 : Nat) (ca0_1 : Nat) (Aa0_2 : Option Addr) (na0_2 : Nat) (ca0_2 : Nat) (xa1 : Int) (xa2 : Int) (w : World) (Q : Ending → World → Prop) : Prop :=
  alW w (.cells #[.slice Aa0_0 na0_0 ca0_0, .slice Aa0_1 na0_1 ca0_1, .slice Aa0_2 na0_2 ca0_2] 34) fun B1 w2 =>
  alW w2 (.cells #[.slice none 0 0, .slice none 0 0, .slice none 0 0] 34) fun B3 w4 =>
  drW w4 fun w5 =>
  ∃ S6 : World → Prop, S6 w5 ∧ (
  hdS S6 (⟨B1, 0, Option.none⟩ : Addr) fun A7 n7 c7 =>
  hdS S6 ((⟨B1, 0, Option.none⟩ : Addr).add 1) fun A8 n8 c8 =>
  hdS S6 ((⟨B1, 0, Option.none⟩ : Addr).add 2) fun A9 n9 c9 =>
  hdS S6 (⟨B1, 0, Option.none⟩ : Addr) fun A10 n10 c10 =>
  hdS S6 ((⟨B1, 0, Option.none⟩ : Addr).add 1) fun A11 n11 c11 =>
  hdS S6 ((⟨B1, 0, Option.none⟩ : Addr).add 2) fun A12 n12 c12 =>
  Calls Try.prog 30 #[.agg #[.slice A7 n7 c7, .slice A8 n8 c8, .slice A9 n9 c9], .int .i64 xa1] w5 fun e13 w14 => ∃ (x15 : Int), e13 = .returned (.int .i64 x15) ∧ (
  S6 w14 ∧ (
  Calls Try.prog 30 #[.agg #[.slice A10 n10 c10, .slice A11 n11 c11, .slice A12 n12 c12], .int .i64 xa2] w14 fun e16 w17 => ∃ (x18 : Int), e16 = .returned (.int .i64 x18) ∧ (
  alW w17 (.cells #[] 22) fun B19 w20 =>
  ∃ k69 : Nat, l0 k69 (⟨B1, 0, Option.none⟩ : Addr) x15 x18 (some (⟨B19, 0, Option.none⟩ : Addr)) 0 0 (0 : Int) w20 (fun (A30 : Option Addr) (n30 : Nat) (c30 : Nat) (w31 : World) => ∀ _ : Fr,
  ldS w31 (⟨B1, 0, Option.none⟩ : Addr) fun A32 n32 c32 =>
  optB A32 fun a33 =>
  req (decide (0 ≤ x15 ∧ x15 < (n32 : Int))) <|
  ldS w31 (a33.add (x15.toNat * 1)) fun A34 n34 c34 =>
  Calls Try.prog 18 #[.slice A34 n34 c34] w31 fun e35 w36 => ∃ (A37 : Option Addr) (n37 : Nat) (c37 : Nat), e35 = .returned (.slice A37 n37 c37) ∧ (
  ∃ k68 : Nat, l1 k68 (⟨B1, 0, Option.none⟩ : Addr) x18 A37 n37 c37 (0 : Int) w36 (fun (A51 : Option Addr) (n51 : Nat) (c51 : Nat) (w52 : World) => ∀ _ : Fr,
  alW w52 (.cells #[.slice A51 n51 c51] 22) fun B53 w54 =>
  Runs Try.prog (Builtin.append_ #[31, 31] 31 #[.slice A30 n30 c30, .slice (some (⟨B53, 0, Option.none⟩ : Addr)) 1 1]) w54 fun v56 w55 => ∃ (A57 : Option Addr) (n57 : Nat) (c57 : Nat), v56 = (.slice A57 n57 c57) ∧ (
  stW w55 (⟨B1, 0, Option.none⟩ : Addr) (.slice A57 n57 c57) fun w58 =>
  ldS w58 (⟨B1, 0, Option.none⟩ : Addr) fun A59 n59 c59 =>
  ldS w58 ((⟨B1, 0, Option.none⟩ : Addr).add 1) fun A60 n60 c60 =>
  ldS w58 ((⟨B1, 0, Option.none⟩ : Addr).add 2) fun A61 n61 c61 =>
  stW w58 (⟨B3, 0, Option.none⟩ : Addr) (.slice A59 n59 c59) fun w62 =>
  stW w62 ((⟨B3, 0, Option.none⟩ : Addr).add 1) (.slice A60 n60 c60) fun w63 =>
  stW w63 ((⟨B3, 0, Option.none⟩ : Addr).add 2) (.slice A61 n61 c61) fun w64 =>
  ldS w64 (⟨B3, 0, Option.none⟩ : Addr) fun A65 n65 c65 =>
  ldS w64 ((⟨B3, 0, Option.none⟩ : Addr).add 1) fun A66 n66 c66 =>
  ldS w64 ((⟨B3, 0, Option.none⟩ : Addr).add 2) fun A67 n67 c67 =>
  Q (.returned (.agg #[.slice A65 n65 c65, .slice A66 n66 c66, .slice A67 n67 c67])) w64))))))))
def D : Nat → Option DH := dtab [(1, .held [.fst 0, .fst 1, .fst 3, .fst 4, .eff 2] [.eff 5, .fst 6, .fst 7])]
def l0LO : LO := ⟨[], [], [(0, [3, 6, 7, 8, 9])], []⟩
def l0Tk (k : Nat) : Spec := fun Q σ w =>
  gAd (σ 3) fun at3 =>
  gInt .i64 (σ 7) fun xt7 =>
  gInt .i64 (σ 8) fun xt8 =>
  gSlice (σ 9) fun At9 nt9 ct9 =>
  gInt .i64 (σ 10) fun xt10 =>
  l0 k at3 xt7 xt8 At9 nt9 ct9 xt10 w (fun (Aq9 : Option Addr) (nq9 : Nat) (cq9 : Nat) (w : World) => ∀ d : Fr, Q (.exit 0) (ov d [(3, .pointer (some at3)), (6, σ 6), (7, .int .i64 xt7), (8, .int .i64 xt8), (9, .slice Aq9 nq9 cq9)]) w)
def l0T : Spec := fun Q σ w => ∃ k, l0Tk k Q σ w
def l0tb : List (List Nat × Spec) := []
noncomputable def l0b : Code := (subC [0, 0, 1, 0, 1, 1, 1] body).getD .skip
theorem l0_eq (k : Nat) (at3 : Addr) (xt7 : Int) (xt8 : Int) (At9 : Option Addr) (nt9 : Nat) (ct9 : Nat) (xt10 : Int) (Q : PQ) (σ : Fr) (w : World) :
    l0 (k + 1) at3 xt7 xt8 At9 nt9 ct9 xt10 w (fun (Aq9 : Option Addr) (nq9 : Nat) (cq9 : Nat) (w : World) => ∀ d : Fr, Q (.exit 0) (ov d [(3, .pointer (some at3)), (6, σ 6), (7, .int .i64 xt7), (8, .int .i64 xt8), (9, .slice Aq9 nq9 cq9)]) w) = codeW Try.prog hT 77 D (tab l0tb) [0, 0, 1, 0, 1, 1, 1] l0b (thenQ (l0Tk k Q) (widen l0LO Q)) (ov σ [(3, .pointer (some at3)), (7, .int .i64 xt7), (8, .int .i64 xt8), (9, .slice At9 nt9 ct9), (10, .int .i64 xt10)]) w := by kernel_rfl
theorem l0_snd : ∀ c, subC [0, 1, 0, 1, 1, 1] body = some c → Snd Try.prog 77 c l0T := by
  refine loop_of (hT := hT) (D := D) (l := l0tb) (b := l0b) (lo := l0LO) (by kernel_rfl) (by
    intro x hx
    simp only [l0tb, List.not_mem_nil] at hx
    ) (by kernel_rfl) (by kernel_rfl) ?_ ?_
  · intro Q σ w h
    unfold l0Tk at h
    obtain ⟨at3, h3, hn⟩ := gAd_elim h
    clear h
    have h := hn
    clear hn
    obtain ⟨xt7, h7, hn⟩ := gInt_elim h
    clear h
    have h := hn
    clear hn
    obtain ⟨xt8, h8, hn⟩ := gInt_elim h
    clear h
    have h := hn
    clear hn
    obtain ⟨At9, nt9, ct9, h9, hn⟩ := gSlice_elim h
    clear h
    have h := hn
    clear hn
    obtain ⟨xt10, h10, hn⟩ := gInt_elim h
    clear h
    have h := hn
    clear hn
    exact h
  · intro k Q σ w h
    unfold l0Tk at h
    obtain ⟨at3, h3, hn⟩ := gAd_elim h
    clear h
    have h := hn
    clear hn
    obtain ⟨xt7, h7, hn⟩ := gInt_elim h
    clear h
    have h := hn
    clear hn
    obtain ⟨xt8, h8, hn⟩ := gInt_elim h
    clear h
    have h := hn
    clear hn
    obtain ⟨At9, nt9, ct9, h9, hn⟩ := gSlice_elim h
    clear h
    have h := hn
    clear hn
    obtain ⟨xt10, h10, hn⟩ := gInt_elim h
    clear h
    have h := hn
    clear hn
    rw [l0_eq (σ := σ)] at h
    have e : (ov σ [(3, .pointer (some at3)), (7, .int .i64 xt7), (8, .int .i64 xt8), (9, .slice At9 nt9 ct9), (10, .int .i64 xt10)]) = σ := ov_self (by simp [h3, h7, h8, h9, h10])
    rw [e] at h
    exact h
def l1LO : LO := ⟨[], [], [(2, [3, 6, 9, 11])], []⟩
def l1Tk (k : Nat) : Spec := fun Q σ w =>
  gAd (σ 3) fun at3 =>
  gInt .i64 (σ 8) fun xt8 =>
  gSlice (σ 11) fun At11 nt11 ct11 =>
  gInt .i64 (σ 12) fun xt12 =>
  l1 k at3 xt8 At11 nt11 ct11 xt12 w (fun (Aq11 : Option Addr) (nq11 : Nat) (cq11 : Nat) (w : World) => ∀ d : Fr, Q (.exit 2) (ov d [(3, .pointer (some at3)), (6, σ 6), (9, σ 9), (11, .slice Aq11 nq11 cq11)]) w)
def l1T : Spec := fun Q σ w => ∃ k, l1Tk k Q σ w
def l1tb : List (List Nat × Spec) := []
noncomputable def l1b : Code := (subC [0, 0, 1, 0, 1, 1, 1, 1, 1] body).getD .skip
theorem l1_eq (k : Nat) (at3 : Addr) (xt8 : Int) (At11 : Option Addr) (nt11 : Nat) (ct11 : Nat) (xt12 : Int) (Q : PQ) (σ : Fr) (w : World) :
    l1 (k + 1) at3 xt8 At11 nt11 ct11 xt12 w (fun (Aq11 : Option Addr) (nq11 : Nat) (cq11 : Nat) (w : World) => ∀ d : Fr, Q (.exit 2) (ov d [(3, .pointer (some at3)), (6, σ 6), (9, σ 9), (11, .slice Aq11 nq11 cq11)]) w) = codeW Try.prog hT 77 D (tab l1tb) [0, 0, 1, 0, 1, 1, 1, 1, 1] l1b (thenQ (l1Tk k Q) (widen l1LO Q)) (ov σ [(3, .pointer (some at3)), (8, .int .i64 xt8), (11, .slice At11 nt11 ct11), (12, .int .i64 xt12)]) w := by kernel_rfl
theorem l1_snd : ∀ c, subC [0, 1, 0, 1, 1, 1, 1, 1] body = some c → Snd Try.prog 77 c l1T := by
  refine loop_of (hT := hT) (D := D) (l := l1tb) (b := l1b) (lo := l1LO) (by kernel_rfl) (by
    intro x hx
    simp only [l1tb, List.not_mem_nil] at hx
    ) (by kernel_rfl) (by kernel_rfl) ?_ ?_
  · intro Q σ w h
    unfold l1Tk at h
    obtain ⟨at3, h3, hn⟩ := gAd_elim h
    clear h
    have h := hn
    clear hn
    obtain ⟨xt8, h8, hn⟩ := gInt_elim h
    clear h
    have h := hn
    clear hn
    obtain ⟨At11, nt11, ct11, h11, hn⟩ := gSlice_elim h
    clear h
    have h := hn
    clear hn
    obtain ⟨xt12, h12, hn⟩ := gInt_elim h
    clear h
    have h := hn
    clear hn
    exact h
  · intro k Q σ w h
    unfold l1Tk at h
    obtain ⟨at3, h3, hn⟩ := gAd_elim h
    clear h
    have h := hn
    clear hn
    obtain ⟨xt8, h8, hn⟩ := gInt_elim h
    clear h
    have h := hn
    clear hn
    obtain ⟨At11, nt11, ct11, h11, hn⟩ := gSlice_elim h
    clear h
    have h := hn
    clear hn
    obtain ⟨xt12, h12, hn⟩ := gInt_elim h
    clear h
    have h := hn
    clear hn
    rw [l1_eq (σ := σ)] at h
    have e : (ov σ [(3, .pointer (some at3)), (8, .int .i64 xt8), (11, .slice At11 nt11 ct11), (12, .int .i64 xt12)]) = σ := ov_self (by simp [h3, h8, h11, h12])
    rw [e] at h
    exact h
def tb : List (List Nat × Spec) := [([0, 1, 0, 1, 1, 1], l0T), ([0, 1, 0, 1, 1, 1, 1, 1], l1T)]
theorem wp_eq (Aa0_0 : Option Addr) (na0_0 : Nat) (ca0_0 : Nat) (Aa0_1 : Option Addr) (na0_1 : Nat) (ca0_1 : Nat) (Aa0_2 : Option Addr) (na0_2 : Nat) (ca0_2 : Nat) (xa1 : Int) (xa2 : Int) (w : World) (Q : Ending → World → Prop) :
    wp Aa0_0 na0_0 ca0_0 Aa0_1 na0_1 ca0_1 Aa0_2 na0_2 ca0_2 xa1 xa2 w Q = codeW Try.prog hT 77 D (tab tb) [] body (topQ Try.prog hT 77 [.cell 6 34] Q) (argsF [.agg #[.slice Aa0_0 na0_0 ca0_0, .slice Aa0_1 na0_1 ca0_1, .slice Aa0_2 na0_2 ca0_2], .int .i64 xa1, .int .i64 xa2]) w := by kernel_rfl
theorem ok (Aa0_0 : Option Addr) (na0_0 : Nat) (ca0_0 : Nat) (Aa0_1 : Option Addr) (na0_1 : Nat) (ca0_1 : Nat) (Aa0_2 : Option Addr) (na0_2 : Nat) (ca0_2 : Nat) (xa1 : Int) (xa2 : Int) (w : World) (Q : Ending → World → Prop) (h : wp Aa0_0 na0_0 ca0_0 Aa0_1 na0_1 ca0_1 Aa0_2 na0_2 ca0_2 xa1 xa2 w Q) : Calls Try.prog 31 #[.agg #[.slice Aa0_0 na0_0 ca0_0, .slice Aa0_1 na0_1 ca0_1, .slice Aa0_2 na0_2 ca0_2], .int .i64 xa1, .int .i64 xa2] w Q := by
  rw [wp_eq] at h
  exact calls_of_codeW (c := body) (rs := [.cell 6 34]) Try.func31 (by kernel_rfl) (by kernel_rfl) (by kernel_rfl) (by kernel_rfl) (by kernel_rfl) (tab_snd (by
    intro x hx
    simp only [tb, List.mem_cons, List.not_mem_nil, or_false] at hx
    rcases hx with rfl | rfl
    · exact l0_snd
    · exact l1_snd)) (by kernel_rfl) h
end f_ref15_Join
namespace f_ref15_Cut
/-! skein/skeinref15.Cut: function 32 -/
noncomputable def body : Code := (Try.f32.body).getD .skip
def l0 : Nat → Addr → Int → Int → Option Addr → Nat → Nat → Int → World → ((Option Addr) → Nat → Nat → World → Prop) → Prop
  | 0, _, _, _, _, _, _, _, _, _ => False
  | k + 1, at2, xt5, xt6, At7, nt7, ct7, xt8, w, K0 =>
    ldS w at2 fun A30 n30 c30 =>
    sel (decide (xt8 < (n30 : Int))) (
    sel (xt8 == xt5) (
    ldS w at2 fun A31 n31 c31 =>
    optB A31 fun a32 =>
    req (decide (0 ≤ xt8 ∧ xt8 < (n31 : Int))) <|
    ldS w (a32.add (xt8.toNat * 1)) fun A33 n33 c33 =>
    req (decide (0 ≤ xt6 ∧ xt6 ≤ (c33 : Int))) <|
    Calls Try.prog 18 #[.slice (slA A33 0 c33 1) (xt6.toNat - 0) (c33 - 0)] w fun e34 w35 => ∃ (A36 : Option Addr) (n36 : Nat) (c36 : Nat), e34 = .returned (.slice A36 n36 c36) ∧ (
    alW w35 (.cells #[.slice A36 n36 c36] 22) fun B37 w38 =>
    Runs Try.prog (Builtin.append_ #[31, 31] 31 #[.slice At7 nt7 ct7, .slice (some (⟨B37, 0, Option.none⟩ : Addr)) 1 1]) w38 fun v40 w39 => ∃ (A41 : Option Addr) (n41 : Nat) (c41 : Nat), v40 = (.slice A41 n41 c41) ∧ (
    ldS w39 at2 fun A42 n42 c42 =>
    optB A42 fun a43 =>
    req (decide (0 ≤ xt8 ∧ xt8 < (n42 : Int))) <|
    ldS w39 (a43.add (xt8.toNat * 1)) fun A44 n44 c44 =>
    req (decide (0 ≤ xt6 ∧ xt6 ≤ (n44 : Int))) <|
    Calls Try.prog 18 #[.slice (slA A44 xt6.toNat c44 1) (n44 - xt6.toNat) (c44 - xt6.toNat)] w39 fun e45 w46 => ∃ (A47 : Option Addr) (n47 : Nat) (c47 : Nat), e45 = .returned (.slice A47 n47 c47) ∧ (
    alW w46 (.cells #[.slice A47 n47 c47] 22) fun B48 w49 =>
    Runs Try.prog (Builtin.append_ #[31, 31] 31 #[.slice A41 n41 c41, .slice (some (⟨B48, 0, Option.none⟩ : Addr)) 1 1]) w49 fun v51 w50 => ∃ (A52 : Option Addr) (n52 : Nat) (c52 : Nat), v51 = (.slice A52 n52 c52) ∧ (
    l0 k at2 xt5 xt6 A52 n52 c52 (IntKind.i64.wrap (xt8 + (1 : Int))) w50 K0))))) (
    ldS w at2 fun A53 n53 c53 =>
    optB A53 fun a54 =>
    req (decide (0 ≤ xt8 ∧ xt8 < (n53 : Int))) <|
    ldS w (a54.add (xt8.toNat * 1)) fun A55 n55 c55 =>
    alW w (.cells #[.slice A55 n55 c55] 22) fun B56 w57 =>
    Runs Try.prog (Builtin.append_ #[31, 31] 31 #[.slice At7 nt7 ct7, .slice (some (⟨B56, 0, Option.none⟩ : Addr)) 1 1]) w57 fun v59 w58 => ∃ (A60 : Option Addr) (n60 : Nat) (c60 : Nat), v59 = (.slice A60 n60 c60) ∧ (
    l0 k at2 xt5 xt6 A60 n60 c60 (IntKind.i64.wrap (xt8 + (1 : Int))) w58 K0))) (
    K0 At7 nt7 ct7 w)
def wp (Aa0_0 : Option Addr) (na0_0 : Nat) (ca0_0 : Nat) (Aa0_1 : Option Addr) (na0_1 : Nat) (ca0_1 : Nat) (Aa0_2 : Option Addr) (na0_2 : Nat) (ca0_2 : Nat) (xa1 : Int) (w : World) (Q : Ending → World → Prop) : Prop :=
  alW w (.cells #[.slice Aa0_0 na0_0 ca0_0, .slice Aa0_1 na0_1 ca0_1, .slice Aa0_2 na0_2 ca0_2] 34) fun B1 w2 =>
  alW w2 (.cells #[.slice none 0 0, .slice none 0 0, .slice none 0 0] 34) fun B3 w4 =>
  drW w4 fun w5 =>
  ∃ S6 : World → Prop, S6 w5 ∧ (
  hdS S6 (⟨B1, 0, Option.none⟩ : Addr) fun A7 n7 c7 =>
  hdS S6 ((⟨B1, 0, Option.none⟩ : Addr).add 1) fun A8 n8 c8 =>
  hdS S6 ((⟨B1, 0, Option.none⟩ : Addr).add 2) fun A9 n9 c9 =>
  hdS S6 (⟨B1, 0, Option.none⟩ : Addr) fun A10 n10 c10 =>
  hdS S6 ((⟨B1, 0, Option.none⟩ : Addr).add 1) fun A11 n11 c11 =>
  hdS S6 ((⟨B1, 0, Option.none⟩ : Addr).add 2) fun A12 n12 c12 =>
  Calls Try.prog 30 #[.agg #[.slice A7 n7 c7, .slice A8 n8 c8, .slice A9 n9 c9], .int .i64 xa1] w5 fun e13 w14 => ∃ (x15 : Int), e13 = .returned (.int .i64 x15) ∧ (
  S6 w14 ∧ (
  Calls Try.prog 44 #[.agg #[.slice A10 n10 c10, .slice A11 n11 c11, .slice A12 n12 c12], .int .i64 xa1] w14 fun e16 w17 => ∃ (x18 : Int), e16 = .returned (.int .i64 x18) ∧ (
  sel (x18 == (0 : Int)) (
  ldS w17 (⟨B1, 0, Option.none⟩ : Addr) fun A19 n19 c19 =>
  ldS w17 ((⟨B1, 0, Option.none⟩ : Addr).add 1) fun A20 n20 c20 =>
  ldS w17 ((⟨B1, 0, Option.none⟩ : Addr).add 2) fun A21 n21 c21 =>
  stW w17 (⟨B3, 0, Option.none⟩ : Addr) (.slice A19 n19 c19) fun w22 =>
  stW w22 ((⟨B3, 0, Option.none⟩ : Addr).add 1) (.slice A20 n20 c20) fun w23 =>
  stW w23 ((⟨B3, 0, Option.none⟩ : Addr).add 2) (.slice A21 n21 c21) fun w24 =>
  ldS w24 (⟨B3, 0, Option.none⟩ : Addr) fun A25 n25 c25 =>
  ldS w24 ((⟨B3, 0, Option.none⟩ : Addr).add 1) fun A26 n26 c26 =>
  ldS w24 ((⟨B3, 0, Option.none⟩ : Addr).add 2) fun A27 n27 c27 =>
  Q (.returned (.agg #[.slice A25 n25 c25, .slice A26 n26 c26, .slice A27 n27 c27])) w24) (
  alW w17 (.cells #[] 22) fun B28 w29 =>
  ∃ k73 : Nat, l0 k73 (⟨B1, 0, Option.none⟩ : Addr) x15 x18 (some (⟨B28, 0, Option.none⟩ : Addr)) 0 0 (0 : Int) w29 (fun (A61 : Option Addr) (n61 : Nat) (c61 : Nat) (w62 : World) => ∀ _ : Fr,
  stW w62 (⟨B1, 0, Option.none⟩ : Addr) (.slice A61 n61 c61) fun w63 =>
  ldS w63 (⟨B1, 0, Option.none⟩ : Addr) fun A64 n64 c64 =>
  ldS w63 ((⟨B1, 0, Option.none⟩ : Addr).add 1) fun A65 n65 c65 =>
  ldS w63 ((⟨B1, 0, Option.none⟩ : Addr).add 2) fun A66 n66 c66 =>
  stW w63 (⟨B3, 0, Option.none⟩ : Addr) (.slice A64 n64 c64) fun w67 =>
  stW w67 ((⟨B3, 0, Option.none⟩ : Addr).add 1) (.slice A65 n65 c65) fun w68 =>
  stW w68 ((⟨B3, 0, Option.none⟩ : Addr).add 2) (.slice A66 n66 c66) fun w69 =>
  ldS w69 (⟨B3, 0, Option.none⟩ : Addr) fun A70 n70 c70 =>
  ldS w69 ((⟨B3, 0, Option.none⟩ : Addr).add 1) fun A71 n71 c71 =>
  ldS w69 ((⟨B3, 0, Option.none⟩ : Addr).add 2) fun A72 n72 c72 =>
  Q (.returned (.agg #[.slice A70 n70 c70, .slice A71 n71 c71, .slice A72 n72 c72])) w69))))))
def D : Nat → Option DH := dtab [(1, .held [.fst 0, .fst 1, .fst 3, .fst 4, .eff 2] [.eff 5, .fst 6, .fst 7])]
def l0LO : LO := ⟨[], [], [(0, [2, 4, 7])], []⟩
def l0Tk (k : Nat) : Spec := fun Q σ w =>
  gAd (σ 2) fun at2 =>
  gInt .i64 (σ 5) fun xt5 =>
  gInt .i64 (σ 6) fun xt6 =>
  gSlice (σ 7) fun At7 nt7 ct7 =>
  gInt .i64 (σ 8) fun xt8 =>
  l0 k at2 xt5 xt6 At7 nt7 ct7 xt8 w (fun (Aq7 : Option Addr) (nq7 : Nat) (cq7 : Nat) (w : World) => ∀ d : Fr, Q (.exit 0) (ov d [(2, .pointer (some at2)), (4, σ 4), (7, .slice Aq7 nq7 cq7)]) w)
def l0T : Spec := fun Q σ w => ∃ k, l0Tk k Q σ w
def l0tb : List (List Nat × Spec) := []
noncomputable def l0b : Code := (subC [0, 0, 1, 0, 1, 1, 1, 1] body).getD .skip
theorem l0_eq (k : Nat) (at2 : Addr) (xt5 : Int) (xt6 : Int) (At7 : Option Addr) (nt7 : Nat) (ct7 : Nat) (xt8 : Int) (Q : PQ) (σ : Fr) (w : World) :
    l0 (k + 1) at2 xt5 xt6 At7 nt7 ct7 xt8 w (fun (Aq7 : Option Addr) (nq7 : Nat) (cq7 : Nat) (w : World) => ∀ d : Fr, Q (.exit 0) (ov d [(2, .pointer (some at2)), (4, σ 4), (7, .slice Aq7 nq7 cq7)]) w) = codeW Try.prog hT 62 D (tab l0tb) [0, 0, 1, 0, 1, 1, 1, 1] l0b (thenQ (l0Tk k Q) (widen l0LO Q)) (ov σ [(2, .pointer (some at2)), (5, .int .i64 xt5), (6, .int .i64 xt6), (7, .slice At7 nt7 ct7), (8, .int .i64 xt8)]) w := by kernel_rfl
theorem l0_snd : ∀ c, subC [0, 1, 0, 1, 1, 1, 1] body = some c → Snd Try.prog 62 c l0T := by
  refine loop_of (hT := hT) (D := D) (l := l0tb) (b := l0b) (lo := l0LO) (by kernel_rfl) (by
    intro x hx
    simp only [l0tb, List.not_mem_nil] at hx
    ) (by kernel_rfl) (by kernel_rfl) ?_ ?_
  · intro Q σ w h
    unfold l0Tk at h
    obtain ⟨at2, h2, hn⟩ := gAd_elim h
    clear h
    have h := hn
    clear hn
    obtain ⟨xt5, h5, hn⟩ := gInt_elim h
    clear h
    have h := hn
    clear hn
    obtain ⟨xt6, h6, hn⟩ := gInt_elim h
    clear h
    have h := hn
    clear hn
    obtain ⟨At7, nt7, ct7, h7, hn⟩ := gSlice_elim h
    clear h
    have h := hn
    clear hn
    obtain ⟨xt8, h8, hn⟩ := gInt_elim h
    clear h
    have h := hn
    clear hn
    exact h
  · intro k Q σ w h
    unfold l0Tk at h
    obtain ⟨at2, h2, hn⟩ := gAd_elim h
    clear h
    have h := hn
    clear hn
    obtain ⟨xt5, h5, hn⟩ := gInt_elim h
    clear h
    have h := hn
    clear hn
    obtain ⟨xt6, h6, hn⟩ := gInt_elim h
    clear h
    have h := hn
    clear hn
    obtain ⟨At7, nt7, ct7, h7, hn⟩ := gSlice_elim h
    clear h
    have h := hn
    clear hn
    obtain ⟨xt8, h8, hn⟩ := gInt_elim h
    clear h
    have h := hn
    clear hn
    rw [l0_eq (σ := σ)] at h
    have e : (ov σ [(2, .pointer (some at2)), (5, .int .i64 xt5), (6, .int .i64 xt6), (7, .slice At7 nt7 ct7), (8, .int .i64 xt8)]) = σ := ov_self (by simp [h2, h5, h6, h7, h8])
    rw [e] at h
    exact h
def tb : List (List Nat × Spec) := [([0, 1, 0, 1, 1, 1, 1], l0T)]
theorem wp_eq (Aa0_0 : Option Addr) (na0_0 : Nat) (ca0_0 : Nat) (Aa0_1 : Option Addr) (na0_1 : Nat) (ca0_1 : Nat) (Aa0_2 : Option Addr) (na0_2 : Nat) (ca0_2 : Nat) (xa1 : Int) (w : World) (Q : Ending → World → Prop) :
    wp Aa0_0 na0_0 ca0_0 Aa0_1 na0_1 ca0_1 Aa0_2 na0_2 ca0_2 xa1 w Q = codeW Try.prog hT 62 D (tab tb) [] body (topQ Try.prog hT 62 [.cell 4 34] Q) (argsF [.agg #[.slice Aa0_0 na0_0 ca0_0, .slice Aa0_1 na0_1 ca0_1, .slice Aa0_2 na0_2 ca0_2], .int .i64 xa1]) w := by kernel_rfl
theorem ok (Aa0_0 : Option Addr) (na0_0 : Nat) (ca0_0 : Nat) (Aa0_1 : Option Addr) (na0_1 : Nat) (ca0_1 : Nat) (Aa0_2 : Option Addr) (na0_2 : Nat) (ca0_2 : Nat) (xa1 : Int) (w : World) (Q : Ending → World → Prop) (h : wp Aa0_0 na0_0 ca0_0 Aa0_1 na0_1 ca0_1 Aa0_2 na0_2 ca0_2 xa1 w Q) : Calls Try.prog 32 #[.agg #[.slice Aa0_0 na0_0 ca0_0, .slice Aa0_1 na0_1 ca0_1, .slice Aa0_2 na0_2 ca0_2], .int .i64 xa1] w Q := by
  rw [wp_eq] at h
  exact calls_of_codeW (c := body) (rs := [.cell 4 34]) Try.func32 (by kernel_rfl) (by kernel_rfl) (by kernel_rfl) (by kernel_rfl) (by kernel_rfl) (tab_snd (by
    intro x hx
    simp only [tb, List.mem_cons, List.not_mem_nil, or_false] at hx
    subst hx
    exact l0_snd)) (by kernel_rfl) h
end f_ref15_Cut
namespace f_ref15_Set
/-! skein/skeinref15.Set: function 33 -/
noncomputable def body : Code := (Try.f33.body).getD .skip
def l0 : Nat → Int → Int → Int → Addr → Addr → Int → World → (World → Prop) → Prop
  | 0, _, _, _, _, _, _, _, _ => False
  | k + 1, xt1, xt2, xt3, at4, at9, xt10, w, K0 =>
    ldS w (at4.add 1) fun A11 n11 c11 =>
    sel (decide (xt10 < (n11 : Int))) (
    sel (xt10 == (IntKind.i64.wrap (xt1 - (1 : Int)))) (
    ldS w (at9.add 1) fun A12 n12 c12 =>
    alW w (.cells #[.int .i64 xt2] 2) fun B13 w14 =>
    Runs Try.prog (Builtin.append_ #[32, 32] 32 #[.slice A12 n12 c12, .slice (some (⟨B13, 0, Option.none⟩ : Addr)) 1 1]) w14 fun v16 w15 => ∃ (A17 : Option Addr) (n17 : Nat) (c17 : Nat), v16 = (.slice A17 n17 c17) ∧ (
    stW w15 (at9.add 1) (.slice A17 n17 c17) fun w18 =>
    ldS w18 (at9.add 2) fun A19 n19 c19 =>
    alW w18 (.cells #[.int .i64 xt3] 3) fun B20 w21 =>
    Runs Try.prog (Builtin.append_ #[22, 22] 22 #[.slice A19 n19 c19, .slice (some (⟨B20, 0, Option.none⟩ : Addr)) 1 1]) w21 fun v23 w22 => ∃ (A24 : Option Addr) (n24 : Nat) (c24 : Nat), v23 = (.slice A24 n24 c24) ∧ (
    stW w22 (at9.add 2) (.slice A24 n24 c24) fun w25 =>
    l0 k xt1 xt2 xt3 at4 at9 (IntKind.i64.wrap (xt10 + (1 : Int))) w25 K0))) (
    drW w fun w26 =>
    ∃ S27 : World → Prop, S27 w26 ∧ (
    hdS S27 (at9.add 1) fun A28 n28 c28 =>
    hdS S27 (at4.add 1) fun A29 n29 c29 =>
    optB A29 fun a30 =>
    req (decide (0 ≤ xt10 ∧ xt10 < (n29 : Int))) <|
    hdI S27 (a30.add (xt10.toNat * 1)) .i64 fun x31 =>
    alW w26 (.cells #[.int .i64 x31] 2) fun B32 w33 =>
    S27 w33 ∧ (
    Runs Try.prog (Builtin.append_ #[32, 32] 32 #[.slice A28 n28 c28, .slice (some (⟨B32, 0, Option.none⟩ : Addr)) 1 1]) w33 fun v35 w34 => ∃ (A36 : Option Addr) (n36 : Nat) (c36 : Nat), v35 = (.slice A36 n36 c36) ∧ (
    stW w34 (at9.add 1) (.slice A36 n36 c36) fun w37 =>
    drW w37 fun w38 =>
    ∃ S39 : World → Prop, S39 w38 ∧ (
    hdS S39 (at9.add 2) fun A40 n40 c40 =>
    hdS S39 (at4.add 2) fun A41 n41 c41 =>
    optB A41 fun a42 =>
    req (decide (0 ≤ xt10 ∧ xt10 < (n41 : Int))) <|
    hdI S39 (a42.add (xt10.toNat * 1)) .i64 fun x43 =>
    alW w38 (.cells #[.int .i64 x43] 3) fun B44 w45 =>
    S39 w45 ∧ (
    Runs Try.prog (Builtin.append_ #[22, 22] 22 #[.slice A40 n40 c40, .slice (some (⟨B44, 0, Option.none⟩ : Addr)) 1 1]) w45 fun v47 w46 => ∃ (A48 : Option Addr) (n48 : Nat) (c48 : Nat), v47 = (.slice A48 n48 c48) ∧ (
    stW w46 (at9.add 2) (.slice A48 n48 c48) fun w49 =>
    l0 k xt1 xt2 xt3 at4 at9 (IntKind.i64.wrap (xt10 + (1 : Int))) w49 K0)))))))) (
    K0  w)
def wp (Aa0_0 : Option Addr) (na0_0 : Nat) (ca0_0 : Nat) (Aa0_1 : Option Addr) (na0_1 : Nat) (ca0_1 : Nat) (Aa0_2 : Option Addr) (na0_2 : Nat) (ca0_2 : Nat) (xa1 : Int) (xa2 : Int) (xa3 : Int) (w : World) (Q : Ending → World → Prop) : Prop :=
  alW w (.cells #[.slice Aa0_0 na0_0 ca0_0, .slice Aa0_1 na0_1 ca0_1, .slice Aa0_2 na0_2 ca0_2] 34) fun B1 w2 =>
  alW w2 (.cells #[.slice none 0 0, .slice none 0 0, .slice none 0 0] 34) fun B3 w4 =>
  ldS w4 (⟨B1, 0, Option.none⟩ : Addr) fun A5 n5 c5 =>
  alW w4 (.cells #[.slice none 0 0, .slice none 0 0, .slice none 0 0] 34) fun B6 w7 =>
  stW w7 (⟨B6, 0, Option.none⟩ : Addr) (.slice A5 n5 c5) fun w8 =>
  stW w8 ((⟨B6, 0, Option.none⟩ : Addr).add 1) (.slice none 0 0) fun w9 =>
  stW w9 ((⟨B6, 0, Option.none⟩ : Addr).add 2) (.slice none 0 0) fun w10 =>
  ∃ k60 : Nat, l0 k60 xa1 xa2 xa3 (⟨B1, 0, Option.none⟩ : Addr) (⟨B6, 0, Option.none⟩ : Addr) (0 : Int) w10 (fun (w50 : World) => ∀ _ : Fr,
  ldS w50 (⟨B6, 0, Option.none⟩ : Addr) fun A51 n51 c51 =>
  ldS w50 ((⟨B6, 0, Option.none⟩ : Addr).add 1) fun A52 n52 c52 =>
  ldS w50 ((⟨B6, 0, Option.none⟩ : Addr).add 2) fun A53 n53 c53 =>
  stW w50 (⟨B3, 0, Option.none⟩ : Addr) (.slice A51 n51 c51) fun w54 =>
  stW w54 ((⟨B3, 0, Option.none⟩ : Addr).add 1) (.slice A52 n52 c52) fun w55 =>
  stW w55 ((⟨B3, 0, Option.none⟩ : Addr).add 2) (.slice A53 n53 c53) fun w56 =>
  ldS w56 (⟨B3, 0, Option.none⟩ : Addr) fun A57 n57 c57 =>
  ldS w56 ((⟨B3, 0, Option.none⟩ : Addr).add 1) fun A58 n58 c58 =>
  ldS w56 ((⟨B3, 0, Option.none⟩ : Addr).add 2) fun A59 n59 c59 =>
  Q (.returned (.agg #[.slice A57 n57 c57, .slice A58 n58 c58, .slice A59 n59 c59])) w56)
def D : Nat → Option DH := dtab [(8, .held [.fst 0, .fst 1, .fst 2, .fst 3, .fst 4, .fst 5, .fst 6, .eff 7] [.eff 8, .fst 9, .eff 10]), (9, .held [.fst 0, .fst 1, .fst 2, .fst 3, .fst 4, .fst 5, .fst 6, .eff 7] [.eff 8, .fst 9, .eff 10])]
def l0LO : LO := ⟨[], [], [(0, [8, 9])], []⟩
def l0Tk (k : Nat) : Spec := fun Q σ w =>
  gInt .i64 (σ 1) fun xt1 =>
  gInt .i64 (σ 2) fun xt2 =>
  gInt .i64 (σ 3) fun xt3 =>
  gAd (σ 4) fun at4 =>
  gAd (σ 9) fun at9 =>
  gInt .i64 (σ 10) fun xt10 =>
  l0 k xt1 xt2 xt3 at4 at9 xt10 w (fun (w : World) => ∀ d : Fr, Q (.exit 0) (ov d [(8, σ 8), (9, .pointer (some at9))]) w)
def l0T : Spec := fun Q σ w => ∃ k, l0Tk k Q σ w
def l0tb : List (List Nat × Spec) := []
noncomputable def l0b : Code := (subC [0, 0, 1, 0, 1, 1] body).getD .skip
theorem l0_eq (k : Nat) (xt1 : Int) (xt2 : Int) (xt3 : Int) (at4 : Addr) (at9 : Addr) (xt10 : Int) (Q : PQ) (σ : Fr) (w : World) :
    l0 (k + 1) xt1 xt2 xt3 at4 at9 xt10 w (fun (w : World) => ∀ d : Fr, Q (.exit 0) (ov d [(8, σ 8), (9, .pointer (some at9))]) w) = codeW Try.prog hT 58 D (tab l0tb) [0, 0, 1, 0, 1, 1] l0b (thenQ (l0Tk k Q) (widen l0LO Q)) (ov σ [(1, .int .i64 xt1), (2, .int .i64 xt2), (3, .int .i64 xt3), (4, .pointer (some at4)), (9, .pointer (some at9)), (10, .int .i64 xt10)]) w := by kernel_rfl
theorem l0_snd : ∀ c, subC [0, 1, 0, 1, 1] body = some c → Snd Try.prog 58 c l0T := by
  refine loop_of (hT := hT) (D := D) (l := l0tb) (b := l0b) (lo := l0LO) (by kernel_rfl) (by
    intro x hx
    simp only [l0tb, List.not_mem_nil] at hx
    ) (by kernel_rfl) (by kernel_rfl) ?_ ?_
  · intro Q σ w h
    unfold l0Tk at h
    obtain ⟨xt1, h1, hn⟩ := gInt_elim h
    clear h
    have h := hn
    clear hn
    obtain ⟨xt2, h2, hn⟩ := gInt_elim h
    clear h
    have h := hn
    clear hn
    obtain ⟨xt3, h3, hn⟩ := gInt_elim h
    clear h
    have h := hn
    clear hn
    obtain ⟨at4, h4, hn⟩ := gAd_elim h
    clear h
    have h := hn
    clear hn
    obtain ⟨at9, h9, hn⟩ := gAd_elim h
    clear h
    have h := hn
    clear hn
    obtain ⟨xt10, h10, hn⟩ := gInt_elim h
    clear h
    have h := hn
    clear hn
    exact h
  · intro k Q σ w h
    unfold l0Tk at h
    obtain ⟨xt1, h1, hn⟩ := gInt_elim h
    clear h
    have h := hn
    clear hn
    obtain ⟨xt2, h2, hn⟩ := gInt_elim h
    clear h
    have h := hn
    clear hn
    obtain ⟨xt3, h3, hn⟩ := gInt_elim h
    clear h
    have h := hn
    clear hn
    obtain ⟨at4, h4, hn⟩ := gAd_elim h
    clear h
    have h := hn
    clear hn
    obtain ⟨at9, h9, hn⟩ := gAd_elim h
    clear h
    have h := hn
    clear hn
    obtain ⟨xt10, h10, hn⟩ := gInt_elim h
    clear h
    have h := hn
    clear hn
    rw [l0_eq (σ := σ)] at h
    have e : (ov σ [(1, .int .i64 xt1), (2, .int .i64 xt2), (3, .int .i64 xt3), (4, .pointer (some at4)), (9, .pointer (some at9)), (10, .int .i64 xt10)]) = σ := ov_self (by simp [h1, h2, h3, h4, h9, h10])
    rw [e] at h
    exact h
def tb : List (List Nat × Spec) := [([0, 1, 0, 1, 1], l0T)]
theorem wp_eq (Aa0_0 : Option Addr) (na0_0 : Nat) (ca0_0 : Nat) (Aa0_1 : Option Addr) (na0_1 : Nat) (ca0_1 : Nat) (Aa0_2 : Option Addr) (na0_2 : Nat) (ca0_2 : Nat) (xa1 : Int) (xa2 : Int) (xa3 : Int) (w : World) (Q : Ending → World → Prop) :
    wp Aa0_0 na0_0 ca0_0 Aa0_1 na0_1 ca0_1 Aa0_2 na0_2 ca0_2 xa1 xa2 xa3 w Q = codeW Try.prog hT 58 D (tab tb) [] body (topQ Try.prog hT 58 [.cell 8 34] Q) (argsF [.agg #[.slice Aa0_0 na0_0 ca0_0, .slice Aa0_1 na0_1 ca0_1, .slice Aa0_2 na0_2 ca0_2], .int .i64 xa1, .int .i64 xa2, .int .i64 xa3]) w := by kernel_rfl
theorem ok (Aa0_0 : Option Addr) (na0_0 : Nat) (ca0_0 : Nat) (Aa0_1 : Option Addr) (na0_1 : Nat) (ca0_1 : Nat) (Aa0_2 : Option Addr) (na0_2 : Nat) (ca0_2 : Nat) (xa1 : Int) (xa2 : Int) (xa3 : Int) (w : World) (Q : Ending → World → Prop) (h : wp Aa0_0 na0_0 ca0_0 Aa0_1 na0_1 ca0_1 Aa0_2 na0_2 ca0_2 xa1 xa2 xa3 w Q) : Calls Try.prog 33 #[.agg #[.slice Aa0_0 na0_0 ca0_0, .slice Aa0_1 na0_1 ca0_1, .slice Aa0_2 na0_2 ca0_2], .int .i64 xa1, .int .i64 xa2, .int .i64 xa3] w Q := by
  rw [wp_eq] at h
  exact calls_of_codeW (c := body) (rs := [.cell 8 34]) Try.func33 (by kernel_rfl) (by kernel_rfl) (by kernel_rfl) (by kernel_rfl) (by kernel_rfl) (tab_snd (by
    intro x hx
    simp only [tb, List.mem_cons, List.not_mem_nil, or_false] at hx
    subst hx
    exact l0_snd)) (by kernel_rfl) h
end f_ref15_Set
namespace f_ref15_Sums
/-! skein/skeinref15.Sums: function 42 -/
noncomputable def body : Code := (Try.f42.body).getD .skip
def l0 : Nat → Option Addr → Nat → Nat → Addr → Int → Int → Int → World → (Int → Int → World → Prop) → Prop
  | 0, _, _, _, _, _, _, _, _, _ => False
  | k + 1, At1, nt1, ct1, at2, xt6, xt7, xt8, w, K0 =>
    sel (decide (xt8 < (nt1 : Int))) (
    drW w fun w3 =>
    ldS w3 (at2.add 1) fun A5 n5 c5 =>
    optB At1 fun a6 =>
    req (decide (0 ≤ xt8 ∧ xt8 < (nt1 : Int))) <|
    ldI w3 (a6.add (xt8.toNat * 1)) .i64 fun x7 =>
    optB A5 fun a8 =>
    req (decide (0 ≤ (IntKind.i64.wrap (x7 - (1 : Int))) ∧ (IntKind.i64.wrap (x7 - (1 : Int))) < (n5 : Int))) <|
    ldI w3 (a8.add ((IntKind.i64.wrap (x7 - (1 : Int))).toNat * 1)) .i64 fun x9 =>
    drW w3 fun w10 =>
    ldS w10 (at2.add 2) fun A12 n12 c12 =>
    optB At1 fun a13 =>
    req (decide (0 ≤ xt8 ∧ xt8 < (nt1 : Int))) <|
    ldI w10 (a13.add (xt8.toNat * 1)) .i64 fun x14 =>
    optB A12 fun a15 =>
    req (decide (0 ≤ (IntKind.i64.wrap (x14 - (1 : Int))) ∧ (IntKind.i64.wrap (x14 - (1 : Int))) < (n12 : Int))) <|
    ldI w10 (a15.add ((IntKind.i64.wrap (x14 - (1 : Int))).toNat * 1)) .i64 fun x16 =>
    l0 k At1 nt1 ct1 at2 (IntKind.i64.wrap (xt6 + x9)) (IntKind.i64.wrap (xt7 + x16)) (IntKind.i64.wrap (xt8 + (1 : Int))) w10 K0) (
    K0 xt6 xt7 w)
def wp (Aa0_0 : Option Addr) (na0_0 : Nat) (ca0_0 : Nat) (Aa0_1 : Option Addr) (na0_1 : Nat) (ca0_1 : Nat) (Aa0_2 : Option Addr) (na0_2 : Nat) (ca0_2 : Nat) (Aa1 : Option Addr) (na1 : Nat) (ca1 : Nat) (w : World) (Q : Ending → World → Prop) : Prop :=
  alW w (.cells #[.slice Aa0_0 na0_0 ca0_0, .slice Aa0_1 na0_1 ca0_1, .slice Aa0_2 na0_2 ca0_2] 34) fun B1 w2 =>
  ∃ k20 : Nat, l0 k20 Aa1 na1 ca1 (⟨B1, 0, Option.none⟩ : Addr) (0 : Int) (0 : Int) (0 : Int) w2 (fun (x17 : Int) (x18 : Int) (w19 : World) => ∀ _ : Fr,
  Q (.returned (.tuple #[.int .i64 x17, .int .i64 x18])) w19)
def D : Nat → Option DH := dtab [(5, .simple [.fst 0, .fst 1, .fst 2, .fst 3, .fst 4, .fst 5, .fst 6, .fst 7, .fst 8, .fst 9] [.fst 10, .fst 11]), (6, .simple [.fst 0, .fst 1, .fst 2, .fst 3, .fst 4, .fst 5, .fst 6, .fst 7, .fst 8, .fst 9] [.fst 10, .fst 11])]
def l0LO : LO := ⟨[], [], [(0, [6, 7])], []⟩
def l0Tk (k : Nat) : Spec := fun Q σ w =>
  gSlice (σ 1) fun At1 nt1 ct1 =>
  gAd (σ 2) fun at2 =>
  gInt .i64 (σ 6) fun xt6 =>
  gInt .i64 (σ 7) fun xt7 =>
  gInt .i64 (σ 8) fun xt8 =>
  l0 k At1 nt1 ct1 at2 xt6 xt7 xt8 w (fun (xq6 : Int) (xq7 : Int) (w : World) => ∀ d : Fr, Q (.exit 0) (ov d [(6, .int .i64 xq6), (7, .int .i64 xq7)]) w)
def l0T : Spec := fun Q σ w => ∃ k, l0Tk k Q σ w
def l0tb : List (List Nat × Spec) := []
noncomputable def l0b : Code := (subC [0, 0, 1, 0, 1, 1] body).getD .skip
theorem l0_eq (k : Nat) (At1 : Option Addr) (nt1 : Nat) (ct1 : Nat) (at2 : Addr) (xt6 : Int) (xt7 : Int) (xt8 : Int) (Q : PQ) (σ : Fr) (w : World) :
    l0 (k + 1) At1 nt1 ct1 at2 xt6 xt7 xt8 w (fun (xq6 : Int) (xq7 : Int) (w : World) => ∀ d : Fr, Q (.exit 0) (ov d [(6, .int .i64 xq6), (7, .int .i64 xq7)]) w) = codeW Try.prog hT 39 D (tab l0tb) [0, 0, 1, 0, 1, 1] l0b (thenQ (l0Tk k Q) (widen l0LO Q)) (ov σ [(1, .slice At1 nt1 ct1), (2, .pointer (some at2)), (6, .int .i64 xt6), (7, .int .i64 xt7), (8, .int .i64 xt8)]) w := by kernel_rfl
theorem l0_snd : ∀ c, subC [0, 1, 0, 1, 1] body = some c → Snd Try.prog 39 c l0T := by
  refine loop_of (hT := hT) (D := D) (l := l0tb) (b := l0b) (lo := l0LO) (by kernel_rfl) (by
    intro x hx
    simp only [l0tb, List.not_mem_nil] at hx
    ) (by kernel_rfl) (by kernel_rfl) ?_ ?_
  · intro Q σ w h
    unfold l0Tk at h
    obtain ⟨At1, nt1, ct1, h1, hn⟩ := gSlice_elim h
    clear h
    have h := hn
    clear hn
    obtain ⟨at2, h2, hn⟩ := gAd_elim h
    clear h
    have h := hn
    clear hn
    obtain ⟨xt6, h6, hn⟩ := gInt_elim h
    clear h
    have h := hn
    clear hn
    obtain ⟨xt7, h7, hn⟩ := gInt_elim h
    clear h
    have h := hn
    clear hn
    obtain ⟨xt8, h8, hn⟩ := gInt_elim h
    clear h
    have h := hn
    clear hn
    exact h
  · intro k Q σ w h
    unfold l0Tk at h
    obtain ⟨At1, nt1, ct1, h1, hn⟩ := gSlice_elim h
    clear h
    have h := hn
    clear hn
    obtain ⟨at2, h2, hn⟩ := gAd_elim h
    clear h
    have h := hn
    clear hn
    obtain ⟨xt6, h6, hn⟩ := gInt_elim h
    clear h
    have h := hn
    clear hn
    obtain ⟨xt7, h7, hn⟩ := gInt_elim h
    clear h
    have h := hn
    clear hn
    obtain ⟨xt8, h8, hn⟩ := gInt_elim h
    clear h
    have h := hn
    clear hn
    rw [l0_eq (σ := σ)] at h
    have e : (ov σ [(1, .slice At1 nt1 ct1), (2, .pointer (some at2)), (6, .int .i64 xt6), (7, .int .i64 xt7), (8, .int .i64 xt8)]) = σ := ov_self (by simp [h1, h2, h6, h7, h8])
    rw [e] at h
    exact h
def tb : List (List Nat × Spec) := [([0, 1, 0, 1, 1], l0T)]
theorem wp_eq (Aa0_0 : Option Addr) (na0_0 : Nat) (ca0_0 : Nat) (Aa0_1 : Option Addr) (na0_1 : Nat) (ca0_1 : Nat) (Aa0_2 : Option Addr) (na0_2 : Nat) (ca0_2 : Nat) (Aa1 : Option Addr) (na1 : Nat) (ca1 : Nat) (w : World) (Q : Ending → World → Prop) :
    wp Aa0_0 na0_0 ca0_0 Aa0_1 na0_1 ca0_1 Aa0_2 na0_2 ca0_2 Aa1 na1 ca1 w Q = codeW Try.prog hT 39 D (tab tb) [] body (topQ Try.prog hT 39 [.tmp 4, .tmp 5] Q) (argsF [.agg #[.slice Aa0_0 na0_0 ca0_0, .slice Aa0_1 na0_1 ca0_1, .slice Aa0_2 na0_2 ca0_2], .slice Aa1 na1 ca1]) w := by kernel_rfl
theorem ok (Aa0_0 : Option Addr) (na0_0 : Nat) (ca0_0 : Nat) (Aa0_1 : Option Addr) (na0_1 : Nat) (ca0_1 : Nat) (Aa0_2 : Option Addr) (na0_2 : Nat) (ca0_2 : Nat) (Aa1 : Option Addr) (na1 : Nat) (ca1 : Nat) (w : World) (Q : Ending → World → Prop) (h : wp Aa0_0 na0_0 ca0_0 Aa0_1 na0_1 ca0_1 Aa0_2 na0_2 ca0_2 Aa1 na1 ca1 w Q) : Calls Try.prog 42 #[.agg #[.slice Aa0_0 na0_0 ca0_0, .slice Aa0_1 na0_1 ca0_1, .slice Aa0_2 na0_2 ca0_2], .slice Aa1 na1 ca1] w Q := by
  rw [wp_eq] at h
  exact calls_of_codeW (c := body) (rs := [.tmp 4, .tmp 5]) Try.func42 (by kernel_rfl) (by kernel_rfl) (by kernel_rfl) (by kernel_rfl) (by kernel_rfl) (tab_snd (by
    intro x hx
    simp only [tb, List.mem_cons, List.not_mem_nil, or_false] at hx
    subst hx
    exact l0_snd)) (by kernel_rfl) h
end f_ref15_Sums
namespace f_ref01_Has
/-! skein/skeinref01.Has: function 43 -/
noncomputable def body : Code := (Try.f43.body).getD .skip
def l0 : Nat → Option Addr → Nat → Nat → Int → Int → World → (World → Prop) → (Bool → World → Prop) → Prop
  | 0, _, _, _, _, _, _, _, _ => False
  | k + 1, At0, nt0, ct0, xt1, xt5, w, K0, Kr =>
    sel (decide (xt5 < (nt0 : Int))) (
    optB At0 fun a1 =>
    req (decide (0 ≤ xt5 ∧ xt5 < (nt0 : Int))) <|
    ldI w (a1.add (xt5.toNat * 1)) .i64 fun x2 =>
    sel (x2 == xt1) (
    Kr true w) (
    l0 k At0 nt0 ct0 xt1 (IntKind.i64.wrap (xt5 + (1 : Int))) w K0 Kr)) (
    K0  w)
def wp (Aa0 : Option Addr) (na0 : Nat) (ca0 : Nat) (xa1 : Int) (w : World) (Q : Ending → World → Prop) : Prop :=
  ∃ k6 : Nat, l0 k6 Aa0 na0 ca0 xa1 (0 : Int) w (fun (w3 : World) => ∀ _ : Fr,
  Q (.returned (.bool false)) w3) (fun (b4 : Bool) (w5 : World) => ∀ _ : Fr,
  Q (.returned (.bool b4)) w5)
def D : Nat → Option DH := dtab []
def l0LO : LO := ⟨[], [4], [(0, [])], []⟩
def l0Tk (k : Nat) : Spec := fun Q σ w =>
  gSlice (σ 0) fun At0 nt0 ct0 =>
  gInt .i64 (σ 1) fun xt1 =>
  gInt .i64 (σ 5) fun xt5 =>
  l0 k At0 nt0 ct0 xt1 xt5 w (fun (w : World) => ∀ d : Fr, Q (.exit 0) (ov d []) w) (fun (bq4 : Bool) (w : World) => ∀ d : Fr, Q .ret (ov d [(4, .bool bq4)]) w)
def l0T : Spec := fun Q σ w => ∃ k, l0Tk k Q σ w
def l0tb : List (List Nat × Spec) := []
noncomputable def l0b : Code := (subC [0, 0, 1, 0, 1] body).getD .skip
theorem l0_eq (k : Nat) (At0 : Option Addr) (nt0 : Nat) (ct0 : Nat) (xt1 : Int) (xt5 : Int) (Q : PQ) (σ : Fr) (w : World) :
    l0 (k + 1) At0 nt0 ct0 xt1 xt5 w (fun (w : World) => ∀ d : Fr, Q (.exit 0) (ov d []) w) (fun (bq4 : Bool) (w : World) => ∀ d : Fr, Q .ret (ov d [(4, .bool bq4)]) w) = codeW Try.prog hT 18 D (tab l0tb) [0, 0, 1, 0, 1] l0b (thenQ (l0Tk k Q) (widen l0LO Q)) (ov σ [(0, .slice At0 nt0 ct0), (1, .int .i64 xt1), (5, .int .i64 xt5)]) w := by kernel_rfl
theorem l0_snd : ∀ c, subC [0, 1, 0, 1] body = some c → Snd Try.prog 18 c l0T := by
  refine loop_of (hT := hT) (D := D) (l := l0tb) (b := l0b) (lo := l0LO) (by kernel_rfl) (by
    intro x hx
    simp only [l0tb, List.not_mem_nil] at hx
    ) (by kernel_rfl) (by kernel_rfl) ?_ ?_
  · intro Q σ w h
    unfold l0Tk at h
    obtain ⟨At0, nt0, ct0, h0, hn⟩ := gSlice_elim h
    clear h
    have h := hn
    clear hn
    obtain ⟨xt1, h1, hn⟩ := gInt_elim h
    clear h
    have h := hn
    clear hn
    obtain ⟨xt5, h5, hn⟩ := gInt_elim h
    clear h
    have h := hn
    clear hn
    exact h
  · intro k Q σ w h
    unfold l0Tk at h
    obtain ⟨At0, nt0, ct0, h0, hn⟩ := gSlice_elim h
    clear h
    have h := hn
    clear hn
    obtain ⟨xt1, h1, hn⟩ := gInt_elim h
    clear h
    have h := hn
    clear hn
    obtain ⟨xt5, h5, hn⟩ := gInt_elim h
    clear h
    have h := hn
    clear hn
    rw [l0_eq (σ := σ)] at h
    have e : (ov σ [(0, .slice At0 nt0 ct0), (1, .int .i64 xt1), (5, .int .i64 xt5)]) = σ := ov_self (by simp [h0, h1, h5])
    rw [e] at h
    exact h
def tb : List (List Nat × Spec) := [([0, 1, 0, 1], l0T)]
theorem wp_eq (Aa0 : Option Addr) (na0 : Nat) (ca0 : Nat) (xa1 : Int) (w : World) (Q : Ending → World → Prop) :
    wp Aa0 na0 ca0 xa1 w Q = codeW Try.prog hT 18 D (tab tb) [] body (topQ Try.prog hT 18 [.tmp 4] Q) (argsF [.slice Aa0 na0 ca0, .int .i64 xa1]) w := by kernel_rfl
theorem ok (Aa0 : Option Addr) (na0 : Nat) (ca0 : Nat) (xa1 : Int) (w : World) (Q : Ending → World → Prop) (h : wp Aa0 na0 ca0 xa1 w Q) : Calls Try.prog 43 #[.slice Aa0 na0 ca0, .int .i64 xa1] w Q := by
  rw [wp_eq] at h
  exact calls_of_codeW (c := body) (rs := [.tmp 4]) Try.func43 (by kernel_rfl) (by kernel_rfl) (by kernel_rfl) (by kernel_rfl) (by kernel_rfl) (tab_snd (by
    intro x hx
    simp only [tb, List.mem_cons, List.not_mem_nil, or_false] at hx
    subst hx
    exact l0_snd)) (by kernel_rfl) h
end f_ref01_Has
namespace f_ref15_Index
/-! skein/skeinref15.Index: function 44 -/
noncomputable def body : Code := (Try.f44.body).getD .skip
def l0 : Nat → Int → Option Addr → Nat → Nat → Int → World → (World → Prop) → (Int → World → Prop) → Prop
  | 0, _, _, _, _, _, _, _, _ => False
  | k + 1, xt1, At5, nt5, ct5, xt6, w, K0, Kr =>
    sel (decide (xt6 < (nt5 : Int))) (
    optB At5 fun a14 =>
    req (decide (0 ≤ xt6 ∧ xt6 < (nt5 : Int))) <|
    ldI w (a14.add (xt6.toNat * 1)) .i64 fun x15 =>
    sel (x15 == xt1) (
    Kr xt6 w) (
    l0 k xt1 At5 nt5 ct5 (IntKind.i64.wrap (xt6 + (1 : Int))) w K0 Kr)) (
    K0  w)
def wp (Aa0_0 : Option Addr) (na0_0 : Nat) (ca0_0 : Nat) (Aa0_1 : Option Addr) (na0_1 : Nat) (ca0_1 : Nat) (Aa0_2 : Option Addr) (na0_2 : Nat) (ca0_2 : Nat) (xa1 : Int) (w : World) (Q : Ending → World → Prop) : Prop :=
  alW w (.cells #[.slice Aa0_0 na0_0 ca0_0, .slice Aa0_1 na0_1 ca0_1, .slice Aa0_2 na0_2 ca0_2] 34) fun B1 w2 =>
  drW w2 fun w3 =>
  ∃ S4 : World → Prop, S4 w3 ∧ (
  hdS S4 (⟨B1, 0, Option.none⟩ : Addr) fun A5 n5 c5 =>
  hdS S4 (⟨B1, 0, Option.none⟩ : Addr) fun A6 n6 c6 =>
  hdS S4 ((⟨B1, 0, Option.none⟩ : Addr).add 1) fun A7 n7 c7 =>
  hdS S4 ((⟨B1, 0, Option.none⟩ : Addr).add 2) fun A8 n8 c8 =>
  Calls Try.prog 30 #[.agg #[.slice A6 n6 c6, .slice A7 n7 c7, .slice A8 n8 c8], .int .i64 xa1] w3 fun e9 w10 => ∃ (x11 : Int), e9 = .returned (.int .i64 x11) ∧ (
  S4 w10 ∧ (
  optB A5 fun a12 =>
  req (decide (0 ≤ x11 ∧ x11 < (n5 : Int))) <|
  hdS S4 (a12.add (x11.toNat * 1)) fun A13 n13 c13 =>
  ∃ k19 : Nat, l0 k19 xa1 A13 n13 c13 (0 : Int) w10 (fun (w16 : World) => ∀ _ : Fr,
  Q (.returned (.int .i64 (-1 : Int))) w16) (fun (x17 : Int) (w18 : World) => ∀ _ : Fr,
  Q (.returned (.int .i64 x17)) w18))))
def D : Nat → Option DH := dtab [(1, .held [.fst 0, .fst 1, .fst 2, .fst 3, .eff 4, .fst 5, .fst 6] [.fst 7])]
def l0LO : LO := ⟨[], [4], [(0, [])], []⟩
def l0Tk (k : Nat) : Spec := fun Q σ w =>
  gInt .i64 (σ 1) fun xt1 =>
  gSlice (σ 5) fun At5 nt5 ct5 =>
  gInt .i64 (σ 6) fun xt6 =>
  l0 k xt1 At5 nt5 ct5 xt6 w (fun (w : World) => ∀ d : Fr, Q (.exit 0) (ov d []) w) (fun (xq4 : Int) (w : World) => ∀ d : Fr, Q .ret (ov d [(4, .int .i64 xq4)]) w)
def l0T : Spec := fun Q σ w => ∃ k, l0Tk k Q σ w
def l0tb : List (List Nat × Spec) := []
noncomputable def l0b : Code := (subC [0, 0, 1, 0, 1, 1] body).getD .skip
theorem l0_eq (k : Nat) (xt1 : Int) (At5 : Option Addr) (nt5 : Nat) (ct5 : Nat) (xt6 : Int) (Q : PQ) (σ : Fr) (w : World) :
    l0 (k + 1) xt1 At5 nt5 ct5 xt6 w (fun (w : World) => ∀ d : Fr, Q (.exit 0) (ov d []) w) (fun (xq4 : Int) (w : World) => ∀ d : Fr, Q .ret (ov d [(4, .int .i64 xq4)]) w) = codeW Try.prog hT 27 D (tab l0tb) [0, 0, 1, 0, 1, 1] l0b (thenQ (l0Tk k Q) (widen l0LO Q)) (ov σ [(1, .int .i64 xt1), (5, .slice At5 nt5 ct5), (6, .int .i64 xt6)]) w := by kernel_rfl
theorem l0_snd : ∀ c, subC [0, 1, 0, 1, 1] body = some c → Snd Try.prog 27 c l0T := by
  refine loop_of (hT := hT) (D := D) (l := l0tb) (b := l0b) (lo := l0LO) (by kernel_rfl) (by
    intro x hx
    simp only [l0tb, List.not_mem_nil] at hx
    ) (by kernel_rfl) (by kernel_rfl) ?_ ?_
  · intro Q σ w h
    unfold l0Tk at h
    obtain ⟨xt1, h1, hn⟩ := gInt_elim h
    clear h
    have h := hn
    clear hn
    obtain ⟨At5, nt5, ct5, h5, hn⟩ := gSlice_elim h
    clear h
    have h := hn
    clear hn
    obtain ⟨xt6, h6, hn⟩ := gInt_elim h
    clear h
    have h := hn
    clear hn
    exact h
  · intro k Q σ w h
    unfold l0Tk at h
    obtain ⟨xt1, h1, hn⟩ := gInt_elim h
    clear h
    have h := hn
    clear hn
    obtain ⟨At5, nt5, ct5, h5, hn⟩ := gSlice_elim h
    clear h
    have h := hn
    clear hn
    obtain ⟨xt6, h6, hn⟩ := gInt_elim h
    clear h
    have h := hn
    clear hn
    rw [l0_eq (σ := σ)] at h
    have e : (ov σ [(1, .int .i64 xt1), (5, .slice At5 nt5 ct5), (6, .int .i64 xt6)]) = σ := ov_self (by simp [h1, h5, h6])
    rw [e] at h
    exact h
def tb : List (List Nat × Spec) := [([0, 1, 0, 1, 1], l0T)]
theorem wp_eq (Aa0_0 : Option Addr) (na0_0 : Nat) (ca0_0 : Nat) (Aa0_1 : Option Addr) (na0_1 : Nat) (ca0_1 : Nat) (Aa0_2 : Option Addr) (na0_2 : Nat) (ca0_2 : Nat) (xa1 : Int) (w : World) (Q : Ending → World → Prop) :
    wp Aa0_0 na0_0 ca0_0 Aa0_1 na0_1 ca0_1 Aa0_2 na0_2 ca0_2 xa1 w Q = codeW Try.prog hT 27 D (tab tb) [] body (topQ Try.prog hT 27 [.tmp 4] Q) (argsF [.agg #[.slice Aa0_0 na0_0 ca0_0, .slice Aa0_1 na0_1 ca0_1, .slice Aa0_2 na0_2 ca0_2], .int .i64 xa1]) w := by kernel_rfl
theorem ok (Aa0_0 : Option Addr) (na0_0 : Nat) (ca0_0 : Nat) (Aa0_1 : Option Addr) (na0_1 : Nat) (ca0_1 : Nat) (Aa0_2 : Option Addr) (na0_2 : Nat) (ca0_2 : Nat) (xa1 : Int) (w : World) (Q : Ending → World → Prop) (h : wp Aa0_0 na0_0 ca0_0 Aa0_1 na0_1 ca0_1 Aa0_2 na0_2 ca0_2 xa1 w Q) : Calls Try.prog 44 #[.agg #[.slice Aa0_0 na0_0 ca0_0, .slice Aa0_1 na0_1 ca0_1, .slice Aa0_2 na0_2 ca0_2], .int .i64 xa1] w Q := by
  rw [wp_eq] at h
  exact calls_of_codeW (c := body) (rs := [.tmp 4]) Try.func44 (by kernel_rfl) (by kernel_rfl) (by kernel_rfl) (by kernel_rfl) (by kernel_rfl) (tab_snd (by
    intro x hx
    simp only [tb, List.mem_cons, List.not_mem_nil, or_false] at hx
    subst hx
    exact l0_snd)) (by kernel_rfl) h
end f_ref15_Index
namespace f_ref15_First
/-! skein/skeinref15.First: function 45 -/
noncomputable def body : Code := (Try.f45.body).getD .skip
def l0 : Nat → Option Addr → Nat → Nat → Addr → Int → World → (World → Prop) → (Int → World → Prop) → Prop
  | 0, _, _, _, _, _, _, _, _ => False
  | k + 1, At1, nt1, ct1, at2, xt5, w, K0, Kr =>
    sel (decide (xt5 < (nt1 : Int))) (
    drW w fun w3 =>
    ldS w3 (at2.add 2) fun A5 n5 c5 =>
    optB At1 fun a6 =>
    req (decide (0 ≤ xt5 ∧ xt5 < (nt1 : Int))) <|
    ldI w3 (a6.add (xt5.toNat * 1)) .i64 fun x7 =>
    optB A5 fun a8 =>
    req (decide (0 ≤ (IntKind.i64.wrap (x7 - (1 : Int))) ∧ (IntKind.i64.wrap (x7 - (1 : Int))) < (n5 : Int))) <|
    ldI w3 (a8.add ((IntKind.i64.wrap (x7 - (1 : Int))).toNat * 1)) .i64 fun x9 =>
    sel (decide (x9 > (0 : Int))) (
    optB At1 fun a10 =>
    req (decide (0 ≤ xt5 ∧ xt5 < (nt1 : Int))) <|
    ldI w3 (a10.add (xt5.toNat * 1)) .i64 fun x11 =>
    Kr x11 w3) (
    l0 k At1 nt1 ct1 at2 (IntKind.i64.wrap (xt5 + (1 : Int))) w3 K0 Kr)) (
    K0  w)
def wp (Aa0_0 : Option Addr) (na0_0 : Nat) (ca0_0 : Nat) (Aa0_1 : Option Addr) (na0_1 : Nat) (ca0_1 : Nat) (Aa0_2 : Option Addr) (na0_2 : Nat) (ca0_2 : Nat) (Aa1 : Option Addr) (na1 : Nat) (ca1 : Nat) (w : World) (Q : Ending → World → Prop) : Prop :=
  alW w (.cells #[.slice Aa0_0 na0_0 ca0_0, .slice Aa0_1 na0_1 ca0_1, .slice Aa0_2 na0_2 ca0_2] 34) fun B1 w2 =>
  ∃ k15 : Nat, l0 k15 Aa1 na1 ca1 (⟨B1, 0, Option.none⟩ : Addr) (0 : Int) w2 (fun (w12 : World) => ∀ _ : Fr,
  Q (.returned (.int .i64 (0 : Int))) w12) (fun (x13 : Int) (w14 : World) => ∀ _ : Fr,
  Q (.returned (.int .i64 x13)) w14)
def D : Nat → Option DH := dtab [(4, .simple [.fst 0, .fst 1, .fst 2, .fst 3, .fst 4, .fst 5, .fst 6, .fst 7, .fst 8] [.fst 9])]
def l0LO : LO := ⟨[], [4], [(0, [])], []⟩
def l0Tk (k : Nat) : Spec := fun Q σ w =>
  gSlice (σ 1) fun At1 nt1 ct1 =>
  gAd (σ 2) fun at2 =>
  gInt .i64 (σ 5) fun xt5 =>
  l0 k At1 nt1 ct1 at2 xt5 w (fun (w : World) => ∀ d : Fr, Q (.exit 0) (ov d []) w) (fun (xq4 : Int) (w : World) => ∀ d : Fr, Q .ret (ov d [(4, .int .i64 xq4)]) w)
def l0T : Spec := fun Q σ w => ∃ k, l0Tk k Q σ w
def l0tb : List (List Nat × Spec) := []
noncomputable def l0b : Code := (subC [0, 0, 1, 0, 1] body).getD .skip
theorem l0_eq (k : Nat) (At1 : Option Addr) (nt1 : Nat) (ct1 : Nat) (at2 : Addr) (xt5 : Int) (Q : PQ) (σ : Fr) (w : World) :
    l0 (k + 1) At1 nt1 ct1 at2 xt5 w (fun (w : World) => ∀ d : Fr, Q (.exit 0) (ov d []) w) (fun (xq4 : Int) (w : World) => ∀ d : Fr, Q .ret (ov d [(4, .int .i64 xq4)]) w) = codeW Try.prog hT 26 D (tab l0tb) [0, 0, 1, 0, 1] l0b (thenQ (l0Tk k Q) (widen l0LO Q)) (ov σ [(1, .slice At1 nt1 ct1), (2, .pointer (some at2)), (5, .int .i64 xt5)]) w := by kernel_rfl
theorem l0_snd : ∀ c, subC [0, 1, 0, 1] body = some c → Snd Try.prog 26 c l0T := by
  refine loop_of (hT := hT) (D := D) (l := l0tb) (b := l0b) (lo := l0LO) (by kernel_rfl) (by
    intro x hx
    simp only [l0tb, List.not_mem_nil] at hx
    ) (by kernel_rfl) (by kernel_rfl) ?_ ?_
  · intro Q σ w h
    unfold l0Tk at h
    obtain ⟨At1, nt1, ct1, h1, hn⟩ := gSlice_elim h
    clear h
    have h := hn
    clear hn
    obtain ⟨at2, h2, hn⟩ := gAd_elim h
    clear h
    have h := hn
    clear hn
    obtain ⟨xt5, h5, hn⟩ := gInt_elim h
    clear h
    have h := hn
    clear hn
    exact h
  · intro k Q σ w h
    unfold l0Tk at h
    obtain ⟨At1, nt1, ct1, h1, hn⟩ := gSlice_elim h
    clear h
    have h := hn
    clear hn
    obtain ⟨at2, h2, hn⟩ := gAd_elim h
    clear h
    have h := hn
    clear hn
    obtain ⟨xt5, h5, hn⟩ := gInt_elim h
    clear h
    have h := hn
    clear hn
    rw [l0_eq (σ := σ)] at h
    have e : (ov σ [(1, .slice At1 nt1 ct1), (2, .pointer (some at2)), (5, .int .i64 xt5)]) = σ := ov_self (by simp [h1, h2, h5])
    rw [e] at h
    exact h
def tb : List (List Nat × Spec) := [([0, 1, 0, 1], l0T)]
theorem wp_eq (Aa0_0 : Option Addr) (na0_0 : Nat) (ca0_0 : Nat) (Aa0_1 : Option Addr) (na0_1 : Nat) (ca0_1 : Nat) (Aa0_2 : Option Addr) (na0_2 : Nat) (ca0_2 : Nat) (Aa1 : Option Addr) (na1 : Nat) (ca1 : Nat) (w : World) (Q : Ending → World → Prop) :
    wp Aa0_0 na0_0 ca0_0 Aa0_1 na0_1 ca0_1 Aa0_2 na0_2 ca0_2 Aa1 na1 ca1 w Q = codeW Try.prog hT 26 D (tab tb) [] body (topQ Try.prog hT 26 [.tmp 4] Q) (argsF [.agg #[.slice Aa0_0 na0_0 ca0_0, .slice Aa0_1 na0_1 ca0_1, .slice Aa0_2 na0_2 ca0_2], .slice Aa1 na1 ca1]) w := by kernel_rfl
theorem ok (Aa0_0 : Option Addr) (na0_0 : Nat) (ca0_0 : Nat) (Aa0_1 : Option Addr) (na0_1 : Nat) (ca0_1 : Nat) (Aa0_2 : Option Addr) (na0_2 : Nat) (ca0_2 : Nat) (Aa1 : Option Addr) (na1 : Nat) (ca1 : Nat) (w : World) (Q : Ending → World → Prop) (h : wp Aa0_0 na0_0 ca0_0 Aa0_1 na0_1 ca0_1 Aa0_2 na0_2 ca0_2 Aa1 na1 ca1 w Q) : Calls Try.prog 45 #[.agg #[.slice Aa0_0 na0_0 ca0_0, .slice Aa0_1 na0_1 ca0_1, .slice Aa0_2 na0_2 ca0_2], .slice Aa1 na1 ca1] w Q := by
  rw [wp_eq] at h
  exact calls_of_codeW (c := body) (rs := [.tmp 4]) Try.func45 (by kernel_rfl) (by kernel_rfl) (by kernel_rfl) (by kernel_rfl) (by kernel_rfl) (tab_snd (by
    intro x hx
    simp only [tb, List.mem_cons, List.not_mem_nil, or_false] at hx
    subst hx
    exact l0_snd)) (by kernel_rfl) h
end f_ref15_First
namespace f_law15_changes
/-! skein/skeinlaw15.changes: function 10 -/
noncomputable def body : Code := (Try.f10.body).getD .skip
def wp (aa0 : Addr) (Aa1_0 : Option Addr) (na1_0 : Nat) (ca1_0 : Nat) (Aa1_1 : Option Addr) (na1_1 : Nat) (ca1_1 : Nat) (Aa1_2 : Option Addr) (na1_2 : Nat) (ca1_2 : Nat) (xa2_0 : Int) (xa2_1 : Int) (xa2_2 : Int) (xa2_3 : Int) (xa2_4 : Int) (w : World) (Q : Ending → World → Prop) : Prop :=
  alW w (.cells #[.slice Aa1_0 na1_0 ca1_0, .slice Aa1_1 na1_1 ca1_1, .slice Aa1_2 na1_2 ca1_2] 34) fun B1 w2 =>
  alW w2 (.cells #[.int .i64 xa2_0, .int .i64 xa2_1, .int .i64 xa2_2, .int .i64 xa2_3, .int .u8 xa2_4] 30) fun B3 w4 =>
  alW w4 (.cells #[.slice none 0 0, .slice none 0 0, .slice none 0 0] 34) fun B5 w6 =>
  ldS w6 (⟨B1, 0, Option.none⟩ : Addr) fun A7 n7 c7 =>
  ldS w6 ((⟨B1, 0, Option.none⟩ : Addr).add 1) fun A8 n8 c8 =>
  ldS w6 ((⟨B1, 0, Option.none⟩ : Addr).add 2) fun A9 n9 c9 =>
  ldI w6 ((⟨B3, 0, Option.none⟩ : Addr).add 1) .i64 fun x10 =>
  Calls Try.prog 28 #[.agg #[.slice A7 n7 c7, .slice A8 n8 c8, .slice A9 n9 c9], .int .i64 x10] w6 fun e11 w12 => ∃ (b13 : Bool), e11 = .returned (.bool b13) ∧ (
  ldI w12 (⟨B3, 0, Option.none⟩ : Addr) .i64 fun x14 =>
  sel (x14 == (1 : Int)) (
  ldI w12 ((⟨B3, 0, Option.none⟩ : Addr).add 3) .i64 fun x15 =>
  ldI w12 ((⟨B3, 0, Option.none⟩ : Addr).add 4) .u8 fun x16 =>
  Calls Try.prog 27 #[.pointer (some aa0), .agg #[.int .i64 x15, .int .i64 (IntKind.i64.wrap x16)]] w12 fun e17 w18 => ∃ (x19_0 : Int) (x19_1 : Int), e17 = .returned (.tuple #[.int .i64 x19_0, .int .i64 x19_1]) ∧ (
  ldS w18 ((⟨B1, 0, Option.none⟩ : Addr).add 1) fun A20 n20 c20 =>
  sel (decide ((n20 : Int) ≥ (65536 : Int))) (
  ldS w18 (⟨B1, 0, Option.none⟩ : Addr) fun A21 n21 c21 =>
  ldS w18 ((⟨B1, 0, Option.none⟩ : Addr).add 1) fun A22 n22 c22 =>
  ldS w18 ((⟨B1, 0, Option.none⟩ : Addr).add 2) fun A23 n23 c23 =>
  sel (x19_0 == (0 : Int)) (
  stW w18 (⟨B5, 0, Option.none⟩ : Addr) (.slice A21 n21 c21) fun w24 =>
  stW w24 ((⟨B5, 0, Option.none⟩ : Addr).add 1) (.slice A22 n22 c22) fun w25 =>
  stW w25 ((⟨B5, 0, Option.none⟩ : Addr).add 2) (.slice A23 n23 c23) fun w26 =>
  ldS w26 (⟨B5, 0, Option.none⟩ : Addr) fun A27 n27 c27 =>
  ldS w26 ((⟨B5, 0, Option.none⟩ : Addr).add 1) fun A28 n28 c28 =>
  ldS w26 ((⟨B5, 0, Option.none⟩ : Addr).add 2) fun A29 n29 c29 =>
  Q (.returned (.tuple #[.agg #[.slice A27 n27 c27, .slice A28 n28 c28, .slice A29 n29 c29], .bool (x19_1 == (55 : Int))])) w26) (
  stW w18 (⟨B5, 0, Option.none⟩ : Addr) (.slice A21 n21 c21) fun w30 =>
  stW w30 ((⟨B5, 0, Option.none⟩ : Addr).add 1) (.slice A22 n22 c22) fun w31 =>
  stW w31 ((⟨B5, 0, Option.none⟩ : Addr).add 2) (.slice A23 n23 c23) fun w32 =>
  ldS w32 (⟨B5, 0, Option.none⟩ : Addr) fun A33 n33 c33 =>
  ldS w32 ((⟨B5, 0, Option.none⟩ : Addr).add 1) fun A34 n34 c34 =>
  ldS w32 ((⟨B5, 0, Option.none⟩ : Addr).add 2) fun A35 n35 c35 =>
  Q (.returned (.tuple #[.agg #[.slice A33 n33 c33, .slice A34 n34 c34, .slice A35 n35 c35], .bool false])) w32)) (
  drW w18 fun w36 =>
  ∃ S37 : World → Prop, S37 w36 ∧ (
  hdS S37 (⟨B1, 0, Option.none⟩ : Addr) fun A38 n38 c38 =>
  hdS S37 ((⟨B1, 0, Option.none⟩ : Addr).add 1) fun A39 n39 c39 =>
  hdS S37 ((⟨B1, 0, Option.none⟩ : Addr).add 2) fun A40 n40 c40 =>
  hdI S37 ((⟨B3, 0, Option.none⟩ : Addr).add 3) .i64 fun x41 =>
  hdI S37 ((⟨B3, 0, Option.none⟩ : Addr).add 4) .u8 fun x42 =>
  hdS S37 ((⟨B1, 0, Option.none⟩ : Addr).add 1) fun A43 n43 c43 =>
  Calls Try.prog 29 #[.agg #[.slice A38 n38 c38, .slice A39 n39 c39, .slice A40 n40 c40], .int .i64 x41, .int .i64 (IntKind.i64.wrap x42)] w36 fun e44 w45 => ∃ (A46_0 : Option Addr) (n46_0 : Nat) (c46_0 : Nat) (A46_1 : Option Addr) (n46_1 : Nat) (c46_1 : Nat) (A46_2 : Option Addr) (n46_2 : Nat) (c46_2 : Nat), e44 = .returned (.agg #[.slice A46_0 n46_0 c46_0, .slice A46_1 n46_1 c46_1, .slice A46_2 n46_2 c46_2]) ∧ (
  S37 w45 ∧ (
  sel (x19_0 == (IntKind.i64.wrap ((n43 : Int) + (1 : Int)))) (
  stW w45 (⟨B5, 0, Option.none⟩ : Addr) (.slice A46_0 n46_0 c46_0) fun w47 =>
  stW w47 ((⟨B5, 0, Option.none⟩ : Addr).add 1) (.slice A46_1 n46_1 c46_1) fun w48 =>
  stW w48 ((⟨B5, 0, Option.none⟩ : Addr).add 2) (.slice A46_2 n46_2 c46_2) fun w49 =>
  ldS w49 (⟨B5, 0, Option.none⟩ : Addr) fun A50 n50 c50 =>
  ldS w49 ((⟨B5, 0, Option.none⟩ : Addr).add 1) fun A51 n51 c51 =>
  ldS w49 ((⟨B5, 0, Option.none⟩ : Addr).add 2) fun A52 n52 c52 =>
  Q (.returned (.tuple #[.agg #[.slice A50 n50 c50, .slice A51 n51 c51, .slice A52 n52 c52], .bool (x19_1 == (0 : Int))])) w49) (
  stW w45 (⟨B5, 0, Option.none⟩ : Addr) (.slice A46_0 n46_0 c46_0) fun w53 =>
  stW w53 ((⟨B5, 0, Option.none⟩ : Addr).add 1) (.slice A46_1 n46_1 c46_1) fun w54 =>
  stW w54 ((⟨B5, 0, Option.none⟩ : Addr).add 2) (.slice A46_2 n46_2 c46_2) fun w55 =>
  ldS w55 (⟨B5, 0, Option.none⟩ : Addr) fun A56 n56 c56 =>
  ldS w55 ((⟨B5, 0, Option.none⟩ : Addr).add 1) fun A57 n57 c57 =>
  ldS w55 ((⟨B5, 0, Option.none⟩ : Addr).add 2) fun A58 n58 c58 =>
  Q (.returned (.tuple #[.agg #[.slice A56 n56 c56, .slice A57 n57 c57, .slice A58 n58 c58], .bool false])) w55))))))) (
  sel (x14 == (2 : Int)) (
  ldI w12 ((⟨B3, 0, Option.none⟩ : Addr).add 1) .i64 fun x59 =>
  ldI w12 ((⟨B3, 0, Option.none⟩ : Addr).add 2) .i64 fun x60 =>
  Calls Try.prog 17 #[.pointer (some aa0), .int .i64 x59, .int .i64 x60] w12 fun e61 w62 => ∃ (x63 : Int), e61 = .returned (.int .i64 x63) ∧ (
  sel b13 (
  ldS w62 (⟨B1, 0, Option.none⟩ : Addr) fun A64 n64 c64 =>
  ldS w62 ((⟨B1, 0, Option.none⟩ : Addr).add 1) fun A65 n65 c65 =>
  ldS w62 ((⟨B1, 0, Option.none⟩ : Addr).add 2) fun A66 n66 c66 =>
  stW w62 (⟨B5, 0, Option.none⟩ : Addr) (.slice A64 n64 c64) fun w67 =>
  stW w67 ((⟨B5, 0, Option.none⟩ : Addr).add 1) (.slice A65 n65 c65) fun w68 =>
  stW w68 ((⟨B5, 0, Option.none⟩ : Addr).add 2) (.slice A66 n66 c66) fun w69 =>
  ldS w69 (⟨B5, 0, Option.none⟩ : Addr) fun A70 n70 c70 =>
  ldS w69 ((⟨B5, 0, Option.none⟩ : Addr).add 1) fun A71 n71 c71 =>
  ldS w69 ((⟨B5, 0, Option.none⟩ : Addr).add 2) fun A72 n72 c72 =>
  Q (.returned (.tuple #[.agg #[.slice A70 n70 c70, .slice A71 n71 c71, .slice A72 n72 c72], .bool (x63 == (150 : Int))])) w69) (
  ldS w62 (⟨B1, 0, Option.none⟩ : Addr) fun A73 n73 c73 =>
  ldS w62 ((⟨B1, 0, Option.none⟩ : Addr).add 1) fun A74 n74 c74 =>
  ldS w62 ((⟨B1, 0, Option.none⟩ : Addr).add 2) fun A75 n75 c75 =>
  ldI w62 ((⟨B3, 0, Option.none⟩ : Addr).add 2) .i64 fun x76 =>
  Calls Try.prog 28 #[.agg #[.slice A73 n73 c73, .slice A74 n74 c74, .slice A75 n75 c75], .int .i64 x76] w62 fun e77 w78 => ∃ (b79 : Bool), e77 = .returned (.bool b79) ∧ (
  sel b79 (
  ldS w78 (⟨B1, 0, Option.none⟩ : Addr) fun A80 n80 c80 =>
  ldS w78 ((⟨B1, 0, Option.none⟩ : Addr).add 1) fun A81 n81 c81 =>
  ldS w78 ((⟨B1, 0, Option.none⟩ : Addr).add 2) fun A82 n82 c82 =>
  stW w78 (⟨B5, 0, Option.none⟩ : Addr) (.slice A80 n80 c80) fun w83 =>
  stW w83 ((⟨B5, 0, Option.none⟩ : Addr).add 1) (.slice A81 n81 c81) fun w84 =>
  stW w84 ((⟨B5, 0, Option.none⟩ : Addr).add 2) (.slice A82 n82 c82) fun w85 =>
  ldS w85 (⟨B5, 0, Option.none⟩ : Addr) fun A86 n86 c86 =>
  ldS w85 ((⟨B5, 0, Option.none⟩ : Addr).add 1) fun A87 n87 c87 =>
  ldS w85 ((⟨B5, 0, Option.none⟩ : Addr).add 2) fun A88 n88 c88 =>
  Q (.returned (.tuple #[.agg #[.slice A86 n86 c86, .slice A87 n87 c87, .slice A88 n88 c88], .bool (x63 == (150 : Int))])) w85) (
  drW w78 fun w89 =>
  ∃ S90 : World → Prop, S90 w89 ∧ (
  hdS S90 (⟨B1, 0, Option.none⟩ : Addr) fun A91 n91 c91 =>
  hdS S90 ((⟨B1, 0, Option.none⟩ : Addr).add 1) fun A92 n92 c92 =>
  hdS S90 ((⟨B1, 0, Option.none⟩ : Addr).add 2) fun A93 n93 c93 =>
  hdI S90 ((⟨B3, 0, Option.none⟩ : Addr).add 1) .i64 fun x94 =>
  hdS S90 (⟨B1, 0, Option.none⟩ : Addr) fun A95 n95 c95 =>
  hdS S90 ((⟨B1, 0, Option.none⟩ : Addr).add 1) fun A96 n96 c96 =>
  hdS S90 ((⟨B1, 0, Option.none⟩ : Addr).add 2) fun A97 n97 c97 =>
  hdI S90 ((⟨B3, 0, Option.none⟩ : Addr).add 2) .i64 fun x98 =>
  Calls Try.prog 30 #[.agg #[.slice A91 n91 c91, .slice A92 n92 c92, .slice A93 n93 c93], .int .i64 x94] w89 fun e99 w100 => ∃ (x101 : Int), e99 = .returned (.int .i64 x101) ∧ (
  S90 w100 ∧ (
  Calls Try.prog 30 #[.agg #[.slice A95 n95 c95, .slice A96 n96 c96, .slice A97 n97 c97], .int .i64 x98] w100 fun e102 w103 => ∃ (x104 : Int), e102 = .returned (.int .i64 x104) ∧ (
  sel (x101 == x104) (
  ldS w103 (⟨B1, 0, Option.none⟩ : Addr) fun A105 n105 c105 =>
  ldS w103 ((⟨B1, 0, Option.none⟩ : Addr).add 1) fun A106 n106 c106 =>
  ldS w103 ((⟨B1, 0, Option.none⟩ : Addr).add 2) fun A107 n107 c107 =>
  stW w103 (⟨B5, 0, Option.none⟩ : Addr) (.slice A105 n105 c105) fun w108 =>
  stW w108 ((⟨B5, 0, Option.none⟩ : Addr).add 1) (.slice A106 n106 c106) fun w109 =>
  stW w109 ((⟨B5, 0, Option.none⟩ : Addr).add 2) (.slice A107 n107 c107) fun w110 =>
  ldS w110 (⟨B5, 0, Option.none⟩ : Addr) fun A111 n111 c111 =>
  ldS w110 ((⟨B5, 0, Option.none⟩ : Addr).add 1) fun A112 n112 c112 =>
  ldS w110 ((⟨B5, 0, Option.none⟩ : Addr).add 2) fun A113 n113 c113 =>
  Q (.returned (.tuple #[.agg #[.slice A111 n111 c111, .slice A112 n112 c112, .slice A113 n113 c113], .bool (x63 == (151 : Int))])) w110) (
  ldS w103 (⟨B1, 0, Option.none⟩ : Addr) fun A114 n114 c114 =>
  ldS w103 ((⟨B1, 0, Option.none⟩ : Addr).add 1) fun A115 n115 c115 =>
  ldS w103 ((⟨B1, 0, Option.none⟩ : Addr).add 2) fun A116 n116 c116 =>
  ldI w103 ((⟨B3, 0, Option.none⟩ : Addr).add 1) .i64 fun x117 =>
  ldI w103 ((⟨B3, 0, Option.none⟩ : Addr).add 2) .i64 fun x118 =>
  Calls Try.prog 31 #[.agg #[.slice A114 n114 c114, .slice A115 n115 c115, .slice A116 n116 c116], .int .i64 x117, .int .i64 x118] w103 fun e119 w120 => ∃ (A121_0 : Option Addr) (n121_0 : Nat) (c121_0 : Nat) (A121_1 : Option Addr) (n121_1 : Nat) (c121_1 : Nat) (A121_2 : Option Addr) (n121_2 : Nat) (c121_2 : Nat), e119 = .returned (.agg #[.slice A121_0 n121_0 c121_0, .slice A121_1 n121_1 c121_1, .slice A121_2 n121_2 c121_2]) ∧ (
  stW w120 (⟨B5, 0, Option.none⟩ : Addr) (.slice A121_0 n121_0 c121_0) fun w122 =>
  stW w122 ((⟨B5, 0, Option.none⟩ : Addr).add 1) (.slice A121_1 n121_1 c121_1) fun w123 =>
  stW w123 ((⟨B5, 0, Option.none⟩ : Addr).add 2) (.slice A121_2 n121_2 c121_2) fun w124 =>
  ldS w124 (⟨B5, 0, Option.none⟩ : Addr) fun A125 n125 c125 =>
  ldS w124 ((⟨B5, 0, Option.none⟩ : Addr).add 1) fun A126 n126 c126 =>
  ldS w124 ((⟨B5, 0, Option.none⟩ : Addr).add 2) fun A127 n127 c127 =>
  Q (.returned (.tuple #[.agg #[.slice A125 n125 c125, .slice A126 n126 c126, .slice A127 n127 c127], .bool (x63 == (0 : Int))])) w124))))))))))) (
  sel (x14 == (3 : Int)) (
  ldI w12 ((⟨B3, 0, Option.none⟩ : Addr).add 1) .i64 fun x128 =>
  Calls Try.prog 23 #[.pointer (some aa0), .int .i64 x128] w12 fun e129 w130 => ∃ (x131 : Int), e129 = .returned (.int .i64 x131) ∧ (
  sel b13 (
  ldS w130 (⟨B1, 0, Option.none⟩ : Addr) fun A132 n132 c132 =>
  ldS w130 ((⟨B1, 0, Option.none⟩ : Addr).add 1) fun A133 n133 c133 =>
  ldS w130 ((⟨B1, 0, Option.none⟩ : Addr).add 2) fun A134 n134 c134 =>
  stW w130 (⟨B5, 0, Option.none⟩ : Addr) (.slice A132 n132 c132) fun w135 =>
  stW w135 ((⟨B5, 0, Option.none⟩ : Addr).add 1) (.slice A133 n133 c133) fun w136 =>
  stW w136 ((⟨B5, 0, Option.none⟩ : Addr).add 2) (.slice A134 n134 c134) fun w137 =>
  ldS w137 (⟨B5, 0, Option.none⟩ : Addr) fun A138 n138 c138 =>
  ldS w137 ((⟨B5, 0, Option.none⟩ : Addr).add 1) fun A139 n139 c139 =>
  ldS w137 ((⟨B5, 0, Option.none⟩ : Addr).add 2) fun A140 n140 c140 =>
  Q (.returned (.tuple #[.agg #[.slice A138 n138 c138, .slice A139 n139 c139, .slice A140 n140 c140], .bool (x131 == (150 : Int))])) w137) (
  ldS w130 (⟨B1, 0, Option.none⟩ : Addr) fun A141 n141 c141 =>
  ldS w130 ((⟨B1, 0, Option.none⟩ : Addr).add 1) fun A142 n142 c142 =>
  ldS w130 ((⟨B1, 0, Option.none⟩ : Addr).add 2) fun A143 n143 c143 =>
  ldI w130 ((⟨B3, 0, Option.none⟩ : Addr).add 1) .i64 fun x144 =>
  Calls Try.prog 32 #[.agg #[.slice A141 n141 c141, .slice A142 n142 c142, .slice A143 n143 c143], .int .i64 x144] w130 fun e145 w146 => ∃ (A147_0 : Option Addr) (n147_0 : Nat) (c147_0 : Nat) (A147_1 : Option Addr) (n147_1 : Nat) (c147_1 : Nat) (A147_2 : Option Addr) (n147_2 : Nat) (c147_2 : Nat), e145 = .returned (.agg #[.slice A147_0 n147_0 c147_0, .slice A147_1 n147_1 c147_1, .slice A147_2 n147_2 c147_2]) ∧ (
  stW w146 (⟨B5, 0, Option.none⟩ : Addr) (.slice A147_0 n147_0 c147_0) fun w148 =>
  stW w148 ((⟨B5, 0, Option.none⟩ : Addr).add 1) (.slice A147_1 n147_1 c147_1) fun w149 =>
  stW w149 ((⟨B5, 0, Option.none⟩ : Addr).add 2) (.slice A147_2 n147_2 c147_2) fun w150 =>
  ldS w150 (⟨B5, 0, Option.none⟩ : Addr) fun A151 n151 c151 =>
  ldS w150 ((⟨B5, 0, Option.none⟩ : Addr).add 1) fun A152 n152 c152 =>
  ldS w150 ((⟨B5, 0, Option.none⟩ : Addr).add 2) fun A153 n153 c153 =>
  Q (.returned (.tuple #[.agg #[.slice A151 n151 c151, .slice A152 n152 c152, .slice A153 n153 c153], .bool (x131 == (0 : Int))])) w150)))) (
  sel (x14 == (4 : Int)) (
  ldI w12 ((⟨B3, 0, Option.none⟩ : Addr).add 1) .i64 fun x154 =>
  ldI w12 ((⟨B3, 0, Option.none⟩ : Addr).add 3) .i64 fun x155 =>
  ldI w12 ((⟨B3, 0, Option.none⟩ : Addr).add 4) .u8 fun x156 =>
  Calls Try.prog 22 #[.pointer (some aa0), .int .i64 x154, .agg #[.int .i64 x155, .int .i64 (IntKind.i64.wrap x156)]] w12 fun e157 w158 => ∃ (x159 : Int), e157 = .returned (.int .i64 x159) ∧ (
  sel b13 (
  ldS w158 (⟨B1, 0, Option.none⟩ : Addr) fun A160 n160 c160 =>
  ldS w158 ((⟨B1, 0, Option.none⟩ : Addr).add 1) fun A161 n161 c161 =>
  ldS w158 ((⟨B1, 0, Option.none⟩ : Addr).add 2) fun A162 n162 c162 =>
  stW w158 (⟨B5, 0, Option.none⟩ : Addr) (.slice A160 n160 c160) fun w163 =>
  stW w163 ((⟨B5, 0, Option.none⟩ : Addr).add 1) (.slice A161 n161 c161) fun w164 =>
  stW w164 ((⟨B5, 0, Option.none⟩ : Addr).add 2) (.slice A162 n162 c162) fun w165 =>
  ldS w165 (⟨B5, 0, Option.none⟩ : Addr) fun A166 n166 c166 =>
  ldS w165 ((⟨B5, 0, Option.none⟩ : Addr).add 1) fun A167 n167 c167 =>
  ldS w165 ((⟨B5, 0, Option.none⟩ : Addr).add 2) fun A168 n168 c168 =>
  Q (.returned (.tuple #[.agg #[.slice A166 n166 c166, .slice A167 n167 c167, .slice A168 n168 c168], .bool (x159 == (150 : Int))])) w165) (
  ldS w158 (⟨B1, 0, Option.none⟩ : Addr) fun A169 n169 c169 =>
  ldS w158 ((⟨B1, 0, Option.none⟩ : Addr).add 1) fun A170 n170 c170 =>
  ldS w158 ((⟨B1, 0, Option.none⟩ : Addr).add 2) fun A171 n171 c171 =>
  ldI w158 ((⟨B3, 0, Option.none⟩ : Addr).add 1) .i64 fun x172 =>
  ldI w158 ((⟨B3, 0, Option.none⟩ : Addr).add 3) .i64 fun x173 =>
  ldI w158 ((⟨B3, 0, Option.none⟩ : Addr).add 4) .u8 fun x174 =>
  Calls Try.prog 33 #[.agg #[.slice A169 n169 c169, .slice A170 n170 c170, .slice A171 n171 c171], .int .i64 x172, .int .i64 x173, .int .i64 (IntKind.i64.wrap x174)] w158 fun e175 w176 => ∃ (A177_0 : Option Addr) (n177_0 : Nat) (c177_0 : Nat) (A177_1 : Option Addr) (n177_1 : Nat) (c177_1 : Nat) (A177_2 : Option Addr) (n177_2 : Nat) (c177_2 : Nat), e175 = .returned (.agg #[.slice A177_0 n177_0 c177_0, .slice A177_1 n177_1 c177_1, .slice A177_2 n177_2 c177_2]) ∧ (
  stW w176 (⟨B5, 0, Option.none⟩ : Addr) (.slice A177_0 n177_0 c177_0) fun w178 =>
  stW w178 ((⟨B5, 0, Option.none⟩ : Addr).add 1) (.slice A177_1 n177_1 c177_1) fun w179 =>
  stW w179 ((⟨B5, 0, Option.none⟩ : Addr).add 2) (.slice A177_2 n177_2 c177_2) fun w180 =>
  ldS w180 (⟨B5, 0, Option.none⟩ : Addr) fun A181 n181 c181 =>
  ldS w180 ((⟨B5, 0, Option.none⟩ : Addr).add 1) fun A182 n182 c182 =>
  ldS w180 ((⟨B5, 0, Option.none⟩ : Addr).add 2) fun A183 n183 c183 =>
  Q (.returned (.tuple #[.agg #[.slice A181 n181 c181, .slice A182 n182 c182, .slice A183 n183 c183], .bool (x159 == (0 : Int))])) w180)))) (
  ldS w12 (⟨B1, 0, Option.none⟩ : Addr) fun A184 n184 c184 =>
  ldS w12 ((⟨B1, 0, Option.none⟩ : Addr).add 1) fun A185 n185 c185 =>
  ldS w12 ((⟨B1, 0, Option.none⟩ : Addr).add 2) fun A186 n186 c186 =>
  stW w12 (⟨B5, 0, Option.none⟩ : Addr) (.slice A184 n184 c184) fun w187 =>
  stW w187 ((⟨B5, 0, Option.none⟩ : Addr).add 1) (.slice A185 n185 c185) fun w188 =>
  stW w188 ((⟨B5, 0, Option.none⟩ : Addr).add 2) (.slice A186 n186 c186) fun w189 =>
  ldS w189 (⟨B5, 0, Option.none⟩ : Addr) fun A190 n190 c190 =>
  ldS w189 ((⟨B5, 0, Option.none⟩ : Addr).add 1) fun A191 n191 c191 =>
  ldS w189 ((⟨B5, 0, Option.none⟩ : Addr).add 2) fun A192 n192 c192 =>
  Q (.returned (.tuple #[.agg #[.slice A190 n190 c190, .slice A191 n191 c191, .slice A192 n192 c192], .bool true])) w189)))))
def D : Nat → Option DH := dtab [(7, .held [.fst 0, .fst 1, .fst 2, .fst 3, .fst 4, .fst 5, .fst 7, .fst 8, .fst 9, .fst 10, .fst 11, .fst 12, .eff 6] [.fst 13, .fst 14, .fst 15, .fst 16, .eff 17, .fst 18]), (12, .held [.fst 0, .fst 1, .fst 2, .fst 4, .fst 5, .fst 6, .eff 3] [.eff 7, .fst 8])]
def tb : List (List Nat × Spec) := []
theorem wp_eq (aa0 : Addr) (Aa1_0 : Option Addr) (na1_0 : Nat) (ca1_0 : Nat) (Aa1_1 : Option Addr) (na1_1 : Nat) (ca1_1 : Nat) (Aa1_2 : Option Addr) (na1_2 : Nat) (ca1_2 : Nat) (xa2_0 : Int) (xa2_1 : Int) (xa2_2 : Int) (xa2_3 : Int) (xa2_4 : Int) (w : World) (Q : Ending → World → Prop) :
    wp aa0 Aa1_0 na1_0 ca1_0 Aa1_1 na1_1 ca1_1 Aa1_2 na1_2 ca1_2 xa2_0 xa2_1 xa2_2 xa2_3 xa2_4 w Q = codeW Try.prog hT 143 D (tab tb) [] body (topQ Try.prog hT 143 [.cell 6 34, .tmp 7] Q) (argsF [.pointer (some aa0), .agg #[.slice Aa1_0 na1_0 ca1_0, .slice Aa1_1 na1_1 ca1_1, .slice Aa1_2 na1_2 ca1_2], .agg #[.int .i64 xa2_0, .int .i64 xa2_1, .int .i64 xa2_2, .int .i64 xa2_3, .int .u8 xa2_4]]) w := by kernel_rfl
theorem ok (aa0 : Addr) (Aa1_0 : Option Addr) (na1_0 : Nat) (ca1_0 : Nat) (Aa1_1 : Option Addr) (na1_1 : Nat) (ca1_1 : Nat) (Aa1_2 : Option Addr) (na1_2 : Nat) (ca1_2 : Nat) (xa2_0 : Int) (xa2_1 : Int) (xa2_2 : Int) (xa2_3 : Int) (xa2_4 : Int) (w : World) (Q : Ending → World → Prop) (h : wp aa0 Aa1_0 na1_0 ca1_0 Aa1_1 na1_1 ca1_1 Aa1_2 na1_2 ca1_2 xa2_0 xa2_1 xa2_2 xa2_3 xa2_4 w Q) : Calls Try.prog 10 #[.pointer (some aa0), .agg #[.slice Aa1_0 na1_0 ca1_0, .slice Aa1_1 na1_1 ca1_1, .slice Aa1_2 na1_2 ca1_2], .agg #[.int .i64 xa2_0, .int .i64 xa2_1, .int .i64 xa2_2, .int .i64 xa2_3, .int .u8 xa2_4]] w Q := by
  rw [wp_eq] at h
  exact calls_of_codeW (c := body) (rs := [.cell 6 34, .tmp 7]) Try.func10 (by kernel_rfl) (by kernel_rfl) (by kernel_rfl) (by kernel_rfl) (by kernel_rfl) (tab_snd (by
    intro x hx
    simp only [tb, List.not_mem_nil] at hx
    )) (by kernel_rfl) h
end f_law15_changes
namespace f_law15_tells
/-! skein/skeinlaw15.tells: function 26 -/
noncomputable def body : Code := (Try.f26.body).getD .skip
def j0 (at0 : Addr) (at4 : Addr) (at5 : Addr) (bt7 : Bool) (At8 : Option Addr) (nt8 : Nat) (ct8 : Nat) (w : World) (Kr : Bool → World → Prop) : Prop :=
  ldS w at4 fun A26 n26 c26 =>
  ldS w (at4.add 1) fun A27 n27 c27 =>
  ldS w (at4.add 2) fun A28 n28 c28 =>
  Calls Try.prog 42 #[.agg #[.slice A26 n26 c26, .slice A27 n27 c27, .slice A28 n28 c28], .slice At8 nt8 ct8] w fun e29 w30 => ∃ (x31_0 : Int) (x31_1 : Int), e29 = .returned (.tuple #[.int .i64 x31_0, .int .i64 x31_1]) ∧ (
  ldI w30 at5 .i64 fun x32 =>
  sel (x32 == (5 : Int)) (
  ldI w30 (at5.add 1) .i64 fun x33 =>
  ldI w30 (at5.add 2) .i64 fun x34 =>
  Calls Try.prog 16 #[.pointer (some at0), .int .i64 x33, .int .i64 x34] w30 fun e35 w36 => ∃ (b37_0 : Bool) (x37_1 : Int), e35 = .returned (.tuple #[.bool b37_0, .int .i64 x37_1]) ∧ (
  sel bt7 (
  sel (!b37_0) (
  Kr (x37_1 == (150 : Int)) w36) (
  Kr false w36)) (
  ldS w36 at4 fun A38 n38 c38 =>
  ldS w36 (at4.add 1) fun A39 n39 c39 =>
  ldS w36 (at4.add 2) fun A40 n40 c40 =>
  ldI w36 (at5.add 2) .i64 fun x41 =>
  Calls Try.prog 28 #[.agg #[.slice A38 n38 c38, .slice A39 n39 c39, .slice A40 n40 c40], .int .i64 x41] w36 fun e42 w43 => ∃ (b44 : Bool), e42 = .returned (.bool b44) ∧ (
  sel b44 (
  sel (!b37_0) (
  Kr (x37_1 == (150 : Int)) w43) (
  Kr false w43)) (
  sel (x37_1 == (0 : Int)) (
  ldI w43 (at5.add 2) .i64 fun x45 =>
  Calls Try.prog 43 #[.slice At8 nt8 ct8, .int .i64 x45] w43 fun e46 w47 => ∃ (b48 : Bool), e46 = .returned (.bool b48) ∧ (
  Kr (b37_0 == b48) w47)) (
  Kr false w43)))))) (
  sel (x32 == (6 : Int)) (
  ldI w30 (at5.add 1) .i64 fun x49 =>
  Calls Try.prog 24 #[.pointer (some at0), .int .i64 x49] w30 fun e50 w51 => ∃ (x52_0 : Int) (x52_1 : Int), e50 = .returned (.tuple #[.int .i64 x52_0, .int .i64 x52_1]) ∧ (
  sel bt7 (
  sel (x52_0 == (0 : Int)) (
  sel (x52_1 == (150 : Int)) (
  Kr true w51) (
  sel (!bt7) (
  sel (x52_1 == (0 : Int)) (
  ldS w51 at4 fun A53 n53 c53 =>
  ldS w51 (at4.add 1) fun A54 n54 c54 =>
  ldS w51 (at4.add 2) fun A55 n55 c55 =>
  ldI w51 (at5.add 1) .i64 fun x56 =>
  Calls Try.prog 44 #[.agg #[.slice A53 n53 c53, .slice A54 n54 c54, .slice A55 n55 c55], .int .i64 x56] w51 fun e57 w58 => ∃ (x59 : Int), e57 = .returned (.int .i64 x59) ∧ (
  Kr (x52_0 == x59) w58)) (
  Kr false w51)) (
  Kr false w51))) (
  sel (!bt7) (
  sel (x52_1 == (0 : Int)) (
  ldS w51 at4 fun A60 n60 c60 =>
  ldS w51 (at4.add 1) fun A61 n61 c61 =>
  ldS w51 (at4.add 2) fun A62 n62 c62 =>
  ldI w51 (at5.add 1) .i64 fun x63 =>
  Calls Try.prog 44 #[.agg #[.slice A60 n60 c60, .slice A61 n61 c61, .slice A62 n62 c62], .int .i64 x63] w51 fun e64 w65 => ∃ (x66 : Int), e64 = .returned (.int .i64 x66) ∧ (
  Kr (x52_0 == x66) w65)) (
  Kr false w51)) (
  Kr false w51))) (
  sel (!bt7) (
  sel (x52_1 == (0 : Int)) (
  ldS w51 at4 fun A67 n67 c67 =>
  ldS w51 (at4.add 1) fun A68 n68 c68 =>
  ldS w51 (at4.add 2) fun A69 n69 c69 =>
  ldI w51 (at5.add 1) .i64 fun x70 =>
  Calls Try.prog 44 #[.agg #[.slice A67 n67 c67, .slice A68 n68 c68, .slice A69 n69 c69], .int .i64 x70] w51 fun e71 w72 => ∃ (x73 : Int), e71 = .returned (.int .i64 x73) ∧ (
  Kr (x52_0 == x73) w72)) (
  Kr false w51)) (
  Kr false w51)))) (
  sel (x32 == (7 : Int)) (
  ldI w30 (at5.add 1) .i64 fun x74 =>
  ldI w30 (at5.add 2) .i64 fun x75 =>
  Calls Try.prog 25 #[.pointer (some at0), .int .i64 x74, .int .i64 x75] w30 fun e76 w77 => ∃ (x78_0 : Int) (x78_1 : Int), e76 = .returned (.tuple #[.int .i64 x78_0, .int .i64 x78_1]) ∧ (
  sel bt7 (
  sel (x78_0 == (0 : Int)) (
  sel bt7 (
  sel (x78_1 == (150 : Int)) (
  Kr true w77) (
  sel (!bt7) (
  Kr (x78_1 == (1 : Int)) w77) (
  Kr false w77))) (
  sel (!bt7) (
  Kr (x78_1 == (1 : Int)) w77) (
  Kr false w77))) (
  Kr false w77)) (
  ldI w77 (at5.add 2) .i64 fun x79 =>
  sel (decide (x79 < (0 : Int))) (
  sel (x78_0 == (0 : Int)) (
  sel bt7 (
  sel (x78_1 == (150 : Int)) (
  Kr true w77) (
  sel (!bt7) (
  Kr (x78_1 == (1 : Int)) w77) (
  Kr false w77))) (
  sel (!bt7) (
  Kr (x78_1 == (1 : Int)) w77) (
  Kr false w77))) (
  Kr false w77)) (
  ldI w77 (at5.add 2) .i64 fun x80 =>
  sel (decide (x80 ≥ (nt8 : Int))) (
  sel (x78_0 == (0 : Int)) (
  sel bt7 (
  sel (x78_1 == (150 : Int)) (
  Kr true w77) (
  sel (!bt7) (
  Kr (x78_1 == (1 : Int)) w77) (
  Kr false w77))) (
  sel (!bt7) (
  Kr (x78_1 == (1 : Int)) w77) (
  Kr false w77))) (
  Kr false w77)) (
  sel (x78_1 == (0 : Int)) (
  ldI w77 (at5.add 2) .i64 fun x81 =>
  optB At8 fun a82 =>
  req (decide (0 ≤ x81 ∧ x81 < (nt8 : Int))) <|
  ldI w77 (a82.add (x81.toNat * 1)) .i64 fun x83 =>
  Kr (x78_0 == x83) w77) (
  Kr false w77)))))) (
  sel (x32 == (8 : Int)) (
  ldI w30 (at5.add 1) .i64 fun x84 =>
  Calls Try.prog 11 #[.pointer (some at0), .int .i64 x84] w30 fun e85 w86 => ∃ (A87_0 : Option Addr) (n87_0 : Nat) (c87_0 : Nat) (x87_1 : Int), e85 = .returned (.tuple #[.slice A87_0 n87_0 c87_0, .int .i64 x87_1]) ∧ (
  Calls Try.prog 15 #[.slice A87_0 n87_0 c87_0, .slice At8 nt8 ct8] w86 fun e88 w89 => ∃ (b90 : Bool), e88 = .returned (.bool b90) ∧ (
  sel b90 (
  sel ((x87_1 == (0 : Int)) == (!bt7)) (
  sel (!bt7) (
  Kr true w89) (
  Kr (x87_1 == (150 : Int)) w89)) (
  Kr false w89)) (
  Kr false w89)))) (
  sel (x32 == (9 : Int)) (
  ldI w30 (at5.add 1) .i64 fun x91 =>
  Calls Try.prog 12 #[.pointer (some at0), .int .i64 x91] w30 fun e92 w93 => ∃ (x94_0_0 : Int) (x94_0_1 : Int) (x94_1 : Int), e92 = .returned (.tuple #[.agg #[.int .i64 x94_0_0, .int .i64 x94_0_1], .int .i64 x94_1]) ∧ (
  alW w93 (.cells #[.int .i64 (0 : Int), .int .i64 (0 : Int)] 27) fun B95 w96 =>
  stW w96 (⟨B95, 0, Option.none⟩ : Addr) (.int .i64 x94_0_0) fun w97 =>
  stW w97 ((⟨B95, 0, Option.none⟩ : Addr).add 1) (.int .i64 x94_0_1) fun w98 =>
  ldI w98 (at5.add 1) .i64 fun x99 =>
  Calls Try.prog 19 #[.pointer (some at0), .int .i64 x99] w98 fun e100 w101 => ∃ (x102_0 : Int) (x102_1 : Int), e100 = .returned (.tuple #[.int .i64 x102_0, .int .i64 x102_1]) ∧ (
  ldI w101 (⟨B95, 0, Option.none⟩ : Addr) .i64 fun x103 =>
  sel (x103 == x31_0) (
  ldI w101 ((⟨B95, 0, Option.none⟩ : Addr).add 1) .i64 fun x104 =>
  sel (x104 == x31_1) (
  sel (x102_0 == (nt8 : Int)) (
  sel (x94_1 == x102_1) (
  sel ((x94_1 == (0 : Int)) == (!bt7)) (
  sel (!bt7) (
  Kr true w101) (
  Kr (x94_1 == (150 : Int)) w101)) (
  Kr false w101)) (
  Kr false w101)) (
  Kr false w101)) (
  Kr false w101)) (
  Kr false w101)))) (
  sel (x32 == (10 : Int)) (
  ldI w30 (at5.add 1) .i64 fun x105 =>
  Calls Try.prog 13 #[.pointer (some at0), .int .i64 x105, .func (.func 14) #[] #[]] w30 fun e106 w107 => ∃ (x108_0 : Int) (x108_1 : Int), e106 = .returned (.tuple #[.int .i64 x108_0, .int .i64 x108_1]) ∧ (
  ldS w107 at4 fun A109 n109 c109 =>
  ldS w107 (at4.add 1) fun A110 n110 c110 =>
  ldS w107 (at4.add 2) fun A111 n111 c111 =>
  Calls Try.prog 45 #[.agg #[.slice A109 n109 c109, .slice A110 n110 c110, .slice A111 n111 c111], .slice At8 nt8 ct8] w107 fun e112 w113 => ∃ (x114 : Int), e112 = .returned (.int .i64 x114) ∧ (
  sel (x108_0 == x114) (
  sel ((x108_1 == (0 : Int)) == (!bt7)) (
  sel (!bt7) (
  Kr true w113) (
  Kr (x108_1 == (150 : Int)) w113)) (
  Kr false w113)) (
  Kr false w113)))) (
  sel (x32 == (11 : Int)) (
  ldI w30 (at5.add 1) .i64 fun x115 =>
  Calls Try.prog 20 #[.pointer (some at0), .int .i64 x115] w30 fun e116 w117 => ∃ (x118_0_0 : Int) (x118_0_1 : Int) (x118_1 : Int), e116 = .returned (.tuple #[.agg #[.int .i64 x118_0_0, .int .i64 x118_0_1], .int .i64 x118_1]) ∧ (
  alW w117 (.cells #[.int .i64 (0 : Int), .int .i64 (0 : Int)] 27) fun B119 w120 =>
  stW w120 (⟨B119, 0, Option.none⟩ : Addr) (.int .i64 x118_0_0) fun w121 =>
  stW w121 ((⟨B119, 0, Option.none⟩ : Addr).add 1) (.int .i64 x118_0_1) fun w122 =>
  drW w122 fun w123 =>
  sel bt7 (
  ldI w123 (⟨B119, 0, Option.none⟩ : Addr) .i64 fun x125 =>
  ldI w123 ((⟨B119, 0, Option.none⟩ : Addr).add 1) .i64 fun x126 =>
  sel ((x125 == (0 : Int)) && ((x126 == (0 : Int)) && true)) (
  sel (x118_1 == (150 : Int)) (
  Kr true w123) (
  sel (!bt7) (
  sel (x118_1 == (0 : Int)) (
  ldI w123 (⟨B119, 0, Option.none⟩ : Addr) .i64 fun x127 =>
  ldI w123 ((⟨B119, 0, Option.none⟩ : Addr).add 1) .i64 fun x128 =>
  ldS w123 (at4.add 1) fun A129 n129 c129 =>
  ldI w123 (at5.add 1) .i64 fun x130 =>
  optB A129 fun a131 =>
  req (decide (0 ≤ (IntKind.i64.wrap (x130 - (1 : Int))) ∧ (IntKind.i64.wrap (x130 - (1 : Int))) < (n129 : Int))) <|
  ldI w123 (a131.add ((IntKind.i64.wrap (x130 - (1 : Int))).toNat * 1)) .i64 fun x132 =>
  ldS w123 (at4.add 2) fun A133 n133 c133 =>
  ldI w123 (at5.add 1) .i64 fun x134 =>
  optB A133 fun a135 =>
  req (decide (0 ≤ (IntKind.i64.wrap (x134 - (1 : Int))) ∧ (IntKind.i64.wrap (x134 - (1 : Int))) < (n133 : Int))) <|
  ldI w123 (a135.add ((IntKind.i64.wrap (x134 - (1 : Int))).toNat * 1)) .i64 fun x136 =>
  Kr ((x127 == x132) && ((x128 == x136) && true)) w123) (
  Kr false w123)) (
  Kr false w123))) (
  sel (!bt7) (
  sel (x118_1 == (0 : Int)) (
  ldI w123 (⟨B119, 0, Option.none⟩ : Addr) .i64 fun x137 =>
  ldI w123 ((⟨B119, 0, Option.none⟩ : Addr).add 1) .i64 fun x138 =>
  ldS w123 (at4.add 1) fun A139 n139 c139 =>
  ldI w123 (at5.add 1) .i64 fun x140 =>
  optB A139 fun a141 =>
  req (decide (0 ≤ (IntKind.i64.wrap (x140 - (1 : Int))) ∧ (IntKind.i64.wrap (x140 - (1 : Int))) < (n139 : Int))) <|
  ldI w123 (a141.add ((IntKind.i64.wrap (x140 - (1 : Int))).toNat * 1)) .i64 fun x142 =>
  ldS w123 (at4.add 2) fun A143 n143 c143 =>
  ldI w123 (at5.add 1) .i64 fun x144 =>
  optB A143 fun a145 =>
  req (decide (0 ≤ (IntKind.i64.wrap (x144 - (1 : Int))) ∧ (IntKind.i64.wrap (x144 - (1 : Int))) < (n143 : Int))) <|
  ldI w123 (a145.add ((IntKind.i64.wrap (x144 - (1 : Int))).toNat * 1)) .i64 fun x146 =>
  Kr ((x137 == x142) && ((x138 == x146) && true)) w123) (
  Kr false w123)) (
  Kr false w123))) (
  sel (!bt7) (
  sel (x118_1 == (0 : Int)) (
  ldI w123 (⟨B119, 0, Option.none⟩ : Addr) .i64 fun x147 =>
  ldI w123 ((⟨B119, 0, Option.none⟩ : Addr).add 1) .i64 fun x148 =>
  ldS w123 (at4.add 1) fun A149 n149 c149 =>
  ldI w123 (at5.add 1) .i64 fun x150 =>
  optB A149 fun a151 =>
  req (decide (0 ≤ (IntKind.i64.wrap (x150 - (1 : Int))) ∧ (IntKind.i64.wrap (x150 - (1 : Int))) < (n149 : Int))) <|
  ldI w123 (a151.add ((IntKind.i64.wrap (x150 - (1 : Int))).toNat * 1)) .i64 fun x152 =>
  ldS w123 (at4.add 2) fun A153 n153 c153 =>
  ldI w123 (at5.add 1) .i64 fun x154 =>
  optB A153 fun a155 =>
  req (decide (0 ≤ (IntKind.i64.wrap (x154 - (1 : Int))) ∧ (IntKind.i64.wrap (x154 - (1 : Int))) < (n153 : Int))) <|
  ldI w123 (a155.add ((IntKind.i64.wrap (x154 - (1 : Int))).toNat * 1)) .i64 fun x156 =>
  Kr ((x147 == x152) && ((x148 == x156) && true)) w123) (
  Kr false w123)) (
  Kr false w123)))) (
  Kr true w30))))))))
def wp (aa0 : Addr) (Aa1_0 : Option Addr) (na1_0 : Nat) (ca1_0 : Nat) (Aa1_1 : Option Addr) (na1_1 : Nat) (ca1_1 : Nat) (Aa1_2 : Option Addr) (na1_2 : Nat) (ca1_2 : Nat) (xa2_0 : Int) (xa2_1 : Int) (xa2_2 : Int) (xa2_3 : Int) (xa2_4 : Int) (w : World) (Q : Ending → World → Prop) : Prop :=
  alW w (.cells #[.slice Aa1_0 na1_0 ca1_0, .slice Aa1_1 na1_1 ca1_1, .slice Aa1_2 na1_2 ca1_2] 34) fun B1 w2 =>
  alW w2 (.cells #[.int .i64 xa2_0, .int .i64 xa2_1, .int .i64 xa2_2, .int .i64 xa2_3, .int .u8 xa2_4] 30) fun B3 w4 =>
  ldS w4 (⟨B1, 0, Option.none⟩ : Addr) fun A5 n5 c5 =>
  ldS w4 ((⟨B1, 0, Option.none⟩ : Addr).add 1) fun A6 n6 c6 =>
  ldS w4 ((⟨B1, 0, Option.none⟩ : Addr).add 2) fun A7 n7 c7 =>
  ldI w4 ((⟨B3, 0, Option.none⟩ : Addr).add 1) .i64 fun x8 =>
  Calls Try.prog 28 #[.agg #[.slice A5 n5 c5, .slice A6 n6 c6, .slice A7 n7 c7], .int .i64 x8] w4 fun e9 w10 => ∃ (b11 : Bool), e9 = .returned (.bool b11) ∧ (
  alW w10 (.cells #[] 3) fun B12 w13 =>
  sel (!b11) (
  drW w13 fun w14 =>
  ∃ S15 : World → Prop, S15 w14 ∧ (
  hdS S15 (⟨B1, 0, Option.none⟩ : Addr) fun A16 n16 c16 =>
  hdS S15 (⟨B1, 0, Option.none⟩ : Addr) fun A17 n17 c17 =>
  hdS S15 ((⟨B1, 0, Option.none⟩ : Addr).add 1) fun A18 n18 c18 =>
  hdS S15 ((⟨B1, 0, Option.none⟩ : Addr).add 2) fun A19 n19 c19 =>
  hdI S15 ((⟨B3, 0, Option.none⟩ : Addr).add 1) .i64 fun x20 =>
  Calls Try.prog 30 #[.agg #[.slice A17 n17 c17, .slice A18 n18 c18, .slice A19 n19 c19], .int .i64 x20] w14 fun e21 w22 => ∃ (x23 : Int), e21 = .returned (.int .i64 x23) ∧ (
  S15 w22 ∧ (
  optB A16 fun a24 =>
  req (decide (0 ≤ x23 ∧ x23 < (n16 : Int))) <|
  hdS S15 (a24.add (x23.toNat * 1)) fun A25 n25 c25 =>
  j0 aa0 (⟨B1, 0, Option.none⟩ : Addr) (⟨B3, 0, Option.none⟩ : Addr) b11 A25 n25 c25 w22 (fun (b157 : Bool) (w158 : World) => ∀ _ : Fr,
  Q (.returned (.bool b157)) w158))))) (
  j0 aa0 (⟨B1, 0, Option.none⟩ : Addr) (⟨B3, 0, Option.none⟩ : Addr) b11 (some (⟨B12, 0, Option.none⟩ : Addr)) 0 0 w13 (fun (b159 : Bool) (w160 : World) => ∀ _ : Fr,
  Q (.returned (.bool b159)) w160)))
def D : Nat → Option DH := dtab [(4, .held [.fst 0, .fst 1, .fst 2, .fst 3, .fst 4, .eff 5, .fst 6, .fst 7] [.fst 8]), (32, .simple [.fst 0, .fst 1, .fst 2, .fst 3, .fst 4, .fst 5, .fst 6, .fst 7, .fst 8, .fst 9, .fst 10, .fst 11, .fst 12, .fst 13, .fst 14, .fst 15, .fst 16, .fst 17, .fst 18, .fst 19, .fst 20, .fst 21, .fst 22, .fst 23, .fst 24, .fst 25, .fst 26, .fst 27, .fst 28, .fst 29, .fst 30, .fst 31, .fst 32, .fst 33] [.fst 34, .fst 35, .fst 36, .fst 37])]
def j0LO : LO := ⟨[], [6], [], []⟩
def j0T : Spec := fun Q σ w =>
  gAd (σ 0) fun at0 =>
  gAd (σ 4) fun at4 =>
  gAd (σ 5) fun at5 =>
  gBool (σ 7) fun bt7 =>
  gSlice (σ 8) fun At8 nt8 ct8 =>
  j0 at0 at4 at5 bt7 At8 nt8 ct8 w (fun (bq6 : Bool) (w : World) => ∀ d : Fr, Q .ret (ov d [(6, .bool bq6)]) w)
def j0tb : List (List Nat × Spec) := []
noncomputable def j0b : Code := (subC [1, 1, 1, 1] body).getD .skip
theorem j0_eq (at0 : Addr) (at4 : Addr) (at5 : Addr) (bt7 : Bool) (At8 : Option Addr) (nt8 : Nat) (ct8 : Nat) (Q : PQ) (σ : Fr) (w : World) :
    j0 at0 at4 at5 bt7 At8 nt8 ct8 w (fun (bq6 : Bool) (w : World) => ∀ d : Fr, Q .ret (ov d [(6, .bool bq6)]) w) = codeW Try.prog hT 324 D (tab j0tb) [1, 1, 1, 1] j0b (widen j0LO Q) (ov σ [(0, .pointer (some at0)), (4, .pointer (some at4)), (5, .pointer (some at5)), (7, .bool bt7), (8, .slice At8 nt8 ct8)]) w := by cases bt7 <;> kernel_rfl
theorem j0_snd : ∀ c, subC [1, 1, 1, 1] body = some c → Snd Try.prog 324 c j0T := by
  refine cut_of (hT := hT) (D := D) (l := j0tb) (b := j0b) (lo := j0LO) (by kernel_rfl) (by
    intro x hx
    simp only [j0tb, List.not_mem_nil] at hx
    ) (by kernel_rfl) (by kernel_rfl) ?_
  intro Q σ w h
  unfold j0T at h
  obtain ⟨at0, h0, hn⟩ := gAd_elim h
  clear h
  have h := hn
  clear hn
  obtain ⟨at4, h4, hn⟩ := gAd_elim h
  clear h
  have h := hn
  clear hn
  obtain ⟨at5, h5, hn⟩ := gAd_elim h
  clear h
  have h := hn
  clear hn
  obtain ⟨bt7, h7, hn⟩ := gBool_elim h
  clear h
  have h := hn
  clear hn
  obtain ⟨At8, nt8, ct8, h8, hn⟩ := gSlice_elim h
  clear h
  have h := hn
  clear hn
  rw [j0_eq (σ := σ)] at h
  have e : (ov σ [(0, .pointer (some at0)), (4, .pointer (some at4)), (5, .pointer (some at5)), (7, .bool bt7), (8, .slice At8 nt8 ct8)]) = σ := ov_self (by simp [h0, h4, h5, h7, h8])
  rw [e] at h
  exact h
def tb : List (List Nat × Spec) := [([1, 1, 1, 1], j0T)]
theorem wp_eq (aa0 : Addr) (Aa1_0 : Option Addr) (na1_0 : Nat) (ca1_0 : Nat) (Aa1_1 : Option Addr) (na1_1 : Nat) (ca1_1 : Nat) (Aa1_2 : Option Addr) (na1_2 : Nat) (ca1_2 : Nat) (xa2_0 : Int) (xa2_1 : Int) (xa2_2 : Int) (xa2_3 : Int) (xa2_4 : Int) (w : World) (Q : Ending → World → Prop) :
    wp aa0 Aa1_0 na1_0 ca1_0 Aa1_1 na1_1 ca1_1 Aa1_2 na1_2 ca1_2 xa2_0 xa2_1 xa2_2 xa2_3 xa2_4 w Q = codeW Try.prog hT 324 D (tab tb) [] body (topQ Try.prog hT 324 [.tmp 6] Q) (argsF [.pointer (some aa0), .agg #[.slice Aa1_0 na1_0 ca1_0, .slice Aa1_1 na1_1 ca1_1, .slice Aa1_2 na1_2 ca1_2], .agg #[.int .i64 xa2_0, .int .i64 xa2_1, .int .i64 xa2_2, .int .i64 xa2_3, .int .u8 xa2_4]]) w := by kernel_rfl
theorem ok (aa0 : Addr) (Aa1_0 : Option Addr) (na1_0 : Nat) (ca1_0 : Nat) (Aa1_1 : Option Addr) (na1_1 : Nat) (ca1_1 : Nat) (Aa1_2 : Option Addr) (na1_2 : Nat) (ca1_2 : Nat) (xa2_0 : Int) (xa2_1 : Int) (xa2_2 : Int) (xa2_3 : Int) (xa2_4 : Int) (w : World) (Q : Ending → World → Prop) (h : wp aa0 Aa1_0 na1_0 ca1_0 Aa1_1 na1_1 ca1_1 Aa1_2 na1_2 ca1_2 xa2_0 xa2_1 xa2_2 xa2_3 xa2_4 w Q) : Calls Try.prog 26 #[.pointer (some aa0), .agg #[.slice Aa1_0 na1_0 ca1_0, .slice Aa1_1 na1_1 ca1_1, .slice Aa1_2 na1_2 ca1_2], .agg #[.int .i64 xa2_0, .int .i64 xa2_1, .int .i64 xa2_2, .int .i64 xa2_3, .int .u8 xa2_4]] w Q := by
  rw [wp_eq] at h
  exact calls_of_codeW (c := body) (rs := [.tmp 6]) Try.func26 (by kernel_rfl) (by kernel_rfl) (by kernel_rfl) (by kernel_rfl) (by kernel_rfl) (tab_snd (by
    intro x hx
    simp only [tb, List.mem_cons, List.not_mem_nil, or_false] at hx
    subst hx
    exact j0_snd)) (by kernel_rfl) h
end f_law15_tells
namespace f_law15_alive
/-! skein/skeinlaw15.alive: function 9 -/
noncomputable def body : Code := (Try.f9.body).getD .skip
def j1 (At10 : Option Addr) (nt10 : Nat) (ct10 : Nat) (at12 : Addr) (xt14 : Int) (xt16 : Int) (At19 : Option Addr) (nt19 : Nat) (ct19 : Nat) (w : World) (Kr : Bool → World → Prop) : Prop :=
  alW w (.cells #[.int .i64 (2 : Int), .int .i64 (1 : Int), .int .i64 (3 : Int)] 3) fun B43 w44 =>
  Calls Try.prog 15 #[.slice At10 nt10 ct10, .slice (some (⟨B43, 0, Option.none⟩ : Addr)) 3 3] w44 fun e45 w46 => ∃ (b47 : Bool), e45 = .returned (.bool b47) ∧ (
  sel b47 (
  ldI w46 at12 .i64 fun x48 =>
  sel (x48 == (18 : Int)) (
  sel (xt14 == (1 : Int)) (
  sel (xt16 == (3 : Int)) (
  Kr ((nt19 : Int) == (1 : Int)) w46) (
  Kr false w46)) (
  Kr false w46)) (
  Kr false w46)) (
  Kr false w46))
def j0 (pt1 : Option Addr) (xt2 : Int) (xt3 : Int) (xt4 : Int) (xt5 : Int) (xt6 : Int) (xt7 : Int) (xt8 : Int) (xt9 : Int) (At10 : Option Addr) (nt10 : Nat) (ct10 : Nat) (xt11 : Int) (at12 : Addr) (xt13 : Int) (xt14 : Int) (xt15 : Int) (xt16 : Int) (xt17 : Int) (w : World) (Kr : Bool → World → Prop) : Prop :=
  Calls Try.prog 23 #[.pointer pt1, .int .i64 (1 : Int)] w fun e37 w38 => ∃ (x39 : Int), e37 = .returned (.int .i64 x39) ∧ (
  Calls Try.prog 11 #[.pointer pt1, .int .i64 (2 : Int)] w38 fun e40 w41 => ∃ (A42_0 : Option Addr) (n42_0 : Nat) (c42_0 : Nat) (x42_1 : Int), e40 = .returned (.tuple #[.slice A42_0 n42_0 c42_0, .int .i64 x42_1]) ∧ (
  sel (xt2 != (1 : Int)) (
  Kr false w41) (
  sel (xt4 != (2 : Int)) (
  Kr false w41) (
  sel (xt6 != (3 : Int)) (
  Kr false w41) (
  sel (xt3 != (0 : Int)) (
  Kr false w41) (
  sel (xt5 != (0 : Int)) (
  Kr false w41) (
  sel (xt7 != (0 : Int)) (
  Kr false w41) (
  sel (xt8 != (0 : Int)) (
  Kr false w41) (
  sel (xt9 != (0 : Int)) (
  Kr false w41) (
  sel (xt11 != (0 : Int)) (
  Kr false w41) (
  sel (xt13 != (0 : Int)) (
  Kr false w41) (
  sel (xt15 != (0 : Int)) (
  Kr false w41) (
  sel (xt17 != (0 : Int)) (
  Kr false w41) (
  sel (x39 != (0 : Int)) (
  Kr false w41) (
  sel (x42_1 != (0 : Int)) (
  Kr false w41) (
  j1 At10 nt10 ct10 at12 xt14 xt16 A42_0 n42_0 c42_0 w41 (fun (b49 : Bool) (w50 : World) => ∀ _ : Fr,
  Kr b49 w50)))))))))))))))))
def wp  (w : World) (Q : Ending → World → Prop) : Prop :=
  alW w (.cells #[.int .i64 (3 : Int), .int .i64 (1 : Int)] 3) fun B1 w2 =>
  Calls Try.prog 8 #[.slice (some (⟨B1, 0, Option.none⟩ : Addr)) 2 2] w2 fun e3 w4 => ∃ (p5 : Option Addr), e3 = .returned (.pointer p5) ∧ (
  sel p5.isNone (
  Q (.returned (.bool false)) w4) (
  Calls Try.prog 27 #[.pointer p5, .agg #[.int .i64 (5 : Int), .int .i64 (0 : Int)]] w4 fun e6 w7 => ∃ (x8_0 : Int) (x8_1 : Int), e6 = .returned (.tuple #[.int .i64 x8_0, .int .i64 x8_1]) ∧ (
  Calls Try.prog 27 #[.pointer p5, .agg #[.int .i64 (6 : Int), .int .i64 (0 : Int)]] w7 fun e9 w10 => ∃ (x11_0 : Int) (x11_1 : Int), e9 = .returned (.tuple #[.int .i64 x11_0, .int .i64 x11_1]) ∧ (
  Calls Try.prog 27 #[.pointer p5, .agg #[.int .i64 (7 : Int), .int .i64 (1 : Int)]] w10 fun e12 w13 => ∃ (x14_0 : Int) (x14_1 : Int), e12 = .returned (.tuple #[.int .i64 x14_0, .int .i64 x14_1]) ∧ (
  Calls Try.prog 17 #[.pointer p5, .int .i64 (2 : Int), .int .i64 (1 : Int)] w13 fun e15 w16 => ∃ (x17 : Int), e15 = .returned (.int .i64 x17) ∧ (
  Calls Try.prog 17 #[.pointer p5, .int .i64 (1 : Int), .int .i64 (3 : Int)] w16 fun e18 w19 => ∃ (x20 : Int), e18 = .returned (.int .i64 x20) ∧ (
  Calls Try.prog 11 #[.pointer p5, .int .i64 (3 : Int)] w19 fun e21 w22 => ∃ (A23_0 : Option Addr) (n23_0 : Nat) (c23_0 : Nat) (x23_1 : Int), e21 = .returned (.tuple #[.slice A23_0 n23_0 c23_0, .int .i64 x23_1]) ∧ (
  Calls Try.prog 12 #[.pointer p5, .int .i64 (1 : Int)] w22 fun e24 w25 => ∃ (x26_0_0 : Int) (x26_0_1 : Int) (x26_1 : Int), e24 = .returned (.tuple #[.agg #[.int .i64 x26_0_0, .int .i64 x26_0_1], .int .i64 x26_1]) ∧ (
  alW w25 (.cells #[.int .i64 (0 : Int), .int .i64 (0 : Int)] 27) fun B27 w28 =>
  stW w28 (⟨B27, 0, Option.none⟩ : Addr) (.int .i64 x26_0_0) fun w29 =>
  stW w29 ((⟨B27, 0, Option.none⟩ : Addr).add 1) (.int .i64 x26_0_1) fun w30 =>
  Calls Try.prog 24 #[.pointer p5, .int .i64 (1 : Int)] w30 fun e31 w32 => ∃ (x33_0 : Int) (x33_1 : Int), e31 = .returned (.tuple #[.int .i64 x33_0, .int .i64 x33_1]) ∧ (
  Calls Try.prog 13 #[.pointer p5, .int .i64 (2 : Int), .func (.func 14) #[] #[]] w32 fun e34 w35 => ∃ (x36_0 : Int) (x36_1 : Int), e34 = .returned (.tuple #[.int .i64 x36_0, .int .i64 x36_1]) ∧ (
  j0 p5 x8_0 x8_1 x11_0 x11_1 x14_0 x14_1 x17 x20 A23_0 n23_0 c23_0 x23_1 (⟨B27, 0, Option.none⟩ : Addr) x26_1 x33_0 x33_1 x36_0 x36_1 w35 (fun (b51 : Bool) (w52 : World) => ∀ _ : Fr,
  Q (.returned (.bool b51)) w52))))))))))))
def D : Nat → Option DH := dtab []
def j1LO : LO := ⟨[], [0], [], []⟩
def j1T : Spec := fun Q σ w =>
  gSlice (σ 10) fun At10 nt10 ct10 =>
  gAd (σ 12) fun at12 =>
  gInt .i64 (σ 14) fun xt14 =>
  gInt .i64 (σ 16) fun xt16 =>
  gSlice (σ 19) fun At19 nt19 ct19 =>
  j1 At10 nt10 ct10 at12 xt14 xt16 At19 nt19 ct19 w (fun (bq0 : Bool) (w : World) => ∀ d : Fr, Q .ret (ov d [(0, .bool bq0)]) w)
def j1tb : List (List Nat × Spec) := []
noncomputable def j1b : Code := (subC [1, 1, 1, 1, 1, 1, 1, 1, 1, 1, 1, 1, 1, 1] body).getD .skip
theorem j1_eq (At10 : Option Addr) (nt10 : Nat) (ct10 : Nat) (at12 : Addr) (xt14 : Int) (xt16 : Int) (At19 : Option Addr) (nt19 : Nat) (ct19 : Nat) (Q : PQ) (σ : Fr) (w : World) :
    j1 At10 nt10 ct10 at12 xt14 xt16 At19 nt19 ct19 w (fun (bq0 : Bool) (w : World) => ∀ d : Fr, Q .ret (ov d [(0, .bool bq0)]) w) = codeW Try.prog hT 149 D (tab j1tb) [1, 1, 1, 1, 1, 1, 1, 1, 1, 1, 1, 1, 1, 1] j1b (widen j1LO Q) (ov σ [(10, .slice At10 nt10 ct10), (12, .pointer (some at12)), (14, .int .i64 xt14), (16, .int .i64 xt16), (19, .slice At19 nt19 ct19)]) w := by kernel_rfl
theorem j1_snd : ∀ c, subC [1, 1, 1, 1, 1, 1, 1, 1, 1, 1, 1, 1, 1, 1] body = some c → Snd Try.prog 149 c j1T := by
  refine cut_of (hT := hT) (D := D) (l := j1tb) (b := j1b) (lo := j1LO) (by kernel_rfl) (by
    intro x hx
    simp only [j1tb, List.not_mem_nil] at hx
    ) (by kernel_rfl) (by kernel_rfl) ?_
  intro Q σ w h
  unfold j1T at h
  obtain ⟨At10, nt10, ct10, h10, hn⟩ := gSlice_elim h
  clear h
  have h := hn
  clear hn
  obtain ⟨at12, h12, hn⟩ := gAd_elim h
  clear h
  have h := hn
  clear hn
  obtain ⟨xt14, h14, hn⟩ := gInt_elim h
  clear h
  have h := hn
  clear hn
  obtain ⟨xt16, h16, hn⟩ := gInt_elim h
  clear h
  have h := hn
  clear hn
  obtain ⟨At19, nt19, ct19, h19, hn⟩ := gSlice_elim h
  clear h
  have h := hn
  clear hn
  rw [j1_eq (σ := σ)] at h
  have e : (ov σ [(10, .slice At10 nt10 ct10), (12, .pointer (some at12)), (14, .int .i64 xt14), (16, .int .i64 xt16), (19, .slice At19 nt19 ct19)]) = σ := ov_self (by simp [h10, h12, h14, h16, h19])
  rw [e] at h
  exact h
def j0LO : LO := ⟨[], [0], [], []⟩
def j0T : Spec := fun Q σ w =>
  gPtr (σ 1) fun pt1 =>
  gInt .i64 (σ 2) fun xt2 =>
  gInt .i64 (σ 3) fun xt3 =>
  gInt .i64 (σ 4) fun xt4 =>
  gInt .i64 (σ 5) fun xt5 =>
  gInt .i64 (σ 6) fun xt6 =>
  gInt .i64 (σ 7) fun xt7 =>
  gInt .i64 (σ 8) fun xt8 =>
  gInt .i64 (σ 9) fun xt9 =>
  gSlice (σ 10) fun At10 nt10 ct10 =>
  gInt .i64 (σ 11) fun xt11 =>
  gAd (σ 12) fun at12 =>
  gInt .i64 (σ 13) fun xt13 =>
  gInt .i64 (σ 14) fun xt14 =>
  gInt .i64 (σ 15) fun xt15 =>
  gInt .i64 (σ 16) fun xt16 =>
  gInt .i64 (σ 17) fun xt17 =>
  j0 pt1 xt2 xt3 xt4 xt5 xt6 xt7 xt8 xt9 At10 nt10 ct10 xt11 at12 xt13 xt14 xt15 xt16 xt17 w (fun (bq0 : Bool) (w : World) => ∀ d : Fr, Q .ret (ov d [(0, .bool bq0)]) w)
def j0tb : List (List Nat × Spec) := [([1, 1, 1, 1, 1, 1, 1, 1, 1, 1, 1, 1, 1, 1], j1T)]
noncomputable def j0b : Code := (subC [1, 1, 1, 1, 1, 1, 1, 1, 1, 1, 1] body).getD .skip
theorem j0_eq (pt1 : Option Addr) (xt2 : Int) (xt3 : Int) (xt4 : Int) (xt5 : Int) (xt6 : Int) (xt7 : Int) (xt8 : Int) (xt9 : Int) (At10 : Option Addr) (nt10 : Nat) (ct10 : Nat) (xt11 : Int) (at12 : Addr) (xt13 : Int) (xt14 : Int) (xt15 : Int) (xt16 : Int) (xt17 : Int) (Q : PQ) (σ : Fr) (w : World) :
    j0 pt1 xt2 xt3 xt4 xt5 xt6 xt7 xt8 xt9 At10 nt10 ct10 xt11 at12 xt13 xt14 xt15 xt16 xt17 w (fun (bq0 : Bool) (w : World) => ∀ d : Fr, Q .ret (ov d [(0, .bool bq0)]) w) = codeW Try.prog hT 149 D (tab j0tb) [1, 1, 1, 1, 1, 1, 1, 1, 1, 1, 1] j0b (widen j0LO Q) (ov σ [(1, .pointer pt1), (2, .int .i64 xt2), (3, .int .i64 xt3), (4, .int .i64 xt4), (5, .int .i64 xt5), (6, .int .i64 xt6), (7, .int .i64 xt7), (8, .int .i64 xt8), (9, .int .i64 xt9), (10, .slice At10 nt10 ct10), (11, .int .i64 xt11), (12, .pointer (some at12)), (13, .int .i64 xt13), (14, .int .i64 xt14), (15, .int .i64 xt15), (16, .int .i64 xt16), (17, .int .i64 xt17)]) w := by kernel_rfl
theorem j0_snd : ∀ c, subC [1, 1, 1, 1, 1, 1, 1, 1, 1, 1, 1] body = some c → Snd Try.prog 149 c j0T := by
  refine cut_of (hT := hT) (D := D) (l := j0tb) (b := j0b) (lo := j0LO) (by kernel_rfl) (by
    intro x hx
    simp only [j0tb, List.mem_cons, List.not_mem_nil, or_false] at hx
    subst hx
    exact j1_snd) (by kernel_rfl) (by kernel_rfl) ?_
  intro Q σ w h
  unfold j0T at h
  obtain ⟨pt1, h1, hn⟩ := gPtr_elim h
  clear h
  have h := hn
  clear hn
  obtain ⟨xt2, h2, hn⟩ := gInt_elim h
  clear h
  have h := hn
  clear hn
  obtain ⟨xt3, h3, hn⟩ := gInt_elim h
  clear h
  have h := hn
  clear hn
  obtain ⟨xt4, h4, hn⟩ := gInt_elim h
  clear h
  have h := hn
  clear hn
  obtain ⟨xt5, h5, hn⟩ := gInt_elim h
  clear h
  have h := hn
  clear hn
  obtain ⟨xt6, h6, hn⟩ := gInt_elim h
  clear h
  have h := hn
  clear hn
  obtain ⟨xt7, h7, hn⟩ := gInt_elim h
  clear h
  have h := hn
  clear hn
  obtain ⟨xt8, h8, hn⟩ := gInt_elim h
  clear h
  have h := hn
  clear hn
  obtain ⟨xt9, h9, hn⟩ := gInt_elim h
  clear h
  have h := hn
  clear hn
  obtain ⟨At10, nt10, ct10, h10, hn⟩ := gSlice_elim h
  clear h
  have h := hn
  clear hn
  obtain ⟨xt11, h11, hn⟩ := gInt_elim h
  clear h
  have h := hn
  clear hn
  obtain ⟨at12, h12, hn⟩ := gAd_elim h
  clear h
  have h := hn
  clear hn
  obtain ⟨xt13, h13, hn⟩ := gInt_elim h
  clear h
  have h := hn
  clear hn
  obtain ⟨xt14, h14, hn⟩ := gInt_elim h
  clear h
  have h := hn
  clear hn
  obtain ⟨xt15, h15, hn⟩ := gInt_elim h
  clear h
  have h := hn
  clear hn
  obtain ⟨xt16, h16, hn⟩ := gInt_elim h
  clear h
  have h := hn
  clear hn
  obtain ⟨xt17, h17, hn⟩ := gInt_elim h
  clear h
  have h := hn
  clear hn
  rw [j0_eq (σ := σ)] at h
  have e : (ov σ [(1, .pointer pt1), (2, .int .i64 xt2), (3, .int .i64 xt3), (4, .int .i64 xt4), (5, .int .i64 xt5), (6, .int .i64 xt6), (7, .int .i64 xt7), (8, .int .i64 xt8), (9, .int .i64 xt9), (10, .slice At10 nt10 ct10), (11, .int .i64 xt11), (12, .pointer (some at12)), (13, .int .i64 xt13), (14, .int .i64 xt14), (15, .int .i64 xt15), (16, .int .i64 xt16), (17, .int .i64 xt17)]) = σ := ov_self (by simp [h1, h2, h3, h4, h5, h6, h7, h8, h9, h10, h11, h12, h13, h14, h15, h16, h17])
  rw [e] at h
  exact h
def tb : List (List Nat × Spec) := [([1, 1, 1, 1, 1, 1, 1, 1, 1, 1, 1, 1, 1, 1], j1T), ([1, 1, 1, 1, 1, 1, 1, 1, 1, 1, 1], j0T)]
theorem wp_eq  (w : World) (Q : Ending → World → Prop) :
    wp  w Q = codeW Try.prog hT 149 D (tab tb) [] body (topQ Try.prog hT 149 [.tmp 0] Q) (argsF []) w := by kernel_rfl
theorem ok  (w : World) (Q : Ending → World → Prop) (h : wp  w Q) : Calls Try.prog 9 #[] w Q := by
  rw [wp_eq] at h
  exact calls_of_codeW (c := body) (rs := [.tmp 0]) Try.func9 (by kernel_rfl) (by kernel_rfl) (by kernel_rfl) (by kernel_rfl) (by kernel_rfl) (tab_snd (by
    intro x hx
    simp only [tb, List.mem_cons, List.not_mem_nil, or_false] at hx
    rcases hx with rfl | rfl
    · exact j1_snd
    · exact j0_snd)) (by kernel_rfl) h
end f_law15_alive
end Go.Proofs.Ytnfgibbkfkaonaa.Rd
