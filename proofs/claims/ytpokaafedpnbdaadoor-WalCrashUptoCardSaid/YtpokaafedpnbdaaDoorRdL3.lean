/- The printed readings of some functions: each function's code reckoned by the kernel to its predicate transformer. -/
import Derived.Test.YtpokaafedpnbdaaDoorHint
namespace Go.Proofs.YtpokaafedpnbdaaDoor.Rd
open Go.Dn
set_option maxRecDepth 100000
set_option linter.unusedVariables false
namespace f_law09_WalCrash
/-! skein/skeinlaw09.WalCrash: function 3 -/
noncomputable def body : Code := (Tryd.f3.body).getD .skip
def l0 : Nat → Int → Option Addr → Option Addr → Option Addr → Nat → Nat → Option Addr → Nat → Nat → Int → Bool → Option Addr → Nat → Nat → Int → Int → World → (World → Prop) → (Bool → World → Prop) → Prop
  | 0, _, _, _, _, _, _, _, _, _, _, _, _, _, _, _, _, _, _, _ => False
  | k + 1, xt0, pt5, pt6, At7, nt7, ct7, At8, nt8, ct8, xt9, bt10, At45, nt45, ct45, xt46, xt47, w, K0, Kr =>
    sel (decide (xt47 < xt46)) (
    optB At45 fun a21 =>
    req (decide (0 ≤ xt47 ∧ xt47 < (nt45 : Int))) <|
    ldI w (a21.add (xt47.toNat * 6)) .i64 fun x22 =>
    ldI w ((a21.add (xt47.toNat * 6)).add 1) .i64 fun x23 =>
    ldI w ((a21.add (xt47.toNat * 6)).add 2) .i64 fun x24 =>
    ldS w ((a21.add (xt47.toNat * 6)).add 3) fun A25 n25 c25 =>
    ldS w ((a21.add (xt47.toNat * 6)).add 4) fun A26 n26 c26 =>
    ldS w ((a21.add (xt47.toNat * 6)).add 5) fun A27 n27 c27 =>
    alW w (.cells #[.int .i64 (0 : Int), .int .i64 (0 : Int), .int .i64 (0 : Int), .slice none 0 0, .slice none 0 0, .slice none 0 0] 33) fun B28 w29 =>
    stW w29 (⟨B28, 0, Option.none⟩ : Addr) (.int .i64 x22) fun w30 =>
    stW w30 ((⟨B28, 0, Option.none⟩ : Addr).add 1) (.int .i64 x23) fun w31 =>
    stW w31 ((⟨B28, 0, Option.none⟩ : Addr).add 2) (.int .i64 x24) fun w32 =>
    stW w32 ((⟨B28, 0, Option.none⟩ : Addr).add 3) (.slice A25 n25 c25) fun w33 =>
    stW w33 ((⟨B28, 0, Option.none⟩ : Addr).add 4) (.slice A26 n26 c26) fun w34 =>
    stW w34 ((⟨B28, 0, Option.none⟩ : Addr).add 5) (.slice A27 n27 c27) fun w35 =>
    ldI w35 (⟨B28, 0, Option.none⟩ : Addr) .i64 fun x36 =>
    sel (x36 == (1 : Int)) (
    drW w35 fun w37 =>
    ∃ S38 : World → Prop, S38 w37 ∧ (
    hdI S38 ((⟨B28, 0, Option.none⟩ : Addr).add 1) .i64 fun x39 =>
    hdS S38 ((⟨B28, 0, Option.none⟩ : Addr).add 3) fun A40 n40 c40 =>
    Calls Tryd.prog 11 #[.slice A40 n40 c40] w37 fun e41 w42 => ∃ (A43 : Option Addr) (n43 : Nat) (c43 : Nat), e41 = .returned (.slice A43 n43 c43) ∧ (
    S38 w42 ∧ (
    Calls Tryd.prog 10 #[.pointer pt6, .int .i64 x39, .slice A43 n43 c43] w42 fun e44 w45 => ∃ (x46_0 : Int) (x46_1 : Int), e44 = .returned (.tuple #[.int .i64 x46_0, .int .i64 x46_1]) ∧ (
    sel (x46_1 == (0 : Int)) (
    sel (decide (x46_0 ≤ xt9)) (
    Kr false w45) (
    ldI w45 ((⟨B28, 0, Option.none⟩ : Addr).add 1) .i64 fun x47 =>
    ldS w45 ((⟨B28, 0, Option.none⟩ : Addr).add 3) fun A48 n48 c48 =>
    alW w45 (.cells #[.int .i64 x46_0, .int .i64 x47, .slice A48 n48 c48] 39) fun B49 w50 =>
    Runs Tryd.prog (Builtin.append_ #[28, 28] 28 #[.slice At8 nt8 ct8, .slice (some (⟨B49, 0, Option.none⟩ : Addr)) 1 1]) w50 fun v52 w51 => ∃ (A53 : Option Addr) (n53 : Nat) (c53 : Nat), v52 = (.slice A53 n53 c53) ∧ (
    l0 k xt0 pt5 pt6 At7 nt7 ct7 A53 n53 c53 x46_0 bt10 At45 nt45 ct45 xt46 (IntKind.i64.wrap (xt47 + (1 : Int))) w51 K0 Kr))) (
    l0 k xt0 pt5 pt6 At7 nt7 ct7 At8 nt8 ct8 xt9 bt10 At45 nt45 ct45 xt46 (IntKind.i64.wrap (xt47 + (1 : Int))) w45 K0 Kr)))))) (
    sel (x36 == (2 : Int)) (
    Calls Tryd.prog 12 #[.pointer pt6] w35 fun e54 w55 => ∃ (x56 : Int), e54 = .returned (.int .i64 x56) ∧ (
    sel (x56 == (0 : Int)) (
    Runs Tryd.prog (Builtin.append_ #[28, 28] 28 #[.slice At7 nt7 ct7, .slice At8 nt8 ct8]) w55 fun v58 w57 => ∃ (A59 : Option Addr) (n59 : Nat) (c59 : Nat), v58 = (.slice A59 n59 c59) ∧ (
    l0 k xt0 pt5 pt6 A59 n59 c59 none 0 0 xt9 bt10 At45 nt45 ct45 xt46 (IntKind.i64.wrap (xt47 + (1 : Int))) w57 K0 Kr)) (
    l0 k xt0 pt5 pt6 At7 nt7 ct7 At8 nt8 ct8 xt9 bt10 At45 nt45 ct45 xt46 (IntKind.i64.wrap (xt47 + (1 : Int))) w55 K0 Kr))) (
    sel (x36 == (3 : Int)) (
    Calls Tryd.prog 13 #[.pointer pt6] w35 fun e60 w61 => ∃ (x62 : Int), e60 = .returned (.int .i64 x62) ∧ (
    sel (x62 == (0 : Int)) (
    l0 k xt0 pt5 pt6 none 0 0 none 0 0 xt9 false At45 nt45 ct45 xt46 (IntKind.i64.wrap (xt47 + (1 : Int))) w61 K0 Kr) (
    sel (x62 != (91 : Int)) (
    l0 k xt0 pt5 pt6 At7 nt7 ct7 At8 nt8 ct8 xt9 true At45 nt45 ct45 xt46 (IntKind.i64.wrap (xt47 + (1 : Int))) w61 K0 Kr) (
    l0 k xt0 pt5 pt6 At7 nt7 ct7 At8 nt8 ct8 xt9 bt10 At45 nt45 ct45 xt46 (IntKind.i64.wrap (xt47 + (1 : Int))) w61 K0 Kr)))) (
    sel (x36 == (7 : Int)) (
    drW w35 fun w63 =>
    ∃ S64 : World → Prop, S64 w63 ∧ (
    hdS S64 ((⟨B28, 0, Option.none⟩ : Addr).add 5) fun A65 n65 c65 =>
    Calls Tryd.prog 16 #[.pointer pt5] w63 fun e66 w67 => ∃ (x68 : Int), e66 = .returned (.int .i64 x68) ∧ (
    S64 w67 ∧ (
    Calls Tryd.prog 15 #[.slice A65 n65 c65, .int .i64 x68] w67 fun e69 w70 => ∃ (A71 : Option Addr) (n71 : Nat) (c71 : Nat), e69 = .returned (.slice A71 n71 c71) ∧ (
    S64 w70 ∧ (
    Calls Tryd.prog 14 #[.pointer pt5, .slice A71 n71 c71] w70 fun e72 w73 => e72 = .returned (.tuple #[]) ∧ (
    l0 k xt0 pt5 pt6 At7 nt7 ct7 At8 nt8 ct8 xt9 bt10 At45 nt45 ct45 xt46 (IntKind.i64.wrap (xt47 + (1 : Int))) w73 K0 Kr))))))) (
    sel (x36 == (6 : Int)) (
    Calls Tryd.prog 14 #[.pointer pt5, .slice none 0 0] w35 fun e74 w75 => e74 = .returned (.tuple #[]) ∧ (
    ldS w75 ((⟨B28, 0, Option.none⟩ : Addr).add 4) fun A76 n76 c76 =>
    Calls Tryd.prog 17 #[.pointer pt5, .slice A76 n76 c76] w75 fun e77 w78 => e77 = .returned (.tuple #[]) ∧ (
    Calls Tryd.prog 18 #[.pointer pt5, .int .i64 (1 : Int), .int .i64 xt0] w78 fun e79 w80 => ∃ (p81_0 : Option Addr) (A81_1 : Option Addr) (n81_1 : Nat) (c81_1 : Nat) (x81_2 : Int), e79 = .returned (.tuple #[.pointer p81_0, .slice A81_1 n81_1 c81_1, .int .i64 x81_2]) ∧ (
    sel (x81_2 != (0 : Int)) (
    Kr false w80) (
    sel p81_0.isNone (
    Kr false w80) (
    Calls Tryd.prog 19 #[.slice A81_1 n81_1 c81_1, .slice At7 nt7 ct7, .slice At8 nt8 ct8] w80 fun e82 w83 => ∃ (b84 : Bool), e82 = .returned (.bool b84) ∧ (
    sel (!b84) (
    sel bt10 (
    sel (!((n81_1 : Int) == (0 : Int))) (
    Kr false w83) (
    Calls Tryd.prog 13 #[.pointer p81_0] w83 fun e85 w86 => ∃ (x87 : Int), e85 = .returned (.int .i64 x87) ∧ (
    sel (x87 != (0 : Int)) (
    Kr false w86) (
    l0 k xt0 pt5 p81_0 none 0 0 none 0 0 xt9 false At45 nt45 ct45 xt46 (IntKind.i64.wrap (xt47 + (1 : Int))) w86 K0 Kr)))) (
    Kr false w83)) (
    Calls Tryd.prog 13 #[.pointer p81_0] w83 fun e88 w89 => ∃ (x90 : Int), e88 = .returned (.int .i64 x90) ∧ (
    sel (x90 != (0 : Int)) (
    Kr false w89) (
    l0 k xt0 pt5 p81_0 none 0 0 none 0 0 xt9 false At45 nt45 ct45 xt46 (IntKind.i64.wrap (xt47 + (1 : Int))) w89 K0 Kr)))))))))) (
    l0 k xt0 pt5 pt6 At7 nt7 ct7 At8 nt8 ct8 xt9 bt10 At45 nt45 ct45 xt46 (IntKind.i64.wrap (xt47 + (1 : Int))) w35 K0 Kr)))))) (
    K0  w)
def wp (xa0 : Int) (Aa1 : Option Addr) (na1 : Nat) (ca1 : Nat) (w : World) (Q : Ending → World → Prop) : Prop :=
  Calls Tryd.prog 8 #[] w fun e1 w2 => ∃ (b3 : Bool), e1 = .returned (.bool b3) ∧ (
  sel (!b3) (
  Q (.returned (.bool false)) w2) (
  sel (decide (xa0 < (1 : Int))) (
  Q (.returned (.bool true)) w2) (
  sel (decide (xa0 > (9 : Int))) (
  Q (.returned (.bool true)) w2) (
  Calls Tryd.prog 9 #[.int .i64 xa0] w2 fun e4 w5 => ∃ (p6_0 : Option Addr) (p6_1 : Option Addr), e4 = .returned (.tuple #[.pointer p6_0, .pointer p6_1]) ∧ (
  sel p6_0.isNone (
  Q (.returned (.bool false)) w5) (
  sel p6_1.isNone (
  Q (.returned (.bool false)) w5) (
  alW w5 (.cells #[] 39) fun B7 w8 =>
  alW w8 (.cells #[] 39) fun B9 w10 =>
  alW w10 (.cells #[] 33) fun B11 w12 =>
  Runs Tryd.prog (Builtin.append_ #[22, 22] 22 #[.slice (some (⟨B11, 0, Option.none⟩ : Addr)) 0 0, .slice Aa1 na1 ca1]) w12 fun v14 w13 => ∃ (A15 : Option Addr) (n15 : Nat) (c15 : Nat), v14 = (.slice A15 n15 c15) ∧ (
  alW w13 (.cells #[.int .i64 (6 : Int), .int .i64 (0 : Int), .int .i64 (0 : Int), .slice none 0 0, .slice none 0 0, .slice none 0 0] 33) fun B16 w17 =>
  Runs Tryd.prog (Builtin.append_ #[22, 22] 22 #[.slice A15 n15 c15, .slice (some (⟨B16, 0, Option.none⟩ : Addr)) 1 1]) w17 fun v19 w18 => ∃ (A20 : Option Addr) (n20 : Nat) (c20 : Nat), v19 = (.slice A20 n20 c20) ∧ (
  ∃ k94 : Nat, l0 k94 xa0 p6_0 p6_1 (some (⟨B7, 0, Option.none⟩ : Addr)) 0 0 (some (⟨B9, 0, Option.none⟩ : Addr)) 0 0 (-1 : Int) false A20 n20 c20 (n20 : Int) (0 : Int) w18 (fun (w91 : World) => ∀ _ : Fr,
  Q (.returned (.bool true)) w91) (fun (b92 : Bool) (w93 : World) => ∀ _ : Fr,
  Q (.returned (.bool b92)) w93))))))))))
def D : Nat → Option DH := dtab [(16, .held [.fst 0, .fst 1, .fst 2, .fst 3, .fst 4, .eff 5] [.eff 6, .fst 7, .fst 8, .fst 9, .fst 10, .fst 11]), (33, .held [.fst 0, .fst 1, .fst 2, .fst 3, .eff 4, .eff 5] [.eff 6])]
def l0LO : LO := ⟨[], [4], [(0, [])], []⟩
def l0Tk (k : Nat) : Spec := fun Q σ w =>
  gInt .i64 (σ 0) fun xt0 =>
  gPtr (σ 5) fun pt5 =>
  gPtr (σ 6) fun pt6 =>
  gSlice (σ 7) fun At7 nt7 ct7 =>
  gSlice (σ 8) fun At8 nt8 ct8 =>
  gInt .i64 (σ 9) fun xt9 =>
  gBool (σ 10) fun bt10 =>
  gSlice (σ 45) fun At45 nt45 ct45 =>
  gInt .i64 (σ 46) fun xt46 =>
  gInt .i64 (σ 47) fun xt47 =>
  l0 k xt0 pt5 pt6 At7 nt7 ct7 At8 nt8 ct8 xt9 bt10 At45 nt45 ct45 xt46 xt47 w (fun (w : World) => ∀ d : Fr, Q (.exit 0) (ov d []) w) (fun (bq4 : Bool) (w : World) => ∀ d : Fr, Q .ret (ov d [(4, .bool bq4)]) w)
def l0T : Spec := fun Q σ w => ∃ k, l0Tk k Q σ w
def l0tb : List (List Nat × Spec) := []
noncomputable def l0b : Code := (subC [0, 0, 1, 0, 1, 1, 1, 1, 1, 1, 1, 1] body).getD .skip
theorem l0_eq (k : Nat) (xt0 : Int) (pt5 : Option Addr) (pt6 : Option Addr) (At7 : Option Addr) (nt7 : Nat) (ct7 : Nat) (At8 : Option Addr) (nt8 : Nat) (ct8 : Nat) (xt9 : Int) (bt10 : Bool) (At45 : Option Addr) (nt45 : Nat) (ct45 : Nat) (xt46 : Int) (xt47 : Int) (Q : PQ) (σ : Fr) (w : World) :
    l0 (k + 1) xt0 pt5 pt6 At7 nt7 ct7 At8 nt8 ct8 xt9 bt10 At45 nt45 ct45 xt46 xt47 w (fun (w : World) => ∀ d : Fr, Q (.exit 0) (ov d []) w) (fun (bq4 : Bool) (w : World) => ∀ d : Fr, Q .ret (ov d [(4, .bool bq4)]) w) = codeW Tryd.prog hT 147 D (tab l0tb) [0, 0, 1, 0, 1, 1, 1, 1, 1, 1, 1, 1] l0b (thenQ (l0Tk k Q) (widen l0LO Q)) (ov σ [(0, .int .i64 xt0), (5, .pointer pt5), (6, .pointer pt6), (7, .slice At7 nt7 ct7), (8, .slice At8 nt8 ct8), (9, .int .i64 xt9), (10, .bool bt10), (45, .slice At45 nt45 ct45), (46, .int .i64 xt46), (47, .int .i64 xt47)]) w := by cases bt10 <;> kernel_rfl
theorem l0_snd : ∀ c, subC [0, 1, 0, 1, 1, 1, 1, 1, 1, 1, 1] body = some c → Snd Tryd.prog 147 c l0T := by
  refine loop_of (hT := hT) (D := D) (l := l0tb) (b := l0b) (lo := l0LO) (by kernel_rfl) (by
    intro x hx
    simp only [l0tb, List.not_mem_nil] at hx
    ) (by kernel_rfl) (by kernel_rfl) ?_ ?_
  · intro Q σ w h
    unfold l0Tk at h
    obtain ⟨xt0, h0, hn⟩ := gInt_elim h
    clear h
    have h := hn
    clear hn
    obtain ⟨pt5, h5, hn⟩ := gPtr_elim h
    clear h
    have h := hn
    clear hn
    obtain ⟨pt6, h6, hn⟩ := gPtr_elim h
    clear h
    have h := hn
    clear hn
    obtain ⟨At7, nt7, ct7, h7, hn⟩ := gSlice_elim h
    clear h
    have h := hn
    clear hn
    obtain ⟨At8, nt8, ct8, h8, hn⟩ := gSlice_elim h
    clear h
    have h := hn
    clear hn
    obtain ⟨xt9, h9, hn⟩ := gInt_elim h
    clear h
    have h := hn
    clear hn
    obtain ⟨bt10, h10, hn⟩ := gBool_elim h
    clear h
    have h := hn
    clear hn
    obtain ⟨At45, nt45, ct45, h45, hn⟩ := gSlice_elim h
    clear h
    have h := hn
    clear hn
    obtain ⟨xt46, h46, hn⟩ := gInt_elim h
    clear h
    have h := hn
    clear hn
    obtain ⟨xt47, h47, hn⟩ := gInt_elim h
    clear h
    have h := hn
    clear hn
    exact h
  · intro k Q σ w h
    unfold l0Tk at h
    obtain ⟨xt0, h0, hn⟩ := gInt_elim h
    clear h
    have h := hn
    clear hn
    obtain ⟨pt5, h5, hn⟩ := gPtr_elim h
    clear h
    have h := hn
    clear hn
    obtain ⟨pt6, h6, hn⟩ := gPtr_elim h
    clear h
    have h := hn
    clear hn
    obtain ⟨At7, nt7, ct7, h7, hn⟩ := gSlice_elim h
    clear h
    have h := hn
    clear hn
    obtain ⟨At8, nt8, ct8, h8, hn⟩ := gSlice_elim h
    clear h
    have h := hn
    clear hn
    obtain ⟨xt9, h9, hn⟩ := gInt_elim h
    clear h
    have h := hn
    clear hn
    obtain ⟨bt10, h10, hn⟩ := gBool_elim h
    clear h
    have h := hn
    clear hn
    obtain ⟨At45, nt45, ct45, h45, hn⟩ := gSlice_elim h
    clear h
    have h := hn
    clear hn
    obtain ⟨xt46, h46, hn⟩ := gInt_elim h
    clear h
    have h := hn
    clear hn
    obtain ⟨xt47, h47, hn⟩ := gInt_elim h
    clear h
    have h := hn
    clear hn
    rw [l0_eq (σ := σ)] at h
    have e : (ov σ [(0, .int .i64 xt0), (5, .pointer pt5), (6, .pointer pt6), (7, .slice At7 nt7 ct7), (8, .slice At8 nt8 ct8), (9, .int .i64 xt9), (10, .bool bt10), (45, .slice At45 nt45 ct45), (46, .int .i64 xt46), (47, .int .i64 xt47)]) = σ := ov_self (by simp [h0, h5, h6, h7, h8, h9, h10, h45, h46, h47])
    rw [e] at h
    exact h
def tb : List (List Nat × Spec) := [([0, 1, 0, 1, 1, 1, 1, 1, 1, 1, 1], l0T)]
theorem wp_eq (xa0 : Int) (Aa1 : Option Addr) (na1 : Nat) (ca1 : Nat) (w : World) (Q : Ending → World → Prop) :
    wp xa0 Aa1 na1 ca1 w Q = codeW Tryd.prog hT 147 D (tab tb) [] body (topQ Tryd.prog hT 147 [.tmp 4] Q) (argsF [.int .i64 xa0, .slice Aa1 na1 ca1]) w := by kernel_rfl
theorem ok (xa0 : Int) (Aa1 : Option Addr) (na1 : Nat) (ca1 : Nat) (w : World) (Q : Ending → World → Prop) (h : wp xa0 Aa1 na1 ca1 w Q) : Calls Tryd.prog 3 #[.int .i64 xa0, .slice Aa1 na1 ca1] w Q := by
  rw [wp_eq] at h
  exact calls_of_codeW (c := body) (rs := [.tmp 4]) Tryd.func3 (by kernel_rfl) (by kernel_rfl) (by kernel_rfl) (by kernel_rfl) (by kernel_rfl) (tab_snd (by
    intro x hx
    simp only [tb, List.mem_cons, List.not_mem_nil, or_false] at hx
    subst hx
    exact l0_snd)) (by kernel_rfl) h
end f_law09_WalCrash
end Go.Proofs.YtpokaafedpnbdaaDoor.Rd
