/- The printed readings of some functions: each function's code reckoned by the kernel to its predicate transformer. -/
import Derived.Test.YthekjlglnmhlaaaHint
namespace Go.Proofs.Ythekjlglnmhlaaa.Rd
open Go.Dn
set_option maxRecDepth 100000
set_option linter.unusedVariables false
namespace f_law07_DiskSizes
/-! skein/skeinlaw07.DiskSizes: function 3 -/
noncomputable def body : Code := (Try.f3.body).getD .skip
def j0 (xt1 : Int) (pt5 : Option Addr) (xt7 : Int) (bt8 : Bool) (w : World) (Kr : Bool → World → Prop) : Prop :=
  Calls Try.prog 17 #[.pointer pt5, .int .i64 xt1] w fun e40 w41 => ∃ (A42_0 : Option Addr) (n42_0 : Nat) (c42_0 : Nat) (x42_1 : Int), e40 = .returned (.tuple #[.slice A42_0 n42_0 c42_0, .int .i64 x42_1]) ∧ (
  sel (x42_1 == xt7) (
  sel (!bt8) (
  Kr true w41) (
  sel ((n42_0 : Int) == (512 : Int)) (
  optB A42_0 fun a43 =>
  req (decide (0 ≤ (0 : Int) ∧ (0 : Int) < (n42_0 : Int))) <|
  ldI w41 (a43.add ((0 : Int).toNat * 1)) .u8 fun x44 =>
  sel (x44 == (120 : Int)) (
  optB A42_0 fun a45 =>
  req (decide (0 ≤ (1 : Int) ∧ (1 : Int) < (n42_0 : Int))) <|
  ldI w41 (a45.add ((1 : Int).toNat * 1)) .u8 fun x46 =>
  Kr (x46 == (0 : Int)) w41) (
  Kr false w41)) (
  Kr false w41))) (
  Kr false w41))
def wp (xa0 : Int) (xa1 : Int) (w : World) (Q : Ending → World → Prop) : Prop :=
  Calls Try.prog 9 #[] w fun e1 w2 => ∃ (b3 : Bool), e1 = .returned (.bool b3) ∧ (
  sel (!b3) (
  Q (.returned (.bool false)) w2) (
  Calls Try.prog 10 #[.int .i64 xa0] w2 fun e4 w5 => ∃ (p6 : Option Addr), e4 = .returned (.pointer p6) ∧ (
  Calls Try.prog 11 #[.int .i64 xa0] w5 fun e7 w8 => ∃ (A9_0 : Option Addr) (n9_0 : Nat) (c9_0 : Nat) (A9_1 : Option Addr) (n9_1 : Nat) (c9_1 : Nat) (x9_2 : Int) (b9_3 : Bool), e7 = .returned (.agg #[.slice A9_0 n9_0 c9_0, .slice A9_1 n9_1 c9_1, .int .i64 x9_2, .bool b9_3]) ∧ (
  alW w8 (.cells #[.slice none 0 0, .slice none 0 0, .int .i64 (0 : Int), .bool false] 28) fun B10 w11 =>
  stW w11 (⟨B10, 0, Option.none⟩ : Addr) (.slice A9_0 n9_0 c9_0) fun w12 =>
  stW w12 ((⟨B10, 0, Option.none⟩ : Addr).add 1) (.slice A9_1 n9_1 c9_1) fun w13 =>
  stW w13 ((⟨B10, 0, Option.none⟩ : Addr).add 2) (.int .i64 x9_2) fun w14 =>
  stW w14 ((⟨B10, 0, Option.none⟩ : Addr).add 3) (.bool b9_3) fun w15 =>
  drW w15 fun w16 =>
  ∃ S17 : World → Prop, S17 w16 ∧ (
  sel p6.isNone (
  S17 w16 ∧ (
  Q (.returned (.bool false)) w16)) (
  hdS S17 (⟨B10, 0, Option.none⟩ : Addr) fun A18 n18 c18 =>
  Calls Try.prog 12 #[.pointer p6] w16 fun e19 w20 => ∃ (x21 : Int), e19 = .returned (.int .i64 x21) ∧ (
  S17 w20 ∧ (
  sel (x21 != (n18 : Int)) (
  Q (.returned (.bool false)) w20) (
  Calls Try.prog 13 #[.pointer p6] w20 fun e22 w23 => ∃ (A24 : Option Addr) (n24 : Nat) (c24 : Nat), e22 = .returned (.slice A24 n24 c24) ∧ (
  sel ((n24 : Int) != (0 : Int)) (
  Q (.returned (.bool false)) w23) (
  Calls Try.prog 14 #[.pointer p6] w23 fun e25 w26 => ∃ (x27 : Int), e25 = .returned (.int .i64 x27) ∧ (
  sel (x27 != (0 : Int)) (
  Q (.returned (.bool false)) w26) (
  Calls Try.prog 15 #[.pointer p6] w26 fun e28 w29 => ∃ (b30 : Bool), e28 = .returned (.bool b30) ∧ (
  sel (!b30) (
  Q (.returned (.bool false)) w29) (
  alW w29 (.cells #[.int .u8 (120 : Int)] 5) fun B31 w32 =>
  Runs Try.prog (Go.convert 35 35 (.slice (some (⟨B31, 0, Option.none⟩ : Addr)) 1 1)) w32 fun v34 w33 => ∃ (A35 : Option Addr) (n35 : Nat) (c35 : Nat), v34 = (.slice A35 n35 c35) ∧ (
  Calls Try.prog 16 #[.pointer p6, .int .i64 xa1, .slice A35 n35 c35] w33 fun e36 w37 => ∃ (x38 : Int), e36 = .returned (.int .i64 x38) ∧ (
  sel (decide (xa1 ≥ (0 : Int))) (
  ldS w37 (⟨B10, 0, Option.none⟩ : Addr) fun A39 n39 c39 =>
  sel (!((x38 == (0 : Int)) == (decide (xa1 < (n39 : Int))))) (
  Q (.returned (.bool false)) w37) (
  sel (!(decide (xa1 < (n39 : Int)))) (
  sel (x38 != (1 : Int)) (
  Q (.returned (.bool false)) w37) (
  j0 xa1 p6 x38 (decide (xa1 < (n39 : Int))) w37 (fun (b47 : Bool) (w48 : World) => ∀ _ : Fr,
  Q (.returned (.bool b47)) w48))) (
  j0 xa1 p6 x38 (decide (xa1 < (n39 : Int))) w37 (fun (b49 : Bool) (w50 : World) => ∀ _ : Fr,
  Q (.returned (.bool b49)) w50)))) (
  sel (!((x38 == (0 : Int)) == false)) (
  Q (.returned (.bool false)) w37) (
  sel (x38 != (1 : Int)) (
  Q (.returned (.bool false)) w37) (
  j0 xa1 p6 x38 false w37 (fun (b51 : Bool) (w52 : World) => ∀ _ : Fr,
  Q (.returned (.bool b51)) w52)))))))))))))))))))))
def D : Nat → Option DH := dtab [(5, .held [.fst 0, .fst 1, .fst 2, .fst 3, .fst 5, .fst 6, .fst 7, .eff 4] [.fst 8, .fst 9, .fst 10, .fst 11, .eff 12, .fst 13, .fst 14, .fst 15, .fst 16, .fst 17, .eff 18, .fst 19, .fst 20, .fst 21, .fst 22, .eff 23, .fst 24, .fst 25])]
def j0LO : LO := ⟨[], [4], [], []⟩
def j0T : Spec := fun Q σ w =>
  gInt .i64 (σ 1) fun xt1 =>
  gPtr (σ 5) fun pt5 =>
  gInt .i64 (σ 7) fun xt7 =>
  gBool (σ 8) fun bt8 =>
  j0 xt1 pt5 xt7 bt8 w (fun (bq4 : Bool) (w : World) => ∀ d : Fr, Q .ret (ov d [(4, .bool bq4)]) w)
def j0tb : List (List Nat × Spec) := []
noncomputable def j0b : Code := (subC [1, 1, 1, 1, 1, 1, 1, 1] body).getD .skip
theorem j0_eq (xt1 : Int) (pt5 : Option Addr) (xt7 : Int) (bt8 : Bool) (Q : PQ) (σ : Fr) (w : World) :
    j0 xt1 pt5 xt7 bt8 w (fun (bq4 : Bool) (w : World) => ∀ d : Fr, Q .ret (ov d [(4, .bool bq4)]) w) = codeW Try.prog hT 99 D (tab j0tb) [1, 1, 1, 1, 1, 1, 1, 1] j0b (widen j0LO Q) (ov σ [(1, .int .i64 xt1), (5, .pointer pt5), (7, .int .i64 xt7), (8, .bool bt8)]) w := by cases bt8 <;> kernel_rfl
theorem j0_snd : ∀ c, subC [1, 1, 1, 1, 1, 1, 1, 1] body = some c → Snd Try.prog 99 c j0T := by
  refine cut_of (hT := hT) (D := D) (l := j0tb) (b := j0b) (lo := j0LO) (by kernel_rfl) (by
    intro x hx
    simp only [j0tb, List.not_mem_nil] at hx
    ) (by kernel_rfl) (by kernel_rfl) ?_
  intro Q σ w h
  unfold j0T at h
  obtain ⟨xt1, h1, hn⟩ := gInt_elim h
  clear h
  have h := hn
  clear hn
  obtain ⟨pt5, h5, hn⟩ := gPtr_elim h
  clear h
  have h := hn
  clear hn
  obtain ⟨xt7, h7, hn⟩ := gInt_elim h
  clear h
  have h := hn
  clear hn
  obtain ⟨bt8, h8, hn⟩ := gBool_elim h
  clear h
  have h := hn
  clear hn
  rw [j0_eq (σ := σ)] at h
  have e : (ov σ [(1, .int .i64 xt1), (5, .pointer pt5), (7, .int .i64 xt7), (8, .bool bt8)]) = σ := ov_self (by simp [h1, h5, h7, h8])
  rw [e] at h
  exact h
def tb : List (List Nat × Spec) := [([1, 1, 1, 1, 1, 1, 1, 1], j0T)]
theorem wp_eq (xa0 : Int) (xa1 : Int) (w : World) (Q : Ending → World → Prop) :
    wp xa0 xa1 w Q = codeW Try.prog hT 99 D (tab tb) [] body (topQ Try.prog hT 99 [.tmp 4] Q) (argsF [.int .i64 xa0, .int .i64 xa1]) w := by kernel_rfl
theorem ok (xa0 : Int) (xa1 : Int) (w : World) (Q : Ending → World → Prop) (h : wp xa0 xa1 w Q) : Calls Try.prog 3 #[.int .i64 xa0, .int .i64 xa1] w Q := by
  rw [wp_eq] at h
  exact calls_of_codeW (c := body) (rs := [.tmp 4]) Try.func3 (by kernel_rfl) (by kernel_rfl) (by kernel_rfl) (by kernel_rfl) (by kernel_rfl) (tab_snd (by
    intro x hx
    simp only [tb, List.mem_cons, List.not_mem_nil, or_false] at hx
    subst hx
    exact j0_snd)) (by kernel_rfl) h
end f_law07_DiskSizes
end Go.Proofs.Ythekjlglnmhlaaa.Rd
