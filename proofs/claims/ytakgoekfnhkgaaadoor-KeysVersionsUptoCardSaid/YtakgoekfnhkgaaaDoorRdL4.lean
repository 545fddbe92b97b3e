/- The printed readings of some functions: each function's code reckoned by the kernel to its predicate transformer. -/
import Derived.Test.YtakgoekfnhkgaaaDoorHint
namespace Go.Proofs.YtakgoekfnhkgaaaDoor.Rd
open Go.Dn
set_option maxRecDepth 100000
set_option linter.unusedVariables false
namespace f_law04_KeysVersions
/-! skein/skeinlaw04.KeysVersions: function 4 -/
noncomputable def body : Code := (Tryd.f4.body).getD .skip
def j0 (At2 : Option Addr) (nt2 : Nat) (ct2 : Nat) (At14 : Option Addr) (nt14 : Nat) (ct14 : Nat) (At15 : Option Addr) (nt15 : Nat) (ct15 : Nat) (xt16 : Int) (xt17 : Int) (w : World) (Kr : Bool → World → Prop) : Prop :=
  req (decide (0 ≤ (nt2 : Int) ∧ (nt2 : Int) ≤ (ct14 : Int))) <|
  Calls Tryd.prog 21 #[.slice (slA At14 0 ct14 1) ((nt2 : Int).toNat - 0) (ct14 - 0)] w fun e28 w29 => ∃ (A30_0 : Option Addr) (n30_0 : Nat) (c30_0 : Nat) (x30_1 : Int) (x30_2 : Int), e28 = .returned (.tuple #[.slice A30_0 n30_0 c30_0, .int .i64 x30_1, .int .i64 x30_2]) ∧ (
  Calls Tryd.prog 22 #[.slice At2 nt2 ct2] w29 fun e31 w32 => ∃ (A33_0 : Option Addr) (n33_0 : Nat) (c33_0 : Nat) (x33_1 : Int) (x33_2 : Int), e31 = .returned (.tuple #[.slice A33_0 n33_0 c33_0, .int .i64 x33_1, .int .i64 x33_2]) ∧ (
  sel (xt16 == x33_1) (
  sel (xt17 == x33_2) (
  Calls Tryd.prog 12 #[.slice At15 nt15 ct15, .slice A30_0 n30_0 c30_0, .slice A33_0 n33_0 c33_0] w32 fun e34 w35 => ∃ (b36 : Bool), e34 = .returned (.bool b36) ∧ (
  sel b36 (
  Calls Tryd.prog 18 #[.slice At14 nt14 ct14, .slice At2 nt2 ct2] w35 fun e37 w38 => ∃ (b39 : Bool), e37 = .returned (.bool b39) ∧ (
  Kr b39 w38)) (
  Kr false w35))) (
  Kr false w32)) (
  Kr false w32)))
def wp (Aa0 : Option Addr) (na0 : Nat) (ca0 : Nat) (xa1 : Int) (Aa2 : Option Addr) (na2 : Nat) (ca2 : Nat) (w : World) (Q : Ending → World → Prop) : Prop :=
  Calls Tryd.prog 7 #[] w fun e1 w2 => ∃ (b3 : Bool), e1 = .returned (.bool b3) ∧ (
  sel (!b3) (
  Q (.returned (.bool false)) w2) (
  Calls Tryd.prog 15 #[.slice Aa0 na0 ca0] w2 fun e4 w5 => ∃ (A6 : Option Addr) (n6 : Nat) (c6 : Nat), e4 = .returned (.slice A6 n6 c6) ∧ (
  req (decide (0 ≤ (na0 : Int) ∧ (na0 : Int) ≤ (c6 : Int))) <|
  Calls Tryd.prog 19 #[.slice (slA A6 0 c6 1) ((na0 : Int).toNat - 0) (c6 - 0), .int .i64 xa1] w5 fun e7 w8 => ∃ (A9_0 : Option Addr) (n9_0 : Nat) (c9_0 : Nat) (x9_1 : Int), e7 = .returned (.tuple #[.slice A9_0 n9_0 c9_0, .int .i64 x9_1]) ∧ (
  req (decide (0 ≤ (na0 : Int) ∧ (na0 : Int) ≤ (c6 : Int))) <|
  Calls Tryd.prog 19 #[.slice (slA A6 0 c6 1) ((na0 : Int).toNat - 0) (c6 - 0), .int .i64 xa1] w8 fun e10 w11 => ∃ (A12_0 : Option Addr) (n12_0 : Nat) (c12_0 : Nat) (x12_1 : Int), e10 = .returned (.tuple #[.slice A12_0 n12_0 c12_0, .int .i64 x12_1]) ∧ (
  Calls Tryd.prog 20 #[.slice Aa0 na0 ca0, .int .i64 xa1] w11 fun e13 w14 => ∃ (A15_0 : Option Addr) (n15_0 : Nat) (c15_0 : Nat) (x15_1 : Int), e13 = .returned (.tuple #[.slice A15_0 n15_0 c15_0, .int .i64 x15_1]) ∧ (
  sel (x9_1 != x15_1) (
  Q (.returned (.bool false)) w14) (
  Calls Tryd.prog 12 #[.slice A9_0 n9_0 c9_0, .slice A12_0 n12_0 c12_0, .slice A15_0 n15_0 c15_0] w14 fun e16 w17 => ∃ (b18 : Bool), e16 = .returned (.bool b18) ∧ (
  sel (!b18) (
  Q (.returned (.bool false)) w17) (
  Calls Tryd.prog 18 #[.slice A6 n6 c6, .slice Aa0 na0 ca0] w17 fun e19 w20 => ∃ (b21 : Bool), e19 = .returned (.bool b21) ∧ (
  sel (!b21) (
  Q (.returned (.bool false)) w20) (
  Calls Tryd.prog 15 #[.slice Aa2 na2 ca2] w20 fun e22 w23 => ∃ (A24 : Option Addr) (n24 : Nat) (c24 : Nat), e22 = .returned (.slice A24 n24 c24) ∧ (
  req (decide (0 ≤ (na2 : Int) ∧ (na2 : Int) ≤ (c24 : Int))) <|
  Calls Tryd.prog 21 #[.slice (slA A24 0 c24 1) ((na2 : Int).toNat - 0) (c24 - 0)] w23 fun e25 w26 => ∃ (A27_0 : Option Addr) (n27_0 : Nat) (c27_0 : Nat) (x27_1 : Int) (x27_2 : Int), e25 = .returned (.tuple #[.slice A27_0 n27_0 c27_0, .int .i64 x27_1, .int .i64 x27_2]) ∧ (
  j0 Aa2 na2 ca2 A24 n24 c24 A27_0 n27_0 c27_0 x27_1 x27_2 w26 (fun (b40 : Bool) (w41 : World) => ∀ _ : Fr,
  Q (.returned (.bool b40)) w41))))))))))))))
def D : Nat → Option DH := dtab []
def j0LO : LO := ⟨[], [6], [], []⟩
def j0T : Spec := fun Q σ w =>
  gSlice (σ 2) fun At2 nt2 ct2 =>
  gSlice (σ 14) fun At14 nt14 ct14 =>
  gSlice (σ 15) fun At15 nt15 ct15 =>
  gInt .i64 (σ 16) fun xt16 =>
  gInt .i64 (σ 17) fun xt17 =>
  j0 At2 nt2 ct2 At14 nt14 ct14 At15 nt15 ct15 xt16 xt17 w (fun (bq6 : Bool) (w : World) => ∀ d : Fr, Q .ret (ov d [(6, .bool bq6)]) w)
def j0tb : List (List Nat × Spec) := []
noncomputable def j0b : Code := (subC [1, 1, 1, 1, 1, 1, 1, 1, 1] body).getD .skip
theorem j0_eq (At2 : Option Addr) (nt2 : Nat) (ct2 : Nat) (At14 : Option Addr) (nt14 : Nat) (ct14 : Nat) (At15 : Option Addr) (nt15 : Nat) (ct15 : Nat) (xt16 : Int) (xt17 : Int) (Q : PQ) (σ : Fr) (w : World) :
    j0 At2 nt2 ct2 At14 nt14 ct14 At15 nt15 ct15 xt16 xt17 w (fun (bq6 : Bool) (w : World) => ∀ d : Fr, Q .ret (ov d [(6, .bool bq6)]) w) = codeW Tryd.prog hT 113 D (tab j0tb) [1, 1, 1, 1, 1, 1, 1, 1, 1] j0b (widen j0LO Q) (ov σ [(2, .slice At2 nt2 ct2), (14, .slice At14 nt14 ct14), (15, .slice At15 nt15 ct15), (16, .int .i64 xt16), (17, .int .i64 xt17)]) w := by kernel_rfl
theorem j0_snd : ∀ c, subC [1, 1, 1, 1, 1, 1, 1, 1, 1] body = some c → Snd Tryd.prog 113 c j0T := by
  refine cut_of (hT := hT) (D := D) (l := j0tb) (b := j0b) (lo := j0LO) (by kernel_rfl) (by
    intro x hx
    simp only [j0tb, List.not_mem_nil] at hx
    ) (by kernel_rfl) (by kernel_rfl) ?_
  intro Q σ w h
  unfold j0T at h
  obtain ⟨At2, nt2, ct2, h2, hn⟩ := gSlice_elim h
  clear h
  have h := hn
  clear hn
  obtain ⟨At14, nt14, ct14, h14, hn⟩ := gSlice_elim h
  clear h
  have h := hn
  clear hn
  obtain ⟨At15, nt15, ct15, h15, hn⟩ := gSlice_elim h
  clear h
  have h := hn
  clear hn
  obtain ⟨xt16, h16, hn⟩ := gInt_elim h
  clear h
  have h := hn
  clear hn
  obtain ⟨xt17, h17, hn⟩ := gInt_elim h
  clear h
  have h := hn
  clear hn
  rw [j0_eq (σ := σ)] at h
  have e : (ov σ [(2, .slice At2 nt2 ct2), (14, .slice At14 nt14 ct14), (15, .slice At15 nt15 ct15), (16, .int .i64 xt16), (17, .int .i64 xt17)]) = σ := ov_self (by simp [h2, h14, h15, h16, h17])
  rw [e] at h
  exact h
def tb : List (List Nat × Spec) := [([1, 1, 1, 1, 1, 1, 1, 1, 1], j0T)]
theorem wp_eq (Aa0 : Option Addr) (na0 : Nat) (ca0 : Nat) (xa1 : Int) (Aa2 : Option Addr) (na2 : Nat) (ca2 : Nat) (w : World) (Q : Ending → World → Prop) :
    wp Aa0 na0 ca0 xa1 Aa2 na2 ca2 w Q = codeW Tryd.prog hT 113 D (tab tb) [] body (topQ Tryd.prog hT 113 [.tmp 6] Q) (argsF [.slice Aa0 na0 ca0, .int .i64 xa1, .slice Aa2 na2 ca2]) w := by kernel_rfl
theorem ok (Aa0 : Option Addr) (na0 : Nat) (ca0 : Nat) (xa1 : Int) (Aa2 : Option Addr) (na2 : Nat) (ca2 : Nat) (w : World) (Q : Ending → World → Prop) (h : wp Aa0 na0 ca0 xa1 Aa2 na2 ca2 w Q) : Calls Tryd.prog 4 #[.slice Aa0 na0 ca0, .int .i64 xa1, .slice Aa2 na2 ca2] w Q := by
  rw [wp_eq] at h
  exact calls_of_codeW (c := body) (rs := [.tmp 6]) Tryd.func4 (by kernel_rfl) (by kernel_rfl) (by kernel_rfl) (by kernel_rfl) (by kernel_rfl) (tab_snd (by
    intro x hx
    simp only [tb, List.mem_cons, List.not_mem_nil, or_false] at hx
    subst hx
    exact j0_snd)) (by kernel_rfl) h
end f_law04_KeysVersions
end Go.Proofs.YtakgoekfnhkgaaaDoor.Rd
