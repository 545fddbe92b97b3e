/- The printed readings of some functions: each function's code reckoned by the kernel to its predicate transformer. -/
import Derived.Test.YtifambgaekjilaaDoorHint
namespace Go.Proofs.YtifambgaekjilaaDoor.Rd
open Go.Dn
set_option maxRecDepth 100000
set_option linter.unusedVariables false
namespace f_law08_PageRooms
/-! skein/skeinlaw08.PageRooms: function 4 -/
noncomputable def body : Code := (Tryd.f4.body).getD .skip
def j0 (xt1 : Int) (pt7 : Option Addr) (At8 : Option Addr) (nt8 : Nat) (ct8 : Nat) (xt9 : Int) (At11 : Option Addr) (nt11 : Nat) (ct11 : Nat) (w : World) (Kr : Bool → World → Prop) : Prop :=
  Calls Tryd.prog 22 #[.pointer pt7, .int .i64 xt1] w fun e37 w38 => ∃ (x39 : Int), e37 = .returned (.int .i64 x39) ∧ (
  sel (x39 == (0 : Int)) (
  Calls Tryd.prog 17 #[.pointer pt7] w38 fun e40 w41 => ∃ (A42 : Option Addr) (n42 : Nat) (c42 : Nat), e40 = .returned (.slice A42 n42 c42) ∧ (
  Calls Tryd.prog 23 #[.slice A42 n42 c42, .slice At8 nt8 ct8] w41 fun e43 w44 => ∃ (b45 : Bool), e43 = .returned (.bool b45) ∧ (
  sel b45 (
  Calls Tryd.prog 18 #[.pointer pt7] w44 fun e46 w47 => ∃ (x48 : Int), e46 = .returned (.int .i64 x48) ∧ (
  sel (x48 == xt9) (
  Calls Tryd.prog 15 #[.pointer pt7] w47 fun e49 w50 => ∃ (A51 : Option Addr) (n51 : Nat) (c51 : Nat), e49 = .returned (.slice A51 n51 c51) ∧ (
  Calls Tryd.prog 14 #[.slice A51 n51 c51, .slice At11 nt11 ct11] w50 fun e52 w53 => ∃ (b54 : Bool), e52 = .returned (.bool b54) ∧ (
  Kr b54 w53))) (
  Kr false w47))) (
  Kr false w44)))) (
  Kr false w38))
def wp (Aa0 : Option Addr) (na0 : Nat) (ca0 : Nat) (xa1 : Int) (Aa2 : Option Addr) (na2 : Nat) (ca2 : Nat) (w : World) (Q : Ending → World → Prop) : Prop :=
  Calls Tryd.prog 16 #[.slice Aa0 na0 ca0] w fun e1 w2 => ∃ (p3 : Option Addr), e1 = .returned (.pointer p3) ∧ (
  sel p3.isNone (
  Q (.returned (.bool false)) w2) (
  Calls Tryd.prog 7 #[] w2 fun e4 w5 => ∃ (b6 : Bool), e4 = .returned (.bool b6) ∧ (
  sel (!b6) (
  Q (.returned (.bool false)) w5) (
  Calls Tryd.prog 17 #[.pointer p3] w5 fun e7 w8 => ∃ (A9 : Option Addr) (n9 : Nat) (c9 : Nat), e7 = .returned (.slice A9 n9 c9) ∧ (
  Calls Tryd.prog 18 #[.pointer p3] w8 fun e10 w11 => ∃ (x12 : Int), e10 = .returned (.int .i64 x12) ∧ (
  Calls Tryd.prog 19 #[.pointer p3] w11 fun e13 w14 => ∃ (x15 : Int), e13 = .returned (.int .i64 x15) ∧ (
  Calls Tryd.prog 15 #[.pointer p3] w14 fun e16 w17 => ∃ (A18 : Option Addr) (n18 : Nat) (c18 : Nat), e16 = .returned (.slice A18 n18 c18) ∧ (
  Calls Tryd.prog 20 #[.pointer p3, .int .i64 xa1, .slice Aa2 na2 ca2] w17 fun e19 w20 => ∃ (x21 : Int), e19 = .returned (.int .i64 x21) ∧ (
  sel (decide (xa1 ≥ (0 : Int))) (
  sel (decide (xa1 ≤ x15)) (
  sel (!((x21 == (0 : Int)) == (decide ((na2 : Int) ≤ x12)))) (
  Q (.returned (.bool false)) w20) (
  sel (x21 != (0 : Int)) (
  Calls Tryd.prog 15 #[.pointer p3] w20 fun e22 w23 => ∃ (A24 : Option Addr) (n24 : Nat) (c24 : Nat), e22 = .returned (.slice A24 n24 c24) ∧ (
  Calls Tryd.prog 14 #[.slice A24 n24 c24, .slice A18 n18 c18] w23 fun e25 w26 => ∃ (b27 : Bool), e25 = .returned (.bool b27) ∧ (
  sel b27 (
  sel (decide (xa1 ≤ x15)) (
  Q (.returned (.bool true)) w26) (
  Q (.returned (.bool (x21 == (82 : Int)))) w26)) (
  Q (.returned (.bool false)) w26)))) (
  Calls Tryd.prog 21 #[.pointer p3, .int .i64 xa1] w20 fun e28 w29 => ∃ (A30_0 : Option Addr) (n30_0 : Nat) (c30_0 : Nat) (x30_1 : Int), e28 = .returned (.tuple #[.slice A30_0 n30_0 c30_0, .int .i64 x30_1]) ∧ (
  sel (x30_1 != (0 : Int)) (
  Q (.returned (.bool false)) w29) (
  Calls Tryd.prog 14 #[.slice A30_0 n30_0 c30_0, .slice Aa2 na2 ca2] w29 fun e31 w32 => ∃ (b33 : Bool), e31 = .returned (.bool b33) ∧ (
  sel (!b33) (
  Q (.returned (.bool false)) w32) (
  Calls Tryd.prog 19 #[.pointer p3] w32 fun e34 w35 => ∃ (x36 : Int), e34 = .returned (.int .i64 x36) ∧ (
  sel (x36 != (IntKind.i64.wrap (x15 + (1 : Int)))) (
  Q (.returned (.bool false)) w35) (
  j0 xa1 p3 A9 n9 c9 x12 A18 n18 c18 w35 (fun (b55 : Bool) (w56 : World) => ∀ _ : Fr,
  Q (.returned (.bool b55)) w56)))))))))) (
  sel (!((x21 == (0 : Int)) == false)) (
  Q (.returned (.bool false)) w20) (
  sel (x21 != (0 : Int)) (
  Calls Tryd.prog 15 #[.pointer p3] w20 fun e57 w58 => ∃ (A59 : Option Addr) (n59 : Nat) (c59 : Nat), e57 = .returned (.slice A59 n59 c59) ∧ (
  Calls Tryd.prog 14 #[.slice A59 n59 c59, .slice A18 n18 c18] w58 fun e60 w61 => ∃ (b62 : Bool), e60 = .returned (.bool b62) ∧ (
  sel b62 (
  sel (decide (xa1 ≤ x15)) (
  Q (.returned (.bool true)) w61) (
  Q (.returned (.bool (x21 == (82 : Int)))) w61)) (
  Q (.returned (.bool false)) w61)))) (
  Calls Tryd.prog 21 #[.pointer p3, .int .i64 xa1] w20 fun e63 w64 => ∃ (A65_0 : Option Addr) (n65_0 : Nat) (c65_0 : Nat) (x65_1 : Int), e63 = .returned (.tuple #[.slice A65_0 n65_0 c65_0, .int .i64 x65_1]) ∧ (
  sel (x65_1 != (0 : Int)) (
  Q (.returned (.bool false)) w64) (
  Calls Tryd.prog 14 #[.slice A65_0 n65_0 c65_0, .slice Aa2 na2 ca2] w64 fun e66 w67 => ∃ (b68 : Bool), e66 = .returned (.bool b68) ∧ (
  sel (!b68) (
  Q (.returned (.bool false)) w67) (
  Calls Tryd.prog 19 #[.pointer p3] w67 fun e69 w70 => ∃ (x71 : Int), e69 = .returned (.int .i64 x71) ∧ (
  sel (x71 != (IntKind.i64.wrap (x15 + (1 : Int)))) (
  Q (.returned (.bool false)) w70) (
  j0 xa1 p3 A9 n9 c9 x12 A18 n18 c18 w70 (fun (b72 : Bool) (w73 : World) => ∀ _ : Fr,
  Q (.returned (.bool b72)) w73))))))))))) (
  sel (!((x21 == (0 : Int)) == false)) (
  Q (.returned (.bool false)) w20) (
  sel (x21 != (0 : Int)) (
  Calls Tryd.prog 15 #[.pointer p3] w20 fun e74 w75 => ∃ (A76 : Option Addr) (n76 : Nat) (c76 : Nat), e74 = .returned (.slice A76 n76 c76) ∧ (
  Calls Tryd.prog 14 #[.slice A76 n76 c76, .slice A18 n18 c18] w75 fun e77 w78 => ∃ (b79 : Bool), e77 = .returned (.bool b79) ∧ (
  sel b79 (
  Q (.returned (.bool (x21 == (82 : Int)))) w78) (
  Q (.returned (.bool false)) w78)))) (
  Calls Tryd.prog 21 #[.pointer p3, .int .i64 xa1] w20 fun e80 w81 => ∃ (A82_0 : Option Addr) (n82_0 : Nat) (c82_0 : Nat) (x82_1 : Int), e80 = .returned (.tuple #[.slice A82_0 n82_0 c82_0, .int .i64 x82_1]) ∧ (
  sel (x82_1 != (0 : Int)) (
  Q (.returned (.bool false)) w81) (
  Calls Tryd.prog 14 #[.slice A82_0 n82_0 c82_0, .slice Aa2 na2 ca2] w81 fun e83 w84 => ∃ (b85 : Bool), e83 = .returned (.bool b85) ∧ (
  sel (!b85) (
  Q (.returned (.bool false)) w84) (
  Calls Tryd.prog 19 #[.pointer p3] w84 fun e86 w87 => ∃ (x88 : Int), e86 = .returned (.int .i64 x88) ∧ (
  sel (x88 != (IntKind.i64.wrap (x15 + (1 : Int)))) (
  Q (.returned (.bool false)) w87) (
  j0 xa1 p3 A9 n9 c9 x12 A18 n18 c18 w87 (fun (b89 : Bool) (w90 : World) => ∀ _ : Fr,
  Q (.returned (.bool b89)) w90)))))))))))))))))))
def D : Nat → Option DH := dtab []
def j0LO : LO := ⟨[], [6], [], []⟩
def j0T : Spec := fun Q σ w =>
  gInt .i64 (σ 1) fun xt1 =>
  gPtr (σ 7) fun pt7 =>
  gSlice (σ 8) fun At8 nt8 ct8 =>
  gInt .i64 (σ 9) fun xt9 =>
  gSlice (σ 11) fun At11 nt11 ct11 =>
  j0 xt1 pt7 At8 nt8 ct8 xt9 At11 nt11 ct11 w (fun (bq6 : Bool) (w : World) => ∀ d : Fr, Q .ret (ov d [(6, .bool bq6)]) w)
def j0tb : List (List Nat × Spec) := []
noncomputable def j0b : Code := (subC [1, 1, 1, 1, 1, 1, 1, 1, 1, 1, 1] body).getD .skip
theorem j0_eq (xt1 : Int) (pt7 : Option Addr) (At8 : Option Addr) (nt8 : Nat) (ct8 : Nat) (xt9 : Int) (At11 : Option Addr) (nt11 : Nat) (ct11 : Nat) (Q : PQ) (σ : Fr) (w : World) :
    j0 xt1 pt7 At8 nt8 ct8 xt9 At11 nt11 ct11 w (fun (bq6 : Bool) (w : World) => ∀ d : Fr, Q .ret (ov d [(6, .bool bq6)]) w) = codeW Tryd.prog hT 109 D (tab j0tb) [1, 1, 1, 1, 1, 1, 1, 1, 1, 1, 1] j0b (widen j0LO Q) (ov σ [(1, .int .i64 xt1), (7, .pointer pt7), (8, .slice At8 nt8 ct8), (9, .int .i64 xt9), (11, .slice At11 nt11 ct11)]) w := by kernel_rfl
theorem j0_snd : ∀ c, subC [1, 1, 1, 1, 1, 1, 1, 1, 1, 1, 1] body = some c → Snd Tryd.prog 109 c j0T := by
  refine cut_of (hT := hT) (D := D) (l := j0tb) (b := j0b) (lo := j0LO) (by kernel_rfl) (by
    intro x hx
    simp only [j0tb, List.not_mem_nil] at hx
    ) (by kernel_rfl) (by kernel_rfl) ?_
  intro Q σ w h
  unfold j0T at h
  obtain ⟨xt1, h1, hn⟩ := gInt_elim h
  clear h
  have h := hn
  clear hn
  obtain ⟨pt7, h7, hn⟩ := gPtr_elim h
  clear h
  have h := hn
  clear hn
  obtain ⟨At8, nt8, ct8, h8, hn⟩ := gSlice_elim h
  clear h
  have h := hn
  clear hn
  obtain ⟨xt9, h9, hn⟩ := gInt_elim h
  clear h
  have h := hn
  clear hn
  obtain ⟨At11, nt11, ct11, h11, hn⟩ := gSlice_elim h
  clear h
  have h := hn
  clear hn
  rw [j0_eq (σ := σ)] at h
  have e : (ov σ [(1, .int .i64 xt1), (7, .pointer pt7), (8, .slice At8 nt8 ct8), (9, .int .i64 xt9), (11, .slice At11 nt11 ct11)]) = σ := ov_self (by simp [h1, h7, h8, h9, h11])
  rw [e] at h
  exact h
def tb : List (List Nat × Spec) := [([1, 1, 1, 1, 1, 1, 1, 1, 1, 1, 1], j0T)]
theorem wp_eq (Aa0 : Option Addr) (na0 : Nat) (ca0 : Nat) (xa1 : Int) (Aa2 : Option Addr) (na2 : Nat) (ca2 : Nat) (w : World) (Q : Ending → World → Prop) :
    wp Aa0 na0 ca0 xa1 Aa2 na2 ca2 w Q = codeW Tryd.prog hT 109 D (tab tb) [] body (topQ Tryd.prog hT 109 [.tmp 6] Q) (argsF [.slice Aa0 na0 ca0, .int .i64 xa1, .slice Aa2 na2 ca2]) w := by kernel_rfl
theorem ok (Aa0 : Option Addr) (na0 : Nat) (ca0 : Nat) (xa1 : Int) (Aa2 : Option Addr) (na2 : Nat) (ca2 : Nat) (w : World) (Q : Ending → World → Prop) (h : wp Aa0 na0 ca0 xa1 Aa2 na2 ca2 w Q) : Calls Tryd.prog 4 #[.slice Aa0 na0 ca0, .int .i64 xa1, .slice Aa2 na2 ca2] w Q := by
  rw [wp_eq] at h
  exact calls_of_codeW (c := body) (rs := [.tmp 6]) Tryd.func4 (by kernel_rfl) (by kernel_rfl) (by kernel_rfl) (by kernel_rfl) (by kernel_rfl) (tab_snd (by
    intro x hx
    simp only [tb, List.mem_cons, List.not_mem_nil, or_false] at hx
    subst hx
    exact j0_snd)) (by kernel_rfl) h
end f_law08_PageRooms
end Go.Proofs.YtifambgaekjilaaDoor.Rd
