/- The printed readings of some functions: each function's code reckoned by the kernel to its predicate transformer · The printed readings of some functions: each function's code reckoned by the kernel to its predicate transformer -/
import Derived.Test.YtklnlnjgaadjbaaZ3A
set_option linter.unusedSimpArgs false
set_option linter.unusedVariables false
namespace Go.Proofs.Ytklnlnjgaadjbaa.Rd
open Go.Dn
set_option maxRecDepth 100000
namespace f_ref20_Span
noncomputable def body : Code := (Try.f29.body).getD .skip
def l1 : Nat → Int → Option Addr → Nat → Nat → Int → World → (Int → World → Prop) → Prop | 0, _, _, _, _, _, _, _ => False | k + 1, xt6, At8, nt8, ct8, xt9, w, K2 => sel (decide (xt9 < (nt8 : Int))) (optB At8 fun a19 => req (decide (0 ≤ xt9 ∧ xt9 < (nt8 : Int))) <| ldI w (a19.add (xt9.toNat * 1)) .i64 fun x20 => sel (decide (x20 > xt6)) (optB At8 fun a21 => req (decide (0 ≤ xt9 ∧ xt9 < (nt8 : Int))) <| ldI w (a21.add (xt9.toNat * 1)) .i64 fun x22 => l1 k x22 At8 nt8 ct8 (IntKind.i64.wrap (xt9 + 1)) w K2) (l1 k xt6 At8 nt8 ct8 (IntKind.i64.wrap (xt9 + 1)) w K2)) (K2 xt6 w)
def l0 : Nat → Addr → Option Addr → Nat → Nat → Int → Int → World → (Int → World → Prop) → Prop | 0, _, _, _, _, _, _, _, _ => False | k + 1, at2, At5, nt5, ct5, xt6, xt7, w, K0 => sel (decide (xt7 < (nt5 : Int))) (drW w fun w10 => ldS w10 at2 fun A12 n12 c12 => ldS w10 (at2.add 1) fun A13 n13 c13 => optB At5 fun a14 => req (decide (0 ≤ xt7 ∧ xt7 < (nt5 : Int))) <| ldI w10 (a14.add (xt7.toNat * 1)) .i64 fun x15 => Calls Try.prog 51 #[.slice A12 n12 c12, .slice A13 n13 c13, .int .i64 x15] w10 fun e16 w17 => ∃ A18 n18 c18, e16 = .returned (.slice A18 n18 c18) ∧ (∃ k25, l1 k25 xt6 A18 n18 c18 0 w17 (fun x23 w24 => ∀ _ : Fr, l0 k at2 At5 nt5 ct5 x23 (IntKind.i64.wrap (xt7 + 1)) w24 K0))) (K0 xt6 w)
def wp (Aa0_0 : Option Addr) (na0_0 ca0_0 : Nat) (Aa0_1 : Option Addr) (na0_1 ca0_1 : Nat) (Aa0_2 : Option Addr) (na0_2 ca0_2 : Nat) (Aa0_3 : Option Addr) (na0_3 ca0_3 : Nat) (xa1 : Int) (w : World) (Q : Ending → World → Prop) : Prop := alW w (.cells #[.slice Aa0_0 na0_0 ca0_0, .slice Aa0_1 na0_1 ca0_1, .slice Aa0_2 na0_2 ca0_2, .slice Aa0_3 na0_3 ca0_3] 31) fun B1 w2 => ldS w2 ⟨B1, 0, none⟩ fun A3 n3 c3 => ldS w2 (.add ⟨B1, 0, none⟩ 1) fun A4 n4 c4 => ldS w2 (.add ⟨B1, 0, none⟩ 2) fun A5 n5 c5 => ldS w2 (.add ⟨B1, 0, none⟩ 3) fun A6 n6 c6 => Calls Try.prog 28 #[.agg #[.slice A3 n3 c3, .slice A4 n4 c4, .slice A5 n5 c5, .slice A6 n6 c6], .int .i64 xa1] w2 fun e7 w8 => ∃ A9 n9 c9, e7 = .returned (.slice A9 n9 c9) ∧ (∃ k28, l0 k28 ⟨B1, 0, none⟩ A9 n9 c9 0 0 w8 (fun x26 w27 => ∀ _ : Fr, Q (.returned (.int .i64 x26)) w27))
def D : Nat → Option DH := dtab [(6, .simple [.fst 0, .fst 1, .fst 2, .fst 3, .fst 4, .fst 5, .fst 6, .fst 7, .fst 8, .fst 9] [.eff 10, .fst 11])]
def l1LO : LO := ⟨[], [], [(2, [2, 5, 6, 7])], []⟩
def l1Tk (k : Nat) : Spec := fun Q σ w => gInt .i64 (σ 6) fun xt6 => gSlice (σ 8) fun At8 nt8 ct8 => gInt .i64 (σ 9) fun xt9 => l1 k xt6 At8 nt8 ct8 xt9 w (fun xq6 w => ∀ d : Fr, Q (.exit 2) (ov d [(2, σ 2), (5, σ 5), (6, .int .i64 xq6), (7, σ 7)]) w)
def l1T : Spec := fun Q σ w => ∃ k, l1Tk k Q σ w
def l1tb : List (List Nat × Spec) := []
noncomputable def l1b : Code := (subC [0, 0, 1, 1, 0, 0, 1, 0, 0, 1, 0, 1, 1, 1] body).getD .skip
theorem l1_eq (k : Nat) (xt6 : Int) (At8 : Option Addr) (nt8 ct8 : Nat) (xt9 : Int) (Q : PQ) (σ : Fr) (w : World) : l1 (k + 1) xt6 At8 nt8 ct8 xt9 w (fun xq6 w => ∀ d : Fr, Q (.exit 2) (ov d [(2, σ 2), (5, σ 5), (6, .int .i64 xq6), (7, σ 7)]) w) = codeW Try.prog hT 47 D (tab l1tb) [0, 0, 1, 1, 0, 0, 1, 0, 0, 1, 0, 1, 1, 1] l1b (thenQ (l1Tk k Q) (widen l1LO Q)) (ov σ [(6, .int .i64 xt6), (8, .slice At8 nt8 ct8), (9, .int .i64 xt9)]) w := by kernel_rfl
theorem l1_snd : ∀ c, subC [0, 1, 1, 0, 0, 1, 0, 0, 1, 0, 1, 1, 1] body = some c → Snd Try.prog 47 c l1T := by
 refine loop_of (hT := hT) (D := D) (l := l1tb) (b := l1b) (lo := l1LO) (by kernel_rfl) (by
  intro x hx
  simp only [l1tb, List.not_mem_nil] at hx
  ) (by kernel_rfl) (by kernel_rfl) ?_ ?_
 ·intro Q σ w h
  unfold l1Tk at h
  obtain ⟨_, _, h⟩ := gInt_elim h
  obtain ⟨_, _, _, _, h⟩ := gSlice_elim h
  obtain ⟨_, _, h⟩ := gInt_elim h
  exact h
 ·intro k Q σ w h
  unfold l1Tk at h
  obtain ⟨xt6, h6, h⟩ := gInt_elim h
  obtain ⟨At8, nt8, ct8, h8, h⟩ := gSlice_elim h
  obtain ⟨xt9, h9, h⟩ := gInt_elim h
  rw [l1_eq (σ := σ)] at h
  have e : (ov σ [(6, .int .i64 xt6), (8, .slice At8 nt8 ct8), (9, .int .i64 xt9)]) = σ := ov_self (by simp [h6, h8, h9])
  rw [e] at h
  exact h
def l0LO : LO := ⟨[], [], [(0, [6])], []⟩
def l0Tk (k : Nat) : Spec := fun Q σ w => gAd (σ 2) fun at2 => gSlice (σ 5) fun At5 nt5 ct5 => gInt .i64 (σ 6) fun xt6 => gInt .i64 (σ 7) fun xt7 => l0 k at2 At5 nt5 ct5 xt6 xt7 w (fun xq6 w => ∀ d : Fr, Q (.exit 0) (ov d [(6, .int .i64 xq6)]) w)
def l0T : Spec := fun Q σ w => ∃ k, l0Tk k Q σ w
def l0tb : List (List Nat × Spec) := [([0, 1, 1, 0, 0, 1, 0, 0, 1, 0, 1, 1, 1], l1T)]
noncomputable def l0b : Code := (subC [0, 0, 1, 0, 1, 1, 1] body).getD .skip
theorem l0_eq (k : Nat) (at2 : Addr) (At5 : Option Addr) (nt5 ct5 : Nat) (xt6 xt7 : Int) (Q : PQ) (σ : Fr) (w : World) : l0 (k + 1) at2 At5 nt5 ct5 xt6 xt7 w (fun xq6 w => ∀ d : Fr, Q (.exit 0) (ov d [(6, .int .i64 xq6)]) w) = codeW Try.prog hT 47 D (tab l0tb) [0, 0, 1, 0, 1, 1, 1] l0b (thenQ (l0Tk k Q) (widen l0LO Q)) (ov σ [(2, .pointer (some at2)), (5, .slice At5 nt5 ct5), (6, .int .i64 xt6), (7, .int .i64 xt7)]) w := by kernel_rfl
theorem l0_snd : ∀ c, subC [0, 1, 0, 1, 1, 1] body = some c → Snd Try.prog 47 c l0T := by
 refine loop_of (hT := hT) (D := D) (l := l0tb) (b := l0b) (lo := l0LO) (by kernel_rfl) (by
  intro x hx
  simp only [l0tb, List.mem_cons, List.not_mem_nil, or_false] at hx
  subst hx
  exact l1_snd) (by kernel_rfl) (by kernel_rfl) ?_ ?_
 ·intro Q σ w h
  unfold l0Tk at h
  obtain ⟨_, _, h⟩ := gAd_elim h
  obtain ⟨_, _, _, _, h⟩ := gSlice_elim h
  obtain ⟨_, _, h⟩ := gInt_elim h
  obtain ⟨_, _, h⟩ := gInt_elim h
  exact h
 ·intro k Q σ w h
  unfold l0Tk at h
  obtain ⟨at2, h2, h⟩ := gAd_elim h
  obtain ⟨At5, nt5, ct5, h5, h⟩ := gSlice_elim h
  obtain ⟨xt6, h6, h⟩ := gInt_elim h
  obtain ⟨xt7, h7, h⟩ := gInt_elim h
  rw [l0_eq (σ := σ)] at h
  have e : (ov σ [(2, .pointer (some at2)), (5, .slice At5 nt5 ct5), (6, .int .i64 xt6), (7, .int .i64 xt7)]) = σ := ov_self (by simp [h2, h5, h6, h7])
  rw [e] at h
  exact h
def tb : List (List Nat × Spec) := [([0, 1, 1, 0, 0, 1, 0, 0, 1, 0, 1, 1, 1], l1T), ([0, 1, 0, 1, 1, 1], l0T)]
variable (Aa0_0 : Option Addr) (na0_0 ca0_0 : Nat) (Aa0_1 : Option Addr) (na0_1 ca0_1 : Nat) (Aa0_2 : Option Addr) (na0_2 ca0_2 : Nat) (Aa0_3 : Option Addr) (na0_3 ca0_3 : Nat) (xa1 : Int) (w : World) (Q : Ending → World → Prop)
theorem wp_eq : wp Aa0_0 na0_0 ca0_0 Aa0_1 na0_1 ca0_1 Aa0_2 na0_2 ca0_2 Aa0_3 na0_3 ca0_3 xa1 w Q = codeW Try.prog hT 47 D (tab tb) [] body (topQ Try.prog hT 47 [.tmp 4] Q) (argsF [.agg #[.slice Aa0_0 na0_0 ca0_0, .slice Aa0_1 na0_1 ca0_1, .slice Aa0_2 na0_2 ca0_2, .slice Aa0_3 na0_3 ca0_3], .int .i64 xa1]) w := by kernel_rfl
theorem ok (h : wp Aa0_0 na0_0 ca0_0 Aa0_1 na0_1 ca0_1 Aa0_2 na0_2 ca0_2 Aa0_3 na0_3 ca0_3 xa1 w Q) : Calls Try.prog 29 #[.agg #[.slice Aa0_0 na0_0 ca0_0, .slice Aa0_1 na0_1 ca0_1, .slice Aa0_2 na0_2 ca0_2, .slice Aa0_3 na0_3 ca0_3], .int .i64 xa1] w Q := by
 rw [wp_eq] at h
 refine calls_of_codeW (c := body) (rs := [.tmp 4]) Try.func29 ?_ ?_ ?_ ?_ ?_ (tab_snd (by
  intro x hx
  simp only [tb, List.mem_cons, List.not_mem_nil, or_false] at hx
  rcases hx with rfl | rfl
  ·exact l1_snd
  ·exact l0_snd)) ?_ h <;> kernel_rfl
end f_ref20_Span
namespace f_ref20_Distance
noncomputable def body : Code := (Try.f30.body).getD .skip
def wp (Aa0_0 : Option Addr) (na0_0 ca0_0 : Nat) (Aa0_1 : Option Addr) (na0_1 ca0_1 : Nat) (Aa0_2 : Option Addr) (na0_2 ca0_2 : Nat) (Aa0_3 : Option Addr) (na0_3 ca0_3 : Nat) (xa1 xa2 : Int) (w : World) (Q : Ending → World → Prop) : Prop := alW w (.cells #[.slice Aa0_0 na0_0 ca0_0, .slice Aa0_1 na0_1 ca0_1, .slice Aa0_2 na0_2 ca0_2, .slice Aa0_3 na0_3 ca0_3] 31) fun B1 w2 => ldS w2 (.add ⟨B1, 0, none⟩ 1) fun A3 n3 c3 => Calls Try.prog 47 #[.slice A3 n3 c3, .int .i64 xa1, .int .i64 xa2] w2 fun e4 w5 => ∃ A6_0 n6_0 c6_0 b6_1, e4 = .returned (.tuple #[.slice A6_0 n6_0 c6_0, .bool b6_1]) ∧ (sel (!b6_1) (Q (.returned (.int .i64 (-1 : Int))) w5) (Calls Try.prog 49 #[.slice A6_0 n6_0 c6_0] w5 fun e7 w8 => ∃ x9, e7 = .returned (.int .i64 x9) ∧ (Q (.returned (.int .i64 x9)) w8)))
def D : Nat → Option DH := dtab []
def tb : List (List Nat × Spec) := []
variable (Aa0_0 : Option Addr) (na0_0 ca0_0 : Nat) (Aa0_1 : Option Addr) (na0_1 ca0_1 : Nat) (Aa0_2 : Option Addr) (na0_2 ca0_2 : Nat) (Aa0_3 : Option Addr) (na0_3 ca0_3 : Nat) (xa1 xa2 : Int) (w : World) (Q : Ending → World → Prop)
theorem wp_eq : wp Aa0_0 na0_0 ca0_0 Aa0_1 na0_1 ca0_1 Aa0_2 na0_2 ca0_2 Aa0_3 na0_3 ca0_3 xa1 xa2 w Q = codeW Try.prog hT 22 D (tab tb) [] body (topQ Try.prog hT 22 [.tmp 6] Q) (argsF [.agg #[.slice Aa0_0 na0_0 ca0_0, .slice Aa0_1 na0_1 ca0_1, .slice Aa0_2 na0_2 ca0_2, .slice Aa0_3 na0_3 ca0_3], .int .i64 xa1, .int .i64 xa2]) w := by kernel_rfl
theorem ok (h : wp Aa0_0 na0_0 ca0_0 Aa0_1 na0_1 ca0_1 Aa0_2 na0_2 ca0_2 Aa0_3 na0_3 ca0_3 xa1 xa2 w Q) : Calls Try.prog 30 #[.agg #[.slice Aa0_0 na0_0 ca0_0, .slice Aa0_1 na0_1 ca0_1, .slice Aa0_2 na0_2 ca0_2, .slice Aa0_3 na0_3 ca0_3], .int .i64 xa1, .int .i64 xa2] w Q := by
 rw [wp_eq] at h
 refine calls_of_codeW (c := body) (rs := [.tmp 6]) Try.func30 ?_ ?_ ?_ ?_ ?_ (tab_snd (by
  intro x hx
  simp only [tb, List.not_mem_nil] at hx
  )) ?_ h <;> kernel_rfl
end f_ref20_Distance
namespace f_ref06_Distances
noncomputable def body : Code := (Try.f51.body).getD .skip
def l0 : Nat → Option Addr → Nat → Nat → Int → Option Addr → Nat → Nat → Int → World → ((Option Addr) → Nat → Nat → World → Prop) → Prop | 0, _, _, _, _, _, _, _, _, _, _ => False | k + 1, At0, nt0, ct0, xt2, At7, nt7, ct7, xt8, w, K0 => sel (decide (xt8 < (nt0 : Int))) (optB At0 fun a3 => req (decide (0 ≤ xt8 ∧ xt8 < (nt0 : Int))) <| ldI w (a3.add (xt8.toNat * 1)) .i64 fun x4 => sel (x4 == xt2) (alW w (.cells #[.int .i64 0] 2) fun B5 w6 => Runs Try.prog (Builtin.append_ #[104, 104] 104 #[.slice At7 nt7 ct7, .slice (some ⟨B5, 0, none⟩) 1 1]) w6 fun v8 w7 => ∃ A9 n9 c9, v8 = (.slice A9 n9 c9) ∧ (l0 k At0 nt0 ct0 xt2 A9 n9 c9 (IntKind.i64.wrap (xt8 + 1)) w7 K0)) (alW w (.cells #[.int .i64 (-1 : Int)] 2) fun B10 w11 => Runs Try.prog (Builtin.append_ #[104, 104] 104 #[.slice At7 nt7 ct7, .slice (some ⟨B10, 0, none⟩) 1 1]) w11 fun v13 w12 => ∃ A14 n14 c14, v13 = (.slice A14 n14 c14) ∧ (l0 k At0 nt0 ct0 xt2 A14 n14 c14 (IntKind.i64.wrap (xt8 + 1)) w12 K0))) (K0 At7 nt7 ct7 w)
def j3 (At1 : Option Addr) (nt1 ct1 : Nat) (At7 : Option Addr) (nt7 ct7 : Nat) (bt9 : Bool) (xt10 xt11 xt12 : Int) (w : World) (Kn : Bool → World → Prop) : Prop := optB At7 fun a41 => req (decide (0 ≤ xt12 ∧ xt12 < (nt7 : Int))) <| ldI w (a41.add (xt12.toNat * 1)) .i64 fun x42 => sel (decide (x42 ≥ 0)) (optB At7 fun a43 => req (decide (0 ≤ xt11 ∧ xt11 < (nt7 : Int))) <| ldI w (a43.add (xt11.toNat * 1)) .i64 fun x44 => sel (decide (x44 < 0)) (drW w fun w45 => optB At7 fun a47 => req (decide (0 ≤ xt12 ∧ xt12 < (nt7 : Int))) <| ldI w45 (a47.add (xt12.toNat * 1)) .i64 fun x48 => optB At1 fun a49 => req (decide (0 ≤ xt10 ∧ xt10 < (nt1 : Int))) <| ldI w45 ((a49.add (xt10.toNat * 4)).add 3) .i64 fun x50 => optB At7 fun a51 => req (decide (0 ≤ xt11 ∧ xt11 < (nt7 : Int))) <| stW w45 (a51.add (xt11.toNat * 1)) (.int .i64 (IntKind.i64.wrap (x48 + x50))) fun w52 => Kn true w52) (Kn bt9 w)) (Kn bt9 w)
def l2 : Nat → Option Addr → Nat → Nat → Option Addr → Nat → Nat → Option Addr → Nat → Nat → Bool → Int → World → (Bool → World → Prop) → Prop | 0, _, _, _, _, _, _, _, _, _, _, _, _, _ => False | k + 1, At0, nt0, ct0, At1, nt1, ct1, At7, nt7, ct7, bt9, xt10, w, K4 => sel (decide (xt10 < (nt1 : Int))) (drW w fun w17 => ∃ S18 : World → Prop, S18 w17 ∧ (optB At1 fun a19 => req (decide (0 ≤ xt10 ∧ xt10 < (nt1 : Int))) <| hdI S18 ((a19.add (xt10.toNat * 4)).add 1) .i64 fun x20 => optB At1 fun a21 => req (decide (0 ≤ xt10 ∧ xt10 < (nt1 : Int))) <| hdI S18 ((a21.add (xt10.toNat * 4)).add 2) .i64 fun x22 => Calls Try.prog 72 #[.slice At0 nt0 ct0, .int .i64 x20] w17 fun e23 w24 => ∃ x25, e23 = .returned (.int .i64 x25) ∧ (S18 w24 ∧ (Calls Try.prog 72 #[.slice At0 nt0 ct0, .int .i64 x22] w24 fun e26 w27 => ∃ x28, e26 = .returned (.int .i64 x28) ∧ (optB At7 fun a29 => req (decide (0 ≤ x25 ∧ x25 < (nt7 : Int))) <| ldI w27 (a29.add (x25.toNat * 1)) .i64 fun x30 => sel (decide (x30 ≥ 0)) (optB At7 fun a31 => req (decide (0 ≤ x28 ∧ x28 < (nt7 : Int))) <| ldI w27 (a31.add (x28.toNat * 1)) .i64 fun x32 => sel (decide (x32 < 0)) (drW w27 fun w33 => optB At7 fun a35 => req (decide (0 ≤ x25 ∧ x25 < (nt7 : Int))) <| ldI w33 (a35.add (x25.toNat * 1)) .i64 fun x36 => optB At1 fun a37 => req (decide (0 ≤ xt10 ∧ xt10 < (nt1 : Int))) <| ldI w33 ((a37.add (xt10.toNat * 4)).add 3) .i64 fun x38 => optB At7 fun a39 => req (decide (0 ≤ x28 ∧ x28 < (nt7 : Int))) <| stW w33 (a39.add (x28.toNat * 1)) (.int .i64 (IntKind.i64.wrap (x36 + x38))) fun w40 => j3 At1 nt1 ct1 At7 nt7 ct7 true xt10 x25 x28 w40 (fun b53 w54 => ∀ _ : Fr, l2 k At0 nt0 ct0 At1 nt1 ct1 At7 nt7 ct7 b53 (IntKind.i64.wrap (xt10 + 1)) w54 K4)) (j3 At1 nt1 ct1 At7 nt7 ct7 bt9 xt10 x25 x28 w27 (fun b55 w56 => ∀ _ : Fr, l2 k At0 nt0 ct0 At1 nt1 ct1 At7 nt7 ct7 b55 (IntKind.i64.wrap (xt10 + 1)) w56 K4))) (j3 At1 nt1 ct1 At7 nt7 ct7 bt9 xt10 x25 x28 w27 (fun b57 w58 => ∀ _ : Fr, l2 k At0 nt0 ct0 At1 nt1 ct1 At7 nt7 ct7 b57 (IntKind.i64.wrap (xt10 + 1)) w58 K4))))))) (K4 bt9 w)
def l1 : Nat → Option Addr → Nat → Nat → Option Addr → Nat → Nat → Option Addr → Nat → Nat → Bool → World → (World → Prop) → Prop | 0, _, _, _, _, _, _, _, _, _, _, _, _ => False | k + 1, At0, nt0, ct0, At1, nt1, ct1, At7, nt7, ct7, bt9, w, K2 => sel bt9 (∃ k61, l2 k61 At0 nt0 ct0 At1 nt1 ct1 At7 nt7 ct7 false 0 w (fun b59 w60 => ∀ _ : Fr, l1 k At0 nt0 ct0 At1 nt1 ct1 At7 nt7 ct7 b59 w60 K2)) (K2 w)
def wp (Aa0 : Option Addr) (na0 ca0 : Nat) (Aa1 : Option Addr) (na1 ca1 : Nat) (xa2 : Int) (w : World) (Q : Ending → World → Prop) : Prop := alW w (.cells #[] 2) fun B1 w2 => ∃ k64, l0 k64 Aa0 na0 ca0 xa2 (some ⟨B1, 0, none⟩) 0 0 0 w2 (fun A15 n15 c15 w16 => ∀ _ : Fr, ∃ k63, l1 k63 Aa0 na0 ca0 Aa1 na1 ca1 A15 n15 c15 true w16 (fun w62 => ∀ _ : Fr, Q (.returned (.slice A15 n15 c15)) w62))
def D : Nat → Option DH := dtab [(14, .held [.fst 0, .fst 1, .fst 2, .fst 3, .fst 4, .fst 5, .fst 7, .fst 8, .fst 9, .fst 10, .fst 11, .fst 12, .eff 6] [.eff 13, .fst 14, .fst 15]), (16, .simple [.fst 0, .fst 1, .fst 2, .fst 3, .fst 4, .fst 5, .fst 6, .fst 7, .fst 8, .fst 9, .fst 10, .fst 11] [.fst 12, .eff 13]), (19, .simple [.fst 0, .fst 1, .fst 2, .fst 3, .fst 4, .fst 5, .fst 6, .fst 7, .fst 8, .fst 9, .fst 10, .fst 11] [.fst 12, .eff 13])]
def l0LO : LO := ⟨[], [], [(0, [0, 1, 7])], []⟩
def l0Tk (k : Nat) : Spec := fun Q σ w => gSlice (σ 0) fun At0 nt0 ct0 => gInt .i64 (σ 2) fun xt2 => gSlice (σ 7) fun At7 nt7 ct7 => gInt .i64 (σ 8) fun xt8 => l0 k At0 nt0 ct0 xt2 At7 nt7 ct7 xt8 w (fun Aq7 nq7 cq7 w => ∀ d : Fr, Q (.exit 0) (ov d [(0, .slice At0 nt0 ct0), (1, σ 1), (7, .slice Aq7 nq7 cq7)]) w)
def l0T : Spec := fun Q σ w => ∃ k, l0Tk k Q σ w
def l0tb : List (List Nat × Spec) := []
noncomputable def l0b : Code := (subC [0, 0, 1, 0, 1, 1] body).getD .skip
theorem l0_eq (k : Nat) (At0 : Option Addr) (nt0 ct0 : Nat) (xt2 : Int) (At7 : Option Addr) (nt7 ct7 : Nat) (xt8 : Int) (Q : PQ) (σ : Fr) (w : World) : l0 (k + 1) At0 nt0 ct0 xt2 At7 nt7 ct7 xt8 w (fun Aq7 nq7 cq7 w => ∀ d : Fr, Q (.exit 0) (ov d [(0, .slice At0 nt0 ct0), (1, σ 1), (7, .slice Aq7 nq7 cq7)]) w) = codeW Try.prog hT 104 D (tab l0tb) [0, 0, 1, 0, 1, 1] l0b (thenQ (l0Tk k Q) (widen l0LO Q)) (ov σ [(0, .slice At0 nt0 ct0), (2, .int .i64 xt2), (7, .slice At7 nt7 ct7), (8, .int .i64 xt8)]) w := by kernel_rfl
theorem l0_snd : ∀ c, subC [0, 1, 0, 1, 1] body = some c → Snd Try.prog 104 c l0T := by
 refine loop_of (hT := hT) (D := D) (l := l0tb) (b := l0b) (lo := l0LO) (by kernel_rfl) (by
  intro x hx
  simp only [l0tb, List.not_mem_nil] at hx
  ) (by kernel_rfl) (by kernel_rfl) ?_ ?_
 ·intro Q σ w h
  unfold l0Tk at h
  obtain ⟨_, _, _, _, h⟩ := gSlice_elim h
  obtain ⟨_, _, h⟩ := gInt_elim h
  obtain ⟨_, _, _, _, h⟩ := gSlice_elim h
  obtain ⟨_, _, h⟩ := gInt_elim h
  exact h
 ·intro k Q σ w h
  unfold l0Tk at h
  obtain ⟨At0, nt0, ct0, h0, h⟩ := gSlice_elim h
  obtain ⟨xt2, h2, h⟩ := gInt_elim h
  obtain ⟨At7, nt7, ct7, h7, h⟩ := gSlice_elim h
  obtain ⟨xt8, h8, h⟩ := gInt_elim h
  rw [l0_eq (σ := σ)] at h
  have e : (ov σ [(0, .slice At0 nt0 ct0), (2, .int .i64 xt2), (7, .slice At7 nt7 ct7), (8, .int .i64 xt8)]) = σ := ov_self (by simp [h0, h2, h7, h8])
  rw [e] at h
  exact h
def j3LO : LO := ⟨[0, 1, 7, 9, 10], [], [], []⟩
def j3T : Spec := fun Q σ w => gSlice (σ 1) fun At1 nt1 ct1 => gSlice (σ 7) fun At7 nt7 ct7 => gBool (σ 9) fun bt9 => gInt .i64 (σ 10) fun xt10 => gInt .i64 (σ 11) fun xt11 => gInt .i64 (σ 12) fun xt12 => j3 At1 nt1 ct1 At7 nt7 ct7 bt9 xt10 xt11 xt12 w (fun bq9 w => ∀ d : Fr, Q .normal (ov d [(0, σ 0), (1, .slice At1 nt1 ct1), (7, .slice At7 nt7 ct7), (9, .bool bq9), (10, .int .i64 xt10)]) w)
def j3tb : List (List Nat × Spec) := []
noncomputable def j3b : Code := (subC [1, 1, 0, 0, 1, 0, 0, 1, 1, 0, 1, 0, 0, 0, 1, 1, 1, 1] body).getD .skip
theorem j3_eq (At1 : Option Addr) (nt1 ct1 : Nat) (At7 : Option Addr) (nt7 ct7 : Nat) (bt9 : Bool) (xt10 xt11 xt12 : Int) (Q : PQ) (σ : Fr) (w : World) : j3 At1 nt1 ct1 At7 nt7 ct7 bt9 xt10 xt11 xt12 w (fun bq9 w => ∀ d : Fr, Q .normal (ov d [(0, σ 0), (1, .slice At1 nt1 ct1), (7, .slice At7 nt7 ct7), (9, .bool bq9), (10, .int .i64 xt10)]) w) = codeW Try.prog hT 104 D (tab j3tb) [1, 1, 0, 0, 1, 0, 0, 1, 1, 0, 1, 0, 0, 0, 1, 1, 1, 1] j3b (widen j3LO Q) (ov σ [(1, .slice At1 nt1 ct1), (7, .slice At7 nt7 ct7), (9, .bool bt9), (10, .int .i64 xt10), (11, .int .i64 xt11), (12, .int .i64 xt12)]) w := by cases bt9 <;> kernel_rfl
theorem j3_snd : ∀ c, subC [1, 1, 0, 0, 1, 0, 0, 1, 1, 0, 1, 0, 0, 0, 1, 1, 1, 1] body = some c → Snd Try.prog 104 c j3T := by
 refine cut_of (hT := hT) (D := D) (l := j3tb) (b := j3b) (lo := j3LO) (by kernel_rfl) (by
  intro x hx
  simp only [j3tb, List.not_mem_nil] at hx
  ) (by kernel_rfl) (by kernel_rfl) ?_
 intro Q σ w h
 unfold j3T at h
 obtain ⟨At1, nt1, ct1, h1, h⟩ := gSlice_elim h
 obtain ⟨At7, nt7, ct7, h7, h⟩ := gSlice_elim h
 obtain ⟨bt9, h9, h⟩ := gBool_elim h
 obtain ⟨xt10, h10, h⟩ := gInt_elim h
 obtain ⟨xt11, h11, h⟩ := gInt_elim h
 obtain ⟨xt12, h12, h⟩ := gInt_elim h
 rw [j3_eq (σ := σ)] at h
 have e : (ov σ [(1, .slice At1 nt1 ct1), (7, .slice At7 nt7 ct7), (9, .bool bt9), (10, .int .i64 xt10), (11, .int .i64 xt11), (12, .int .i64 xt12)]) = σ := ov_self (by simp [h1, h7, h9, h10, h11, h12])
 rw [e] at h
 exact h
def l2LO : LO := ⟨[], [], [(4, [0, 1, 7, 9])], []⟩
def l2Tk (k : Nat) : Spec := fun Q σ w => gSlice (σ 0) fun At0 nt0 ct0 => gSlice (σ 1) fun At1 nt1 ct1 => gSlice (σ 7) fun At7 nt7 ct7 => gBool (σ 9) fun bt9 => gInt .i64 (σ 10) fun xt10 => l2 k At0 nt0 ct0 At1 nt1 ct1 At7 nt7 ct7 bt9 xt10 w (fun bq9 w => ∀ d : Fr, Q (.exit 4) (ov d [(0, .slice At0 nt0 ct0), (1, .slice At1 nt1 ct1), (7, .slice At7 nt7 ct7), (9, .bool bq9)]) w)
def l2T : Spec := fun Q σ w => ∃ k, l2Tk k Q σ w
def l2tb : List (List Nat × Spec) := [([1, 1, 0, 0, 1, 0, 0, 1, 1, 0, 1, 0, 0, 0, 1, 1, 1, 1], j3T)]
noncomputable def l2b : Code := (subC [0, 0, 1, 1, 0, 1, 0, 0, 0, 1, 1, 1, 1] body).getD .skip
theorem l2_eq (k : Nat) (At0 : Option Addr) (nt0 ct0 : Nat) (At1 : Option Addr) (nt1 ct1 : Nat) (At7 : Option Addr) (nt7 ct7 : Nat) (bt9 : Bool) (xt10 : Int) (Q : PQ) (σ : Fr) (w : World) : l2 (k + 1) At0 nt0 ct0 At1 nt1 ct1 At7 nt7 ct7 bt9 xt10 w (fun bq9 w => ∀ d : Fr, Q (.exit 4) (ov d [(0, .slice At0 nt0 ct0), (1, .slice At1 nt1 ct1), (7, .slice At7 nt7 ct7), (9, .bool bq9)]) w) = codeW Try.prog hT 104 D (tab l2tb) [0, 0, 1, 1, 0, 1, 0, 0, 0, 1, 1, 1, 1] l2b (thenQ (l2Tk k Q) (widen l2LO Q)) (ov σ [(0, .slice At0 nt0 ct0), (1, .slice At1 nt1 ct1), (7, .slice At7 nt7 ct7), (9, .bool bt9), (10, .int .i64 xt10)]) w := by cases bt9 <;> kernel_rfl
theorem l2_snd : ∀ c, subC [0, 1, 1, 0, 1, 0, 0, 0, 1, 1, 1, 1] body = some c → Snd Try.prog 104 c l2T := by
 refine loop_of (hT := hT) (D := D) (l := l2tb) (b := l2b) (lo := l2LO) (by kernel_rfl) (by
  intro x hx
  simp only [l2tb, List.mem_cons, List.not_mem_nil, or_false] at hx
  subst hx
  exact j3_snd) (by kernel_rfl) (by kernel_rfl) ?_ ?_
 ·intro Q σ w h
  unfold l2Tk at h
  obtain ⟨_, _, _, _, h⟩ := gSlice_elim h
  obtain ⟨_, _, _, _, h⟩ := gSlice_elim h
  obtain ⟨_, _, _, _, h⟩ := gSlice_elim h
  obtain ⟨_, _, h⟩ := gBool_elim h
  obtain ⟨_, _, h⟩ := gInt_elim h
  exact h
 ·intro k Q σ w h
  unfold l2Tk at h
  obtain ⟨At0, nt0, ct0, h0, h⟩ := gSlice_elim h
  obtain ⟨At1, nt1, ct1, h1, h⟩ := gSlice_elim h
  obtain ⟨At7, nt7, ct7, h7, h⟩ := gSlice_elim h
  obtain ⟨bt9, h9, h⟩ := gBool_elim h
  obtain ⟨xt10, h10, h⟩ := gInt_elim h
  rw [l2_eq (σ := σ)] at h
  have e : (ov σ [(0, .slice At0 nt0 ct0), (1, .slice At1 nt1 ct1), (7, .slice At7 nt7 ct7), (9, .bool bt9), (10, .int .i64 xt10)]) = σ := ov_self (by simp [h0, h1, h7, h9, h10])
  rw [e] at h
  exact h
def l1LO : LO := ⟨[], [], [(2, [7])], []⟩
def l1Tk (k : Nat) : Spec := fun Q σ w => gSlice (σ 0) fun At0 nt0 ct0 => gSlice (σ 1) fun At1 nt1 ct1 => gSlice (σ 7) fun At7 nt7 ct7 => gBool (σ 9) fun bt9 => l1 k At0 nt0 ct0 At1 nt1 ct1 At7 nt7 ct7 bt9 w (fun w => ∀ d : Fr, Q (.exit 2) (ov d [(7, .slice At7 nt7 ct7)]) w)
def l1T : Spec := fun Q σ w => ∃ k, l1Tk k Q σ w
def l1tb : List (List Nat × Spec) := [([1, 1, 0, 0, 1, 0, 0, 1, 1, 0, 1, 0, 0, 0, 1, 1, 1, 1], j3T), ([0, 1, 1, 0, 1, 0, 0, 0, 1, 1, 1, 1], l2T)]
noncomputable def l1b : Code := (subC [0, 0, 0, 1, 1, 1, 1] body).getD .skip
theorem l1_eq (k : Nat) (At0 : Option Addr) (nt0 ct0 : Nat) (At1 : Option Addr) (nt1 ct1 : Nat) (At7 : Option Addr) (nt7 ct7 : Nat) (bt9 : Bool) (Q : PQ) (σ : Fr) (w : World) : l1 (k + 1) At0 nt0 ct0 At1 nt1 ct1 At7 nt7 ct7 bt9 w (fun w => ∀ d : Fr, Q (.exit 2) (ov d [(7, .slice At7 nt7 ct7)]) w) = codeW Try.prog hT 104 D (tab l1tb) [0, 0, 0, 1, 1, 1, 1] l1b (thenQ (l1Tk k Q) (widen l1LO Q)) (ov σ [(0, .slice At0 nt0 ct0), (1, .slice At1 nt1 ct1), (7, .slice At7 nt7 ct7), (9, .bool bt9)]) w := by cases bt9 <;> kernel_rfl
theorem l1_snd : ∀ c, subC [0, 0, 1, 1, 1, 1] body = some c → Snd Try.prog 104 c l1T := by
 refine loop_of (hT := hT) (D := D) (l := l1tb) (b := l1b) (lo := l1LO) (by kernel_rfl) (by
  intro x hx
  simp only [l1tb, List.mem_cons, List.not_mem_nil, or_false] at hx
  rcases hx with rfl | rfl
  ·exact j3_snd
  ·exact l2_snd) (by kernel_rfl) (by kernel_rfl) ?_ ?_
 ·intro Q σ w h
  unfold l1Tk at h
  obtain ⟨_, _, _, _, h⟩ := gSlice_elim h
  obtain ⟨_, _, _, _, h⟩ := gSlice_elim h
  obtain ⟨_, _, _, _, h⟩ := gSlice_elim h
  obtain ⟨_, _, h⟩ := gBool_elim h
  exact h
 ·intro k Q σ w h
  unfold l1Tk at h
  obtain ⟨At0, nt0, ct0, h0, h⟩ := gSlice_elim h
  obtain ⟨At1, nt1, ct1, h1, h⟩ := gSlice_elim h
  obtain ⟨At7, nt7, ct7, h7, h⟩ := gSlice_elim h
  obtain ⟨bt9, h9, h⟩ := gBool_elim h
  rw [l1_eq (σ := σ)] at h
  have e : (ov σ [(0, .slice At0 nt0 ct0), (1, .slice At1 nt1 ct1), (7, .slice At7 nt7 ct7), (9, .bool bt9)]) = σ := ov_self (by simp [h0, h1, h7, h9])
  rw [e] at h
  exact h
def tb : List (List Nat × Spec) := [([0, 1, 0, 1, 1], l0T), ([1, 1, 0, 0, 1, 0, 0, 1, 1, 0, 1, 0, 0, 0, 1, 1, 1, 1], j3T), ([0, 1, 1, 0, 1, 0, 0, 0, 1, 1, 1, 1], l2T), ([0, 0, 1, 1, 1, 1], l1T)]
variable (Aa0 : Option Addr) (na0 ca0 : Nat) (Aa1 : Option Addr) (na1 ca1 : Nat) (xa2 : Int) (w : World) (Q : Ending → World → Prop)
theorem wp_eq : wp Aa0 na0 ca0 Aa1 na1 ca1 xa2 w Q = codeW Try.prog hT 104 D (tab tb) [] body (topQ Try.prog hT 104 [.tmp 6] Q) (argsF [.slice Aa0 na0 ca0, .slice Aa1 na1 ca1, .int .i64 xa2]) w := by kernel_rfl
theorem ok (h : wp Aa0 na0 ca0 Aa1 na1 ca1 xa2 w Q) : Calls Try.prog 51 #[.slice Aa0 na0 ca0, .slice Aa1 na1 ca1, .int .i64 xa2] w Q := by
 rw [wp_eq] at h
 refine calls_of_codeW (c := body) (rs := [.tmp 6]) Try.func51 ?_ ?_ ?_ ?_ ?_ (tab_snd (by
  intro x hx
  simp only [tb, List.mem_cons, List.not_mem_nil, or_false] at hx
  rcases hx with rfl | rfl | rfl | rfl
  ·exact l0_snd
  ·exact j3_snd
  ·exact l2_snd
  ·exact l1_snd)) ?_ h <;> kernel_rfl
end f_ref06_Distances
namespace f_law20_SpanPlays
noncomputable def body : Code := (Try.f3.body).getD .skip
def l0 : Nat → Option Addr → Addr → Option Addr → Nat → Nat → Int → Int → World → (World → Prop) → (Bool → World → Prop) → Prop | 0, _, _, _, _, _, _, _, _, _, _ => False | k + 1, pt5, at6, At24, nt24, ct24, xt25, xt26, w, K0, Kr => sel (decide (xt26 < xt25)) (optB At24 fun a13 => req (decide (0 ≤ xt26 ∧ xt26 < (nt24 : Int))) <| ldI w (a13.add (xt26.toNat * 5)) .i64 fun x14 => ldI w ((a13.add (xt26.toNat * 5)).add 1) .i64 fun x15 => ldI w ((a13.add (xt26.toNat * 5)).add 2) .i64 fun x16 => ldI w ((a13.add (xt26.toNat * 5)).add 3) .i64 fun x17 => ldI w ((a13.add (xt26.toNat * 5)).add 4) .i64 fun x18 => alW w (.cells #[.int .i64 0, .int .i64 0, .int .i64 0, .int .i64 0, .int .i64 0] 35) fun B19 w20 => stW w20 ⟨B19, 0, none⟩ (.int .i64 x14) fun w21 => stW w21 (.add ⟨B19, 0, none⟩ 1) (.int .i64 x15) fun w22 => stW w22 (.add ⟨B19, 0, none⟩ 2) (.int .i64 x16) fun w23 => stW w23 (.add ⟨B19, 0, none⟩ 3) (.int .i64 x17) fun w24 => stW w24 (.add ⟨B19, 0, none⟩ 4) (.int .i64 x18) fun w25 => ldS w25 at6 fun A26 n26 c26 => ldS w25 (at6.add 1) fun A27 n27 c27 => ldS w25 (at6.add 2) fun A28 n28 c28 => ldS w25 (at6.add 3) fun A29 n29 c29 => ldI w25 ⟨B19, 0, none⟩ .i64 fun x30 => ldI w25 (.add ⟨B19, 0, none⟩ 1) .i64 fun x31 => ldI w25 (.add ⟨B19, 0, none⟩ 2) .i64 fun x32 => ldI w25 (.add ⟨B19, 0, none⟩ 3) .i64 fun x33 => ldI w25 (.add ⟨B19, 0, none⟩ 4) .i64 fun x34 => Calls Try.prog 9 #[.pointer pt5, .agg #[.slice A26 n26 c26, .slice A27 n27 c27, .slice A28 n28 c28, .slice A29 n29 c29], .agg #[.int .i64 x30, .int .i64 x31, .int .i64 x32, .int .i64 x33, .int .i64 x34]] w25 fun e35 w36 => ∃ A37_0_0 n37_0_0 c37_0_0 A37_0_1 n37_0_1 c37_0_1 A37_0_2 n37_0_2 c37_0_2 A37_0_3 n37_0_3 c37_0_3 b37_1, e35 = .returned (.tuple #[.agg #[.slice A37_0_0 n37_0_0 c37_0_0, .slice A37_0_1 n37_0_1 c37_0_1, .slice A37_0_2 n37_0_2 c37_0_2, .slice A37_0_3 n37_0_3 c37_0_3], .bool b37_1]) ∧ (alW w36 (.cells #[.slice none 0 0, .slice none 0 0, .slice none 0 0, .slice none 0 0] 31) fun B38 w39 => stW w39 ⟨B38, 0, none⟩ (.slice A37_0_0 n37_0_0 c37_0_0) fun w40 => stW w40 (.add ⟨B38, 0, none⟩ 1) (.slice A37_0_1 n37_0_1 c37_0_1) fun w41 => stW w41 (.add ⟨B38, 0, none⟩ 2) (.slice A37_0_2 n37_0_2 c37_0_2) fun w42 => stW w42 (.add ⟨B38, 0, none⟩ 3) (.slice A37_0_3 n37_0_3 c37_0_3) fun w43 => ldS w43 ⟨B38, 0, none⟩ fun A44 n44 c44 => ldS w43 (.add ⟨B38, 0, none⟩ 1) fun A45 n45 c45 => ldS w43 (.add ⟨B38, 0, none⟩ 2) fun A46 n46 c46 => ldS w43 (.add ⟨B38, 0, none⟩ 3) fun A47 n47 c47 => stW w43 at6 (.slice A44 n44 c44) fun w48 => stW w48 (at6.add 1) (.slice A45 n45 c45) fun w49 => stW w49 (at6.add 2) (.slice A46 n46 c46) fun w50 => stW w50 (at6.add 3) (.slice A47 n47 c47) fun w51 => Calls Try.prog 10 #[.pointer pt5] w51 fun e52 w53 => ∃ x54_0 x54_1, e52 = .returned (.tuple #[.int .i64 x54_0, .int .i64 x54_1]) ∧ (sel (!b37_1) (Kr false w53) (ldS w53 at6 fun A55 n55 c55 => sel (x54_0 != (n55 : Int)) (Kr false w53) (ldS w53 (at6.add 1) fun A56 n56 c56 => sel (x54_1 != (n56 : Int)) (Kr false w53) (ldS w53 at6 fun A57 n57 c57 => ldS w53 (at6.add 1) fun A58 n58 c58 => ldS w53 (at6.add 2) fun A59 n59 c59 => ldS w53 (at6.add 3) fun A60 n60 c60 => ldI w53 (((⟨B19, 0, none⟩ : Addr).add 1).add 1) .i64 fun x61 => ldI w53 (((⟨B19, 0, none⟩ : Addr).add 1).add 2) .i64 fun x62 => Calls Try.prog 11 #[.pointer pt5, .agg #[.slice A57 n57 c57, .slice A58 n58 c58, .slice A59 n59 c59, .slice A60 n60 c60], .int .i64 x61, .int .i64 x62] w53 fun e63 w64 => ∃ b65, e63 = .returned (.bool b65) ∧ (sel (!b65) (Kr false w64) (l0 k pt5 at6 At24 nt24 ct24 xt25 (IntKind.i64.wrap (xt26 + 1)) w64 K0 Kr)))))))) (K0 w)
def l1 : Nat → Option Addr → Addr → Option Addr → Nat → Nat → Int → Int → World → (World → Prop) → (Bool → World → Prop) → Prop | 0, _, _, _, _, _, _, _, _, _, _ => False | k + 1, pt5, at6, At76, nt76, ct76, xt77, xt78, w, K2, Kr => sel (decide (xt78 < xt77)) (optB At76 fun a68 => req (decide (0 ≤ xt78 ∧ xt78 < (nt76 : Int))) <| ldI w (a68.add (xt78.toNat * 1)) .i64 fun x69 => drW w fun w70 => sel (decide (xt78 < 12)) (ldS w70 at6 fun A72 n72 c72 => ldS w70 (at6.add 1) fun A73 n73 c73 => ldS w70 (at6.add 2) fun A74 n74 c74 => ldS w70 (at6.add 3) fun A75 n75 c75 => ldS w70 at6 fun A76 n76 c76 => optB A76 fun a77 => req (decide (0 ≤ (0 : Int) ∧ 0 < (n76 : Int))) <| ldI w70 (a77.add ((0 : Int).toNat * 1)) .i64 fun x78 => Calls Try.prog 11 #[.pointer pt5, .agg #[.slice A72 n72 c72, .slice A73 n73 c73, .slice A74 n74 c74, .slice A75 n75 c75], .int .i64 x69, .int .i64 x78] w70 fun e79 w80 => ∃ b81, e79 = .returned (.bool b81) ∧ (sel (!b81) (Kr false w80) (l1 k pt5 at6 At76 nt76 ct76 xt77 (IntKind.i64.wrap (xt78 + 1)) w80 K2 Kr))) (l1 k pt5 at6 At76 nt76 ct76 xt77 (IntKind.i64.wrap (xt78 + 1)) w70 K2 Kr)) (K2 w)
def wp (Aa0 : Option Addr) (na0 ca0 : Nat) (Aa1 : Option Addr) (na1 ca1 : Nat) (w : World) (Q : Ending → World → Prop) : Prop := Calls Try.prog 7 #[.slice Aa0 na0 ca0] w fun e1 w2 => ∃ p3, e1 = .returned (.pointer p3) ∧ (sel p3.isNone (Q (.returned (.bool false)) w2) (Calls Try.prog 8 #[] w2 fun e4 w5 => ∃ b6, e4 = .returned (.bool b6) ∧ (sel (!b6) (Q (.returned (.bool false)) w5) (alW w5 (.cells #[.slice none 0 0, .slice none 0 0, .slice none 0 0, .slice none 0 0] 31) fun B7 w8 => stW w8 ⟨B7, 0, none⟩ (.slice none 0 0) fun w9 => stW w9 (.add ⟨B7, 0, none⟩ 1) (.slice none 0 0) fun w10 => stW w10 (.add ⟨B7, 0, none⟩ 2) (.slice none 0 0) fun w11 => stW w11 (.add ⟨B7, 0, none⟩ 3) (.slice none 0 0) fun w12 => ∃ k88, l0 k88 p3 ⟨B7, 0, none⟩ Aa1 na1 ca1 (na1 : Int) 0 w12 (fun w66 => ∀ _ : Fr, ldS w66 ⟨B7, 0, none⟩ fun A67 n67 c67 => ∃ k85, l1 k85 p3 ⟨B7, 0, none⟩ A67 n67 c67 (n67 : Int) 0 w66 (fun w82 => ∀ _ : Fr, Q (.returned (.bool true)) w82) (fun b83 w84 => ∀ _ : Fr, Q (.returned (.bool b83)) w84)) (fun b86 w87 => ∀ _ : Fr, Q (.returned (.bool b86)) w87)))))
def D : Nat → Option DH := dtab [(17, .simple [.fst 0, .fst 1, .fst 2, .fst 3, .fst 4, .fst 5, .fst 6, .fst 7, .fst 8, .fst 9, .fst 10] [.eff 11, .fst 12, .fst 13])]
def l0LO : LO := ⟨[], [4], [(0, [5, 6])], []⟩
def l0Tk (k : Nat) : Spec := fun Q σ w => gPtr (σ 5) fun pt5 => gAd (σ 6) fun at6 => gSlice (σ 24) fun At24 nt24 ct24 => gInt .i64 (σ 25) fun xt25 => gInt .i64 (σ 26) fun xt26 => l0 k pt5 at6 At24 nt24 ct24 xt25 xt26 w (fun w => ∀ d : Fr, Q (.exit 0) (ov d [(5, .pointer pt5), (6, .pointer (some at6))]) w) (fun bq4 w => ∀ d : Fr, Q .ret (ov d [(4, .bool bq4)]) w)
def l0T : Spec := fun Q σ w => ∃ k, l0Tk k Q σ w
def l0tb : List (List Nat × Spec) := []
noncomputable def l0b : Code := (subC [0, 0, 1, 0, 1, 1, 1, 1] body).getD .skip
theorem l0_eq (k : Nat) (pt5 : Option Addr) (at6 : Addr) (At24 : Option Addr) (nt24 ct24 : Nat) (xt25 xt26 : Int) (Q : PQ) (σ : Fr) (w : World) : l0 (k + 1) pt5 at6 At24 nt24 ct24 xt25 xt26 w (fun w => ∀ d : Fr, Q (.exit 0) (ov d [(5, .pointer pt5), (6, .pointer (some at6))]) w) (fun bq4 w => ∀ d : Fr, Q .ret (ov d [(4, .bool bq4)]) w) = codeW Try.prog hT 98 D (tab l0tb) [0, 0, 1, 0, 1, 1, 1, 1] l0b (thenQ (l0Tk k Q) (widen l0LO Q)) (ov σ [(5, .pointer pt5), (6, .pointer (some at6)), (24, .slice At24 nt24 ct24), (25, .int .i64 xt25), (26, .int .i64 xt26)]) w := by kernel_rfl
theorem l0_snd : ∀ c, subC [0, 1, 0, 1, 1, 1, 1] body = some c → Snd Try.prog 98 c l0T := by
 refine loop_of (hT := hT) (D := D) (l := l0tb) (b := l0b) (lo := l0LO) (by kernel_rfl) (by
  intro x hx
  simp only [l0tb, List.not_mem_nil] at hx
  ) (by kernel_rfl) (by kernel_rfl) ?_ ?_
 ·intro Q σ w h
  unfold l0Tk at h
  obtain ⟨_, _, h⟩ := gPtr_elim h
  obtain ⟨_, _, h⟩ := gAd_elim h
  obtain ⟨_, _, _, _, h⟩ := gSlice_elim h
  obtain ⟨_, _, h⟩ := gInt_elim h
  obtain ⟨_, _, h⟩ := gInt_elim h
  exact h
 ·intro k Q σ w h
  unfold l0Tk at h
  obtain ⟨pt5, h5, h⟩ := gPtr_elim h
  obtain ⟨at6, h6, h⟩ := gAd_elim h
  obtain ⟨At24, nt24, ct24, h24, h⟩ := gSlice_elim h
  obtain ⟨xt25, h25, h⟩ := gInt_elim h
  obtain ⟨xt26, h26, h⟩ := gInt_elim h
  rw [l0_eq (σ := σ)] at h
  have e : (ov σ [(5, .pointer pt5), (6, .pointer (some at6)), (24, .slice At24 nt24 ct24), (25, .int .i64 xt25), (26, .int .i64 xt26)]) = σ := ov_self (by simp [h5, h6, h24, h25, h26])
  rw [e] at h
  exact h
def l1LO : LO := ⟨[], [4], [(2, [])], []⟩
def l1Tk (k : Nat) : Spec := fun Q σ w => gPtr (σ 5) fun pt5 => gAd (σ 6) fun at6 => gSlice (σ 76) fun At76 nt76 ct76 => gInt .i64 (σ 77) fun xt77 => gInt .i64 (σ 78) fun xt78 => l1 k pt5 at6 At76 nt76 ct76 xt77 xt78 w (fun w => ∀ d : Fr, Q (.exit 2) (ov d []) w) (fun bq4 w => ∀ d : Fr, Q .ret (ov d [(4, .bool bq4)]) w)
def l1T : Spec := fun Q σ w => ∃ k, l1Tk k Q σ w
def l1tb : List (List Nat × Spec) := []
noncomputable def l1b : Code := (subC [0, 0, 1, 0, 1, 1, 1, 1, 1] body).getD .skip
theorem l1_eq (k : Nat) (pt5 : Option Addr) (at6 : Addr) (At76 : Option Addr) (nt76 ct76 : Nat) (xt77 xt78 : Int) (Q : PQ) (σ : Fr) (w : World) : l1 (k + 1) pt5 at6 At76 nt76 ct76 xt77 xt78 w (fun w => ∀ d : Fr, Q (.exit 2) (ov d []) w) (fun bq4 w => ∀ d : Fr, Q .ret (ov d [(4, .bool bq4)]) w) = codeW Try.prog hT 98 D (tab l1tb) [0, 0, 1, 0, 1, 1, 1, 1, 1] l1b (thenQ (l1Tk k Q) (widen l1LO Q)) (ov σ [(5, .pointer pt5), (6, .pointer (some at6)), (76, .slice At76 nt76 ct76), (77, .int .i64 xt77), (78, .int .i64 xt78)]) w := by kernel_rfl
theorem l1_snd : ∀ c, subC [0, 1, 0, 1, 1, 1, 1, 1] body = some c → Snd Try.prog 98 c l1T := by
 refine loop_of (hT := hT) (D := D) (l := l1tb) (b := l1b) (lo := l1LO) (by kernel_rfl) (by
  intro x hx
  simp only [l1tb, List.not_mem_nil] at hx
  ) (by kernel_rfl) (by kernel_rfl) ?_ ?_
 ·intro Q σ w h
  unfold l1Tk at h
  obtain ⟨_, _, h⟩ := gPtr_elim h
  obtain ⟨_, _, h⟩ := gAd_elim h
  obtain ⟨_, _, _, _, h⟩ := gSlice_elim h
  obtain ⟨_, _, h⟩ := gInt_elim h
  obtain ⟨_, _, h⟩ := gInt_elim h
  exact h
 ·intro k Q σ w h
  unfold l1Tk at h
  obtain ⟨pt5, h5, h⟩ := gPtr_elim h
  obtain ⟨at6, h6, h⟩ := gAd_elim h
  obtain ⟨At76, nt76, ct76, h76, h⟩ := gSlice_elim h
  obtain ⟨xt77, h77, h⟩ := gInt_elim h
  obtain ⟨xt78, h78, h⟩ := gInt_elim h
  rw [l1_eq (σ := σ)] at h
  have e : (ov σ [(5, .pointer pt5), (6, .pointer (some at6)), (76, .slice At76 nt76 ct76), (77, .int .i64 xt77), (78, .int .i64 xt78)]) = σ := ov_self (by simp [h5, h6, h76, h77, h78])
  rw [e] at h
  exact h
def tb : List (List Nat × Spec) := [([0, 1, 0, 1, 1, 1, 1], l0T), ([0, 1, 0, 1, 1, 1, 1, 1], l1T)]
variable (Aa0 : Option Addr) (na0 ca0 : Nat) (Aa1 : Option Addr) (na1 ca1 : Nat) (w : World) (Q : Ending → World → Prop)
theorem wp_eq : wp Aa0 na0 ca0 Aa1 na1 ca1 w Q = codeW Try.prog hT 98 D (tab tb) [] body (topQ Try.prog hT 98 [.tmp 4] Q) (argsF [.slice Aa0 na0 ca0, .slice Aa1 na1 ca1]) w := by kernel_rfl
theorem ok (h : wp Aa0 na0 ca0 Aa1 na1 ca1 w Q) : Calls Try.prog 3 #[.slice Aa0 na0 ca0, .slice Aa1 na1 ca1] w Q := by
 rw [wp_eq] at h
 refine calls_of_codeW (c := body) (rs := [.tmp 4]) Try.func3 ?_ ?_ ?_ ?_ ?_ (tab_snd (by
  intro x hx
  simp only [tb, List.mem_cons, List.not_mem_nil, or_false] at hx
  rcases hx with rfl | rfl
  ·exact l0_snd
  ·exact l1_snd)) ?_ h <;> kernel_rfl
end f_law20_SpanPlays
end Go.Proofs.Ytklnlnjgaadjbaa.Rd
