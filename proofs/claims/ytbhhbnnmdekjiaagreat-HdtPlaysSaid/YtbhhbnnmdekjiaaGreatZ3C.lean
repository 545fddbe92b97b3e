/- The printed readings of some functions: each function's code reckoned by the kernel to its predicate transformer · The printed readings of some functions: each function's code reckoned by the kernel to its predicate transformer · The printed readings of some functions: each function's code reckoned by the kernel to its predicate transformer -/
import Derived.Test.YtbhhbnnmdekjiaaGreatZ3A
set_option linter.unusedSimpArgs false
set_option linter.unusedVariables false
namespace Go.Proofs.YtbhhbnnmdekjiaaGreat.Rd
open Go.Dn
set_option maxRecDepth 100000
namespace f_ref18_Trees
noncomputable def body : Code := (Tryz.f13.body).getD .skip
def l0 : Nat → Option Addr → Nat → Nat → Int → Int → World → (Int → World → Prop) → Prop  | 0, _, _, _, _, _, _, _ => False  | k + 1, At3, nt3, ct3, xt4, xt5, w, K0 => sel (decide (xt5 < (nt3 : Int))) ( optB At3 fun a8 => req (decide (0 ≤ xt5 ∧ xt5 < (nt3 : Int))) <| ldI w (a8.add (xt5.toNat * 1)) .i64 fun x9 => sel (x9 == xt5) ( l0 k At3 nt3 ct3 (IntKind.i64.wrap (xt4 + (1 : Int))) (IntKind.i64.wrap (xt5 + (1 : Int))) w K0) ( l0 k At3 nt3 ct3 xt4 (IntKind.i64.wrap (xt5 + (1 : Int))) w K0)) ( K0 xt4 w)
def wp (Aa0_0 : Option Addr) (na0_0 ca0_0 : Nat) (Aa0_1 : Option Addr) (na0_1 ca0_1 : Nat) (w : World) (Q : Ending → World → Prop) : Prop := alW w (.cells #[.slice Aa0_0 na0_0 ca0_0, .slice Aa0_1 na0_1 ca0_1] 29) fun B1 w2 => ldS w2 ⟨B1, 0, none⟩ fun A3 n3 c3 => ldS w2 ((⟨B1, 0, none⟩ : Addr).add 1) fun A4 n4 c4 => Calls Tryz.prog 34 #[.slice A3 n3 c3, .slice A4 n4 c4] w2 fun e5 w6 => ∃ A7 n7 c7, e5 = .returned (.slice A7 n7 c7) ∧ ( ∃ k12, l0 k12 A7 n7 c7 (0 : Int) (0 : Int) w6 (fun x10 w11 => ∀ _ : Fr, Q (.returned (.int .i64 x10)) w11))
def D : Nat → Option DH := dtab []
def l0LO : LO := ⟨[], [], [(0, [4])], []⟩
def l0Tk (k : Nat) : Spec := fun Q σ w => gSlice (σ 3) fun At3 nt3 ct3 => gInt .i64 (σ 4) fun xt4 => gInt .i64 (σ 5) fun xt5 => l0 k At3 nt3 ct3 xt4 xt5 w (fun xq4 w => ∀ d : Fr, Q (.exit 0) (ov d [(4, .int .i64 xq4)]) w)
def l0T : Spec := fun Q σ w => ∃ k, l0Tk k Q σ w
def l0tb : List (List Nat × Spec) := []
noncomputable def l0b : Code := (subC [0, 0, 1, 0, 1, 1, 1] body).getD .skip
theorem l0_eq (k : Nat) (At3 : Option Addr) (nt3 ct3 : Nat) (xt4 xt5 : Int) (Q : PQ) (σ : Fr) (w : World) :
    l0 (k + 1) At3 nt3 ct3 xt4 xt5 w (fun xq4 w => ∀ d : Fr, Q (.exit 0) (ov d [(4, .int .i64 xq4)]) w) = codeW Tryz.prog hT 26 D (tab l0tb) [0, 0, 1, 0, 1, 1, 1] l0b (thenQ (l0Tk k Q) (widen l0LO Q)) (ov σ [(3, .slice At3 nt3 ct3), (4, .int .i64 xt4), (5, .int .i64 xt5)]) w := by kernel_rfl
theorem l0_snd : ∀ c, subC [0, 1, 0, 1, 1, 1] body = some c → Snd Tryz.prog 26 c l0T := by
  refine loop_of (hT := hT) (D := D) (l := l0tb) (b := l0b) (lo := l0LO) (by kernel_rfl) (by
    intro x hx
    simp only [l0tb, List.not_mem_nil] at hx
    ) (by kernel_rfl) (by kernel_rfl) ?_ ?_
  · intro Q σ w h
    unfold l0Tk at h
    obtain ⟨At3, nt3, ct3, h3, h⟩ := gSlice_elim h
    obtain ⟨xt4, h4, h⟩ := gInt_elim h
    obtain ⟨xt5, h5, h⟩ := gInt_elim h
    exact h
  · intro k Q σ w h
    unfold l0Tk at h
    obtain ⟨At3, nt3, ct3, h3, h⟩ := gSlice_elim h
    obtain ⟨xt4, h4, h⟩ := gInt_elim h
    obtain ⟨xt5, h5, h⟩ := gInt_elim h
    rw [l0_eq (σ := σ)] at h
    have e : (ov σ [(3, .slice At3 nt3 ct3), (4, .int .i64 xt4), (5, .int .i64 xt5)]) = σ := ov_self (by simp [h3, h4, h5])
    rw [e] at h
    exact h
def tb : List (List Nat × Spec) := [([0, 1, 0, 1, 1, 1], l0T)]
theorem wp_eq (Aa0_0 : Option Addr) (na0_0 ca0_0 : Nat) (Aa0_1 : Option Addr) (na0_1 ca0_1 : Nat) (w : World) (Q : Ending → World → Prop) :
    wp Aa0_0 na0_0 ca0_0 Aa0_1 na0_1 ca0_1 w Q = codeW Tryz.prog hT 26 D (tab tb) [] body (topQ Tryz.prog hT 26 [.tmp 2] Q) (argsF [.agg #[.slice Aa0_0 na0_0 ca0_0, .slice Aa0_1 na0_1 ca0_1]]) w := by kernel_rfl
theorem ok (Aa0_0 : Option Addr) (na0_0 ca0_0 : Nat) (Aa0_1 : Option Addr) (na0_1 ca0_1 : Nat) (w : World) (Q : Ending → World → Prop) (h : wp Aa0_0 na0_0 ca0_0 Aa0_1 na0_1 ca0_1 w Q) : Calls Tryz.prog 13 #[.agg #[.slice Aa0_0 na0_0 ca0_0, .slice Aa0_1 na0_1 ca0_1]] w Q := by
  rw [wp_eq] at h
  exact calls_of_codeW (c := body) (rs := [.tmp 2]) Tryz.func13 (by kernel_rfl) (by kernel_rfl) (by kernel_rfl) (by kernel_rfl) (by kernel_rfl) (tab_snd (by
    intro x hx
    simp only [tb, List.mem_cons, List.not_mem_nil, or_false] at hx
    subst hx
    exact l0_snd)) (by kernel_rfl) h
end f_ref18_Trees
namespace f_ref18_AddV
noncomputable def body : Code := (Tryz.f24.body).getD .skip
def wp (Aa0_0 : Option Addr) (na0_0 ca0_0 : Nat) (Aa0_1 : Option Addr) (na0_1 ca0_1 : Nat) (xa1 : Int) (w : World) (Q : Ending → World → Prop) : Prop := alW w (.cells #[.slice Aa0_0 na0_0 ca0_0, .slice Aa0_1 na0_1 ca0_1] 29) fun B1 w2 => alW w2 (.cells #[.slice none 0 0, .slice none 0 0] 29) fun B3 w4 => ldS w4 ⟨B1, 0, none⟩ fun A5 n5 c5 => ldS w4 ((⟨B1, 0, none⟩ : Addr).add 1) fun A6 n6 c6 => Calls Tryz.prog 46 #[.agg #[.slice A5 n5 c5, .slice A6 n6 c6], .agg #[.int .i64 (1 : Int), .int .i64 xa1, .int .i64 (0 : Int), .int .i64 (0 : Int), .int .i64 (0 : Int), .bool false, .int .i64 (0 : Int), .string ByteArray.empty, .int .i64 (0 : Int), .int .i64 (0 : Int), .complex .f64 0 0, .slice none 0 0]] w4 fun e7 w8 => ∃ A9_0_0 n9_0_0 c9_0_0 A9_0_1 n9_0_1 c9_0_1 x9_1, e7 = .returned (.tuple #[.agg #[.slice A9_0_0 n9_0_0 c9_0_0, .slice A9_0_1 n9_0_1 c9_0_1], .int .i64 x9_1]) ∧ ( stW w8 ⟨B3, 0, none⟩ (.slice A9_0_0 n9_0_0 c9_0_0) fun w10 => stW w10 ((⟨B3, 0, none⟩ : Addr).add 1) (.slice A9_0_1 n9_0_1 c9_0_1) fun w11 => ldS w11 ⟨B3, 0, none⟩ fun A12 n12 c12 => ldS w11 ((⟨B3, 0, none⟩ : Addr).add 1) fun A13 n13 c13 => Q (.returned (.tuple #[.agg #[.slice A12 n12 c12, .slice A13 n13 c13], .int .i64 x9_1])) w11)
def D : Nat → Option DH := dtab []
def tb : List (List Nat × Spec) := []
theorem wp_eq (Aa0_0 : Option Addr) (na0_0 ca0_0 : Nat) (Aa0_1 : Option Addr) (na0_1 ca0_1 : Nat) (xa1 : Int) (w : World) (Q : Ending → World → Prop) :
    wp Aa0_0 na0_0 ca0_0 Aa0_1 na0_1 ca0_1 xa1 w Q = codeW Tryz.prog hT 12 D (tab tb) [] body (topQ Tryz.prog hT 12 [.cell 4 29, .tmp 5] Q) (argsF [.agg #[.slice Aa0_0 na0_0 ca0_0, .slice Aa0_1 na0_1 ca0_1], .int .i64 xa1]) w := by kernel_rfl
theorem ok (Aa0_0 : Option Addr) (na0_0 ca0_0 : Nat) (Aa0_1 : Option Addr) (na0_1 ca0_1 : Nat) (xa1 : Int) (w : World) (Q : Ending → World → Prop) (h : wp Aa0_0 na0_0 ca0_0 Aa0_1 na0_1 ca0_1 xa1 w Q) : Calls Tryz.prog 24 #[.agg #[.slice Aa0_0 na0_0 ca0_0, .slice Aa0_1 na0_1 ca0_1], .int .i64 xa1] w Q := by
  rw [wp_eq] at h
  exact calls_of_codeW (c := body) (rs := [.cell 4 29, .tmp 5]) Tryz.func24 (by kernel_rfl) (by kernel_rfl) (by kernel_rfl) (by kernel_rfl) (by kernel_rfl) (tab_snd (by
    intro x hx
    simp only [tb, List.not_mem_nil] at hx
    )) (by kernel_rfl) h
end f_ref18_AddV
namespace f_ref18_DelV
noncomputable def body : Code := (Tryz.f25.body).getD .skip
def wp (Aa0_0 : Option Addr) (na0_0 ca0_0 : Nat) (Aa0_1 : Option Addr) (na0_1 ca0_1 : Nat) (xa1 : Int) (w : World) (Q : Ending → World → Prop) : Prop := alW w (.cells #[.slice Aa0_0 na0_0 ca0_0, .slice Aa0_1 na0_1 ca0_1] 29) fun B1 w2 => alW w2 (.cells #[.slice none 0 0, .slice none 0 0] 29) fun B3 w4 => ldS w4 ⟨B1, 0, none⟩ fun A5 n5 c5 => ldS w4 ((⟨B1, 0, none⟩ : Addr).add 1) fun A6 n6 c6 => Calls Tryz.prog 46 #[.agg #[.slice A5 n5 c5, .slice A6 n6 c6], .agg #[.int .i64 (2 : Int), .int .i64 xa1, .int .i64 (0 : Int), .int .i64 (0 : Int), .int .i64 (0 : Int), .bool false, .int .i64 (0 : Int), .string ByteArray.empty, .int .i64 (0 : Int), .int .i64 (0 : Int), .complex .f64 0 0, .slice none 0 0]] w4 fun e7 w8 => ∃ A9_0_0 n9_0_0 c9_0_0 A9_0_1 n9_0_1 c9_0_1 x9_1, e7 = .returned (.tuple #[.agg #[.slice A9_0_0 n9_0_0 c9_0_0, .slice A9_0_1 n9_0_1 c9_0_1], .int .i64 x9_1]) ∧ ( stW w8 ⟨B3, 0, none⟩ (.slice A9_0_0 n9_0_0 c9_0_0) fun w10 => stW w10 ((⟨B3, 0, none⟩ : Addr).add 1) (.slice A9_0_1 n9_0_1 c9_0_1) fun w11 => ldS w11 ⟨B3, 0, none⟩ fun A12 n12 c12 => ldS w11 ((⟨B3, 0, none⟩ : Addr).add 1) fun A13 n13 c13 => Q (.returned (.tuple #[.agg #[.slice A12 n12 c12, .slice A13 n13 c13], .int .i64 x9_1])) w11)
def D : Nat → Option DH := dtab []
def tb : List (List Nat × Spec) := []
theorem wp_eq (Aa0_0 : Option Addr) (na0_0 ca0_0 : Nat) (Aa0_1 : Option Addr) (na0_1 ca0_1 : Nat) (xa1 : Int) (w : World) (Q : Ending → World → Prop) :
    wp Aa0_0 na0_0 ca0_0 Aa0_1 na0_1 ca0_1 xa1 w Q = codeW Tryz.prog hT 12 D (tab tb) [] body (topQ Tryz.prog hT 12 [.cell 4 29, .tmp 5] Q) (argsF [.agg #[.slice Aa0_0 na0_0 ca0_0, .slice Aa0_1 na0_1 ca0_1], .int .i64 xa1]) w := by kernel_rfl
theorem ok (Aa0_0 : Option Addr) (na0_0 ca0_0 : Nat) (Aa0_1 : Option Addr) (na0_1 ca0_1 : Nat) (xa1 : Int) (w : World) (Q : Ending → World → Prop) (h : wp Aa0_0 na0_0 ca0_0 Aa0_1 na0_1 ca0_1 xa1 w Q) : Calls Tryz.prog 25 #[.agg #[.slice Aa0_0 na0_0 ca0_0, .slice Aa0_1 na0_1 ca0_1], .int .i64 xa1] w Q := by
  rw [wp_eq] at h
  exact calls_of_codeW (c := body) (rs := [.cell 4 29, .tmp 5]) Tryz.func25 (by kernel_rfl) (by kernel_rfl) (by kernel_rfl) (by kernel_rfl) (by kernel_rfl) (tab_snd (by
    intro x hx
    simp only [tb, List.not_mem_nil] at hx
    )) (by kernel_rfl) h
end f_ref18_DelV
namespace f_ref18_AddE
noncomputable def body : Code := (Tryz.f26.body).getD .skip
def wp (Aa0_0 : Option Addr) (na0_0 ca0_0 : Nat) (Aa0_1 : Option Addr) (na0_1 ca0_1 : Nat) (xa1_0 xa1_1 xa1_2 xa1_3 : Int) (w : World) (Q : Ending → World → Prop) : Prop := alW w (.cells #[.slice Aa0_0 na0_0 ca0_0, .slice Aa0_1 na0_1 ca0_1] 29) fun B1 w2 => alW w2 (.cells #[.int .i64 xa1_0, .int .i64 xa1_1, .int .i64 xa1_2, .int .i64 xa1_3] 31) fun B3 w4 => alW w4 (.cells #[.slice none 0 0, .slice none 0 0] 29) fun B5 w6 => ldS w6 ⟨B1, 0, none⟩ fun A7 n7 c7 => ldS w6 ((⟨B1, 0, none⟩ : Addr).add 1) fun A8 n8 c8 => ldI w6 ⟨B3, 0, none⟩ .i64 fun x9 => ldI w6 ((⟨B3, 0, none⟩ : Addr).add 1) .i64 fun x10 => ldI w6 ((⟨B3, 0, none⟩ : Addr).add 2) .i64 fun x11 => ldI w6 ((⟨B3, 0, none⟩ : Addr).add 3) .i64 fun x12 => Calls Tryz.prog 46 #[.agg #[.slice A7 n7 c7, .slice A8 n8 c8], .agg #[.int .i64 (3 : Int), .int .i64 x9, .int .i64 x10, .int .i64 x11, .int .i64 x12, .bool false, .int .i64 (0 : Int), .string ByteArray.empty, .int .i64 (0 : Int), .int .i64 (0 : Int), .complex .f64 0 0, .slice none 0 0]] w6 fun e13 w14 => ∃ A15_0_0 n15_0_0 c15_0_0 A15_0_1 n15_0_1 c15_0_1 x15_1, e13 = .returned (.tuple #[.agg #[.slice A15_0_0 n15_0_0 c15_0_0, .slice A15_0_1 n15_0_1 c15_0_1], .int .i64 x15_1]) ∧ ( stW w14 ⟨B5, 0, none⟩ (.slice A15_0_0 n15_0_0 c15_0_0) fun w16 => stW w16 ((⟨B5, 0, none⟩ : Addr).add 1) (.slice A15_0_1 n15_0_1 c15_0_1) fun w17 => ldS w17 ⟨B5, 0, none⟩ fun A18 n18 c18 => ldS w17 ((⟨B5, 0, none⟩ : Addr).add 1) fun A19 n19 c19 => Q (.returned (.tuple #[.agg #[.slice A18 n18 c18, .slice A19 n19 c19], .int .i64 x15_1])) w17)
def D : Nat → Option DH := dtab []
def tb : List (List Nat × Spec) := []
theorem wp_eq (Aa0_0 : Option Addr) (na0_0 ca0_0 : Nat) (Aa0_1 : Option Addr) (na0_1 ca0_1 : Nat) (xa1_0 xa1_1 xa1_2 xa1_3 : Int) (w : World) (Q : Ending → World → Prop) :
    wp Aa0_0 na0_0 ca0_0 Aa0_1 na0_1 ca0_1 xa1_0 xa1_1 xa1_2 xa1_3 w Q = codeW Tryz.prog hT 19 D (tab tb) [] body (topQ Tryz.prog hT 19 [.cell 4 29, .tmp 5] Q) (argsF [.agg #[.slice Aa0_0 na0_0 ca0_0, .slice Aa0_1 na0_1 ca0_1], .agg #[.int .i64 xa1_0, .int .i64 xa1_1, .int .i64 xa1_2, .int .i64 xa1_3]]) w := by kernel_rfl
theorem ok (Aa0_0 : Option Addr) (na0_0 ca0_0 : Nat) (Aa0_1 : Option Addr) (na0_1 ca0_1 : Nat) (xa1_0 xa1_1 xa1_2 xa1_3 : Int) (w : World) (Q : Ending → World → Prop) (h : wp Aa0_0 na0_0 ca0_0 Aa0_1 na0_1 ca0_1 xa1_0 xa1_1 xa1_2 xa1_3 w Q) : Calls Tryz.prog 26 #[.agg #[.slice Aa0_0 na0_0 ca0_0, .slice Aa0_1 na0_1 ca0_1], .agg #[.int .i64 xa1_0, .int .i64 xa1_1, .int .i64 xa1_2, .int .i64 xa1_3]] w Q := by
  rw [wp_eq] at h
  exact calls_of_codeW (c := body) (rs := [.cell 4 29, .tmp 5]) Tryz.func26 (by kernel_rfl) (by kernel_rfl) (by kernel_rfl) (by kernel_rfl) (by kernel_rfl) (tab_snd (by
    intro x hx
    simp only [tb, List.not_mem_nil] at hx
    )) (by kernel_rfl) h
end f_ref18_AddE
namespace f_ref18_DelE
noncomputable def body : Code := (Tryz.f27.body).getD .skip
def wp (Aa0_0 : Option Addr) (na0_0 ca0_0 : Nat) (Aa0_1 : Option Addr) (na0_1 ca0_1 : Nat) (xa1 : Int) (w : World) (Q : Ending → World → Prop) : Prop := alW w (.cells #[.slice Aa0_0 na0_0 ca0_0, .slice Aa0_1 na0_1 ca0_1] 29) fun B1 w2 => alW w2 (.cells #[.slice none 0 0, .slice none 0 0] 29) fun B3 w4 => ldS w4 ⟨B1, 0, none⟩ fun A5 n5 c5 => ldS w4 ((⟨B1, 0, none⟩ : Addr).add 1) fun A6 n6 c6 => Calls Tryz.prog 46 #[.agg #[.slice A5 n5 c5, .slice A6 n6 c6], .agg #[.int .i64 (4 : Int), .int .i64 xa1, .int .i64 (0 : Int), .int .i64 (0 : Int), .int .i64 (0 : Int), .bool false, .int .i64 (0 : Int), .string ByteArray.empty, .int .i64 (0 : Int), .int .i64 (0 : Int), .complex .f64 0 0, .slice none 0 0]] w4 fun e7 w8 => ∃ A9_0_0 n9_0_0 c9_0_0 A9_0_1 n9_0_1 c9_0_1 x9_1, e7 = .returned (.tuple #[.agg #[.slice A9_0_0 n9_0_0 c9_0_0, .slice A9_0_1 n9_0_1 c9_0_1], .int .i64 x9_1]) ∧ ( alW w8 (.cells #[.slice none 0 0, .slice none 0 0] 29) fun B10 w11 => stW w11 ⟨B10, 0, none⟩ (.slice A9_0_0 n9_0_0 c9_0_0) fun w12 => stW w12 ((⟨B10, 0, none⟩ : Addr).add 1) (.slice A9_0_1 n9_0_1 c9_0_1) fun w13 => sel (x9_1 == (51 : Int)) ( ldS w13 ⟨B1, 0, none⟩ fun A14 n14 c14 => ldS w13 ((⟨B1, 0, none⟩ : Addr).add 1) fun A15 n15 c15 => stW w13 ⟨B3, 0, none⟩ (.slice A14 n14 c14) fun w16 => stW w16 ((⟨B3, 0, none⟩ : Addr).add 1) (.slice A15 n15 c15) fun w17 => ldS w17 ⟨B3, 0, none⟩ fun A18 n18 c18 => ldS w17 ((⟨B3, 0, none⟩ : Addr).add 1) fun A19 n19 c19 => Q (.returned (.tuple #[.agg #[.slice A18 n18 c18, .slice A19 n19 c19], .int .i64 (152 : Int)])) w17) ( ldS w13 ⟨B10, 0, none⟩ fun A20 n20 c20 => ldS w13 ((⟨B10, 0, none⟩ : Addr).add 1) fun A21 n21 c21 => stW w13 ⟨B3, 0, none⟩ (.slice A20 n20 c20) fun w22 => stW w22 ((⟨B3, 0, none⟩ : Addr).add 1) (.slice A21 n21 c21) fun w23 => ldS w23 ⟨B3, 0, none⟩ fun A24 n24 c24 => ldS w23 ((⟨B3, 0, none⟩ : Addr).add 1) fun A25 n25 c25 => Q (.returned (.tuple #[.agg #[.slice A24 n24 c24, .slice A25 n25 c25], .int .i64 x9_1])) w23))
def D : Nat → Option DH := dtab []
def tb : List (List Nat × Spec) := []
theorem wp_eq (Aa0_0 : Option Addr) (na0_0 ca0_0 : Nat) (Aa0_1 : Option Addr) (na0_1 ca0_1 : Nat) (xa1 : Int) (w : World) (Q : Ending → World → Prop) :
    wp Aa0_0 na0_0 ca0_0 Aa0_1 na0_1 ca0_1 xa1 w Q = codeW Tryz.prog hT 20 D (tab tb) [] body (topQ Tryz.prog hT 20 [.cell 4 29, .tmp 5] Q) (argsF [.agg #[.slice Aa0_0 na0_0 ca0_0, .slice Aa0_1 na0_1 ca0_1], .int .i64 xa1]) w := by kernel_rfl
theorem ok (Aa0_0 : Option Addr) (na0_0 ca0_0 : Nat) (Aa0_1 : Option Addr) (na0_1 ca0_1 : Nat) (xa1 : Int) (w : World) (Q : Ending → World → Prop) (h : wp Aa0_0 na0_0 ca0_0 Aa0_1 na0_1 ca0_1 xa1 w Q) : Calls Tryz.prog 27 #[.agg #[.slice Aa0_0 na0_0 ca0_0, .slice Aa0_1 na0_1 ca0_1], .int .i64 xa1] w Q := by
  rw [wp_eq] at h
  exact calls_of_codeW (c := body) (rs := [.cell 4 29, .tmp 5]) Tryz.func27 (by kernel_rfl) (by kernel_rfl) (by kernel_rfl) (by kernel_rfl) (by kernel_rfl) (tab_snd (by
    intro x hx
    simp only [tb, List.not_mem_nil] at hx
    )) (by kernel_rfl) h
end f_ref18_DelE
namespace f_ref18_Has
noncomputable def body : Code := (Tryz.f35.body).getD .skip
def wp (Aa0_0 : Option Addr) (na0_0 ca0_0 : Nat) (Aa0_1 : Option Addr) (na0_1 ca0_1 : Nat) (xa1 : Int) (w : World) (Q : Ending → World → Prop) : Prop := alW w (.cells #[.slice Aa0_0 na0_0 ca0_0, .slice Aa0_1 na0_1 ca0_1] 29) fun B1 w2 => ldS w2 ⟨B1, 0, none⟩ fun A3 n3 c3 => Calls Tryz.prog 21 #[.slice A3 n3 c3, .int .i64 xa1] w2 fun e4 w5 => ∃ b6, e4 = .returned (.bool b6) ∧ ( Q (.returned (.bool b6)) w5)
def D : Nat → Option DH := dtab []
def tb : List (List Nat × Spec) := []
theorem wp_eq (Aa0_0 : Option Addr) (na0_0 ca0_0 : Nat) (Aa0_1 : Option Addr) (na0_1 ca0_1 : Nat) (xa1 : Int) (w : World) (Q : Ending → World → Prop) :
    wp Aa0_0 na0_0 ca0_0 Aa0_1 na0_1 ca0_1 xa1 w Q = codeW Tryz.prog hT 9 D (tab tb) [] body (topQ Tryz.prog hT 9 [.tmp 4] Q) (argsF [.agg #[.slice Aa0_0 na0_0 ca0_0, .slice Aa0_1 na0_1 ca0_1], .int .i64 xa1]) w := by kernel_rfl
theorem ok (Aa0_0 : Option Addr) (na0_0 ca0_0 : Nat) (Aa0_1 : Option Addr) (na0_1 ca0_1 : Nat) (xa1 : Int) (w : World) (Q : Ending → World → Prop) (h : wp Aa0_0 na0_0 ca0_0 Aa0_1 na0_1 ca0_1 xa1 w Q) : Calls Tryz.prog 35 #[.agg #[.slice Aa0_0 na0_0 ca0_0, .slice Aa0_1 na0_1 ca0_1], .int .i64 xa1] w Q := by
  rw [wp_eq] at h
  exact calls_of_codeW (c := body) (rs := [.tmp 4]) Tryz.func35 (by kernel_rfl) (by kernel_rfl) (by kernel_rfl) (by kernel_rfl) (by kernel_rfl) (tab_snd (by
    intro x hx
    simp only [tb, List.not_mem_nil] at hx
    )) (by kernel_rfl) h
end f_ref18_Has
namespace f_ref18_Verts
noncomputable def body : Code := (Tryz.f36.body).getD .skip
def wp (Aa0_0 : Option Addr) (na0_0 ca0_0 : Nat) (Aa0_1 : Option Addr) (na0_1 ca0_1 : Nat) (xa1 : Int) (w : World) (Q : Ending → World → Prop) : Prop := alW w (.cells #[.slice Aa0_0 na0_0 ca0_0, .slice Aa0_1 na0_1 ca0_1] 29) fun B1 w2 => ldS w2 ⟨B1, 0, none⟩ fun A3 n3 c3 => ldS w2 ((⟨B1, 0, none⟩ : Addr).add 1) fun A4 n4 c4 => Calls Tryz.prog 55 #[.agg #[.slice A3 n3 c3, .slice A4 n4 c4, .slice none 0 0, .slice none 0 0], .int .i64 xa1] w2 fun e5 w6 => ∃ A7 n7 c7, e5 = .returned (.slice A7 n7 c7) ∧ ( Q (.returned (.slice A7 n7 c7)) w6)
def D : Nat → Option DH := dtab []
def tb : List (List Nat × Spec) := []
theorem wp_eq (Aa0_0 : Option Addr) (na0_0 ca0_0 : Nat) (Aa0_1 : Option Addr) (na0_1 ca0_1 : Nat) (xa1 : Int) (w : World) (Q : Ending → World → Prop) :
    wp Aa0_0 na0_0 ca0_0 Aa0_1 na0_1 ca0_1 xa1 w Q = codeW Tryz.prog hT 9 D (tab tb) [] body (topQ Tryz.prog hT 9 [.tmp 4] Q) (argsF [.agg #[.slice Aa0_0 na0_0 ca0_0, .slice Aa0_1 na0_1 ca0_1], .int .i64 xa1]) w := by kernel_rfl
theorem ok (Aa0_0 : Option Addr) (na0_0 ca0_0 : Nat) (Aa0_1 : Option Addr) (na0_1 ca0_1 : Nat) (xa1 : Int) (w : World) (Q : Ending → World → Prop) (h : wp Aa0_0 na0_0 ca0_0 Aa0_1 na0_1 ca0_1 xa1 w Q) : Calls Tryz.prog 36 #[.agg #[.slice Aa0_0 na0_0 ca0_0, .slice Aa0_1 na0_1 ca0_1], .int .i64 xa1] w Q := by
  rw [wp_eq] at h
  exact calls_of_codeW (c := body) (rs := [.tmp 4]) Tryz.func36 (by kernel_rfl) (by kernel_rfl) (by kernel_rfl) (by kernel_rfl) (by kernel_rfl) (tab_snd (by
    intro x hx
    simp only [tb, List.not_mem_nil] at hx
    )) (by kernel_rfl) h
end f_ref18_Verts
namespace f_ref18_write
noncomputable def body : Code := (Tryz.f46.body).getD .skip
def wp (Aa0_0 : Option Addr) (na0_0 ca0_0 : Nat) (Aa0_1 : Option Addr) (na0_1 ca0_1 : Nat) (xa1_0 xa1_1 xa1_2 xa1_3 xa1_4 : Int) (ba1_5 : Bool) (xa1_6 : Int) (sa1_7 : ByteArray) (xa1_8 xa1_9 : Int) (ra1_10 ia1_10 : Nat) (Aa1_11 : Option Addr) (na1_11 ca1_11 : Nat) (w : World) (Q : Ending → World → Prop) : Prop := alW w (.cells #[.slice Aa0_0 na0_0 ca0_0, .slice Aa0_1 na0_1 ca0_1] 29) fun B1 w2 => alW w2 (.cells #[.int .i64 xa1_0, .int .i64 xa1_1, .int .i64 xa1_2, .int .i64 xa1_3, .int .i64 xa1_4, .bool ba1_5, .int .i64 xa1_6, .string sa1_7, .int .i64 xa1_8, .int .i64 xa1_9, .complex .f64 ra1_10 ia1_10, .slice Aa1_11 na1_11 ca1_11] 94) fun B3 w4 => alW w4 (.cells #[.slice none 0 0, .slice none 0 0] 29) fun B5 w6 => ldS w6 ⟨B1, 0, none⟩ fun A7 n7 c7 => ldS w6 ((⟨B1, 0, none⟩ : Addr).add 1) fun A8 n8 c8 => ldI w6 ⟨B3, 0, none⟩ .i64 fun x9 => ldI w6 ((⟨B3, 0, none⟩ : Addr).add 1) .i64 fun x10 => ldI w6 ((⟨B3, 0, none⟩ : Addr).add 2) .i64 fun x11 => ldI w6 ((⟨B3, 0, none⟩ : Addr).add 3) .i64 fun x12 => ldI w6 ((⟨B3, 0, none⟩ : Addr).add 4) .i64 fun x13 => ldB w6 ((⟨B3, 0, none⟩ : Addr).add 5) fun b14 => ldI w6 ((⟨B3, 0, none⟩ : Addr).add 6) .i64 fun x15 => ldT w6 ((⟨B3, 0, none⟩ : Addr).add 7) fun s16 => ldI w6 ((⟨B3, 0, none⟩ : Addr).add 8) .i64 fun x17 => ldI w6 ((⟨B3, 0, none⟩ : Addr).add 9) .i64 fun x18 => ldC w6 ((⟨B3, 0, none⟩ : Addr).add 10) .f64 fun r19 i19 => ldS w6 ((⟨B3, 0, none⟩ : Addr).add 11) fun A20 n20 c20 => Calls Tryz.prog 75 #[.agg #[.slice A7 n7 c7, .slice A8 n8 c8, .slice none 0 0], .agg #[.int .i64 x9, .int .i64 x10, .int .i64 x11, .int .i64 x12, .int .i64 x13, .bool b14, .int .i64 x15, .string s16, .int .i64 x17, .int .i64 x18, .complex .f64 r19 i19, .slice A20 n20 c20]] w6 fun e21 w22 => ∃ A23_0_0 n23_0_0 c23_0_0 A23_0_1 n23_0_1 c23_0_1 A23_0_2 n23_0_2 c23_0_2 x23_1, e21 = .returned (.tuple #[.agg #[.slice A23_0_0 n23_0_0 c23_0_0, .slice A23_0_1 n23_0_1 c23_0_1, .slice A23_0_2 n23_0_2 c23_0_2], .int .i64 x23_1]) ∧ ( alW w22 (.cells #[.slice none 0 0, .slice none 0 0, .slice none 0 0] 128) fun B24 w25 => stW w25 ⟨B24, 0, none⟩ (.slice A23_0_0 n23_0_0 c23_0_0) fun w26 => stW w26 ((⟨B24, 0, none⟩ : Addr).add 1) (.slice A23_0_1 n23_0_1 c23_0_1) fun w27 => stW w27 ((⟨B24, 0, none⟩ : Addr).add 2) (.slice A23_0_2 n23_0_2 c23_0_2) fun w28 => ldS w28 ⟨B24, 0, none⟩ fun A29 n29 c29 => ldS w28 ((⟨B24, 0, none⟩ : Addr).add 1) fun A30 n30 c30 => ldS w28 ((⟨B24, 0, none⟩ : Addr).add 2) fun A31 n31 c31 => Calls Tryz.prog 76 #[.agg #[.slice A29 n29 c29, .slice A30 n30 c30, .slice A31 n31 c31]] w28 fun e32 w33 => ∃ A34_0 n34_0 c34_0 A34_1 n34_1 c34_1, e32 = .returned (.agg #[.slice A34_0 n34_0 c34_0, .slice A34_1 n34_1 c34_1]) ∧ ( stW w33 ⟨B5, 0, none⟩ (.slice A34_0 n34_0 c34_0) fun w35 => stW w35 ((⟨B5, 0, none⟩ : Addr).add 1) (.slice A34_1 n34_1 c34_1) fun w36 => ldS w36 ⟨B5, 0, none⟩ fun A37 n37 c37 => ldS w36 ((⟨B5, 0, none⟩ : Addr).add 1) fun A38 n38 c38 => Q (.returned (.tuple #[.agg #[.slice A37 n37 c37, .slice A38 n38 c38], .int .i64 x23_1])) w36))
def D : Nat → Option DH := dtab []
def tb : List (List Nat × Spec) := []
theorem wp_eq (Aa0_0 : Option Addr) (na0_0 ca0_0 : Nat) (Aa0_1 : Option Addr) (na0_1 ca0_1 : Nat) (xa1_0 xa1_1 xa1_2 xa1_3 xa1_4 : Int) (ba1_5 : Bool) (xa1_6 : Int) (sa1_7 : ByteArray) (xa1_8 xa1_9 : Int) (ra1_10 ia1_10 : Nat) (Aa1_11 : Option Addr) (na1_11 ca1_11 : Nat) (w : World) (Q : Ending → World → Prop) :
    wp Aa0_0 na0_0 ca0_0 Aa0_1 na0_1 ca0_1 xa1_0 xa1_1 xa1_2 xa1_3 xa1_4 ba1_5 xa1_6 sa1_7 xa1_8 xa1_9 ra1_10 ia1_10 Aa1_11 na1_11 ca1_11 w Q = codeW Tryz.prog hT 21 D (tab tb) [] body (topQ Tryz.prog hT 21 [.cell 4 29, .tmp 5] Q) (argsF [.agg #[.slice Aa0_0 na0_0 ca0_0, .slice Aa0_1 na0_1 ca0_1], .agg #[.int .i64 xa1_0, .int .i64 xa1_1, .int .i64 xa1_2, .int .i64 xa1_3, .int .i64 xa1_4, .bool ba1_5, .int .i64 xa1_6, .string sa1_7, .int .i64 xa1_8, .int .i64 xa1_9, .complex .f64 ra1_10 ia1_10, .slice Aa1_11 na1_11 ca1_11]]) w := by cases ba1_5 <;> kernel_rfl
theorem ok (Aa0_0 : Option Addr) (na0_0 ca0_0 : Nat) (Aa0_1 : Option Addr) (na0_1 ca0_1 : Nat) (xa1_0 xa1_1 xa1_2 xa1_3 xa1_4 : Int) (ba1_5 : Bool) (xa1_6 : Int) (sa1_7 : ByteArray) (xa1_8 xa1_9 : Int) (ra1_10 ia1_10 : Nat) (Aa1_11 : Option Addr) (na1_11 ca1_11 : Nat) (w : World) (Q : Ending → World → Prop) (h : wp Aa0_0 na0_0 ca0_0 Aa0_1 na0_1 ca0_1 xa1_0 xa1_1 xa1_2 xa1_3 xa1_4 ba1_5 xa1_6 sa1_7 xa1_8 xa1_9 ra1_10 ia1_10 Aa1_11 na1_11 ca1_11 w Q) : Calls Tryz.prog 46 #[.agg #[.slice Aa0_0 na0_0 ca0_0, .slice Aa0_1 na0_1 ca0_1], .agg #[.int .i64 xa1_0, .int .i64 xa1_1, .int .i64 xa1_2, .int .i64 xa1_3, .int .i64 xa1_4, .bool ba1_5, .int .i64 xa1_6, .string sa1_7, .int .i64 xa1_8, .int .i64 xa1_9, .complex .f64 ra1_10 ia1_10, .slice Aa1_11 na1_11 ca1_11]] w Q := by
  rw [wp_eq] at h
  exact calls_of_codeW (c := body) (rs := [.cell 4 29, .tmp 5]) Tryz.func46 (by kernel_rfl) (by kernel_rfl) (by kernel_rfl) (by kernel_rfl) (by kernel_rfl) (tab_snd (by
    intro x hx
    simp only [tb, List.not_mem_nil] at hx
    )) (by kernel_rfl) h
end f_ref18_write
namespace f_ref05_Do
noncomputable def body : Code := (Tryz.f75.body).getD .skip
def j2 (at2 at3 at4 : Addr) (bt24 : Bool) (w : World) (Kn : World → Prop) (Kr : Int → World → Prop) : Prop := sel bt24 ( ldS w at2 fun A50 n50 c50 => ldS w (at2.add 1) fun A51 n51 c51 => ldS w (at2.add 2) fun A52 n52 c52 => ldI w at3 .i64 fun x53 => ldI w (at3.add 1) .i64 fun x54 => ldI w (at3.add 2) .i64 fun x55 => ldI w (at3.add 3) .i64 fun x56 => ldI w (at3.add 4) .i64 fun x57 => ldB w (at3.add 5) fun b58 => ldI w (at3.add 6) .i64 fun x59 => ldT w (at3.add 7) fun s60 => ldI w (at3.add 8) .i64 fun x61 => ldI w (at3.add 9) .i64 fun x62 => ldC w (at3.add 10) .f64 fun r63 i63 => ldS w (at3.add 11) fun A64 n64 c64 => Calls Tryz.prog 101 #[.agg #[.slice A50 n50 c50, .slice A51 n51 c51, .slice A52 n52 c52], .agg #[.int .i64 x53, .int .i64 x54, .int .i64 x55, .int .i64 x56, .int .i64 x57, .bool b58, .int .i64 x59, .string s60, .int .i64 x61, .int .i64 x62, .complex .f64 r63 i63, .slice A64 n64 c64]] w fun e65 w66 => ∃ A67_0_0 n67_0_0 c67_0_0 A67_0_1 n67_0_1 c67_0_1 A67_0_2 n67_0_2 c67_0_2 x67_1, e65 = .returned (.tuple #[.agg #[.slice A67_0_0 n67_0_0 c67_0_0, .slice A67_0_1 n67_0_1 c67_0_1, .slice A67_0_2 n67_0_2 c67_0_2], .int .i64 x67_1]) ∧ ( stW w66 at4 (.slice A67_0_0 n67_0_0 c67_0_0) fun w68 => stW w68 (at4.add 1) (.slice A67_0_1 n67_0_1 c67_0_1) fun w69 => stW w69 (at4.add 2) (.slice A67_0_2 n67_0_2 c67_0_2) fun w70 => Kr x67_1 w70)) ( Kn  w)
def j1 (at2 at3 at4 : Addr) (xt7 : Int) (bt16 : Bool) (w : World) (Kn : World → Prop) (Kr : Int → World → Prop) : Prop := sel bt16 ( ldS w at2 fun A29 n29 c29 => ldS w (at2.add 1) fun A30 n30 c30 => ldS w (at2.add 2) fun A31 n31 c31 => ldI w at3 .i64 fun x32 => ldI w (at3.add 1) .i64 fun x33 => ldI w (at3.add 2) .i64 fun x34 => ldI w (at3.add 3) .i64 fun x35 => ldI w (at3.add 4) .i64 fun x36 => ldB w (at3.add 5) fun b37 => ldI w (at3.add 6) .i64 fun x38 => ldT w (at3.add 7) fun s39 => ldI w (at3.add 8) .i64 fun x40 => ldI w (at3.add 9) .i64 fun x41 => ldC w (at3.add 10) .f64 fun r42 i42 => ldS w (at3.add 11) fun A43 n43 c43 => Calls Tryz.prog 100 #[.agg #[.slice A29 n29 c29, .slice A30 n30 c30, .slice A31 n31 c31], .agg #[.int .i64 x32, .int .i64 x33, .int .i64 x34, .int .i64 x35, .int .i64 x36, .bool b37, .int .i64 x38, .string s39, .int .i64 x40, .int .i64 x41, .complex .f64 r42 i42, .slice A43 n43 c43]] w fun e44 w45 => ∃ A46_0_0 n46_0_0 c46_0_0 A46_0_1 n46_0_1 c46_0_1 A46_0_2 n46_0_2 c46_0_2 x46_1, e44 = .returned (.tuple #[.agg #[.slice A46_0_0 n46_0_0 c46_0_0, .slice A46_0_1 n46_0_1 c46_0_1, .slice A46_0_2 n46_0_2 c46_0_2], .int .i64 x46_1]) ∧ ( stW w45 at4 (.slice A46_0_0 n46_0_0 c46_0_0) fun w47 => stW w47 (at4.add 1) (.slice A46_0_1 n46_0_1 c46_0_1) fun w48 => stW w48 (at4.add 2) (.slice A46_0_2 n46_0_2 c46_0_2) fun w49 => Kr x46_1 w49)) ( sel (xt7 == (5 : Int)) ( j2 at2 at3 at4 (xt7 == (5 : Int)) w (fun w71 => ∀ _ : Fr, Kn  w71) (fun x72 w73 => ∀ _ : Fr, Kr x72 w73)) ( j2 at2 at3 at4 (xt7 == (6 : Int)) w (fun w74 => ∀ _ : Fr, Kn  w74) (fun x75 w76 => ∀ _ : Fr, Kr x75 w76)))
def j0 (at2 at3 at4 : Addr) (xt7 : Int) (bt8 : Bool) (w : World) (Kn : World → Prop) (Kr : Int → World → Prop) : Prop := sel bt8 ( ldS w at2 fun A8 n8 c8 => ldS w (at2.add 1) fun A9 n9 c9 => ldS w (at2.add 2) fun A10 n10 c10 => ldI w at3 .i64 fun x11 => ldI w (at3.add 1) .i64 fun x12 => ldI w (at3.add 2) .i64 fun x13 => ldI w (at3.add 3) .i64 fun x14 => ldI w (at3.add 4) .i64 fun x15 => ldB w (at3.add 5) fun b16 => ldI w (at3.add 6) .i64 fun x17 => ldT w (at3.add 7) fun s18 => ldI w (at3.add 8) .i64 fun x19 => ldI w (at3.add 9) .i64 fun x20 => ldC w (at3.add 10) .f64 fun r21 i21 => ldS w (at3.add 11) fun A22 n22 c22 => Calls Tryz.prog 99 #[.agg #[.slice A8 n8 c8, .slice A9 n9 c9, .slice A10 n10 c10], .agg #[.int .i64 x11, .int .i64 x12, .int .i64 x13, .int .i64 x14, .int .i64 x15, .bool b16, .int .i64 x17, .string s18, .int .i64 x19, .int .i64 x20, .complex .f64 r21 i21, .slice A22 n22 c22]] w fun e23 w24 => ∃ A25_0_0 n25_0_0 c25_0_0 A25_0_1 n25_0_1 c25_0_1 A25_0_2 n25_0_2 c25_0_2 x25_1, e23 = .returned (.tuple #[.agg #[.slice A25_0_0 n25_0_0 c25_0_0, .slice A25_0_1 n25_0_1 c25_0_1, .slice A25_0_2 n25_0_2 c25_0_2], .int .i64 x25_1]) ∧ ( stW w24 at4 (.slice A25_0_0 n25_0_0 c25_0_0) fun w26 => stW w26 (at4.add 1) (.slice A25_0_1 n25_0_1 c25_0_1) fun w27 => stW w27 (at4.add 2) (.slice A25_0_2 n25_0_2 c25_0_2) fun w28 => Kr x25_1 w28)) ( sel (xt7 == (3 : Int)) ( j1 at2 at3 at4 xt7 (xt7 == (3 : Int)) w (fun w77 => ∀ _ : Fr, Kn  w77) (fun x78 w79 => ∀ _ : Fr, Kr x78 w79)) ( j1 at2 at3 at4 xt7 (xt7 == (4 : Int)) w (fun w80 => ∀ _ : Fr, Kn  w80) (fun x81 w82 => ∀ _ : Fr, Kr x81 w82)))
def wp (Aa0_0 : Option Addr) (na0_0 ca0_0 : Nat) (Aa0_1 : Option Addr) (na0_1 ca0_1 : Nat) (Aa0_2 : Option Addr) (na0_2 ca0_2 : Nat) (xa1_0 xa1_1 xa1_2 xa1_3 xa1_4 : Int) (ba1_5 : Bool) (xa1_6 : Int) (sa1_7 : ByteArray) (xa1_8 xa1_9 : Int) (ra1_10 ia1_10 : Nat) (Aa1_11 : Option Addr) (na1_11 ca1_11 : Nat) (w : World) (Q : Ending → World → Prop) : Prop := alW w (.cells #[.slice Aa0_0 na0_0 ca0_0, .slice Aa0_1 na0_1 ca0_1, .slice Aa0_2 na0_2 ca0_2] 128) fun B1 w2 => alW w2 (.cells #[.int .i64 xa1_0, .int .i64 xa1_1, .int .i64 xa1_2, .int .i64 xa1_3, .int .i64 xa1_4, .bool ba1_5, .int .i64 xa1_6, .string sa1_7, .int .i64 xa1_8, .int .i64 xa1_9, .complex .f64 ra1_10 ia1_10, .slice Aa1_11 na1_11 ca1_11] 94) fun B3 w4 => alW w4 (.cells #[.slice none 0 0, .slice none 0 0, .slice none 0 0] 128) fun B5 w6 => ldI w6 ⟨B3, 0, none⟩ .i64 fun x7 => sel (x7 == (1 : Int)) ( j0 (⟨B1, 0, none⟩ : Addr) (⟨B3, 0, none⟩ : Addr) (⟨B5, 0, none⟩ : Addr) x7 (x7 == (1 : Int)) w6 (fun w83 => ∀ _ : Fr, ldS w83 ⟨B1, 0, none⟩ fun A84 n84 c84 => ldS w83 ((⟨B1, 0, none⟩ : Addr).add 1) fun A85 n85 c85 => ldS w83 ((⟨B1, 0, none⟩ : Addr).add 2) fun A86 n86 c86 => stW w83 ⟨B5, 0, none⟩ (.slice A84 n84 c84) fun w87 => stW w87 ((⟨B5, 0, none⟩ : Addr).add 1) (.slice A85 n85 c85) fun w88 => stW w88 ((⟨B5, 0, none⟩ : Addr).add 2) (.slice A86 n86 c86) fun w89 => ldS w89 ⟨B5, 0, none⟩ fun A90 n90 c90 => ldS w89 ((⟨B5, 0, none⟩ : Addr).add 1) fun A91 n91 c91 => ldS w89 ((⟨B5, 0, none⟩ : Addr).add 2) fun A92 n92 c92 => Q (.returned (.tuple #[.agg #[.slice A90 n90 c90, .slice A91 n91 c91, .slice A92 n92 c92], .int .i64 (1 : Int)])) w89) (fun x93 w94 => ∀ _ : Fr, ldS w94 ⟨B5, 0, none⟩ fun A95 n95 c95 => ldS w94 ((⟨B5, 0, none⟩ : Addr).add 1) fun A96 n96 c96 => ldS w94 ((⟨B5, 0, none⟩ : Addr).add 2) fun A97 n97 c97 => Q (.returned (.tuple #[.agg #[.slice A95 n95 c95, .slice A96 n96 c96, .slice A97 n97 c97], .int .i64 x93])) w94)) ( j0 (⟨B1, 0, none⟩ : Addr) (⟨B3, 0, none⟩ : Addr) (⟨B5, 0, none⟩ : Addr) x7 (x7 == (2 : Int)) w6 (fun w98 => ∀ _ : Fr, ldS w98 ⟨B1, 0, none⟩ fun A99 n99 c99 => ldS w98 ((⟨B1, 0, none⟩ : Addr).add 1) fun A100 n100 c100 => ldS w98 ((⟨B1, 0, none⟩ : Addr).add 2) fun A101 n101 c101 => stW w98 ⟨B5, 0, none⟩ (.slice A99 n99 c99) fun w102 => stW w102 ((⟨B5, 0, none⟩ : Addr).add 1) (.slice A100 n100 c100) fun w103 => stW w103 ((⟨B5, 0, none⟩ : Addr).add 2) (.slice A101 n101 c101) fun w104 => ldS w104 ⟨B5, 0, none⟩ fun A105 n105 c105 => ldS w104 ((⟨B5, 0, none⟩ : Addr).add 1) fun A106 n106 c106 => ldS w104 ((⟨B5, 0, none⟩ : Addr).add 2) fun A107 n107 c107 => Q (.returned (.tuple #[.agg #[.slice A105 n105 c105, .slice A106 n106 c106, .slice A107 n107 c107], .int .i64 (1 : Int)])) w104) (fun x108 w109 => ∀ _ : Fr, ldS w109 ⟨B5, 0, none⟩ fun A110 n110 c110 => ldS w109 ((⟨B5, 0, none⟩ : Addr).add 1) fun A111 n111 c111 => ldS w109 ((⟨B5, 0, none⟩ : Addr).add 2) fun A112 n112 c112 => Q (.returned (.tuple #[.agg #[.slice A110 n110 c110, .slice A111 n111 c111, .slice A112 n112 c112], .int .i64 x108])) w109))
def D : Nat → Option DH := dtab []
def j2LO : LO := ⟨[2, 4], [4, 5], [], []⟩
def j2T : Spec := fun Q σ w => gAd (σ 2) fun at2 => gAd (σ 3) fun at3 => gAd (σ 4) fun at4 => gBool (σ 24) fun bt24 => j2 at2 at3 at4 bt24 w (fun w => ∀ d : Fr, Q .normal (ov d [(2, .pointer (some at2)), (4, .pointer (some at4))]) w) (fun xq5 w => ∀ d : Fr, Q .ret (ov d [(4, .pointer (some at4)), (5, .int .i64 xq5)]) w)
def j2tb : List (List Nat × Spec) := []
noncomputable def j2b : Code := (subC [1, 1, 1, 1, 1, 0, 1, 0, 1] body).getD .skip
theorem j2_eq (at2 at3 at4 : Addr) (bt24 : Bool) (Q : PQ) (σ : Fr) (w : World) :
    j2 at2 at3 at4 bt24 w (fun w => ∀ d : Fr, Q .normal (ov d [(2, .pointer (some at2)), (4, .pointer (some at4))]) w) (fun xq5 w => ∀ d : Fr, Q .ret (ov d [(4, .pointer (some at4)), (5, .int .i64 xq5)]) w) = codeW Tryz.prog hT 33 D (tab j2tb) [1, 1, 1, 1, 1, 0, 1, 0, 1] j2b (widen j2LO Q) (ov σ [(2, .pointer (some at2)), (3, .pointer (some at3)), (4, .pointer (some at4)), (24, .bool bt24)]) w := by cases bt24 <;> kernel_rfl
theorem j2_snd : ∀ c, subC [1, 1, 1, 1, 1, 0, 1, 0, 1] body = some c → Snd Tryz.prog 33 c j2T := by
  refine cut_of (hT := hT) (D := D) (l := j2tb) (b := j2b) (lo := j2LO) (by kernel_rfl) (by
    intro x hx
    simp only [j2tb, List.not_mem_nil] at hx
    ) (by kernel_rfl) (by kernel_rfl) ?_
  intro Q σ w h
  unfold j2T at h
  obtain ⟨at2, h2, h⟩ := gAd_elim h
  obtain ⟨at3, h3, h⟩ := gAd_elim h
  obtain ⟨at4, h4, h⟩ := gAd_elim h
  obtain ⟨bt24, h24, h⟩ := gBool_elim h
  rw [j2_eq (σ := σ)] at h
  have e : (ov σ [(2, .pointer (some at2)), (3, .pointer (some at3)), (4, .pointer (some at4)), (24, .bool bt24)]) = σ := ov_self (by simp [h2, h3, h4, h24])
  rw [e] at h
  exact h
def j1LO : LO := ⟨[2, 4], [4, 5], [], []⟩
def j1T : Spec := fun Q σ w => gAd (σ 2) fun at2 => gAd (σ 3) fun at3 => gAd (σ 4) fun at4 => gInt .i64 (σ 7) fun xt7 => gBool (σ 16) fun bt16 => j1 at2 at3 at4 xt7 bt16 w (fun w => ∀ d : Fr, Q .normal (ov d [(2, .pointer (some at2)), (4, .pointer (some at4))]) w) (fun xq5 w => ∀ d : Fr, Q .ret (ov d [(4, .pointer (some at4)), (5, .int .i64 xq5)]) w)
def j1tb : List (List Nat × Spec) := [([1, 1, 1, 1, 1, 0, 1, 0, 1], j2T)]
noncomputable def j1b : Code := (subC [1, 1, 1, 0, 1, 0, 1] body).getD .skip
theorem j1_eq (at2 at3 at4 : Addr) (xt7 : Int) (bt16 : Bool) (Q : PQ) (σ : Fr) (w : World) :
    j1 at2 at3 at4 xt7 bt16 w (fun w => ∀ d : Fr, Q .normal (ov d [(2, .pointer (some at2)), (4, .pointer (some at4))]) w) (fun xq5 w => ∀ d : Fr, Q .ret (ov d [(4, .pointer (some at4)), (5, .int .i64 xq5)]) w) = codeW Tryz.prog hT 33 D (tab j1tb) [1, 1, 1, 0, 1, 0, 1] j1b (widen j1LO Q) (ov σ [(2, .pointer (some at2)), (3, .pointer (some at3)), (4, .pointer (some at4)), (7, .int .i64 xt7), (16, .bool bt16)]) w := by cases bt16 <;> kernel_rfl
theorem j1_snd : ∀ c, subC [1, 1, 1, 0, 1, 0, 1] body = some c → Snd Tryz.prog 33 c j1T := by
  refine cut_of (hT := hT) (D := D) (l := j1tb) (b := j1b) (lo := j1LO) (by kernel_rfl) (by
    intro x hx
    simp only [j1tb, List.mem_cons, List.not_mem_nil, or_false] at hx
    subst hx
    exact j2_snd) (by kernel_rfl) (by kernel_rfl) ?_
  intro Q σ w h
  unfold j1T at h
  obtain ⟨at2, h2, h⟩ := gAd_elim h
  obtain ⟨at3, h3, h⟩ := gAd_elim h
  obtain ⟨at4, h4, h⟩ := gAd_elim h
  obtain ⟨xt7, h7, h⟩ := gInt_elim h
  obtain ⟨bt16, h16, h⟩ := gBool_elim h
  rw [j1_eq (σ := σ)] at h
  have e : (ov σ [(2, .pointer (some at2)), (3, .pointer (some at3)), (4, .pointer (some at4)), (7, .int .i64 xt7), (16, .bool bt16)]) = σ := ov_self (by simp [h2, h3, h4, h7, h16])
  rw [e] at h
  exact h
def j0LO : LO := ⟨[2, 4], [4, 5], [], []⟩
def j0T : Spec := fun Q σ w => gAd (σ 2) fun at2 => gAd (σ 3) fun at3 => gAd (σ 4) fun at4 => gInt .i64 (σ 7) fun xt7 => gBool (σ 8) fun bt8 => j0 at2 at3 at4 xt7 bt8 w (fun w => ∀ d : Fr, Q .normal (ov d [(2, .pointer (some at2)), (4, .pointer (some at4))]) w) (fun xq5 w => ∀ d : Fr, Q .ret (ov d [(4, .pointer (some at4)), (5, .int .i64 xq5)]) w)
def j0tb : List (List Nat × Spec) := [([1, 1, 1, 1, 1, 0, 1, 0, 1], j2T), ([1, 1, 1, 0, 1, 0, 1], j1T)]
noncomputable def j0b : Code := (subC [1, 0, 1, 0, 1] body).getD .skip
theorem j0_eq (at2 at3 at4 : Addr) (xt7 : Int) (bt8 : Bool) (Q : PQ) (σ : Fr) (w : World) :
    j0 at2 at3 at4 xt7 bt8 w (fun w => ∀ d : Fr, Q .normal (ov d [(2, .pointer (some at2)), (4, .pointer (some at4))]) w) (fun xq5 w => ∀ d : Fr, Q .ret (ov d [(4, .pointer (some at4)), (5, .int .i64 xq5)]) w) = codeW Tryz.prog hT 33 D (tab j0tb) [1, 0, 1, 0, 1] j0b (widen j0LO Q) (ov σ [(2, .pointer (some at2)), (3, .pointer (some at3)), (4, .pointer (some at4)), (7, .int .i64 xt7), (8, .bool bt8)]) w := by cases bt8 <;> kernel_rfl
theorem j0_snd : ∀ c, subC [1, 0, 1, 0, 1] body = some c → Snd Tryz.prog 33 c j0T := by
  refine cut_of (hT := hT) (D := D) (l := j0tb) (b := j0b) (lo := j0LO) (by kernel_rfl) (by
    intro x hx
    simp only [j0tb, List.mem_cons, List.not_mem_nil, or_false] at hx
    rcases hx with rfl | rfl
    · exact j2_snd
    · exact j1_snd) (by kernel_rfl) (by kernel_rfl) ?_
  intro Q σ w h
  unfold j0T at h
  obtain ⟨at2, h2, h⟩ := gAd_elim h
  obtain ⟨at3, h3, h⟩ := gAd_elim h
  obtain ⟨at4, h4, h⟩ := gAd_elim h
  obtain ⟨xt7, h7, h⟩ := gInt_elim h
  obtain ⟨bt8, h8, h⟩ := gBool_elim h
  rw [j0_eq (σ := σ)] at h
  have e : (ov σ [(2, .pointer (some at2)), (3, .pointer (some at3)), (4, .pointer (some at4)), (7, .int .i64 xt7), (8, .bool bt8)]) = σ := ov_self (by simp [h2, h3, h4, h7, h8])
  rw [e] at h
  exact h
def tb : List (List Nat × Spec) := [([1, 1, 1, 1, 1, 0, 1, 0, 1], j2T), ([1, 1, 1, 0, 1, 0, 1], j1T), ([1, 0, 1, 0, 1], j0T)]
theorem wp_eq (Aa0_0 : Option Addr) (na0_0 ca0_0 : Nat) (Aa0_1 : Option Addr) (na0_1 ca0_1 : Nat) (Aa0_2 : Option Addr) (na0_2 ca0_2 : Nat) (xa1_0 xa1_1 xa1_2 xa1_3 xa1_4 : Int) (ba1_5 : Bool) (xa1_6 : Int) (sa1_7 : ByteArray) (xa1_8 xa1_9 : Int) (ra1_10 ia1_10 : Nat) (Aa1_11 : Option Addr) (na1_11 ca1_11 : Nat) (w : World) (Q : Ending → World → Prop) :
    wp Aa0_0 na0_0 ca0_0 Aa0_1 na0_1 ca0_1 Aa0_2 na0_2 ca0_2 xa1_0 xa1_1 xa1_2 xa1_3 xa1_4 ba1_5 xa1_6 sa1_7 xa1_8 xa1_9 ra1_10 ia1_10 Aa1_11 na1_11 ca1_11 w Q = codeW Tryz.prog hT 33 D (tab tb) [] body (topQ Tryz.prog hT 33 [.cell 4 128, .tmp 5] Q) (argsF [.agg #[.slice Aa0_0 na0_0 ca0_0, .slice Aa0_1 na0_1 ca0_1, .slice Aa0_2 na0_2 ca0_2], .agg #[.int .i64 xa1_0, .int .i64 xa1_1, .int .i64 xa1_2, .int .i64 xa1_3, .int .i64 xa1_4, .bool ba1_5, .int .i64 xa1_6, .string sa1_7, .int .i64 xa1_8, .int .i64 xa1_9, .complex .f64 ra1_10 ia1_10, .slice Aa1_11 na1_11 ca1_11]]) w := by cases ba1_5 <;> kernel_rfl
theorem ok (Aa0_0 : Option Addr) (na0_0 ca0_0 : Nat) (Aa0_1 : Option Addr) (na0_1 ca0_1 : Nat) (Aa0_2 : Option Addr) (na0_2 ca0_2 : Nat) (xa1_0 xa1_1 xa1_2 xa1_3 xa1_4 : Int) (ba1_5 : Bool) (xa1_6 : Int) (sa1_7 : ByteArray) (xa1_8 xa1_9 : Int) (ra1_10 ia1_10 : Nat) (Aa1_11 : Option Addr) (na1_11 ca1_11 : Nat) (w : World) (Q : Ending → World → Prop) (h : wp Aa0_0 na0_0 ca0_0 Aa0_1 na0_1 ca0_1 Aa0_2 na0_2 ca0_2 xa1_0 xa1_1 xa1_2 xa1_3 xa1_4 ba1_5 xa1_6 sa1_7 xa1_8 xa1_9 ra1_10 ia1_10 Aa1_11 na1_11 ca1_11 w Q) : Calls Tryz.prog 75 #[.agg #[.slice Aa0_0 na0_0 ca0_0, .slice Aa0_1 na0_1 ca0_1, .slice Aa0_2 na0_2 ca0_2], .agg #[.int .i64 xa1_0, .int .i64 xa1_1, .int .i64 xa1_2, .int .i64 xa1_3, .int .i64 xa1_4, .bool ba1_5, .int .i64 xa1_6, .string sa1_7, .int .i64 xa1_8, .int .i64 xa1_9, .complex .f64 ra1_10 ia1_10, .slice Aa1_11 na1_11 ca1_11]] w Q := by
  rw [wp_eq] at h
  exact calls_of_codeW (c := body) (rs := [.cell 4 128, .tmp 5]) Tryz.func75 (by kernel_rfl) (by kernel_rfl) (by kernel_rfl) (by kernel_rfl) (by kernel_rfl) (tab_snd (by
    intro x hx
    simp only [tb, List.mem_cons, List.not_mem_nil, or_false] at hx
    rcases hx with rfl | rfl | rfl
    · exact j2_snd
    · exact j1_snd
    · exact j0_snd)) (by kernel_rfl) h
end f_ref05_Do
namespace f_ref05_Net
noncomputable def body : Code := (Tryz.f76.body).getD .skip
def wp (Aa0_0 : Option Addr) (na0_0 ca0_0 : Nat) (Aa0_1 : Option Addr) (na0_1 ca0_1 : Nat) (Aa0_2 : Option Addr) (na0_2 ca0_2 : Nat) (w : World) (Q : Ending → World → Prop) : Prop := alW w (.cells #[.slice Aa0_0 na0_0 ca0_0, .slice Aa0_1 na0_1 ca0_1, .slice Aa0_2 na0_2 ca0_2] 128) fun B1 w2 => alW w2 (.cells #[.slice none 0 0, .slice none 0 0] 29) fun B3 w4 => ldS w4 ⟨B1, 0, none⟩ fun A5 n5 c5 => ldS w4 ((⟨B1, 0, none⟩ : Addr).add 1) fun A6 n6 c6 => stW w4 ⟨B3, 0, none⟩ (.slice A5 n5 c5) fun w7 => stW w7 ((⟨B3, 0, none⟩ : Addr).add 1) (.slice A6 n6 c6) fun w8 => ldS w8 ⟨B3, 0, none⟩ fun A9 n9 c9 => ldS w8 ((⟨B3, 0, none⟩ : Addr).add 1) fun A10 n10 c10 => Q (.returned (.agg #[.slice A9 n9 c9, .slice A10 n10 c10])) w8
def D : Nat → Option DH := dtab []
def tb : List (List Nat × Spec) := []
theorem wp_eq (Aa0_0 : Option Addr) (na0_0 ca0_0 : Nat) (Aa0_1 : Option Addr) (na0_1 ca0_1 : Nat) (Aa0_2 : Option Addr) (na0_2 ca0_2 : Nat) (w : World) (Q : Ending → World → Prop) :
    wp Aa0_0 na0_0 ca0_0 Aa0_1 na0_1 ca0_1 Aa0_2 na0_2 ca0_2 w Q = codeW Tryz.prog hT 8 D (tab tb) [] body (topQ Tryz.prog hT 8 [.cell 2 29] Q) (argsF [.agg #[.slice Aa0_0 na0_0 ca0_0, .slice Aa0_1 na0_1 ca0_1, .slice Aa0_2 na0_2 ca0_2]]) w := by kernel_rfl
theorem ok (Aa0_0 : Option Addr) (na0_0 ca0_0 : Nat) (Aa0_1 : Option Addr) (na0_1 ca0_1 : Nat) (Aa0_2 : Option Addr) (na0_2 ca0_2 : Nat) (w : World) (Q : Ending → World → Prop) (h : wp Aa0_0 na0_0 ca0_0 Aa0_1 na0_1 ca0_1 Aa0_2 na0_2 ca0_2 w Q) : Calls Tryz.prog 76 #[.agg #[.slice Aa0_0 na0_0 ca0_0, .slice Aa0_1 na0_1 ca0_1, .slice Aa0_2 na0_2 ca0_2]] w Q := by
  rw [wp_eq] at h
  exact calls_of_codeW (c := body) (rs := [.cell 2 29]) Tryz.func76 (by kernel_rfl) (by kernel_rfl) (by kernel_rfl) (by kernel_rfl) (by kernel_rfl) (tab_snd (by
    intro x hx
    simp only [tb, List.not_mem_nil] at hx
    )) (by kernel_rfl) h
end f_ref05_Net
namespace f_ref05_edge
noncomputable def body : Code := (Tryz.f100.body).getD .skip
def wp (Aa0_0 : Option Addr) (na0_0 ca0_0 : Nat) (Aa0_1 : Option Addr) (na0_1 ca0_1 : Nat) (Aa0_2 : Option Addr) (na0_2 ca0_2 : Nat) (xa1_0 xa1_1 xa1_2 xa1_3 xa1_4 : Int) (ba1_5 : Bool) (xa1_6 : Int) (sa1_7 : ByteArray) (xa1_8 xa1_9 : Int) (ra1_10 ia1_10 : Nat) (Aa1_11 : Option Addr) (na1_11 ca1_11 : Nat) (w : World) (Q : Ending → World → Prop) : Prop := alW w (.cells #[.slice Aa0_0 na0_0 ca0_0, .slice Aa0_1 na0_1 ca0_1, .slice Aa0_2 na0_2 ca0_2] 128) fun B1 w2 => alW w2 (.cells #[.int .i64 xa1_0, .int .i64 xa1_1, .int .i64 xa1_2, .int .i64 xa1_3, .int .i64 xa1_4, .bool ba1_5, .int .i64 xa1_6, .string sa1_7, .int .i64 xa1_8, .int .i64 xa1_9, .complex .f64 ra1_10 ia1_10, .slice Aa1_11 na1_11 ca1_11] 94) fun B3 w4 => alW w4 (.cells #[.slice none 0 0, .slice none 0 0, .slice none 0 0] 128) fun B5 w6 => ldS w6 ⟨B1, 0, none⟩ fun A7 n7 c7 => ldS w6 ((⟨B1, 0, none⟩ : Addr).add 1) fun A8 n8 c8 => ldS w6 ((⟨B1, 0, none⟩ : Addr).add 2) fun A9 n9 c9 => ldI w6 ((⟨B3, 0, none⟩ : Addr).add 1) .i64 fun x10 => Calls Tryz.prog 114 #[.agg #[.slice A7 n7 c7, .slice A8 n8 c8, .slice A9 n9 c9], .int .i64 x10] w6 fun e11 w12 => ∃ x13_0_0 x13_0_1 x13_0_2 x13_0_3 b13_1, e11 = .returned (.tuple #[.agg #[.int .i64 x13_0_0, .int .i64 x13_0_1, .int .i64 x13_0_2, .int .i64 x13_0_3], .bool b13_1]) ∧ ( alW w12 (.cells #[.int .i64 (0 : Int), .int .i64 (0 : Int), .int .i64 (0 : Int), .int .i64 (0 : Int)] 31) fun B14 w15 => stW w15 ⟨B14, 0, none⟩ (.int .i64 x13_0_0) fun w16 => stW w16 ((⟨B14, 0, none⟩ : Addr).add 1) (.int .i64 x13_0_1) fun w17 => stW w17 ((⟨B14, 0, none⟩ : Addr).add 2) (.int .i64 x13_0_2) fun w18 => stW w18 ((⟨B14, 0, none⟩ : Addr).add 3) (.int .i64 x13_0_3) fun w19 => ldI w19 ⟨B3, 0, none⟩ .i64 fun x20 => sel (x20 == (4 : Int)) ( ldI w19 ((⟨B3, 0, none⟩ : Addr).add 1) .i64 fun x21 => Calls Tryz.prog 109 #[.int .i64 x21] w19 fun e22 w23 => ∃ b24, e22 = .returned (.bool b24) ∧ ( sel b24 ( ldS w23 ⟨B1, 0, none⟩ fun A25 n25 c25 => ldS w23 ((⟨B1, 0, none⟩ : Addr).add 1) fun A26 n26 c26 => ldS w23 ((⟨B1, 0, none⟩ : Addr).add 2) fun A27 n27 c27 => stW w23 ⟨B5, 0, none⟩ (.slice A25 n25 c25) fun w28 => stW w28 ((⟨B5, 0, none⟩ : Addr).add 1) (.slice A26 n26 c26) fun w29 => stW w29 ((⟨B5, 0, none⟩ : Addr).add 2) (.slice A27 n27 c27) fun w30 => ldS w30 ⟨B5, 0, none⟩ fun A31 n31 c31 => ldS w30 ((⟨B5, 0, none⟩ : Addr).add 1) fun A32 n32 c32 => ldS w30 ((⟨B5, 0, none⟩ : Addr).add 2) fun A33 n33 c33 => Q (.returned (.tuple #[.agg #[.slice A31 n31 c31, .slice A32 n32 c32, .slice A33 n33 c33], .int .i64 (1 : Int)])) w30) ( sel (!b13_1) ( ldS w23 ⟨B1, 0, none⟩ fun A34 n34 c34 => ldS w23 ((⟨B1, 0, none⟩ : Addr).add 1) fun A35 n35 c35 => ldS w23 ((⟨B1, 0, none⟩ : Addr).add 2) fun A36 n36 c36 => stW w23 ⟨B5, 0, none⟩ (.slice A34 n34 c34) fun w37 => stW w37 ((⟨B5, 0, none⟩ : Addr).add 1) (.slice A35 n35 c35) fun w38 => stW w38 ((⟨B5, 0, none⟩ : Addr).add 2) (.slice A36 n36 c36) fun w39 => ldS w39 ⟨B5, 0, none⟩ fun A40 n40 c40 => ldS w39 ((⟨B5, 0, none⟩ : Addr).add 1) fun A41 n41 c41 => ldS w39 ((⟨B5, 0, none⟩ : Addr).add 2) fun A42 n42 c42 => Q (.returned (.tuple #[.agg #[.slice A40 n40 c40, .slice A41 n41 c41, .slice A42 n42 c42], .int .i64 (51 : Int)])) w39) ( ldS w23 ((⟨B1, 0, none⟩ : Addr).add 1) fun A43 n43 c43 => ldI w23 ((⟨B3, 0, none⟩ : Addr).add 1) .i64 fun x44 => Calls Tryz.prog 115 #[.slice A43 n43 c43, .int .i64 x44] w23 fun e45 w46 => ∃ A47 n47 c47, e45 = .returned (.slice A47 n47 c47) ∧ ( stW w46 ((⟨B1, 0, none⟩ : Addr).add 1) (.slice A47 n47 c47) fun w48 => ldS w48 ((⟨B1, 0, none⟩ : Addr).add 2) fun A49 n49 c49 => ldI w48 ((⟨B3, 0, none⟩ : Addr).add 1) .i64 fun x50 => Calls Tryz.prog 113 #[.slice A49 n49 c49, .agg #[.bool true, .int .i64 x50]] w48 fun e51 w52 => ∃ A53 n53 c53, e51 = .returned (.slice A53 n53 c53) ∧ ( stW w52 ((⟨B1, 0, none⟩ : Addr).add 2) (.slice A53 n53 c53) fun w54 => ldS w54 ⟨B1, 0, none⟩ fun A55 n55 c55 => ldS w54 ((⟨B1, 0, none⟩ : Addr).add 1) fun A56 n56 c56 => ldS w54 ((⟨B1, 0, none⟩ : Addr).add 2) fun A57 n57 c57 => stW w54 ⟨B5, 0, none⟩ (.slice A55 n55 c55) fun w58 => stW w58 ((⟨B5, 0, none⟩ : Addr).add 1) (.slice A56 n56 c56) fun w59 => stW w59 ((⟨B5, 0, none⟩ : Addr).add 2) (.slice A57 n57 c57) fun w60 => ldS w60 ⟨B5, 0, none⟩ fun A61 n61 c61 => ldS w60 ((⟨B5, 0, none⟩ : Addr).add 1) fun A62 n62 c62 => ldS w60 ((⟨B5, 0, none⟩ : Addr).add 2) fun A63 n63 c63 => Q (.returned (.tuple #[.agg #[.slice A61 n61 c61, .slice A62 n62 c62, .slice A63 n63 c63], .int .i64 (0 : Int)])) w60)))))) ( ldI w19 ((⟨B3, 0, none⟩ : Addr).add 1) .i64 fun x64 => Calls Tryz.prog 109 #[.int .i64 x64] w19 fun e65 w66 => ∃ b67, e65 = .returned (.bool b67) ∧ ( sel b67 ( ldS w66 ⟨B1, 0, none⟩ fun A68 n68 c68 => ldS w66 ((⟨B1, 0, none⟩ : Addr).add 1) fun A69 n69 c69 => ldS w66 ((⟨B1, 0, none⟩ : Addr).add 2) fun A70 n70 c70 => stW w66 ⟨B5, 0, none⟩ (.slice A68 n68 c68) fun w71 => stW w71 ((⟨B5, 0, none⟩ : Addr).add 1) (.slice A69 n69 c69) fun w72 => stW w72 ((⟨B5, 0, none⟩ : Addr).add 2) (.slice A70 n70 c70) fun w73 => ldS w73 ⟨B5, 0, none⟩ fun A74 n74 c74 => ldS w73 ((⟨B5, 0, none⟩ : Addr).add 1) fun A75 n75 c75 => ldS w73 ((⟨B5, 0, none⟩ : Addr).add 2) fun A76 n76 c76 => Q (.returned (.tuple #[.agg #[.slice A74 n74 c74, .slice A75 n75 c75, .slice A76 n76 c76], .int .i64 (1 : Int)])) w73) ( ldI w66 ((⟨B3, 0, none⟩ : Addr).add 2) .i64 fun x77 => Calls Tryz.prog 109 #[.int .i64 x77] w66 fun e78 w79 => ∃ b80, e78 = .returned (.bool b80) ∧ ( sel b80 ( ldS w79 ⟨B1, 0, none⟩ fun A81 n81 c81 => ldS w79 ((⟨B1, 0, none⟩ : Addr).add 1) fun A82 n82 c82 => ldS w79 ((⟨B1, 0, none⟩ : Addr).add 2) fun A83 n83 c83 => stW w79 ⟨B5, 0, none⟩ (.slice A81 n81 c81) fun w84 => stW w84 ((⟨B5, 0, none⟩ : Addr).add 1) (.slice A82 n82 c82) fun w85 => stW w85 ((⟨B5, 0, none⟩ : Addr).add 2) (.slice A83 n83 c83) fun w86 => ldS w86 ⟨B5, 0, none⟩ fun A87 n87 c87 => ldS w86 ((⟨B5, 0, none⟩ : Addr).add 1) fun A88 n88 c88 => ldS w86 ((⟨B5, 0, none⟩ : Addr).add 2) fun A89 n89 c89 => Q (.returned (.tuple #[.agg #[.slice A87 n87 c87, .slice A88 n88 c88, .slice A89 n89 c89], .int .i64 (1 : Int)])) w86) ( ldI w79 ((⟨B3, 0, none⟩ : Addr).add 3) .i64 fun x90 => Calls Tryz.prog 109 #[.int .i64 x90] w79 fun e91 w92 => ∃ b93, e91 = .returned (.bool b93) ∧ ( sel b93 ( ldS w92 ⟨B1, 0, none⟩ fun A94 n94 c94 => ldS w92 ((⟨B1, 0, none⟩ : Addr).add 1) fun A95 n95 c95 => ldS w92 ((⟨B1, 0, none⟩ : Addr).add 2) fun A96 n96 c96 => stW w92 ⟨B5, 0, none⟩ (.slice A94 n94 c94) fun w97 => stW w97 ((⟨B5, 0, none⟩ : Addr).add 1) (.slice A95 n95 c95) fun w98 => stW w98 ((⟨B5, 0, none⟩ : Addr).add 2) (.slice A96 n96 c96) fun w99 => ldS w99 ⟨B5, 0, none⟩ fun A100 n100 c100 => ldS w99 ((⟨B5, 0, none⟩ : Addr).add 1) fun A101 n101 c101 => ldS w99 ((⟨B5, 0, none⟩ : Addr).add 2) fun A102 n102 c102 => Q (.returned (.tuple #[.agg #[.slice A100 n100 c100, .slice A101 n101 c101, .slice A102 n102 c102], .int .i64 (1 : Int)])) w99) ( ldI w92 ((⟨B3, 0, none⟩ : Addr).add 4) .i64 fun x103 => sel (decide (x103 < (0 : Int))) ( ldS w92 ⟨B1, 0, none⟩ fun A104 n104 c104 => ldS w92 ((⟨B1, 0, none⟩ : Addr).add 1) fun A105 n105 c105 => ldS w92 ((⟨B1, 0, none⟩ : Addr).add 2) fun A106 n106 c106 => stW w92 ⟨B5, 0, none⟩ (.slice A104 n104 c104) fun w107 => stW w107 ((⟨B5, 0, none⟩ : Addr).add 1) (.slice A105 n105 c105) fun w108 => stW w108 ((⟨B5, 0, none⟩ : Addr).add 2) (.slice A106 n106 c106) fun w109 => ldS w109 ⟨B5, 0, none⟩ fun A110 n110 c110 => ldS w109 ((⟨B5, 0, none⟩ : Addr).add 1) fun A111 n111 c111 => ldS w109 ((⟨B5, 0, none⟩ : Addr).add 2) fun A112 n112 c112 => Q (.returned (.tuple #[.agg #[.slice A110 n110 c110, .slice A111 n111 c111, .slice A112 n112 c112], .int .i64 (53 : Int)])) w109) ( ldI w92 ((⟨B3, 0, none⟩ : Addr).add 4) .i64 fun x113 => sel (decide (x113 > (1099511627776 : Int))) ( ldS w92 ⟨B1, 0, none⟩ fun A114 n114 c114 => ldS w92 ((⟨B1, 0, none⟩ : Addr).add 1) fun A115 n115 c115 => ldS w92 ((⟨B1, 0, none⟩ : Addr).add 2) fun A116 n116 c116 => stW w92 ⟨B5, 0, none⟩ (.slice A114 n114 c114) fun w117 => stW w117 ((⟨B5, 0, none⟩ : Addr).add 1) (.slice A115 n115 c115) fun w118 => stW w118 ((⟨B5, 0, none⟩ : Addr).add 2) (.slice A116 n116 c116) fun w119 => ldS w119 ⟨B5, 0, none⟩ fun A120 n120 c120 => ldS w119 ((⟨B5, 0, none⟩ : Addr).add 1) fun A121 n121 c121 => ldS w119 ((⟨B5, 0, none⟩ : Addr).add 2) fun A122 n122 c122 => Q (.returned (.tuple #[.agg #[.slice A120 n120 c120, .slice A121 n121 c121, .slice A122 n122 c122], .int .i64 (53 : Int)])) w119) ( sel b13_1 ( ldS w92 ⟨B1, 0, none⟩ fun A123 n123 c123 => ldS w92 ((⟨B1, 0, none⟩ : Addr).add 1) fun A124 n124 c124 => ldS w92 ((⟨B1, 0, none⟩ : Addr).add 2) fun A125 n125 c125 => stW w92 ⟨B5, 0, none⟩ (.slice A123 n123 c123) fun w126 => stW w126 ((⟨B5, 0, none⟩ : Addr).add 1) (.slice A124 n124 c124) fun w127 => stW w127 ((⟨B5, 0, none⟩ : Addr).add 2) (.slice A125 n125 c125) fun w128 => ldS w128 ⟨B5, 0, none⟩ fun A129 n129 c129 => ldS w128 ((⟨B5, 0, none⟩ : Addr).add 1) fun A130 n130 c130 => ldS w128 ((⟨B5, 0, none⟩ : Addr).add 2) fun A131 n131 c131 => Q (.returned (.tuple #[.agg #[.slice A129 n129 c129, .slice A130 n130 c130, .slice A131 n131 c131], .int .i64 (50 : Int)])) w128) ( ldS w92 ⟨B1, 0, none⟩ fun A132 n132 c132 => ldS w92 ((⟨B1, 0, none⟩ : Addr).add 1) fun A133 n133 c133 => ldS w92 ((⟨B1, 0, none⟩ : Addr).add 2) fun A134 n134 c134 => ldI w92 ((⟨B3, 0, none⟩ : Addr).add 2) .i64 fun x135 => Calls Tryz.prog 110 #[.agg #[.slice A132 n132 c132, .slice A133 n133 c133, .slice A134 n134 c134], .int .i64 x135] w92 fun e136 w137 => ∃ b138, e136 = .returned (.bool b138) ∧ ( sel (!b138) ( ldS w137 ⟨B1, 0, none⟩ fun A139 n139 c139 => ldS w137 ((⟨B1, 0, none⟩ : Addr).add 1) fun A140 n140 c140 => ldS w137 ((⟨B1, 0, none⟩ : Addr).add 2) fun A141 n141 c141 => stW w137 ⟨B5, 0, none⟩ (.slice A139 n139 c139) fun w142 => stW w142 ((⟨B5, 0, none⟩ : Addr).add 1) (.slice A140 n140 c140) fun w143 => stW w143 ((⟨B5, 0, none⟩ : Addr).add 2) (.slice A141 n141 c141) fun w144 => ldS w144 ⟨B5, 0, none⟩ fun A145 n145 c145 => ldS w144 ((⟨B5, 0, none⟩ : Addr).add 1) fun A146 n146 c146 => ldS w144 ((⟨B5, 0, none⟩ : Addr).add 2) fun A147 n147 c147 => Q (.returned (.tuple #[.agg #[.slice A145 n145 c145, .slice A146 n146 c146, .slice A147 n147 c147], .int .i64 (51 : Int)])) w144) ( ldS w137 ⟨B1, 0, none⟩ fun A148 n148 c148 => ldS w137 ((⟨B1, 0, none⟩ : Addr).add 1) fun A149 n149 c149 => ldS w137 ((⟨B1, 0, none⟩ : Addr).add 2) fun A150 n150 c150 => ldI w137 ((⟨B3, 0, none⟩ : Addr).add 3) .i64 fun x151 => Calls Tryz.prog 110 #[.agg #[.slice A148 n148 c148, .slice A149 n149 c149, .slice A150 n150 c150], .int .i64 x151] w137 fun e152 w153 => ∃ b154, e152 = .returned (.bool b154) ∧ ( sel (!b154) ( ldS w153 ⟨B1, 0, none⟩ fun A155 n155 c155 => ldS w153 ((⟨B1, 0, none⟩ : Addr).add 1) fun A156 n156 c156 => ldS w153 ((⟨B1, 0, none⟩ : Addr).add 2) fun A157 n157 c157 => stW w153 ⟨B5, 0, none⟩ (.slice A155 n155 c155) fun w158 => stW w158 ((⟨B5, 0, none⟩ : Addr).add 1) (.slice A156 n156 c156) fun w159 => stW w159 ((⟨B5, 0, none⟩ : Addr).add 2) (.slice A157 n157 c157) fun w160 => ldS w160 ⟨B5, 0, none⟩ fun A161 n161 c161 => ldS w160 ((⟨B5, 0, none⟩ : Addr).add 1) fun A162 n162 c162 => ldS w160 ((⟨B5, 0, none⟩ : Addr).add 2) fun A163 n163 c163 => Q (.returned (.tuple #[.agg #[.slice A161 n161 c161, .slice A162 n162 c162, .slice A163 n163 c163], .int .i64 (51 : Int)])) w160) ( ldS w153 ((⟨B1, 0, none⟩ : Addr).add 1) fun A164 n164 c164 => sel (decide ((n164 : Int) ≥ (2048 : Int))) ( ldS w153 ⟨B1, 0, none⟩ fun A165 n165 c165 => ldS w153 ((⟨B1, 0, none⟩ : Addr).add 1) fun A166 n166 c166 => ldS w153 ((⟨B1, 0, none⟩ : Addr).add 2) fun A167 n167 c167 => stW w153 ⟨B5, 0, none⟩ (.slice A165 n165 c165) fun w168 => stW w168 ((⟨B5, 0, none⟩ : Addr).add 1) (.slice A166 n166 c166) fun w169 => stW w169 ((⟨B5, 0, none⟩ : Addr).add 2) (.slice A167 n167 c167) fun w170 => ldS w170 ⟨B5, 0, none⟩ fun A171 n171 c171 => ldS w170 ((⟨B5, 0, none⟩ : Addr).add 1) fun A172 n172 c172 => ldS w170 ((⟨B5, 0, none⟩ : Addr).add 2) fun A173 n173 c173 => Q (.returned (.tuple #[.agg #[.slice A171 n171 c171, .slice A172 n172 c172, .slice A173 n173 c173], .int .i64 (55 : Int)])) w170) ( ldS w153 ((⟨B1, 0, none⟩ : Addr).add 1) fun A174 n174 c174 => ldI w153 ((⟨B3, 0, none⟩ : Addr).add 1) .i64 fun x175 => ldI w153 ((⟨B3, 0, none⟩ : Addr).add 2) .i64 fun x176 => ldI w153 ((⟨B3, 0, none⟩ : Addr).add 3) .i64 fun x177 => ldI w153 ((⟨B3, 0, none⟩ : Addr).add 4) .i64 fun x178 => Calls Tryz.prog 116 #[.slice A174 n174 c174, .agg #[.int .i64 x175, .int .i64 x176, .int .i64 x177, .int .i64 x178]] w153 fun e179 w180 => ∃ A181 n181 c181, e179 = .returned (.slice A181 n181 c181) ∧ ( stW w180 ((⟨B1, 0, none⟩ : Addr).add 1) (.slice A181 n181 c181) fun w182 => ldS w182 ⟨B1, 0, none⟩ fun A183 n183 c183 => ldS w182 ((⟨B1, 0, none⟩ : Addr).add 1) fun A184 n184 c184 => ldS w182 ((⟨B1, 0, none⟩ : Addr).add 2) fun A185 n185 c185 => stW w182 ⟨B5, 0, none⟩ (.slice A183 n183 c183) fun w186 => stW w186 ((⟨B5, 0, none⟩ : Addr).add 1) (.slice A184 n184 c184) fun w187 => stW w187 ((⟨B5, 0, none⟩ : Addr).add 2) (.slice A185 n185 c185) fun w188 => ldS w188 ⟨B5, 0, none⟩ fun A189 n189 c189 => ldS w188 ((⟨B5, 0, none⟩ : Addr).add 1) fun A190 n190 c190 => ldS w188 ((⟨B5, 0, none⟩ : Addr).add 2) fun A191 n191 c191 => Q (.returned (.tuple #[.agg #[.slice A189 n189 c189, .slice A190 n190 c190, .slice A191 n191 c191], .int .i64 (0 : Int)])) w188)))))))))))))))))
def D : Nat → Option DH := dtab []
def tb : List (List Nat × Spec) := []
theorem wp_eq (Aa0_0 : Option Addr) (na0_0 ca0_0 : Nat) (Aa0_1 : Option Addr) (na0_1 ca0_1 : Nat) (Aa0_2 : Option Addr) (na0_2 ca0_2 : Nat) (xa1_0 xa1_1 xa1_2 xa1_3 xa1_4 : Int) (ba1_5 : Bool) (xa1_6 : Int) (sa1_7 : ByteArray) (xa1_8 xa1_9 : Int) (ra1_10 ia1_10 : Nat) (Aa1_11 : Option Addr) (na1_11 ca1_11 : Nat) (w : World) (Q : Ending → World → Prop) :
    wp Aa0_0 na0_0 ca0_0 Aa0_1 na0_1 ca0_1 Aa0_2 na0_2 ca0_2 xa1_0 xa1_1 xa1_2 xa1_3 xa1_4 ba1_5 xa1_6 sa1_7 xa1_8 xa1_9 ra1_10 ia1_10 Aa1_11 na1_11 ca1_11 w Q = codeW Tryz.prog hT 96 D (tab tb) [] body (topQ Tryz.prog hT 96 [.cell 4 128, .tmp 5] Q) (argsF [.agg #[.slice Aa0_0 na0_0 ca0_0, .slice Aa0_1 na0_1 ca0_1, .slice Aa0_2 na0_2 ca0_2], .agg #[.int .i64 xa1_0, .int .i64 xa1_1, .int .i64 xa1_2, .int .i64 xa1_3, .int .i64 xa1_4, .bool ba1_5, .int .i64 xa1_6, .string sa1_7, .int .i64 xa1_8, .int .i64 xa1_9, .complex .f64 ra1_10 ia1_10, .slice Aa1_11 na1_11 ca1_11]]) w := by cases ba1_5 <;> kernel_rfl
theorem ok (Aa0_0 : Option Addr) (na0_0 ca0_0 : Nat) (Aa0_1 : Option Addr) (na0_1 ca0_1 : Nat) (Aa0_2 : Option Addr) (na0_2 ca0_2 : Nat) (xa1_0 xa1_1 xa1_2 xa1_3 xa1_4 : Int) (ba1_5 : Bool) (xa1_6 : Int) (sa1_7 : ByteArray) (xa1_8 xa1_9 : Int) (ra1_10 ia1_10 : Nat) (Aa1_11 : Option Addr) (na1_11 ca1_11 : Nat) (w : World) (Q : Ending → World → Prop) (h : wp Aa0_0 na0_0 ca0_0 Aa0_1 na0_1 ca0_1 Aa0_2 na0_2 ca0_2 xa1_0 xa1_1 xa1_2 xa1_3 xa1_4 ba1_5 xa1_6 sa1_7 xa1_8 xa1_9 ra1_10 ia1_10 Aa1_11 na1_11 ca1_11 w Q) : Calls Tryz.prog 100 #[.agg #[.slice Aa0_0 na0_0 ca0_0, .slice Aa0_1 na0_1 ca0_1, .slice Aa0_2 na0_2 ca0_2], .agg #[.int .i64 xa1_0, .int .i64 xa1_1, .int .i64 xa1_2, .int .i64 xa1_3, .int .i64 xa1_4, .bool ba1_5, .int .i64 xa1_6, .string sa1_7, .int .i64 xa1_8, .int .i64 xa1_9, .complex .f64 ra1_10 ia1_10, .slice Aa1_11 na1_11 ca1_11]] w Q := by
  rw [wp_eq] at h
  exact calls_of_codeW (c := body) (rs := [.cell 4 128, .tmp 5]) Tryz.func100 (by kernel_rfl) (by kernel_rfl) (by kernel_rfl) (by kernel_rfl) (by kernel_rfl) (tab_snd (by
    intro x hx
    simp only [tb, List.not_mem_nil] at hx
    )) (by kernel_rfl) h
end f_ref05_edge
namespace f_law18_alive
noncomputable def body : Code := (Tryz.f9.body).getD .skip
def j0 (pt1 : Option Addr) (xt2 xt3 xt4 xt5 : Int) (bt6 : Bool) (xt7 xt8 : Int) (bt9 : Bool) (xt10 xt11 xt12 : Int) (At13 : Option Addr) (nt13 ct13 : Nat) (xt14 : Int) (w : World) (Kr : Bool → World → Prop) : Prop := Calls Tryz.prog 11 #[.pointer pt1] w fun e42 w43 => ∃ x44_0 x44_1, e42 = .returned (.tuple #[.int .i64 x44_0, .int .i64 x44_1]) ∧ ( sel (xt2 == (0 : Int)) ( sel (xt3 == (0 : Int)) ( sel (xt4 == (0 : Int)) ( sel (xt5 == (0 : Int)) ( sel bt6 ( sel (xt7 == (0 : Int)) ( sel (xt8 == (0 : Int)) ( sel (!bt9) ( sel (xt10 == (0 : Int)) ( sel (xt11 == (2 : Int)) ( sel (xt12 == (0 : Int)) ( sel ((nt13 : Int) == (2 : Int)) ( sel (xt14 == (0 : Int)) ( Calls Tryz.prog 12 #[.pointer pt1] w43 fun e45 w46 => ∃ x47, e45 = .returned (.int .i64 x47) ∧ ( sel (x47 == (2 : Int)) ( sel (x44_0 == (3 : Int)) ( Kr (x44_1 == (1 : Int)) w46) ( Kr false w46)) ( Kr false w46))) ( Kr false w43)) ( Kr false w43)) ( Kr false w43)) ( Kr false w43)) ( Kr false w43)) ( Kr false w43)) ( Kr false w43)) ( Kr false w43)) ( Kr false w43)) ( Kr false w43)) ( Kr false w43)) ( Kr false w43)) ( Kr false w43))
def wp  (w : World) (Q : Ending → World → Prop) : Prop := alW w (.cells #[.int .i64 (3 : Int)] 3) fun B1 w2 => Calls Tryz.prog 8 #[.slice (some (⟨B1, 0, none⟩ : Addr)) 1 1] w2 fun e3 w4 => ∃ p5, e3 = .returned (.pointer p5) ∧ ( sel p5.isNone ( Q (.returned (.bool false)) w4) ( Calls Tryz.prog 28 #[.pointer p5, .int .i64 (1 : Int)] w4 fun e6 w7 => ∃ x8, e6 = .returned (.int .i64 x8) ∧ ( sel (x8 != (0 : Int)) ( Q (.returned (.bool false)) w7) ( Calls Tryz.prog 28 #[.pointer p5, .int .i64 (2 : Int)] w7 fun e9 w10 => ∃ x11, e9 = .returned (.int .i64 x11) ∧ ( sel (x11 != (0 : Int)) ( Q (.returned (.bool false)) w10) ( Calls Tryz.prog 28 #[.pointer p5, .int .i64 (3 : Int)] w10 fun e12 w13 => ∃ x14, e12 = .returned (.int .i64 x14) ∧ ( sel (x14 != (0 : Int)) ( Q (.returned (.bool false)) w13) ( Calls Tryz.prog 18 #[.pointer p5, .int .i64 (7 : Int), .int .i64 (1 : Int), .int .i64 (2 : Int)] w13 fun e15 w16 => ∃ x17, e15 = .returned (.int .i64 x17) ∧ ( Calls Tryz.prog 18 #[.pointer p5, .int .i64 (8 : Int), .int .i64 (2 : Int), .int .i64 (3 : Int)] w16 fun e18 w19 => ∃ x20, e18 = .returned (.int .i64 x20) ∧ ( Calls Tryz.prog 18 #[.pointer p5, .int .i64 (9 : Int), .int .i64 (1 : Int), .int .i64 (3 : Int)] w19 fun e21 w22 => ∃ x23, e21 = .returned (.int .i64 x23) ∧ ( Calls Tryz.prog 23 #[.pointer p5, .int .i64 (8 : Int)] w22 fun e24 w25 => ∃ x26, e24 = .returned (.int .i64 x26) ∧ ( Calls Tryz.prog 16 #[.pointer p5, .int .i64 (2 : Int), .int .i64 (3 : Int)] w25 fun e27 w28 => ∃ b29_0 x29_1, e27 = .returned (.tuple #[.bool b29_0, .int .i64 x29_1]) ∧ ( Calls Tryz.prog 23 #[.pointer p5, .int .i64 (9 : Int)] w28 fun e30 w31 => ∃ x32, e30 = .returned (.int .i64 x32) ∧ ( Calls Tryz.prog 16 #[.pointer p5, .int .i64 (2 : Int), .int .i64 (3 : Int)] w31 fun e33 w34 => ∃ b35_0 x35_1, e33 = .returned (.tuple #[.bool b35_0, .int .i64 x35_1]) ∧ ( Calls Tryz.prog 29 #[.pointer p5, .int .i64 (1 : Int)] w34 fun e36 w37 => ∃ x38_0 x38_1, e36 = .returned (.tuple #[.int .i64 x38_0, .int .i64 x38_1]) ∧ ( Calls Tryz.prog 17 #[.pointer p5, .int .i64 (2 : Int)] w37 fun e39 w40 => ∃ A41_0 n41_0 c41_0 x41_1, e39 = .returned (.tuple #[.slice A41_0 n41_0 c41_0, .int .i64 x41_1]) ∧ ( j0 p5 x17 x20 x23 x26 b29_0 x29_1 x32 b35_0 x35_1 x38_0 x38_1 A41_0 n41_0 c41_0 x41_1 w40 (fun b48 w49 => ∀ _ : Fr, Q (.returned (.bool b48)) w49))))))))))))))))))
def D : Nat → Option DH := dtab []
def j0LO : LO := ⟨[], [0], [], []⟩
def j0T : Spec := fun Q σ w => gPtr (σ 1) fun pt1 => gInt .i64 (σ 2) fun xt2 => gInt .i64 (σ 3) fun xt3 => gInt .i64 (σ 4) fun xt4 => gInt .i64 (σ 5) fun xt5 => gBool (σ 6) fun bt6 => gInt .i64 (σ 7) fun xt7 => gInt .i64 (σ 8) fun xt8 => gBool (σ 9) fun bt9 => gInt .i64 (σ 10) fun xt10 => gInt .i64 (σ 11) fun xt11 => gInt .i64 (σ 12) fun xt12 => gSlice (σ 13) fun At13 nt13 ct13 => gInt .i64 (σ 14) fun xt14 => j0 pt1 xt2 xt3 xt4 xt5 bt6 xt7 xt8 bt9 xt10 xt11 xt12 At13 nt13 ct13 xt14 w (fun bq0 w => ∀ d : Fr, Q .ret (ov d [(0, .bool bq0)]) w)
def j0tb : List (List Nat × Spec) := []
noncomputable def j0b : Code := (subC [1, 1, 1, 1, 1, 1, 1, 1, 1, 1] body).getD .skip
theorem j0_eq (pt1 : Option Addr) (xt2 xt3 xt4 xt5 : Int) (bt6 : Bool) (xt7 xt8 : Int) (bt9 : Bool) (xt10 xt11 xt12 : Int) (At13 : Option Addr) (nt13 ct13 : Nat) (xt14 : Int) (Q : PQ) (σ : Fr) (w : World) :
    j0 pt1 xt2 xt3 xt4 xt5 bt6 xt7 xt8 bt9 xt10 xt11 xt12 At13 nt13 ct13 xt14 w (fun bq0 w => ∀ d : Fr, Q .ret (ov d [(0, .bool bq0)]) w) = codeW Tryz.prog hT 134 D (tab j0tb) [1, 1, 1, 1, 1, 1, 1, 1, 1, 1] j0b (widen j0LO Q) (ov σ [(1, .pointer pt1), (2, .int .i64 xt2), (3, .int .i64 xt3), (4, .int .i64 xt4), (5, .int .i64 xt5), (6, .bool bt6), (7, .int .i64 xt7), (8, .int .i64 xt8), (9, .bool bt9), (10, .int .i64 xt10), (11, .int .i64 xt11), (12, .int .i64 xt12), (13, .slice At13 nt13 ct13), (14, .int .i64 xt14)]) w := by cases bt6 <;> cases bt9 <;> kernel_rfl
theorem j0_snd : ∀ c, subC [1, 1, 1, 1, 1, 1, 1, 1, 1, 1] body = some c → Snd Tryz.prog 134 c j0T := by
  refine cut_of (hT := hT) (D := D) (l := j0tb) (b := j0b) (lo := j0LO) (by kernel_rfl) (by
    intro x hx
    simp only [j0tb, List.not_mem_nil] at hx
    ) (by kernel_rfl) (by kernel_rfl) ?_
  intro Q σ w h
  unfold j0T at h
  obtain ⟨pt1, h1, h⟩ := gPtr_elim h
  obtain ⟨xt2, h2, h⟩ := gInt_elim h
  obtain ⟨xt3, h3, h⟩ := gInt_elim h
  obtain ⟨xt4, h4, h⟩ := gInt_elim h
  obtain ⟨xt5, h5, h⟩ := gInt_elim h
  obtain ⟨bt6, h6, h⟩ := gBool_elim h
  obtain ⟨xt7, h7, h⟩ := gInt_elim h
  obtain ⟨xt8, h8, h⟩ := gInt_elim h
  obtain ⟨bt9, h9, h⟩ := gBool_elim h
  obtain ⟨xt10, h10, h⟩ := gInt_elim h
  obtain ⟨xt11, h11, h⟩ := gInt_elim h
  obtain ⟨xt12, h12, h⟩ := gInt_elim h
  obtain ⟨At13, nt13, ct13, h13, h⟩ := gSlice_elim h
  obtain ⟨xt14, h14, h⟩ := gInt_elim h
  rw [j0_eq (σ := σ)] at h
  have e : (ov σ [(1, .pointer pt1), (2, .int .i64 xt2), (3, .int .i64 xt3), (4, .int .i64 xt4), (5, .int .i64 xt5), (6, .bool bt6), (7, .int .i64 xt7), (8, .int .i64 xt8), (9, .bool bt9), (10, .int .i64 xt10), (11, .int .i64 xt11), (12, .int .i64 xt12), (13, .slice At13 nt13 ct13), (14, .int .i64 xt14)]) = σ := ov_self (by simp [h1, h2, h3, h4, h5, h6, h7, h8, h9, h10, h11, h12, h13, h14])
  rw [e] at h
  exact h
def tb : List (List Nat × Spec) := [([1, 1, 1, 1, 1, 1, 1, 1, 1, 1], j0T)]
theorem wp_eq  (w : World) (Q : Ending → World → Prop) :
    wp  w Q = codeW Tryz.prog hT 134 D (tab tb) [] body (topQ Tryz.prog hT 134 [.tmp 0] Q) (argsF []) w := by kernel_rfl
theorem ok  (w : World) (Q : Ending → World → Prop) (h : wp  w Q) : Calls Tryz.prog 9 #[] w Q := by
  rw [wp_eq] at h
  exact calls_of_codeW (c := body) (rs := [.tmp 0]) Tryz.func9 (by kernel_rfl) (by kernel_rfl) (by kernel_rfl) (by kernel_rfl) (by kernel_rfl) (tab_snd (by
    intro x hx
    simp only [tb, List.mem_cons, List.not_mem_nil, or_false] at hx
    subst hx
    exact j0_snd)) (by kernel_rfl) h
end f_law18_alive
namespace f_law18_does
noncomputable def body : Code := (Tryz.f10.body).getD .skip
def wp (pa0 Aa1_0 : Option Addr) (na1_0 ca1_0 : Nat) (Aa1_1 : Option Addr) (na1_1 ca1_1 : Nat) (xa2_0 xa2_1 xa2_2 xa2_3 xa2_4 : Int) (w : World) (Q : Ending → World → Prop) : Prop := alW w (.cells #[.slice Aa1_0 na1_0 ca1_0, .slice Aa1_1 na1_1 ca1_1] 29) fun B1 w2 => alW w2 (.cells #[.int .i64 xa2_0, .int .i64 xa2_1, .int .i64 xa2_2, .int .i64 xa2_3, .int .i64 xa2_4] 33) fun B3 w4 => alW w4 (.cells #[.slice none 0 0, .slice none 0 0] 29) fun B5 w6 => ldI w6 ⟨B3, 0, none⟩ .i64 fun x7 => sel (x7 == (1 : Int)) ( ldI w6 (((⟨B3, 0, none⟩ : Addr).add 1).add 1) .i64 fun x8 => Calls Tryz.prog 28 #[.pointer pa0, .int .i64 x8] w6 fun e9 w10 => ∃ x11, e9 = .returned (.int .i64 x11) ∧ ( ldS w10 ⟨B1, 0, none⟩ fun A12 n12 c12 => ldS w10 ((⟨B1, 0, none⟩ : Addr).add 1) fun A13 n13 c13 => ldI w10 (((⟨B3, 0, none⟩ : Addr).add 1).add 1) .i64 fun x14 => Calls Tryz.prog 24 #[.agg #[.slice A12 n12 c12, .slice A13 n13 c13], .int .i64 x14] w10 fun e15 w16 => ∃ A17_0_0 n17_0_0 c17_0_0 A17_0_1 n17_0_1 c17_0_1 x17_1, e15 = .returned (.tuple #[.agg #[.slice A17_0_0 n17_0_0 c17_0_0, .slice A17_0_1 n17_0_1 c17_0_1], .int .i64 x17_1]) ∧ ( alW w16 (.cells #[.slice none 0 0, .slice none 0 0] 29) fun B18 w19 => stW w19 ⟨B18, 0, none⟩ (.slice A17_0_0 n17_0_0 c17_0_0) fun w20 => stW w20 ((⟨B18, 0, none⟩ : Addr).add 1) (.slice A17_0_1 n17_0_1 c17_0_1) fun w21 => ldS w21 ⟨B18, 0, none⟩ fun A22 n22 c22 => ldS w21 ((⟨B18, 0, none⟩ : Addr).add 1) fun A23 n23 c23 => stW w21 ⟨B5, 0, none⟩ (.slice A22 n22 c22) fun w24 => stW w24 ((⟨B5, 0, none⟩ : Addr).add 1) (.slice A23 n23 c23) fun w25 => ldS w25 ⟨B5, 0, none⟩ fun A26 n26 c26 => ldS w25 ((⟨B5, 0, none⟩ : Addr).add 1) fun A27 n27 c27 => Q (.returned (.tuple #[.agg #[.slice A26 n26 c26, .slice A27 n27 c27], .bool (x11 == x17_1)])) w25))) ( sel (x7 == (2 : Int)) ( ldI w6 (((⟨B3, 0, none⟩ : Addr).add 1).add 1) .i64 fun x28 => Calls Tryz.prog 33 #[.pointer pa0, .int .i64 x28] w6 fun e29 w30 => ∃ x31, e29 = .returned (.int .i64 x31) ∧ ( ldS w30 ⟨B1, 0, none⟩ fun A32 n32 c32 => ldS w30 ((⟨B1, 0, none⟩ : Addr).add 1) fun A33 n33 c33 => ldI w30 (((⟨B3, 0, none⟩ : Addr).add 1).add 1) .i64 fun x34 => Calls Tryz.prog 25 #[.agg #[.slice A32 n32 c32, .slice A33 n33 c33], .int .i64 x34] w30 fun e35 w36 => ∃ A37_0_0 n37_0_0 c37_0_0 A37_0_1 n37_0_1 c37_0_1 x37_1, e35 = .returned (.tuple #[.agg #[.slice A37_0_0 n37_0_0 c37_0_0, .slice A37_0_1 n37_0_1 c37_0_1], .int .i64 x37_1]) ∧ ( alW w36 (.cells #[.slice none 0 0, .slice none 0 0] 29) fun B38 w39 => stW w39 ⟨B38, 0, none⟩ (.slice A37_0_0 n37_0_0 c37_0_0) fun w40 => stW w40 ((⟨B38, 0, none⟩ : Addr).add 1) (.slice A37_0_1 n37_0_1 c37_0_1) fun w41 => ldS w41 ⟨B38, 0, none⟩ fun A42 n42 c42 => ldS w41 ((⟨B38, 0, none⟩ : Addr).add 1) fun A43 n43 c43 => stW w41 ⟨B5, 0, none⟩ (.slice A42 n42 c42) fun w44 => stW w44 ((⟨B5, 0, none⟩ : Addr).add 1) (.slice A43 n43 c43) fun w45 => ldS w45 ⟨B5, 0, none⟩ fun A46 n46 c46 => ldS w45 ((⟨B5, 0, none⟩ : Addr).add 1) fun A47 n47 c47 => Q (.returned (.tuple #[.agg #[.slice A46 n46 c46, .slice A47 n47 c47], .bool (x31 == x37_1)])) w45))) ( sel (x7 == (3 : Int)) ( ldI w6 ((⟨B3, 0, none⟩ : Addr).add 1) .i64 fun x48 => ldI w6 (((⟨B3, 0, none⟩ : Addr).add 1).add 1) .i64 fun x49 => ldI w6 (((⟨B3, 0, none⟩ : Addr).add 1).add 2) .i64 fun x50 => Calls Tryz.prog 18 #[.pointer pa0, .int .i64 x48, .int .i64 x49, .int .i64 x50] w6 fun e51 w52 => ∃ x53, e51 = .returned (.int .i64 x53) ∧ ( ldS w52 ⟨B1, 0, none⟩ fun A54 n54 c54 => ldS w52 ((⟨B1, 0, none⟩ : Addr).add 1) fun A55 n55 c55 => ldI w52 ((⟨B3, 0, none⟩ : Addr).add 1) .i64 fun x56 => ldI w52 (((⟨B3, 0, none⟩ : Addr).add 1).add 1) .i64 fun x57 => ldI w52 (((⟨B3, 0, none⟩ : Addr).add 1).add 2) .i64 fun x58 => Calls Tryz.prog 26 #[.agg #[.slice A54 n54 c54, .slice A55 n55 c55], .agg #[.int .i64 x56, .int .i64 x57, .int .i64 x58, .int .i64 (0 : Int)]] w52 fun e59 w60 => ∃ A61_0_0 n61_0_0 c61_0_0 A61_0_1 n61_0_1 c61_0_1 x61_1, e59 = .returned (.tuple #[.agg #[.slice A61_0_0 n61_0_0 c61_0_0, .slice A61_0_1 n61_0_1 c61_0_1], .int .i64 x61_1]) ∧ ( alW w60 (.cells #[.slice none 0 0, .slice none 0 0] 29) fun B62 w63 => stW w63 ⟨B62, 0, none⟩ (.slice A61_0_0 n61_0_0 c61_0_0) fun w64 => stW w64 ((⟨B62, 0, none⟩ : Addr).add 1) (.slice A61_0_1 n61_0_1 c61_0_1) fun w65 => ldS w65 ⟨B62, 0, none⟩ fun A66 n66 c66 => ldS w65 ((⟨B62, 0, none⟩ : Addr).add 1) fun A67 n67 c67 => stW w65 ⟨B5, 0, none⟩ (.slice A66 n66 c66) fun w68 => stW w68 ((⟨B5, 0, none⟩ : Addr).add 1) (.slice A67 n67 c67) fun w69 => ldS w69 ⟨B5, 0, none⟩ fun A70 n70 c70 => ldS w69 ((⟨B5, 0, none⟩ : Addr).add 1) fun A71 n71 c71 => Q (.returned (.tuple #[.agg #[.slice A70 n70 c70, .slice A71 n71 c71], .bool (x53 == x61_1)])) w69))) ( sel (x7 == (4 : Int)) ( ldI w6 ((⟨B3, 0, none⟩ : Addr).add 1) .i64 fun x72 => Calls Tryz.prog 23 #[.pointer pa0, .int .i64 x72] w6 fun e73 w74 => ∃ x75, e73 = .returned (.int .i64 x75) ∧ ( ldS w74 ⟨B1, 0, none⟩ fun A76 n76 c76 => ldS w74 ((⟨B1, 0, none⟩ : Addr).add 1) fun A77 n77 c77 => ldI w74 ((⟨B3, 0, none⟩ : Addr).add 1) .i64 fun x78 => Calls Tryz.prog 27 #[.agg #[.slice A76 n76 c76, .slice A77 n77 c77], .int .i64 x78] w74 fun e79 w80 => ∃ A81_0_0 n81_0_0 c81_0_0 A81_0_1 n81_0_1 c81_0_1 x81_1, e79 = .returned (.tuple #[.agg #[.slice A81_0_0 n81_0_0 c81_0_0, .slice A81_0_1 n81_0_1 c81_0_1], .int .i64 x81_1]) ∧ ( alW w80 (.cells #[.slice none 0 0, .slice none 0 0] 29) fun B82 w83 => stW w83 ⟨B82, 0, none⟩ (.slice A81_0_0 n81_0_0 c81_0_0) fun w84 => stW w84 ((⟨B82, 0, none⟩ : Addr).add 1) (.slice A81_0_1 n81_0_1 c81_0_1) fun w85 => ldS w85 ⟨B82, 0, none⟩ fun A86 n86 c86 => ldS w85 ((⟨B82, 0, none⟩ : Addr).add 1) fun A87 n87 c87 => stW w85 ⟨B5, 0, none⟩ (.slice A86 n86 c86) fun w88 => stW w88 ((⟨B5, 0, none⟩ : Addr).add 1) (.slice A87 n87 c87) fun w89 => ldS w89 ⟨B5, 0, none⟩ fun A90 n90 c90 => ldS w89 ((⟨B5, 0, none⟩ : Addr).add 1) fun A91 n91 c91 => Q (.returned (.tuple #[.agg #[.slice A90 n90 c90, .slice A91 n91 c91], .bool (x75 == x81_1)])) w89))) ( ldS w6 ⟨B1, 0, none⟩ fun A92 n92 c92 => ldS w6 ((⟨B1, 0, none⟩ : Addr).add 1) fun A93 n93 c93 => stW w6 ⟨B5, 0, none⟩ (.slice A92 n92 c92) fun w94 => stW w94 ((⟨B5, 0, none⟩ : Addr).add 1) (.slice A93 n93 c93) fun w95 => ldS w95 ⟨B5, 0, none⟩ fun A96 n96 c96 => ldS w95 ((⟨B5, 0, none⟩ : Addr).add 1) fun A97 n97 c97 => Q (.returned (.tuple #[.agg #[.slice A96 n96 c96, .slice A97 n97 c97], .bool true])) w95))))
def D : Nat → Option DH := dtab []
def tb : List (List Nat × Spec) := []
theorem wp_eq (pa0 Aa1_0 : Option Addr) (na1_0 ca1_0 : Nat) (Aa1_1 : Option Addr) (na1_1 ca1_1 : Nat) (xa2_0 xa2_1 xa2_2 xa2_3 xa2_4 : Int) (w : World) (Q : Ending → World → Prop) :
    wp pa0 Aa1_0 na1_0 ca1_0 Aa1_1 na1_1 ca1_1 xa2_0 xa2_1 xa2_2 xa2_3 xa2_4 w Q = codeW Tryz.prog hT 112 D (tab tb) [] body (topQ Tryz.prog hT 112 [.cell 6 29, .tmp 7] Q) (argsF [.pointer pa0, .agg #[.slice Aa1_0 na1_0 ca1_0, .slice Aa1_1 na1_1 ca1_1], .agg #[.int .i64 xa2_0, .int .i64 xa2_1, .int .i64 xa2_2, .int .i64 xa2_3, .int .i64 xa2_4]]) w := by kernel_rfl
theorem ok (pa0 Aa1_0 : Option Addr) (na1_0 ca1_0 : Nat) (Aa1_1 : Option Addr) (na1_1 ca1_1 : Nat) (xa2_0 xa2_1 xa2_2 xa2_3 xa2_4 : Int) (w : World) (Q : Ending → World → Prop) (h : wp pa0 Aa1_0 na1_0 ca1_0 Aa1_1 na1_1 ca1_1 xa2_0 xa2_1 xa2_2 xa2_3 xa2_4 w Q) : Calls Tryz.prog 10 #[.pointer pa0, .agg #[.slice Aa1_0 na1_0 ca1_0, .slice Aa1_1 na1_1 ca1_1], .agg #[.int .i64 xa2_0, .int .i64 xa2_1, .int .i64 xa2_2, .int .i64 xa2_3, .int .i64 xa2_4]] w Q := by
  rw [wp_eq] at h
  exact calls_of_codeW (c := body) (rs := [.cell 6 29, .tmp 7]) Tryz.func10 (by kernel_rfl) (by kernel_rfl) (by kernel_rfl) (by kernel_rfl) (by kernel_rfl) (tab_snd (by
    intro x hx
    simp only [tb, List.not_mem_nil] at hx
    )) (by kernel_rfl) h
end f_law18_does
namespace f_law18_tells
noncomputable def body : Code := (Tryz.f14.body).getD .skip
def wp (pa0 Aa1_0 : Option Addr) (na1_0 ca1_0 : Nat) (Aa1_1 : Option Addr) (na1_1 ca1_1 : Nat) (xa2 xa3 : Int) (w : World) (Q : Ending → World → Prop) : Prop := alW w (.cells #[.slice Aa1_0 na1_0 ca1_0, .slice Aa1_1 na1_1 ca1_1] 29) fun B1 w2 => Calls Tryz.prog 17 #[.pointer pa0, .int .i64 xa2] w2 fun e3 w4 => ∃ A5_0 n5_0 c5_0 x5_1, e3 = .returned (.tuple #[.slice A5_0 n5_0 c5_0, .int .i64 x5_1]) ∧ ( Calls Tryz.prog 29 #[.pointer pa0, .int .i64 xa2] w4 fun e6 w7 => ∃ x8_0 x8_1, e6 = .returned (.tuple #[.int .i64 x8_0, .int .i64 x8_1]) ∧ ( Calls Tryz.prog 16 #[.pointer pa0, .int .i64 xa2, .int .i64 xa3] w7 fun e9 w10 => ∃ b11_0 x11_1, e9 = .returned (.tuple #[.bool b11_0, .int .i64 x11_1]) ∧ ( ldS w10 ⟨B1, 0, none⟩ fun A12 n12 c12 => ldS w10 ((⟨B1, 0, none⟩ : Addr).add 1) fun A13 n13 c13 => Calls Tryz.prog 35 #[.agg #[.slice A12 n12 c12, .slice A13 n13 c13], .int .i64 xa2] w10 fun e14 w15 => ∃ b16, e14 = .returned (.bool b16) ∧ ( sel (!b16) ( sel ((n5_0 : Int) == (0 : Int)) ( sel (x8_0 == (0 : Int)) ( sel (!b11_0) ( sel (x5_1 == (51 : Int)) ( sel (x8_1 == x5_1) ( Q (.returned (.bool (x11_1 == x5_1))) w15) ( Q (.returned (.bool false)) w15)) ( Q (.returned (.bool false)) w15)) ( Q (.returned (.bool false)) w15)) ( Q (.returned (.bool false)) w15)) ( Q (.returned (.bool false)) w15)) ( ldS w15 ⟨B1, 0, none⟩ fun A17 n17 c17 => ldS w15 ((⟨B1, 0, none⟩ : Addr).add 1) fun A18 n18 c18 => Calls Tryz.prog 36 #[.agg #[.slice A17 n17 c17, .slice A18 n18 c18], .int .i64 xa2] w15 fun e19 w20 => ∃ A21 n21 c21, e19 = .returned (.slice A21 n21 c21) ∧ ( sel (x5_1 != (0 : Int)) ( Q (.returned (.bool false)) w20) ( sel (x8_1 != (0 : Int)) ( Q (.returned (.bool false)) w20) ( sel (x8_0 != (n21 : Int)) ( Q (.returned (.bool false)) w20) ( Calls Tryz.prog 19 #[.slice A5_0 n5_0 c5_0, .slice A21 n21 c21] w20 fun e22 w23 => ∃ b24, e22 = .returned (.bool b24) ∧ ( sel (!b24) ( Q (.returned (.bool false)) w23) ( ldS w23 ⟨B1, 0, none⟩ fun A25 n25 c25 => ldS w23 ((⟨B1, 0, none⟩ : Addr).add 1) fun A26 n26 c26 => Calls Tryz.prog 35 #[.agg #[.slice A25 n25 c25, .slice A26 n26 c26], .int .i64 xa3] w23 fun e27 w28 => ∃ b29, e27 = .returned (.bool b29) ∧ ( sel (!b29) ( sel (!b11_0) ( Q (.returned (.bool (x11_1 == (51 : Int)))) w28) ( Q (.returned (.bool false)) w28)) ( sel (x11_1 == (0 : Int)) ( Calls Tryz.prog 21 #[.slice A21 n21 c21, .int .i64 xa3] w28 fun e30 w31 => ∃ b32, e30 = .returned (.bool b32) ∧ ( Q (.returned (.bool (b11_0 == b32))) w31)) ( Q (.returned (.bool false)) w28))))))))))))))
def D : Nat → Option DH := dtab []
def tb : List (List Nat × Spec) := []
theorem wp_eq (pa0 Aa1_0 : Option Addr) (na1_0 ca1_0 : Nat) (Aa1_1 : Option Addr) (na1_1 ca1_1 : Nat) (xa2 xa3 : Int) (w : World) (Q : Ending → World → Prop) :
    wp pa0 Aa1_0 na1_0 ca1_0 Aa1_1 na1_1 ca1_1 xa2 xa3 w Q = codeW Tryz.prog hT 104 D (tab tb) [] body (topQ Tryz.prog hT 104 [.tmp 8] Q) (argsF [.pointer pa0, .agg #[.slice Aa1_0 na1_0 ca1_0, .slice Aa1_1 na1_1 ca1_1], .int .i64 xa2, .int .i64 xa3]) w := by kernel_rfl
theorem ok (pa0 Aa1_0 : Option Addr) (na1_0 ca1_0 : Nat) (Aa1_1 : Option Addr) (na1_1 ca1_1 : Nat) (xa2 xa3 : Int) (w : World) (Q : Ending → World → Prop) (h : wp pa0 Aa1_0 na1_0 ca1_0 Aa1_1 na1_1 ca1_1 xa2 xa3 w Q) : Calls Tryz.prog 14 #[.pointer pa0, .agg #[.slice Aa1_0 na1_0 ca1_0, .slice Aa1_1 na1_1 ca1_1], .int .i64 xa2, .int .i64 xa3] w Q := by
  rw [wp_eq] at h
  exact calls_of_codeW (c := body) (rs := [.tmp 8]) Tryz.func14 (by kernel_rfl) (by kernel_rfl) (by kernel_rfl) (by kernel_rfl) (by kernel_rfl) (tab_snd (by
    intro x hx
    simp only [tb, List.not_mem_nil] at hx
    )) (by kernel_rfl) h
end f_law18_tells
namespace f_law18_HdtPlays
noncomputable def body : Code := (Tryz.f3.body).getD .skip
def l2 : Nat → Option Addr → Addr → Addr → Option Addr → Nat → Nat → Int → Int → World → (World → Prop) → (Bool → World → Prop) → Prop  | 0, _, _, _, _, _, _, _, _, _, _, _ => False  | k + 1, pt5, at6, at8, At79, nt79, ct79, xt80, xt81, w, K2, Kr => sel (decide (xt81 < xt80)) ( optB At79 fun a65 => req (decide (0 ≤ xt81 ∧ xt81 < (nt79 : Int))) <| ldI w (a65.add (xt81.toNat * 1)) .i64 fun x66 => sel (decide (xt81 < (20 : Int))) ( ldS w at6 fun A67 n67 c67 => ldS w (at6.add 1) fun A68 n68 c68 => ldI w ((at8.add 1).add 1) .i64 fun x69 => Calls Tryz.prog 14 #[.pointer pt5, .agg #[.slice A67 n67 c67, .slice A68 n68 c68], .int .i64 x66, .int .i64 x69] w fun e70 w71 => ∃ b72, e70 = .returned (.bool b72) ∧ ( sel (!b72) ( Kr false w71) ( l2 k pt5 at6 at8 At79 nt79 ct79 xt80 (IntKind.i64.wrap (xt81 + (1 : Int))) w71 K2 Kr))) ( l2 k pt5 at6 at8 At79 nt79 ct79 xt80 (IntKind.i64.wrap (xt81 + (1 : Int))) w K2 Kr)) ( K2  w)
def j1 (pt5 : Option Addr) (at6 at8 : Addr) (At79 : Option Addr) (nt79 ct79 : Nat) (xt80 xt81 : Int) (w : World) (Kn : World → Prop) (Kr : Bool → World → Prop) : Prop := ∃ k76, l2 k76 pt5 at6 at8 At79 nt79 ct79 xt80 xt81 w (fun w73 => ∀ _ : Fr, Kn  w73) (fun b74 w75 => ∀ _ : Fr, Kr b74 w75)
def l0 : Nat → Option Addr → Addr → Option Addr → Nat → Nat → Int → Int → World → (World → Prop) → (Bool → World → Prop) → Prop  | 0, _, _, _, _, _, _, _, _, _, _ => False  | k + 1, pt5, at6, At24, nt24, ct24, xt25, xt26, w, K0, Kr => sel (decide (xt26 < xt25)) ( optB At24 fun a11 => req (decide (0 ≤ xt26 ∧ xt26 < (nt24 : Int))) <| ldI w (a11.add (xt26.toNat * 5)) .i64 fun x12 => ldI w ((a11.add (xt26.toNat * 5)).add 1) .i64 fun x13 => ldI w ((a11.add (xt26.toNat * 5)).add 2) .i64 fun x14 => ldI w ((a11.add (xt26.toNat * 5)).add 3) .i64 fun x15 => ldI w ((a11.add (xt26.toNat * 5)).add 4) .i64 fun x16 => alW w (.cells #[.int .i64 (0 : Int), .int .i64 (0 : Int), .int .i64 (0 : Int), .int .i64 (0 : Int), .int .i64 (0 : Int)] 33) fun B17 w18 => stW w18 ⟨B17, 0, none⟩ (.int .i64 x12) fun w19 => stW w19 ((⟨B17, 0, none⟩ : Addr).add 1) (.int .i64 x13) fun w20 => stW w20 ((⟨B17, 0, none⟩ : Addr).add 2) (.int .i64 x14) fun w21 => stW w21 ((⟨B17, 0, none⟩ : Addr).add 3) (.int .i64 x15) fun w22 => stW w22 ((⟨B17, 0, none⟩ : Addr).add 4) (.int .i64 x16) fun w23 => ldS w23 at6 fun A24 n24 c24 => ldS w23 (at6.add 1) fun A25 n25 c25 => ldI w23 ⟨B17, 0, none⟩ .i64 fun x26 => ldI w23 ((⟨B17, 0, none⟩ : Addr).add 1) .i64 fun x27 => ldI w23 ((⟨B17, 0, none⟩ : Addr).add 2) .i64 fun x28 => ldI w23 ((⟨B17, 0, none⟩ : Addr).add 3) .i64 fun x29 => ldI w23 ((⟨B17, 0, none⟩ : Addr).add 4) .i64 fun x30 => Calls Tryz.prog 10 #[.pointer pt5, .agg #[.slice A24 n24 c24, .slice A25 n25 c25], .agg #[.int .i64 x26, .int .i64 x27, .int .i64 x28, .int .i64 x29, .int .i64 x30]] w23 fun e31 w32 => ∃ A33_0_0 n33_0_0 c33_0_0 A33_0_1 n33_0_1 c33_0_1 b33_1, e31 = .returned (.tuple #[.agg #[.slice A33_0_0 n33_0_0 c33_0_0, .slice A33_0_1 n33_0_1 c33_0_1], .bool b33_1]) ∧ ( alW w32 (.cells #[.slice none 0 0, .slice none 0 0] 29) fun B34 w35 => stW w35 ⟨B34, 0, none⟩ (.slice A33_0_0 n33_0_0 c33_0_0) fun w36 => stW w36 ((⟨B34, 0, none⟩ : Addr).add 1) (.slice A33_0_1 n33_0_1 c33_0_1) fun w37 => ldS w37 ⟨B34, 0, none⟩ fun A38 n38 c38 => ldS w37 ((⟨B34, 0, none⟩ : Addr).add 1) fun A39 n39 c39 => stW w37 at6 (.slice A38 n38 c38) fun w40 => stW w40 (at6.add 1) (.slice A39 n39 c39) fun w41 => Calls Tryz.prog 11 #[.pointer pt5] w41 fun e42 w43 => ∃ x44_0 x44_1, e42 = .returned (.tuple #[.int .i64 x44_0, .int .i64 x44_1]) ∧ ( drW w43 fun w45 => ∃ S46 : World → Prop, S46 w45 ∧ ( sel (!b33_1) ( S46 w45 ∧ ( S46 w45 ∧ ( Kr false w45))) ( hdS S46 at6 fun A47 n47 c47 => sel (x44_0 != (n47 : Int)) ( S46 w45 ∧ ( S46 w45 ∧ ( Kr false w45))) ( hdS S46 (at6.add 1) fun A48 n48 c48 => sel (x44_1 != (n48 : Int)) ( S46 w45 ∧ ( S46 w45 ∧ ( Kr false w45))) ( hdS S46 at6 fun A49 n49 c49 => hdS S46 (at6.add 1) fun A50 n50 c50 => Calls Tryz.prog 12 #[.pointer pt5] w45 fun e51 w52 => ∃ x53, e51 = .returned (.int .i64 x53) ∧ ( S46 w52 ∧ ( Calls Tryz.prog 13 #[.agg #[.slice A49 n49 c49, .slice A50 n50 c50]] w52 fun e54 w55 => ∃ x56, e54 = .returned (.int .i64 x56) ∧ ( S46 w55 ∧ ( sel (x53 != x56) ( Kr false w55) ( hdS S46 at6 fun A57 n57 c57 => hdS S46 (at6.add 1) fun A58 n58 c58 => hdI S46 (((⟨B17, 0, none⟩ : Addr).add 1).add 1) .i64 fun x59 => hdI S46 (((⟨B17, 0, none⟩ : Addr).add 1).add 2) .i64 fun x60 => Calls Tryz.prog 14 #[.pointer pt5, .agg #[.slice A57 n57 c57, .slice A58 n58 c58], .int .i64 x59, .int .i64 x60] w55 fun e61 w62 => ∃ b63, e61 = .returned (.bool b63) ∧ ( sel (!b63) ( Kr false w62) ( ldS w62 at6 fun A64 n64 c64 => j1 pt5 at6 (⟨B17, 0, none⟩ : Addr) A64 n64 c64 (n64 : Int) (0 : Int) w62 (fun w77 => ∀ _ : Fr, l0 k pt5 at6 At24 nt24 ct24 xt25 (IntKind.i64.wrap (xt26 + (1 : Int))) w77 K0 Kr) (fun b78 w79 => ∀ _ : Fr, Kr b78 w79))))))))))))))) ( K0  w)
def wp (Aa0 : Option Addr) (na0 ca0 : Nat) (Aa1 : Option Addr) (na1 ca1 : Nat) (w : World) (Q : Ending → World → Prop) : Prop := Calls Tryz.prog 8 #[.slice Aa0 na0 ca0] w fun e1 w2 => ∃ p3, e1 = .returned (.pointer p3) ∧ ( sel p3.isNone ( Q (.returned (.bool false)) w2) ( Calls Tryz.prog 9 #[] w2 fun e4 w5 => ∃ b6, e4 = .returned (.bool b6) ∧ ( sel (!b6) ( Q (.returned (.bool false)) w5) ( alW w5 (.cells #[.slice none 0 0, .slice none 0 0] 29) fun B7 w8 => stW w8 ⟨B7, 0, none⟩ (.slice none 0 0) fun w9 => stW w9 ((⟨B7, 0, none⟩ : Addr).add 1) (.slice none 0 0) fun w10 => ∃ k83, l0 k83 p3 (⟨B7, 0, none⟩ : Addr) Aa1 na1 ca1 (na1 : Int) (0 : Int) w10 (fun w80 => ∀ _ : Fr, Q (.returned (.bool true)) w80) (fun b81 w82 => ∀ _ : Fr, Q (.returned (.bool b81)) w82)))))
def D : Nat → Option DH := dtab [(11, .held [.fst 0, .fst 1, .fst 2, .fst 3, .fst 4, .fst 5, .fst 6, .fst 7, .fst 8, .fst 9, .fst 10, .fst 11, .fst 12, .fst 13, .fst 14, .fst 15, .fst 16, .fst 17, .fst 19, .eff 18, .eff 20, .fst 21, .fst 22, .fst 23, .fst 24, .fst 25, .fst 26, .fst 27, .fst 28, .fst 29, .fst 30, .fst 31] [.eff 32, .fst 33, .fst 34])]
def l2LO : LO := ⟨[], [4], [(2, [5, 6, 24, 25, 26])], []⟩
def l2Tk (k : Nat) : Spec := fun Q σ w => gPtr (σ 5) fun pt5 => gAd (σ 6) fun at6 => gAd (σ 8) fun at8 => gSlice (σ 79) fun At79 nt79 ct79 => gInt .i64 (σ 80) fun xt80 => gInt .i64 (σ 81) fun xt81 => l2 k pt5 at6 at8 At79 nt79 ct79 xt80 xt81 w (fun w => ∀ d : Fr, Q (.exit 2) (ov d [(5, .pointer pt5), (6, .pointer (some at6)), (24, σ 24), (25, σ 25), (26, σ 26)]) w) (fun bq4 w => ∀ d : Fr, Q .ret (ov d [(4, .bool bq4)]) w)
def l2T : Spec := fun Q σ w => ∃ k, l2Tk k Q σ w
def l2tb : List (List Nat × Spec) := []
noncomputable def l2b : Code := (subC [0, 0, 1, 1, 1, 1, 1, 1, 0, 0, 1, 1, 0, 0, 1, 0, 1, 1, 1, 1] body).getD .skip
theorem l2_eq (k : Nat) (pt5 : Option Addr) (at6 at8 : Addr) (At79 : Option Addr) (nt79 ct79 : Nat) (xt80 xt81 : Int) (Q : PQ) (σ : Fr) (w : World) :
    l2 (k + 1) pt5 at6 at8 At79 nt79 ct79 xt80 xt81 w (fun w => ∀ d : Fr, Q (.exit 2) (ov d [(5, .pointer pt5), (6, .pointer (some at6)), (24, σ 24), (25, σ 25), (26, σ 26)]) w) (fun bq4 w => ∀ d : Fr, Q .ret (ov d [(4, .bool bq4)]) w) = codeW Tryz.prog hT 100 D (tab l2tb) [0, 0, 1, 1, 1, 1, 1, 1, 0, 0, 1, 1, 0, 0, 1, 0, 1, 1, 1, 1] l2b (thenQ (l2Tk k Q) (widen l2LO Q)) (ov σ [(5, .pointer pt5), (6, .pointer (some at6)), (8, .pointer (some at8)), (79, .slice At79 nt79 ct79), (80, .int .i64 xt80), (81, .int .i64 xt81)]) w := by kernel_rfl
theorem l2_snd : ∀ c, subC [0, 1, 1, 1, 1, 1, 1, 0, 0, 1, 1, 0, 0, 1, 0, 1, 1, 1, 1] body = some c → Snd Tryz.prog 100 c l2T := by
  refine loop_of (hT := hT) (D := D) (l := l2tb) (b := l2b) (lo := l2LO) (by kernel_rfl) (by
    intro x hx
    simp only [l2tb, List.not_mem_nil] at hx
    ) (by kernel_rfl) (by kernel_rfl) ?_ ?_
  · intro Q σ w h
    unfold l2Tk at h
    obtain ⟨pt5, h5, h⟩ := gPtr_elim h
    obtain ⟨at6, h6, h⟩ := gAd_elim h
    obtain ⟨at8, h8, h⟩ := gAd_elim h
    obtain ⟨At79, nt79, ct79, h79, h⟩ := gSlice_elim h
    obtain ⟨xt80, h80, h⟩ := gInt_elim h
    obtain ⟨xt81, h81, h⟩ := gInt_elim h
    exact h
  · intro k Q σ w h
    unfold l2Tk at h
    obtain ⟨pt5, h5, h⟩ := gPtr_elim h
    obtain ⟨at6, h6, h⟩ := gAd_elim h
    obtain ⟨at8, h8, h⟩ := gAd_elim h
    obtain ⟨At79, nt79, ct79, h79, h⟩ := gSlice_elim h
    obtain ⟨xt80, h80, h⟩ := gInt_elim h
    obtain ⟨xt81, h81, h⟩ := gInt_elim h
    rw [l2_eq (σ := σ)] at h
    have e : (ov σ [(5, .pointer pt5), (6, .pointer (some at6)), (8, .pointer (some at8)), (79, .slice At79 nt79 ct79), (80, .int .i64 xt80), (81, .int .i64 xt81)]) = σ := ov_self (by simp [h5, h6, h8, h79, h80, h81])
    rw [e] at h
    exact h
def j1LO : LO := ⟨[5, 6, 24, 25, 26], [4], [], []⟩
def j1T : Spec := fun Q σ w => gPtr (σ 5) fun pt5 => gAd (σ 6) fun at6 => gAd (σ 8) fun at8 => gSlice (σ 79) fun At79 nt79 ct79 => gInt .i64 (σ 80) fun xt80 => gInt .i64 (σ 81) fun xt81 => j1 pt5 at6 at8 At79 nt79 ct79 xt80 xt81 w (fun w => ∀ d : Fr, Q .normal (ov d [(5, .pointer pt5), (6, .pointer (some at6)), (24, σ 24), (25, σ 25), (26, σ 26)]) w) (fun bq4 w => ∀ d : Fr, Q .ret (ov d [(4, .bool bq4)]) w)
def j1tb : List (List Nat × Spec) := [([0, 1, 1, 1, 1, 1, 1, 0, 0, 1, 1, 0, 0, 1, 0, 1, 1, 1, 1], l2T)]
noncomputable def j1b : Code := (subC [1, 1, 1, 1, 1, 1, 0, 0, 1, 1, 0, 0, 1, 0, 1, 1, 1, 1] body).getD .skip
theorem j1_eq (pt5 : Option Addr) (at6 at8 : Addr) (At79 : Option Addr) (nt79 ct79 : Nat) (xt80 xt81 : Int) (Q : PQ) (σ : Fr) (w : World) :
    j1 pt5 at6 at8 At79 nt79 ct79 xt80 xt81 w (fun w => ∀ d : Fr, Q .normal (ov d [(5, .pointer pt5), (6, .pointer (some at6)), (24, σ 24), (25, σ 25), (26, σ 26)]) w) (fun bq4 w => ∀ d : Fr, Q .ret (ov d [(4, .bool bq4)]) w) = codeW Tryz.prog hT 100 D (tab j1tb) [1, 1, 1, 1, 1, 1, 0, 0, 1, 1, 0, 0, 1, 0, 1, 1, 1, 1] j1b (widen j1LO Q) (ov σ [(5, .pointer pt5), (6, .pointer (some at6)), (8, .pointer (some at8)), (79, .slice At79 nt79 ct79), (80, .int .i64 xt80), (81, .int .i64 xt81)]) w := by kernel_rfl
theorem j1_snd : ∀ c, subC [1, 1, 1, 1, 1, 1, 0, 0, 1, 1, 0, 0, 1, 0, 1, 1, 1, 1] body = some c → Snd Tryz.prog 100 c j1T := by
  refine cut_of (hT := hT) (D := D) (l := j1tb) (b := j1b) (lo := j1LO) (by kernel_rfl) (by
    intro x hx
    simp only [j1tb, List.mem_cons, List.not_mem_nil, or_false] at hx
    subst hx
    exact l2_snd) (by kernel_rfl) (by kernel_rfl) ?_
  intro Q σ w h
  unfold j1T at h
  obtain ⟨pt5, h5, h⟩ := gPtr_elim h
  obtain ⟨at6, h6, h⟩ := gAd_elim h
  obtain ⟨at8, h8, h⟩ := gAd_elim h
  obtain ⟨At79, nt79, ct79, h79, h⟩ := gSlice_elim h
  obtain ⟨xt80, h80, h⟩ := gInt_elim h
  obtain ⟨xt81, h81, h⟩ := gInt_elim h
  rw [j1_eq (σ := σ)] at h
  have e : (ov σ [(5, .pointer pt5), (6, .pointer (some at6)), (8, .pointer (some at8)), (79, .slice At79 nt79 ct79), (80, .int .i64 xt80), (81, .int .i64 xt81)]) = σ := ov_self (by simp [h5, h6, h8, h79, h80, h81])
  rw [e] at h
  exact h
def l0LO : LO := ⟨[], [4], [(0, [])], []⟩
def l0Tk (k : Nat) : Spec := fun Q σ w => gPtr (σ 5) fun pt5 => gAd (σ 6) fun at6 => gSlice (σ 24) fun At24 nt24 ct24 => gInt .i64 (σ 25) fun xt25 => gInt .i64 (σ 26) fun xt26 => l0 k pt5 at6 At24 nt24 ct24 xt25 xt26 w (fun w => ∀ d : Fr, Q (.exit 0) (ov d []) w) (fun bq4 w => ∀ d : Fr, Q .ret (ov d [(4, .bool bq4)]) w)
def l0T : Spec := fun Q σ w => ∃ k, l0Tk k Q σ w
def l0tb : List (List Nat × Spec) := [([0, 1, 1, 1, 1, 1, 1, 0, 0, 1, 1, 0, 0, 1, 0, 1, 1, 1, 1], l2T), ([1, 1, 1, 1, 1, 1, 0, 0, 1, 1, 0, 0, 1, 0, 1, 1, 1, 1], j1T)]
noncomputable def l0b : Code := (subC [0, 0, 1, 0, 1, 1, 1, 1] body).getD .skip
theorem l0_eq (k : Nat) (pt5 : Option Addr) (at6 : Addr) (At24 : Option Addr) (nt24 ct24 : Nat) (xt25 xt26 : Int) (Q : PQ) (σ : Fr) (w : World) :
    l0 (k + 1) pt5 at6 At24 nt24 ct24 xt25 xt26 w (fun w => ∀ d : Fr, Q (.exit 0) (ov d []) w) (fun bq4 w => ∀ d : Fr, Q .ret (ov d [(4, .bool bq4)]) w) = codeW Tryz.prog hT 100 D (tab l0tb) [0, 0, 1, 0, 1, 1, 1, 1] l0b (thenQ (l0Tk k Q) (widen l0LO Q)) (ov σ [(5, .pointer pt5), (6, .pointer (some at6)), (24, .slice At24 nt24 ct24), (25, .int .i64 xt25), (26, .int .i64 xt26)]) w := by kernel_rfl
theorem l0_snd : ∀ c, subC [0, 1, 0, 1, 1, 1, 1] body = some c → Snd Tryz.prog 100 c l0T := by
  refine loop_of (hT := hT) (D := D) (l := l0tb) (b := l0b) (lo := l0LO) (by kernel_rfl) (by
    intro x hx
    simp only [l0tb, List.mem_cons, List.not_mem_nil, or_false] at hx
    rcases hx with rfl | rfl
    · exact l2_snd
    · exact j1_snd) (by kernel_rfl) (by kernel_rfl) ?_ ?_
  · intro Q σ w h
    unfold l0Tk at h
    obtain ⟨pt5, h5, h⟩ := gPtr_elim h
    obtain ⟨at6, h6, h⟩ := gAd_elim h
    obtain ⟨At24, nt24, ct24, h24, h⟩ := gSlice_elim h
    obtain ⟨xt25, h25, h⟩ := gInt_elim h
    obtain ⟨xt26, h26, h⟩ := gInt_elim h
    exact h
  · intro k Q σ w h
    unfold l0Tk at h
    obtain ⟨pt5, h5, h⟩ := gPtr_elim h
    obtain ⟨at6, h6, h⟩ := gAd_elim h
    obtain ⟨At24, nt24, ct24, h24, h⟩ := gSlice_elim h
    obtain ⟨xt25, h25, h⟩ := gInt_elim h
    obtain ⟨xt26, h26, h⟩ := gInt_elim h
    rw [l0_eq (σ := σ)] at h
    have e : (ov σ [(5, .pointer pt5), (6, .pointer (some at6)), (24, .slice At24 nt24 ct24), (25, .int .i64 xt25), (26, .int .i64 xt26)]) = σ := ov_self (by simp [h5, h6, h24, h25, h26])
    rw [e] at h
    exact h
def tb : List (List Nat × Spec) := [([0, 1, 1, 1, 1, 1, 1, 0, 0, 1, 1, 0, 0, 1, 0, 1, 1, 1, 1], l2T), ([1, 1, 1, 1, 1, 1, 0, 0, 1, 1, 0, 0, 1, 0, 1, 1, 1, 1], j1T), ([0, 1, 0, 1, 1, 1, 1], l0T)]
theorem wp_eq (Aa0 : Option Addr) (na0 ca0 : Nat) (Aa1 : Option Addr) (na1 ca1 : Nat) (w : World) (Q : Ending → World → Prop) :
    wp Aa0 na0 ca0 Aa1 na1 ca1 w Q = codeW Tryz.prog hT 100 D (tab tb) [] body (topQ Tryz.prog hT 100 [.tmp 4] Q) (argsF [.slice Aa0 na0 ca0, .slice Aa1 na1 ca1]) w := by kernel_rfl
theorem ok (Aa0 : Option Addr) (na0 ca0 : Nat) (Aa1 : Option Addr) (na1 ca1 : Nat) (w : World) (Q : Ending → World → Prop) (h : wp Aa0 na0 ca0 Aa1 na1 ca1 w Q) : Calls Tryz.prog 3 #[.slice Aa0 na0 ca0, .slice Aa1 na1 ca1] w Q := by
  rw [wp_eq] at h
  exact calls_of_codeW (c := body) (rs := [.tmp 4]) Tryz.func3 (by kernel_rfl) (by kernel_rfl) (by kernel_rfl) (by kernel_rfl) (by kernel_rfl) (tab_snd (by
    intro x hx
    simp only [tb, List.mem_cons, List.not_mem_nil, or_false] at hx
    rcases hx with rfl | rfl | rfl
    · exact l2_snd
    · exact j1_snd
    · exact l0_snd)) (by kernel_rfl) h
end f_law18_HdtPlays
end Go.Proofs.YtbhhbnnmdekjiaaGreat.Rd
