/- The printed readings of some functions: each function's code reckoned by the kernel to its predicate transformer · The printed readings of some functions: each function's code reckoned by the kernel to its predicate transformer · The printed readings of some functions: each function's code reckoned by the kernel to its predicate transformer · The printed readings of some functions: each function's code reckoned by the kernel to its predicate transformer · The printed readings of some functions: each function's code reckoned by the kernel to its predicate transformer · The printed readings of some functions: each function's code reckoned by the kernel to its predicate transformer · The printed readings of some functions: each function's code reckoned by the kernel to its predicate transformer -/
import Derived.Test.YtbhhbnnmdekjiaaGreatZ7A
set_option linter.unusedSimpArgs false
set_option linter.unusedVariables false
namespace Go.Proofs.YtbhhbnnmdekjiaaGreat.Rd
open Go.Dn
set_option maxRecDepth 100000
namespace f_ref18_AddV
noncomputable def body : Code := (Tryz.f24.body).getD .skip
def wp (Aa0_0 : Option Addr) (na0_0 ca0_0 : Nat) (Aa0_1 : Option Addr) (na0_1 ca0_1 : Nat) (xa1 : Int) (w : World) (Q : Ending → World → Prop) : Prop := alW w (.cells #[.slice Aa0_0 na0_0 ca0_0, .slice Aa0_1 na0_1 ca0_1] 29) fun B1 w2 => alW w2 (.cells #[.slice none 0 0, .slice none 0 0] 29) fun B3 w4 => ldS w4 ⟨B1, 0, none⟩ fun A5 n5 c5 => ldS w4 (.add ⟨B1, 0, none⟩ 1) fun A6 n6 c6 => Calls Tryz.prog 46 #[.agg #[.slice A5 n5 c5, .slice A6 n6 c6], .agg #[.int .i64 1, .int .i64 xa1, .int .i64 0, .int .i64 0, .int .i64 0, .bool false, .int .i64 0, .string ByteArray.empty, .int .i64 0, .int .i64 0, .complex .f64 0 0, .slice none 0 0]] w4 fun e7 w8 => ∃ A9_0_0 n9_0_0 c9_0_0 A9_0_1 n9_0_1 c9_0_1 x9_1, e7 = .returned (.tuple #[.agg #[.slice A9_0_0 n9_0_0 c9_0_0, .slice A9_0_1 n9_0_1 c9_0_1], .int .i64 x9_1]) ∧ (stW w8 ⟨B3, 0, none⟩ (.slice A9_0_0 n9_0_0 c9_0_0) fun w10 => stW w10 (.add ⟨B3, 0, none⟩ 1) (.slice A9_0_1 n9_0_1 c9_0_1) fun w11 => ldS w11 ⟨B3, 0, none⟩ fun A12 n12 c12 => ldS w11 (.add ⟨B3, 0, none⟩ 1) fun A13 n13 c13 => Q (.returned (.tuple #[.agg #[.slice A12 n12 c12, .slice A13 n13 c13], .int .i64 x9_1])) w11)
def D : Nat → Option DH := dtab []
def tb : List (List Nat × Spec) := []
variable (Aa0_0 : Option Addr) (na0_0 ca0_0 : Nat) (Aa0_1 : Option Addr) (na0_1 ca0_1 : Nat) (xa1 : Int) (w : World) (Q : Ending → World → Prop)
theorem wp_eq : wp Aa0_0 na0_0 ca0_0 Aa0_1 na0_1 ca0_1 xa1 w Q = codeW Tryz.prog hT 12 D (tab tb) [] body (topQ Tryz.prog hT 12 [.cell 4 29, .tmp 5] Q) (argsF [.agg #[.slice Aa0_0 na0_0 ca0_0, .slice Aa0_1 na0_1 ca0_1], .int .i64 xa1]) w := by kernel_rfl
theorem ok (h : wp Aa0_0 na0_0 ca0_0 Aa0_1 na0_1 ca0_1 xa1 w Q) : Calls Tryz.prog 24 #[.agg #[.slice Aa0_0 na0_0 ca0_0, .slice Aa0_1 na0_1 ca0_1], .int .i64 xa1] w Q := by
  rw [wp_eq] at h
  refine calls_of_codeW (c := body) (rs := [.cell 4 29, .tmp 5]) Tryz.func24 ?_ ?_ ?_ ?_ ?_ (tab_snd (by
    intro x hx
    simp only [tb, List.not_mem_nil] at hx
    )) ?_ h <;> kernel_rfl
end f_ref18_AddV
namespace f_ref18_DelV
noncomputable def body : Code := (Tryz.f25.body).getD .skip
def wp (Aa0_0 : Option Addr) (na0_0 ca0_0 : Nat) (Aa0_1 : Option Addr) (na0_1 ca0_1 : Nat) (xa1 : Int) (w : World) (Q : Ending → World → Prop) : Prop := alW w (.cells #[.slice Aa0_0 na0_0 ca0_0, .slice Aa0_1 na0_1 ca0_1] 29) fun B1 w2 => alW w2 (.cells #[.slice none 0 0, .slice none 0 0] 29) fun B3 w4 => ldS w4 ⟨B1, 0, none⟩ fun A5 n5 c5 => ldS w4 (.add ⟨B1, 0, none⟩ 1) fun A6 n6 c6 => Calls Tryz.prog 46 #[.agg #[.slice A5 n5 c5, .slice A6 n6 c6], .agg #[.int .i64 2, .int .i64 xa1, .int .i64 0, .int .i64 0, .int .i64 0, .bool false, .int .i64 0, .string ByteArray.empty, .int .i64 0, .int .i64 0, .complex .f64 0 0, .slice none 0 0]] w4 fun e7 w8 => ∃ A9_0_0 n9_0_0 c9_0_0 A9_0_1 n9_0_1 c9_0_1 x9_1, e7 = .returned (.tuple #[.agg #[.slice A9_0_0 n9_0_0 c9_0_0, .slice A9_0_1 n9_0_1 c9_0_1], .int .i64 x9_1]) ∧ (stW w8 ⟨B3, 0, none⟩ (.slice A9_0_0 n9_0_0 c9_0_0) fun w10 => stW w10 (.add ⟨B3, 0, none⟩ 1) (.slice A9_0_1 n9_0_1 c9_0_1) fun w11 => ldS w11 ⟨B3, 0, none⟩ fun A12 n12 c12 => ldS w11 (.add ⟨B3, 0, none⟩ 1) fun A13 n13 c13 => Q (.returned (.tuple #[.agg #[.slice A12 n12 c12, .slice A13 n13 c13], .int .i64 x9_1])) w11)
def D : Nat → Option DH := dtab []
def tb : List (List Nat × Spec) := []
variable (Aa0_0 : Option Addr) (na0_0 ca0_0 : Nat) (Aa0_1 : Option Addr) (na0_1 ca0_1 : Nat) (xa1 : Int) (w : World) (Q : Ending → World → Prop)
theorem wp_eq : wp Aa0_0 na0_0 ca0_0 Aa0_1 na0_1 ca0_1 xa1 w Q = codeW Tryz.prog hT 12 D (tab tb) [] body (topQ Tryz.prog hT 12 [.cell 4 29, .tmp 5] Q) (argsF [.agg #[.slice Aa0_0 na0_0 ca0_0, .slice Aa0_1 na0_1 ca0_1], .int .i64 xa1]) w := by kernel_rfl
theorem ok (h : wp Aa0_0 na0_0 ca0_0 Aa0_1 na0_1 ca0_1 xa1 w Q) : Calls Tryz.prog 25 #[.agg #[.slice Aa0_0 na0_0 ca0_0, .slice Aa0_1 na0_1 ca0_1], .int .i64 xa1] w Q := by
  rw [wp_eq] at h
  refine calls_of_codeW (c := body) (rs := [.cell 4 29, .tmp 5]) Tryz.func25 ?_ ?_ ?_ ?_ ?_ (tab_snd (by
    intro x hx
    simp only [tb, List.not_mem_nil] at hx
    )) ?_ h <;> kernel_rfl
end f_ref18_DelV
namespace f_ref18_AddE
noncomputable def body : Code := (Tryz.f26.body).getD .skip
def wp (Aa0_0 : Option Addr) (na0_0 ca0_0 : Nat) (Aa0_1 : Option Addr) (na0_1 ca0_1 : Nat) (xa1_0 xa1_1 xa1_2 xa1_3 : Int) (w : World) (Q : Ending → World → Prop) : Prop := alW w (.cells #[.slice Aa0_0 na0_0 ca0_0, .slice Aa0_1 na0_1 ca0_1] 29) fun B1 w2 => alW w2 (.cells #[.int .i64 xa1_0, .int .i64 xa1_1, .int .i64 xa1_2, .int .i64 xa1_3] 31) fun B3 w4 => alW w4 (.cells #[.slice none 0 0, .slice none 0 0] 29) fun B5 w6 => ldS w6 ⟨B1, 0, none⟩ fun A7 n7 c7 => ldS w6 (.add ⟨B1, 0, none⟩ 1) fun A8 n8 c8 => ldI w6 ⟨B3, 0, none⟩ .i64 fun x9 => ldI w6 (.add ⟨B3, 0, none⟩ 1) .i64 fun x10 => ldI w6 (.add ⟨B3, 0, none⟩ 2) .i64 fun x11 => ldI w6 (.add ⟨B3, 0, none⟩ 3) .i64 fun x12 => Calls Tryz.prog 46 #[.agg #[.slice A7 n7 c7, .slice A8 n8 c8], .agg #[.int .i64 3, .int .i64 x9, .int .i64 x10, .int .i64 x11, .int .i64 x12, .bool false, .int .i64 0, .string ByteArray.empty, .int .i64 0, .int .i64 0, .complex .f64 0 0, .slice none 0 0]] w6 fun e13 w14 => ∃ A15_0_0 n15_0_0 c15_0_0 A15_0_1 n15_0_1 c15_0_1 x15_1, e13 = .returned (.tuple #[.agg #[.slice A15_0_0 n15_0_0 c15_0_0, .slice A15_0_1 n15_0_1 c15_0_1], .int .i64 x15_1]) ∧ (stW w14 ⟨B5, 0, none⟩ (.slice A15_0_0 n15_0_0 c15_0_0) fun w16 => stW w16 (.add ⟨B5, 0, none⟩ 1) (.slice A15_0_1 n15_0_1 c15_0_1) fun w17 => ldS w17 ⟨B5, 0, none⟩ fun A18 n18 c18 => ldS w17 (.add ⟨B5, 0, none⟩ 1) fun A19 n19 c19 => Q (.returned (.tuple #[.agg #[.slice A18 n18 c18, .slice A19 n19 c19], .int .i64 x15_1])) w17)
def D : Nat → Option DH := dtab []
def tb : List (List Nat × Spec) := []
variable (Aa0_0 : Option Addr) (na0_0 ca0_0 : Nat) (Aa0_1 : Option Addr) (na0_1 ca0_1 : Nat) (xa1_0 xa1_1 xa1_2 xa1_3 : Int) (w : World) (Q : Ending → World → Prop)
theorem wp_eq : wp Aa0_0 na0_0 ca0_0 Aa0_1 na0_1 ca0_1 xa1_0 xa1_1 xa1_2 xa1_3 w Q = codeW Tryz.prog hT 19 D (tab tb) [] body (topQ Tryz.prog hT 19 [.cell 4 29, .tmp 5] Q) (argsF [.agg #[.slice Aa0_0 na0_0 ca0_0, .slice Aa0_1 na0_1 ca0_1], .agg #[.int .i64 xa1_0, .int .i64 xa1_1, .int .i64 xa1_2, .int .i64 xa1_3]]) w := by kernel_rfl
theorem ok (h : wp Aa0_0 na0_0 ca0_0 Aa0_1 na0_1 ca0_1 xa1_0 xa1_1 xa1_2 xa1_3 w Q) : Calls Tryz.prog 26 #[.agg #[.slice Aa0_0 na0_0 ca0_0, .slice Aa0_1 na0_1 ca0_1], .agg #[.int .i64 xa1_0, .int .i64 xa1_1, .int .i64 xa1_2, .int .i64 xa1_3]] w Q := by
  rw [wp_eq] at h
  refine calls_of_codeW (c := body) (rs := [.cell 4 29, .tmp 5]) Tryz.func26 ?_ ?_ ?_ ?_ ?_ (tab_snd (by
    intro x hx
    simp only [tb, List.not_mem_nil] at hx
    )) ?_ h <;> kernel_rfl
end f_ref18_AddE
namespace f_ref18_DelE
noncomputable def body : Code := (Tryz.f27.body).getD .skip
def wp (Aa0_0 : Option Addr) (na0_0 ca0_0 : Nat) (Aa0_1 : Option Addr) (na0_1 ca0_1 : Nat) (xa1 : Int) (w : World) (Q : Ending → World → Prop) : Prop := alW w (.cells #[.slice Aa0_0 na0_0 ca0_0, .slice Aa0_1 na0_1 ca0_1] 29) fun B1 w2 => alW w2 (.cells #[.slice none 0 0, .slice none 0 0] 29) fun B3 w4 => ldS w4 ⟨B1, 0, none⟩ fun A5 n5 c5 => ldS w4 (.add ⟨B1, 0, none⟩ 1) fun A6 n6 c6 => Calls Tryz.prog 46 #[.agg #[.slice A5 n5 c5, .slice A6 n6 c6], .agg #[.int .i64 4, .int .i64 xa1, .int .i64 0, .int .i64 0, .int .i64 0, .bool false, .int .i64 0, .string ByteArray.empty, .int .i64 0, .int .i64 0, .complex .f64 0 0, .slice none 0 0]] w4 fun e7 w8 => ∃ A9_0_0 n9_0_0 c9_0_0 A9_0_1 n9_0_1 c9_0_1 x9_1, e7 = .returned (.tuple #[.agg #[.slice A9_0_0 n9_0_0 c9_0_0, .slice A9_0_1 n9_0_1 c9_0_1], .int .i64 x9_1]) ∧ (alW w8 (.cells #[.slice none 0 0, .slice none 0 0] 29) fun B10 w11 => stW w11 ⟨B10, 0, none⟩ (.slice A9_0_0 n9_0_0 c9_0_0) fun w12 => stW w12 (.add ⟨B10, 0, none⟩ 1) (.slice A9_0_1 n9_0_1 c9_0_1) fun w13 => sel (x9_1 == 51) (ldS w13 ⟨B1, 0, none⟩ fun A14 n14 c14 => ldS w13 (.add ⟨B1, 0, none⟩ 1) fun A15 n15 c15 => stW w13 ⟨B3, 0, none⟩ (.slice A14 n14 c14) fun w16 => stW w16 (.add ⟨B3, 0, none⟩ 1) (.slice A15 n15 c15) fun w17 => ldS w17 ⟨B3, 0, none⟩ fun A18 n18 c18 => ldS w17 (.add ⟨B3, 0, none⟩ 1) fun A19 n19 c19 => Q (.returned (.tuple #[.agg #[.slice A18 n18 c18, .slice A19 n19 c19], .int .i64 152])) w17) (ldS w13 ⟨B10, 0, none⟩ fun A20 n20 c20 => ldS w13 (.add ⟨B10, 0, none⟩ 1) fun A21 n21 c21 => stW w13 ⟨B3, 0, none⟩ (.slice A20 n20 c20) fun w22 => stW w22 (.add ⟨B3, 0, none⟩ 1) (.slice A21 n21 c21) fun w23 => ldS w23 ⟨B3, 0, none⟩ fun A24 n24 c24 => ldS w23 (.add ⟨B3, 0, none⟩ 1) fun A25 n25 c25 => Q (.returned (.tuple #[.agg #[.slice A24 n24 c24, .slice A25 n25 c25], .int .i64 x9_1])) w23))
def D : Nat → Option DH := dtab []
def tb : List (List Nat × Spec) := []
variable (Aa0_0 : Option Addr) (na0_0 ca0_0 : Nat) (Aa0_1 : Option Addr) (na0_1 ca0_1 : Nat) (xa1 : Int) (w : World) (Q : Ending → World → Prop)
theorem wp_eq : wp Aa0_0 na0_0 ca0_0 Aa0_1 na0_1 ca0_1 xa1 w Q = codeW Tryz.prog hT 20 D (tab tb) [] body (topQ Tryz.prog hT 20 [.cell 4 29, .tmp 5] Q) (argsF [.agg #[.slice Aa0_0 na0_0 ca0_0, .slice Aa0_1 na0_1 ca0_1], .int .i64 xa1]) w := by kernel_rfl
theorem ok (h : wp Aa0_0 na0_0 ca0_0 Aa0_1 na0_1 ca0_1 xa1 w Q) : Calls Tryz.prog 27 #[.agg #[.slice Aa0_0 na0_0 ca0_0, .slice Aa0_1 na0_1 ca0_1], .int .i64 xa1] w Q := by
  rw [wp_eq] at h
  refine calls_of_codeW (c := body) (rs := [.cell 4 29, .tmp 5]) Tryz.func27 ?_ ?_ ?_ ?_ ?_ (tab_snd (by
    intro x hx
    simp only [tb, List.not_mem_nil] at hx
    )) ?_ h <;> kernel_rfl
end f_ref18_DelE
namespace f_ref18_write
noncomputable def body : Code := (Tryz.f46.body).getD .skip
def wp (Aa0_0 : Option Addr) (na0_0 ca0_0 : Nat) (Aa0_1 : Option Addr) (na0_1 ca0_1 : Nat) (xa1_0 xa1_1 xa1_2 xa1_3 xa1_4 : Int) (ba1_5 : Bool) (xa1_6 : Int) (sa1_7 : ByteArray) (xa1_8 xa1_9 : Int) (ra1_10 ia1_10 : Nat) (Aa1_11 : Option Addr) (na1_11 ca1_11 : Nat) (w : World) (Q : Ending → World → Prop) : Prop := alW w (.cells #[.slice Aa0_0 na0_0 ca0_0, .slice Aa0_1 na0_1 ca0_1] 29) fun B1 w2 => alW w2 (.cells #[.int .i64 xa1_0, .int .i64 xa1_1, .int .i64 xa1_2, .int .i64 xa1_3, .int .i64 xa1_4, .bool ba1_5, .int .i64 xa1_6, .string sa1_7, .int .i64 xa1_8, .int .i64 xa1_9, .complex .f64 ra1_10 ia1_10, .slice Aa1_11 na1_11 ca1_11] 94) fun B3 w4 => alW w4 (.cells #[.slice none 0 0, .slice none 0 0] 29) fun B5 w6 => ldS w6 ⟨B1, 0, none⟩ fun A7 n7 c7 => ldS w6 (.add ⟨B1, 0, none⟩ 1) fun A8 n8 c8 => ldI w6 ⟨B3, 0, none⟩ .i64 fun x9 => ldI w6 (.add ⟨B3, 0, none⟩ 1) .i64 fun x10 => ldI w6 (.add ⟨B3, 0, none⟩ 2) .i64 fun x11 => ldI w6 (.add ⟨B3, 0, none⟩ 3) .i64 fun x12 => ldI w6 (.add ⟨B3, 0, none⟩ 4) .i64 fun x13 => ldB w6 (.add ⟨B3, 0, none⟩ 5) fun b14 => ldI w6 (.add ⟨B3, 0, none⟩ 6) .i64 fun x15 => ldT w6 (.add ⟨B3, 0, none⟩ 7) fun s16 => ldI w6 (.add ⟨B3, 0, none⟩ 8) .i64 fun x17 => ldI w6 (.add ⟨B3, 0, none⟩ 9) .i64 fun x18 => ldC w6 (.add ⟨B3, 0, none⟩ 10) .f64 fun r19 i19 => ldS w6 (.add ⟨B3, 0, none⟩ 11) fun A20 n20 c20 => Calls Tryz.prog 75 #[.agg #[.slice A7 n7 c7, .slice A8 n8 c8, .slice none 0 0], .agg #[.int .i64 x9, .int .i64 x10, .int .i64 x11, .int .i64 x12, .int .i64 x13, .bool b14, .int .i64 x15, .string s16, .int .i64 x17, .int .i64 x18, .complex .f64 r19 i19, .slice A20 n20 c20]] w6 fun e21 w22 => ∃ A23_0_0 n23_0_0 c23_0_0 A23_0_1 n23_0_1 c23_0_1 A23_0_2 n23_0_2 c23_0_2 x23_1, e21 = .returned (.tuple #[.agg #[.slice A23_0_0 n23_0_0 c23_0_0, .slice A23_0_1 n23_0_1 c23_0_1, .slice A23_0_2 n23_0_2 c23_0_2], .int .i64 x23_1]) ∧ (alW w22 (.cells #[.slice none 0 0, .slice none 0 0, .slice none 0 0] 128) fun B24 w25 => stW w25 ⟨B24, 0, none⟩ (.slice A23_0_0 n23_0_0 c23_0_0) fun w26 => stW w26 (.add ⟨B24, 0, none⟩ 1) (.slice A23_0_1 n23_0_1 c23_0_1) fun w27 => stW w27 (.add ⟨B24, 0, none⟩ 2) (.slice A23_0_2 n23_0_2 c23_0_2) fun w28 => ldS w28 ⟨B24, 0, none⟩ fun A29 n29 c29 => ldS w28 (.add ⟨B24, 0, none⟩ 1) fun A30 n30 c30 => ldS w28 (.add ⟨B24, 0, none⟩ 2) fun A31 n31 c31 => Calls Tryz.prog 76 #[.agg #[.slice A29 n29 c29, .slice A30 n30 c30, .slice A31 n31 c31]] w28 fun e32 w33 => ∃ A34_0 n34_0 c34_0 A34_1 n34_1 c34_1, e32 = .returned (.agg #[.slice A34_0 n34_0 c34_0, .slice A34_1 n34_1 c34_1]) ∧ (stW w33 ⟨B5, 0, none⟩ (.slice A34_0 n34_0 c34_0) fun w35 => stW w35 (.add ⟨B5, 0, none⟩ 1) (.slice A34_1 n34_1 c34_1) fun w36 => ldS w36 ⟨B5, 0, none⟩ fun A37 n37 c37 => ldS w36 (.add ⟨B5, 0, none⟩ 1) fun A38 n38 c38 => Q (.returned (.tuple #[.agg #[.slice A37 n37 c37, .slice A38 n38 c38], .int .i64 x23_1])) w36))
def D : Nat → Option DH := dtab []
def tb : List (List Nat × Spec) := []
variable (Aa0_0 : Option Addr) (na0_0 ca0_0 : Nat) (Aa0_1 : Option Addr) (na0_1 ca0_1 : Nat) (xa1_0 xa1_1 xa1_2 xa1_3 xa1_4 : Int) (ba1_5 : Bool) (xa1_6 : Int) (sa1_7 : ByteArray) (xa1_8 xa1_9 : Int) (ra1_10 ia1_10 : Nat) (Aa1_11 : Option Addr) (na1_11 ca1_11 : Nat) (w : World) (Q : Ending → World → Prop)
theorem wp_eq : wp Aa0_0 na0_0 ca0_0 Aa0_1 na0_1 ca0_1 xa1_0 xa1_1 xa1_2 xa1_3 xa1_4 ba1_5 xa1_6 sa1_7 xa1_8 xa1_9 ra1_10 ia1_10 Aa1_11 na1_11 ca1_11 w Q = codeW Tryz.prog hT 21 D (tab tb) [] body (topQ Tryz.prog hT 21 [.cell 4 29, .tmp 5] Q) (argsF [.agg #[.slice Aa0_0 na0_0 ca0_0, .slice Aa0_1 na0_1 ca0_1], .agg #[.int .i64 xa1_0, .int .i64 xa1_1, .int .i64 xa1_2, .int .i64 xa1_3, .int .i64 xa1_4, .bool ba1_5, .int .i64 xa1_6, .string sa1_7, .int .i64 xa1_8, .int .i64 xa1_9, .complex .f64 ra1_10 ia1_10, .slice Aa1_11 na1_11 ca1_11]]) w := by cases ba1_5 <;> kernel_rfl
theorem ok (h : wp Aa0_0 na0_0 ca0_0 Aa0_1 na0_1 ca0_1 xa1_0 xa1_1 xa1_2 xa1_3 xa1_4 ba1_5 xa1_6 sa1_7 xa1_8 xa1_9 ra1_10 ia1_10 Aa1_11 na1_11 ca1_11 w Q) : Calls Tryz.prog 46 #[.agg #[.slice Aa0_0 na0_0 ca0_0, .slice Aa0_1 na0_1 ca0_1], .agg #[.int .i64 xa1_0, .int .i64 xa1_1, .int .i64 xa1_2, .int .i64 xa1_3, .int .i64 xa1_4, .bool ba1_5, .int .i64 xa1_6, .string sa1_7, .int .i64 xa1_8, .int .i64 xa1_9, .complex .f64 ra1_10 ia1_10, .slice Aa1_11 na1_11 ca1_11]] w Q := by
  rw [wp_eq] at h
  refine calls_of_codeW (c := body) (rs := [.cell 4 29, .tmp 5]) Tryz.func46 ?_ ?_ ?_ ?_ ?_ (tab_snd (by
    intro x hx
    simp only [tb, List.not_mem_nil] at hx
    )) ?_ h <;> kernel_rfl
end f_ref18_write
namespace f_ref05_Do
noncomputable def body : Code := (Tryz.f75.body).getD .skip
def j2 (at2 at3 at4 : Addr) (bt24 : Bool) (w : World) (Kn : World → Prop) (Kr : Int → World → Prop) : Prop := sel bt24 (ldS w at2 fun A50 n50 c50 => ldS w (at2.add 1) fun A51 n51 c51 => ldS w (at2.add 2) fun A52 n52 c52 => ldI w at3 .i64 fun x53 => ldI w (at3.add 1) .i64 fun x54 => ldI w (at3.add 2) .i64 fun x55 => ldI w (at3.add 3) .i64 fun x56 => ldI w (at3.add 4) .i64 fun x57 => ldB w (at3.add 5) fun b58 => ldI w (at3.add 6) .i64 fun x59 => ldT w (at3.add 7) fun s60 => ldI w (at3.add 8) .i64 fun x61 => ldI w (at3.add 9) .i64 fun x62 => ldC w (at3.add 10) .f64 fun r63 i63 => ldS w (at3.add 11) fun A64 n64 c64 => Calls Tryz.prog 101 #[.agg #[.slice A50 n50 c50, .slice A51 n51 c51, .slice A52 n52 c52], .agg #[.int .i64 x53, .int .i64 x54, .int .i64 x55, .int .i64 x56, .int .i64 x57, .bool b58, .int .i64 x59, .string s60, .int .i64 x61, .int .i64 x62, .complex .f64 r63 i63, .slice A64 n64 c64]] w fun e65 w66 => ∃ A67_0_0 n67_0_0 c67_0_0 A67_0_1 n67_0_1 c67_0_1 A67_0_2 n67_0_2 c67_0_2 x67_1, e65 = .returned (.tuple #[.agg #[.slice A67_0_0 n67_0_0 c67_0_0, .slice A67_0_1 n67_0_1 c67_0_1, .slice A67_0_2 n67_0_2 c67_0_2], .int .i64 x67_1]) ∧ (stW w66 at4 (.slice A67_0_0 n67_0_0 c67_0_0) fun w68 => stW w68 (at4.add 1) (.slice A67_0_1 n67_0_1 c67_0_1) fun w69 => stW w69 (at4.add 2) (.slice A67_0_2 n67_0_2 c67_0_2) fun w70 => Kr x67_1 w70)) (Kn w)
def j1 (at2 at3 at4 : Addr) (xt7 : Int) (bt16 : Bool) (w : World) (Kn : World → Prop) (Kr : Int → World → Prop) : Prop := sel bt16 (ldS w at2 fun A29 n29 c29 => ldS w (at2.add 1) fun A30 n30 c30 => ldS w (at2.add 2) fun A31 n31 c31 => ldI w at3 .i64 fun x32 => ldI w (at3.add 1) .i64 fun x33 => ldI w (at3.add 2) .i64 fun x34 => ldI w (at3.add 3) .i64 fun x35 => ldI w (at3.add 4) .i64 fun x36 => ldB w (at3.add 5) fun b37 => ldI w (at3.add 6) .i64 fun x38 => ldT w (at3.add 7) fun s39 => ldI w (at3.add 8) .i64 fun x40 => ldI w (at3.add 9) .i64 fun x41 => ldC w (at3.add 10) .f64 fun r42 i42 => ldS w (at3.add 11) fun A43 n43 c43 => Calls Tryz.prog 100 #[.agg #[.slice A29 n29 c29, .slice A30 n30 c30, .slice A31 n31 c31], .agg #[.int .i64 x32, .int .i64 x33, .int .i64 x34, .int .i64 x35, .int .i64 x36, .bool b37, .int .i64 x38, .string s39, .int .i64 x40, .int .i64 x41, .complex .f64 r42 i42, .slice A43 n43 c43]] w fun e44 w45 => ∃ A46_0_0 n46_0_0 c46_0_0 A46_0_1 n46_0_1 c46_0_1 A46_0_2 n46_0_2 c46_0_2 x46_1, e44 = .returned (.tuple #[.agg #[.slice A46_0_0 n46_0_0 c46_0_0, .slice A46_0_1 n46_0_1 c46_0_1, .slice A46_0_2 n46_0_2 c46_0_2], .int .i64 x46_1]) ∧ (stW w45 at4 (.slice A46_0_0 n46_0_0 c46_0_0) fun w47 => stW w47 (at4.add 1) (.slice A46_0_1 n46_0_1 c46_0_1) fun w48 => stW w48 (at4.add 2) (.slice A46_0_2 n46_0_2 c46_0_2) fun w49 => Kr x46_1 w49)) (sel (xt7 == 5) (j2 at2 at3 at4 (xt7 == 5) w (fun w71 => ∀ _ : Fr, Kn w71) (fun x72 w73 => ∀ _ : Fr, Kr x72 w73)) (j2 at2 at3 at4 (xt7 == 6) w (fun w74 => ∀ _ : Fr, Kn w74) (fun x75 w76 => ∀ _ : Fr, Kr x75 w76)))
def j0 (at2 at3 at4 : Addr) (xt7 : Int) (bt8 : Bool) (w : World) (Kn : World → Prop) (Kr : Int → World → Prop) : Prop := sel bt8 (ldS w at2 fun A8 n8 c8 => ldS w (at2.add 1) fun A9 n9 c9 => ldS w (at2.add 2) fun A10 n10 c10 => ldI w at3 .i64 fun x11 => ldI w (at3.add 1) .i64 fun x12 => ldI w (at3.add 2) .i64 fun x13 => ldI w (at3.add 3) .i64 fun x14 => ldI w (at3.add 4) .i64 fun x15 => ldB w (at3.add 5) fun b16 => ldI w (at3.add 6) .i64 fun x17 => ldT w (at3.add 7) fun s18 => ldI w (at3.add 8) .i64 fun x19 => ldI w (at3.add 9) .i64 fun x20 => ldC w (at3.add 10) .f64 fun r21 i21 => ldS w (at3.add 11) fun A22 n22 c22 => Calls Tryz.prog 99 #[.agg #[.slice A8 n8 c8, .slice A9 n9 c9, .slice A10 n10 c10], .agg #[.int .i64 x11, .int .i64 x12, .int .i64 x13, .int .i64 x14, .int .i64 x15, .bool b16, .int .i64 x17, .string s18, .int .i64 x19, .int .i64 x20, .complex .f64 r21 i21, .slice A22 n22 c22]] w fun e23 w24 => ∃ A25_0_0 n25_0_0 c25_0_0 A25_0_1 n25_0_1 c25_0_1 A25_0_2 n25_0_2 c25_0_2 x25_1, e23 = .returned (.tuple #[.agg #[.slice A25_0_0 n25_0_0 c25_0_0, .slice A25_0_1 n25_0_1 c25_0_1, .slice A25_0_2 n25_0_2 c25_0_2], .int .i64 x25_1]) ∧ (stW w24 at4 (.slice A25_0_0 n25_0_0 c25_0_0) fun w26 => stW w26 (at4.add 1) (.slice A25_0_1 n25_0_1 c25_0_1) fun w27 => stW w27 (at4.add 2) (.slice A25_0_2 n25_0_2 c25_0_2) fun w28 => Kr x25_1 w28)) (sel (xt7 == 3) (j1 at2 at3 at4 xt7 (xt7 == 3) w (fun w77 => ∀ _ : Fr, Kn w77) (fun x78 w79 => ∀ _ : Fr, Kr x78 w79)) (j1 at2 at3 at4 xt7 (xt7 == 4) w (fun w80 => ∀ _ : Fr, Kn w80) (fun x81 w82 => ∀ _ : Fr, Kr x81 w82)))
def wp (Aa0_0 : Option Addr) (na0_0 ca0_0 : Nat) (Aa0_1 : Option Addr) (na0_1 ca0_1 : Nat) (Aa0_2 : Option Addr) (na0_2 ca0_2 : Nat) (xa1_0 xa1_1 xa1_2 xa1_3 xa1_4 : Int) (ba1_5 : Bool) (xa1_6 : Int) (sa1_7 : ByteArray) (xa1_8 xa1_9 : Int) (ra1_10 ia1_10 : Nat) (Aa1_11 : Option Addr) (na1_11 ca1_11 : Nat) (w : World) (Q : Ending → World → Prop) : Prop := alW w (.cells #[.slice Aa0_0 na0_0 ca0_0, .slice Aa0_1 na0_1 ca0_1, .slice Aa0_2 na0_2 ca0_2] 128) fun B1 w2 => alW w2 (.cells #[.int .i64 xa1_0, .int .i64 xa1_1, .int .i64 xa1_2, .int .i64 xa1_3, .int .i64 xa1_4, .bool ba1_5, .int .i64 xa1_6, .string sa1_7, .int .i64 xa1_8, .int .i64 xa1_9, .complex .f64 ra1_10 ia1_10, .slice Aa1_11 na1_11 ca1_11] 94) fun B3 w4 => alW w4 (.cells #[.slice none 0 0, .slice none 0 0, .slice none 0 0] 128) fun B5 w6 => ldI w6 ⟨B3, 0, none⟩ .i64 fun x7 => sel (x7 == 1) (j0 ⟨B1, 0, none⟩ ⟨B3, 0, none⟩ ⟨B5, 0, none⟩ x7 (x7 == 1) w6 (fun w83 => ∀ _ : Fr, ldS w83 ⟨B1, 0, none⟩ fun A84 n84 c84 => ldS w83 (.add ⟨B1, 0, none⟩ 1) fun A85 n85 c85 => ldS w83 (.add ⟨B1, 0, none⟩ 2) fun A86 n86 c86 => stW w83 ⟨B5, 0, none⟩ (.slice A84 n84 c84) fun w87 => stW w87 (.add ⟨B5, 0, none⟩ 1) (.slice A85 n85 c85) fun w88 => stW w88 (.add ⟨B5, 0, none⟩ 2) (.slice A86 n86 c86) fun w89 => ldS w89 ⟨B5, 0, none⟩ fun A90 n90 c90 => ldS w89 (.add ⟨B5, 0, none⟩ 1) fun A91 n91 c91 => ldS w89 (.add ⟨B5, 0, none⟩ 2) fun A92 n92 c92 => Q (.returned (.tuple #[.agg #[.slice A90 n90 c90, .slice A91 n91 c91, .slice A92 n92 c92], .int .i64 1])) w89) (fun x93 w94 => ∀ _ : Fr, ldS w94 ⟨B5, 0, none⟩ fun A95 n95 c95 => ldS w94 (.add ⟨B5, 0, none⟩ 1) fun A96 n96 c96 => ldS w94 (.add ⟨B5, 0, none⟩ 2) fun A97 n97 c97 => Q (.returned (.tuple #[.agg #[.slice A95 n95 c95, .slice A96 n96 c96, .slice A97 n97 c97], .int .i64 x93])) w94)) (j0 ⟨B1, 0, none⟩ ⟨B3, 0, none⟩ ⟨B5, 0, none⟩ x7 (x7 == 2) w6 (fun w98 => ∀ _ : Fr, ldS w98 ⟨B1, 0, none⟩ fun A99 n99 c99 => ldS w98 (.add ⟨B1, 0, none⟩ 1) fun A100 n100 c100 => ldS w98 (.add ⟨B1, 0, none⟩ 2) fun A101 n101 c101 => stW w98 ⟨B5, 0, none⟩ (.slice A99 n99 c99) fun w102 => stW w102 (.add ⟨B5, 0, none⟩ 1) (.slice A100 n100 c100) fun w103 => stW w103 (.add ⟨B5, 0, none⟩ 2) (.slice A101 n101 c101) fun w104 => ldS w104 ⟨B5, 0, none⟩ fun A105 n105 c105 => ldS w104 (.add ⟨B5, 0, none⟩ 1) fun A106 n106 c106 => ldS w104 (.add ⟨B5, 0, none⟩ 2) fun A107 n107 c107 => Q (.returned (.tuple #[.agg #[.slice A105 n105 c105, .slice A106 n106 c106, .slice A107 n107 c107], .int .i64 1])) w104) (fun x108 w109 => ∀ _ : Fr, ldS w109 ⟨B5, 0, none⟩ fun A110 n110 c110 => ldS w109 (.add ⟨B5, 0, none⟩ 1) fun A111 n111 c111 => ldS w109 (.add ⟨B5, 0, none⟩ 2) fun A112 n112 c112 => Q (.returned (.tuple #[.agg #[.slice A110 n110 c110, .slice A111 n111 c111, .slice A112 n112 c112], .int .i64 x108])) w109))
def D : Nat → Option DH := dtab []
def j2LO : LO := ⟨[2, 4], [4, 5], [], []⟩
def j2T : Spec := fun Q σ w => gAd (σ 2) fun at2 => gAd (σ 3) fun at3 => gAd (σ 4) fun at4 => gBool (σ 24) fun bt24 => j2 at2 at3 at4 bt24 w (fun w => ∀ d : Fr, Q .normal (ov d [(2, .pointer (some at2)), (4, .pointer (some at4))]) w) (fun xq5 w => ∀ d : Fr, Q .ret (ov d [(4, .pointer (some at4)), (5, .int .i64 xq5)]) w)
def j2tb : List (List Nat × Spec) := []
noncomputable def j2b : Code := (subC [1, 1, 1, 1, 1, 0, 1, 0, 1] body).getD .skip
theorem j2_eq (at2 at3 at4 : Addr) (bt24 : Bool) (Q : PQ) (σ : Fr) (w : World) : j2 at2 at3 at4 bt24 w (fun w => ∀ d : Fr, Q .normal (ov d [(2, .pointer (some at2)), (4, .pointer (some at4))]) w) (fun xq5 w => ∀ d : Fr, Q .ret (ov d [(4, .pointer (some at4)), (5, .int .i64 xq5)]) w) = codeW Tryz.prog hT 33 D (tab j2tb) [1, 1, 1, 1, 1, 0, 1, 0, 1] j2b (widen j2LO Q) (ov σ [(2, .pointer (some at2)), (3, .pointer (some at3)), (4, .pointer (some at4)), (24, .bool bt24)]) w := by cases bt24 <;> kernel_rfl
theorem j2_snd : ∀ c, subC [1, 1, 1, 1, 1, 0, 1, 0, 1] body = some c → Snd Tryz.prog 33 c j2T := by
  refine cut_of (hT := hT) (D := D) (l := j2tb) (b := j2b) (lo := j2LO) (by kernel_rfl) (by
    intro x hx
    simp only [j2tb, List.not_mem_nil] at hx
    ) (by kernel_rfl) (by kernel_rfl) ?_
  intro Q σ w h
  unfold j2T at h
  obtain ⟨at2, h2, h⟩ := gAd_elim h
  obtain ⟨at3, h3, h⟩ := gAd_elim h
  obtain ⟨at4, h4, h⟩ := gAd_elim h
  obtain ⟨bt24, h24, h⟩ := gBool_elim h
  rw [j2_eq (σ := σ)] at h
  have e : (ov σ [(2, .pointer (some at2)), (3, .pointer (some at3)), (4, .pointer (some at4)), (24, .bool bt24)]) = σ := ov_self (by simp [h2, h3, h4, h24])
  rw [e] at h
  exact h
def j1LO : LO := ⟨[2, 4], [4, 5], [], []⟩
def j1T : Spec := fun Q σ w => gAd (σ 2) fun at2 => gAd (σ 3) fun at3 => gAd (σ 4) fun at4 => gInt .i64 (σ 7) fun xt7 => gBool (σ 16) fun bt16 => j1 at2 at3 at4 xt7 bt16 w (fun w => ∀ d : Fr, Q .normal (ov d [(2, .pointer (some at2)), (4, .pointer (some at4))]) w) (fun xq5 w => ∀ d : Fr, Q .ret (ov d [(4, .pointer (some at4)), (5, .int .i64 xq5)]) w)
def j1tb : List (List Nat × Spec) := [([1, 1, 1, 1, 1, 0, 1, 0, 1], j2T)]
noncomputable def j1b : Code := (subC [1, 1, 1, 0, 1, 0, 1] body).getD .skip
theorem j1_eq (at2 at3 at4 : Addr) (xt7 : Int) (bt16 : Bool) (Q : PQ) (σ : Fr) (w : World) : j1 at2 at3 at4 xt7 bt16 w (fun w => ∀ d : Fr, Q .normal (ov d [(2, .pointer (some at2)), (4, .pointer (some at4))]) w) (fun xq5 w => ∀ d : Fr, Q .ret (ov d [(4, .pointer (some at4)), (5, .int .i64 xq5)]) w) = codeW Tryz.prog hT 33 D (tab j1tb) [1, 1, 1, 0, 1, 0, 1] j1b (widen j1LO Q) (ov σ [(2, .pointer (some at2)), (3, .pointer (some at3)), (4, .pointer (some at4)), (7, .int .i64 xt7), (16, .bool bt16)]) w := by cases bt16 <;> kernel_rfl
theorem j1_snd : ∀ c, subC [1, 1, 1, 0, 1, 0, 1] body = some c → Snd Tryz.prog 33 c j1T := by
  refine cut_of (hT := hT) (D := D) (l := j1tb) (b := j1b) (lo := j1LO) (by kernel_rfl) (by
    intro x hx
    simp only [j1tb, List.mem_cons, List.not_mem_nil, or_false] at hx
    subst hx
    exact j2_snd) (by kernel_rfl) (by kernel_rfl) ?_
  intro Q σ w h
  unfold j1T at h
  obtain ⟨at2, h2, h⟩ := gAd_elim h
  obtain ⟨at3, h3, h⟩ := gAd_elim h
  obtain ⟨at4, h4, h⟩ := gAd_elim h
  obtain ⟨xt7, h7, h⟩ := gInt_elim h
  obtain ⟨bt16, h16, h⟩ := gBool_elim h
  rw [j1_eq (σ := σ)] at h
  have e : (ov σ [(2, .pointer (some at2)), (3, .pointer (some at3)), (4, .pointer (some at4)), (7, .int .i64 xt7), (16, .bool bt16)]) = σ := ov_self (by simp [h2, h3, h4, h7, h16])
  rw [e] at h
  exact h
def j0LO : LO := ⟨[2, 4], [4, 5], [], []⟩
def j0T : Spec := fun Q σ w => gAd (σ 2) fun at2 => gAd (σ 3) fun at3 => gAd (σ 4) fun at4 => gInt .i64 (σ 7) fun xt7 => gBool (σ 8) fun bt8 => j0 at2 at3 at4 xt7 bt8 w (fun w => ∀ d : Fr, Q .normal (ov d [(2, .pointer (some at2)), (4, .pointer (some at4))]) w) (fun xq5 w => ∀ d : Fr, Q .ret (ov d [(4, .pointer (some at4)), (5, .int .i64 xq5)]) w)
def j0tb : List (List Nat × Spec) := [([1, 1, 1, 1, 1, 0, 1, 0, 1], j2T), ([1, 1, 1, 0, 1, 0, 1], j1T)]
noncomputable def j0b : Code := (subC [1, 0, 1, 0, 1] body).getD .skip
theorem j0_eq (at2 at3 at4 : Addr) (xt7 : Int) (bt8 : Bool) (Q : PQ) (σ : Fr) (w : World) : j0 at2 at3 at4 xt7 bt8 w (fun w => ∀ d : Fr, Q .normal (ov d [(2, .pointer (some at2)), (4, .pointer (some at4))]) w) (fun xq5 w => ∀ d : Fr, Q .ret (ov d [(4, .pointer (some at4)), (5, .int .i64 xq5)]) w) = codeW Tryz.prog hT 33 D (tab j0tb) [1, 0, 1, 0, 1] j0b (widen j0LO Q) (ov σ [(2, .pointer (some at2)), (3, .pointer (some at3)), (4, .pointer (some at4)), (7, .int .i64 xt7), (8, .bool bt8)]) w := by cases bt8 <;> kernel_rfl
theorem j0_snd : ∀ c, subC [1, 0, 1, 0, 1] body = some c → Snd Tryz.prog 33 c j0T := by
  refine cut_of (hT := hT) (D := D) (l := j0tb) (b := j0b) (lo := j0LO) (by kernel_rfl) (by
    intro x hx
    simp only [j0tb, List.mem_cons, List.not_mem_nil, or_false] at hx
    rcases hx with rfl | rfl
    · exact j2_snd
    · exact j1_snd) (by kernel_rfl) (by kernel_rfl) ?_
  intro Q σ w h
  unfold j0T at h
  obtain ⟨at2, h2, h⟩ := gAd_elim h
  obtain ⟨at3, h3, h⟩ := gAd_elim h
  obtain ⟨at4, h4, h⟩ := gAd_elim h
  obtain ⟨xt7, h7, h⟩ := gInt_elim h
  obtain ⟨bt8, h8, h⟩ := gBool_elim h
  rw [j0_eq (σ := σ)] at h
  have e : (ov σ [(2, .pointer (some at2)), (3, .pointer (some at3)), (4, .pointer (some at4)), (7, .int .i64 xt7), (8, .bool bt8)]) = σ := ov_self (by simp [h2, h3, h4, h7, h8])
  rw [e] at h
  exact h
def tb : List (List Nat × Spec) := [([1, 1, 1, 1, 1, 0, 1, 0, 1], j2T), ([1, 1, 1, 0, 1, 0, 1], j1T), ([1, 0, 1, 0, 1], j0T)]
variable (Aa0_0 : Option Addr) (na0_0 ca0_0 : Nat) (Aa0_1 : Option Addr) (na0_1 ca0_1 : Nat) (Aa0_2 : Option Addr) (na0_2 ca0_2 : Nat) (xa1_0 xa1_1 xa1_2 xa1_3 xa1_4 : Int) (ba1_5 : Bool) (xa1_6 : Int) (sa1_7 : ByteArray) (xa1_8 xa1_9 : Int) (ra1_10 ia1_10 : Nat) (Aa1_11 : Option Addr) (na1_11 ca1_11 : Nat) (w : World) (Q : Ending → World → Prop)
theorem wp_eq : wp Aa0_0 na0_0 ca0_0 Aa0_1 na0_1 ca0_1 Aa0_2 na0_2 ca0_2 xa1_0 xa1_1 xa1_2 xa1_3 xa1_4 ba1_5 xa1_6 sa1_7 xa1_8 xa1_9 ra1_10 ia1_10 Aa1_11 na1_11 ca1_11 w Q = codeW Tryz.prog hT 33 D (tab tb) [] body (topQ Tryz.prog hT 33 [.cell 4 128, .tmp 5] Q) (argsF [.agg #[.slice Aa0_0 na0_0 ca0_0, .slice Aa0_1 na0_1 ca0_1, .slice Aa0_2 na0_2 ca0_2], .agg #[.int .i64 xa1_0, .int .i64 xa1_1, .int .i64 xa1_2, .int .i64 xa1_3, .int .i64 xa1_4, .bool ba1_5, .int .i64 xa1_6, .string sa1_7, .int .i64 xa1_8, .int .i64 xa1_9, .complex .f64 ra1_10 ia1_10, .slice Aa1_11 na1_11 ca1_11]]) w := by cases ba1_5 <;> kernel_rfl
theorem ok (h : wp Aa0_0 na0_0 ca0_0 Aa0_1 na0_1 ca0_1 Aa0_2 na0_2 ca0_2 xa1_0 xa1_1 xa1_2 xa1_3 xa1_4 ba1_5 xa1_6 sa1_7 xa1_8 xa1_9 ra1_10 ia1_10 Aa1_11 na1_11 ca1_11 w Q) : Calls Tryz.prog 75 #[.agg #[.slice Aa0_0 na0_0 ca0_0, .slice Aa0_1 na0_1 ca0_1, .slice Aa0_2 na0_2 ca0_2], .agg #[.int .i64 xa1_0, .int .i64 xa1_1, .int .i64 xa1_2, .int .i64 xa1_3, .int .i64 xa1_4, .bool ba1_5, .int .i64 xa1_6, .string sa1_7, .int .i64 xa1_8, .int .i64 xa1_9, .complex .f64 ra1_10 ia1_10, .slice Aa1_11 na1_11 ca1_11]] w Q := by
  rw [wp_eq] at h
  refine calls_of_codeW (c := body) (rs := [.cell 4 128, .tmp 5]) Tryz.func75 ?_ ?_ ?_ ?_ ?_ (tab_snd (by
    intro x hx
    simp only [tb, List.mem_cons, List.not_mem_nil, or_false] at hx
    rcases hx with rfl | rfl | rfl
    · exact j2_snd
    · exact j1_snd
    · exact j0_snd)) ?_ h <;> kernel_rfl
end f_ref05_Do
namespace f_ref05_Net
noncomputable def body : Code := (Tryz.f76.body).getD .skip
def wp (Aa0_0 : Option Addr) (na0_0 ca0_0 : Nat) (Aa0_1 : Option Addr) (na0_1 ca0_1 : Nat) (Aa0_2 : Option Addr) (na0_2 ca0_2 : Nat) (w : World) (Q : Ending → World → Prop) : Prop := alW w (.cells #[.slice Aa0_0 na0_0 ca0_0, .slice Aa0_1 na0_1 ca0_1, .slice Aa0_2 na0_2 ca0_2] 128) fun B1 w2 => alW w2 (.cells #[.slice none 0 0, .slice none 0 0] 29) fun B3 w4 => ldS w4 ⟨B1, 0, none⟩ fun A5 n5 c5 => ldS w4 (.add ⟨B1, 0, none⟩ 1) fun A6 n6 c6 => stW w4 ⟨B3, 0, none⟩ (.slice A5 n5 c5) fun w7 => stW w7 (.add ⟨B3, 0, none⟩ 1) (.slice A6 n6 c6) fun w8 => ldS w8 ⟨B3, 0, none⟩ fun A9 n9 c9 => ldS w8 (.add ⟨B3, 0, none⟩ 1) fun A10 n10 c10 => Q (.returned (.agg #[.slice A9 n9 c9, .slice A10 n10 c10])) w8
def D : Nat → Option DH := dtab []
def tb : List (List Nat × Spec) := []
variable (Aa0_0 : Option Addr) (na0_0 ca0_0 : Nat) (Aa0_1 : Option Addr) (na0_1 ca0_1 : Nat) (Aa0_2 : Option Addr) (na0_2 ca0_2 : Nat) (w : World) (Q : Ending → World → Prop)
theorem wp_eq : wp Aa0_0 na0_0 ca0_0 Aa0_1 na0_1 ca0_1 Aa0_2 na0_2 ca0_2 w Q = codeW Tryz.prog hT 8 D (tab tb) [] body (topQ Tryz.prog hT 8 [.cell 2 29] Q) (argsF [.agg #[.slice Aa0_0 na0_0 ca0_0, .slice Aa0_1 na0_1 ca0_1, .slice Aa0_2 na0_2 ca0_2]]) w := by kernel_rfl
theorem ok (h : wp Aa0_0 na0_0 ca0_0 Aa0_1 na0_1 ca0_1 Aa0_2 na0_2 ca0_2 w Q) : Calls Tryz.prog 76 #[.agg #[.slice Aa0_0 na0_0 ca0_0, .slice Aa0_1 na0_1 ca0_1, .slice Aa0_2 na0_2 ca0_2]] w Q := by
  rw [wp_eq] at h
  refine calls_of_codeW (c := body) (rs := [.cell 2 29]) Tryz.func76 ?_ ?_ ?_ ?_ ?_ (tab_snd (by
    intro x hx
    simp only [tb, List.not_mem_nil] at hx
    )) ?_ h <;> kernel_rfl
end f_ref05_Net
namespace f_ref05_edge
noncomputable def body : Code := (Tryz.f100.body).getD .skip
def wp (Aa0_0 : Option Addr) (na0_0 ca0_0 : Nat) (Aa0_1 : Option Addr) (na0_1 ca0_1 : Nat) (Aa0_2 : Option Addr) (na0_2 ca0_2 : Nat) (xa1_0 xa1_1 xa1_2 xa1_3 xa1_4 : Int) (ba1_5 : Bool) (xa1_6 : Int) (sa1_7 : ByteArray) (xa1_8 xa1_9 : Int) (ra1_10 ia1_10 : Nat) (Aa1_11 : Option Addr) (na1_11 ca1_11 : Nat) (w : World) (Q : Ending → World → Prop) : Prop := alW w (.cells #[.slice Aa0_0 na0_0 ca0_0, .slice Aa0_1 na0_1 ca0_1, .slice Aa0_2 na0_2 ca0_2] 128) fun B1 w2 => alW w2 (.cells #[.int .i64 xa1_0, .int .i64 xa1_1, .int .i64 xa1_2, .int .i64 xa1_3, .int .i64 xa1_4, .bool ba1_5, .int .i64 xa1_6, .string sa1_7, .int .i64 xa1_8, .int .i64 xa1_9, .complex .f64 ra1_10 ia1_10, .slice Aa1_11 na1_11 ca1_11] 94) fun B3 w4 => alW w4 (.cells #[.slice none 0 0, .slice none 0 0, .slice none 0 0] 128) fun B5 w6 => ldS w6 ⟨B1, 0, none⟩ fun A7 n7 c7 => ldS w6 (.add ⟨B1, 0, none⟩ 1) fun A8 n8 c8 => ldS w6 (.add ⟨B1, 0, none⟩ 2) fun A9 n9 c9 => ldI w6 (.add ⟨B3, 0, none⟩ 1) .i64 fun x10 => Calls Tryz.prog 114 #[.agg #[.slice A7 n7 c7, .slice A8 n8 c8, .slice A9 n9 c9], .int .i64 x10] w6 fun e11 w12 => ∃ x13_0_0 x13_0_1 x13_0_2 x13_0_3 b13_1, e11 = .returned (.tuple #[.agg #[.int .i64 x13_0_0, .int .i64 x13_0_1, .int .i64 x13_0_2, .int .i64 x13_0_3], .bool b13_1]) ∧ (alW w12 (.cells #[.int .i64 0, .int .i64 0, .int .i64 0, .int .i64 0] 31) fun B14 w15 => stW w15 ⟨B14, 0, none⟩ (.int .i64 x13_0_0) fun w16 => stW w16 (.add ⟨B14, 0, none⟩ 1) (.int .i64 x13_0_1) fun w17 => stW w17 (.add ⟨B14, 0, none⟩ 2) (.int .i64 x13_0_2) fun w18 => stW w18 (.add ⟨B14, 0, none⟩ 3) (.int .i64 x13_0_3) fun w19 => ldI w19 ⟨B3, 0, none⟩ .i64 fun x20 => sel (x20 == 4) (ldI w19 (.add ⟨B3, 0, none⟩ 1) .i64 fun x21 => Calls Tryz.prog 109 #[.int .i64 x21] w19 fun e22 w23 => ∃ b24, e22 = .returned (.bool b24) ∧ (sel b24 (ldS w23 ⟨B1, 0, none⟩ fun A25 n25 c25 => ldS w23 (.add ⟨B1, 0, none⟩ 1) fun A26 n26 c26 => ldS w23 (.add ⟨B1, 0, none⟩ 2) fun A27 n27 c27 => stW w23 ⟨B5, 0, none⟩ (.slice A25 n25 c25) fun w28 => stW w28 (.add ⟨B5, 0, none⟩ 1) (.slice A26 n26 c26) fun w29 => stW w29 (.add ⟨B5, 0, none⟩ 2) (.slice A27 n27 c27) fun w30 => ldS w30 ⟨B5, 0, none⟩ fun A31 n31 c31 => ldS w30 (.add ⟨B5, 0, none⟩ 1) fun A32 n32 c32 => ldS w30 (.add ⟨B5, 0, none⟩ 2) fun A33 n33 c33 => Q (.returned (.tuple #[.agg #[.slice A31 n31 c31, .slice A32 n32 c32, .slice A33 n33 c33], .int .i64 1])) w30) (sel (!b13_1) (ldS w23 ⟨B1, 0, none⟩ fun A34 n34 c34 => ldS w23 (.add ⟨B1, 0, none⟩ 1) fun A35 n35 c35 => ldS w23 (.add ⟨B1, 0, none⟩ 2) fun A36 n36 c36 => stW w23 ⟨B5, 0, none⟩ (.slice A34 n34 c34) fun w37 => stW w37 (.add ⟨B5, 0, none⟩ 1) (.slice A35 n35 c35) fun w38 => stW w38 (.add ⟨B5, 0, none⟩ 2) (.slice A36 n36 c36) fun w39 => ldS w39 ⟨B5, 0, none⟩ fun A40 n40 c40 => ldS w39 (.add ⟨B5, 0, none⟩ 1) fun A41 n41 c41 => ldS w39 (.add ⟨B5, 0, none⟩ 2) fun A42 n42 c42 => Q (.returned (.tuple #[.agg #[.slice A40 n40 c40, .slice A41 n41 c41, .slice A42 n42 c42], .int .i64 51])) w39) (ldS w23 (.add ⟨B1, 0, none⟩ 1) fun A43 n43 c43 => ldI w23 (.add ⟨B3, 0, none⟩ 1) .i64 fun x44 => Calls Tryz.prog 115 #[.slice A43 n43 c43, .int .i64 x44] w23 fun e45 w46 => ∃ A47 n47 c47, e45 = .returned (.slice A47 n47 c47) ∧ (stW w46 (.add ⟨B1, 0, none⟩ 1) (.slice A47 n47 c47) fun w48 => ldS w48 (.add ⟨B1, 0, none⟩ 2) fun A49 n49 c49 => ldI w48 (.add ⟨B3, 0, none⟩ 1) .i64 fun x50 => Calls Tryz.prog 113 #[.slice A49 n49 c49, .agg #[.bool true, .int .i64 x50]] w48 fun e51 w52 => ∃ A53 n53 c53, e51 = .returned (.slice A53 n53 c53) ∧ (stW w52 (.add ⟨B1, 0, none⟩ 2) (.slice A53 n53 c53) fun w54 => ldS w54 ⟨B1, 0, none⟩ fun A55 n55 c55 => ldS w54 (.add ⟨B1, 0, none⟩ 1) fun A56 n56 c56 => ldS w54 (.add ⟨B1, 0, none⟩ 2) fun A57 n57 c57 => stW w54 ⟨B5, 0, none⟩ (.slice A55 n55 c55) fun w58 => stW w58 (.add ⟨B5, 0, none⟩ 1) (.slice A56 n56 c56) fun w59 => stW w59 (.add ⟨B5, 0, none⟩ 2) (.slice A57 n57 c57) fun w60 => ldS w60 ⟨B5, 0, none⟩ fun A61 n61 c61 => ldS w60 (.add ⟨B5, 0, none⟩ 1) fun A62 n62 c62 => ldS w60 (.add ⟨B5, 0, none⟩ 2) fun A63 n63 c63 => Q (.returned (.tuple #[.agg #[.slice A61 n61 c61, .slice A62 n62 c62, .slice A63 n63 c63], .int .i64 0])) w60)))))) (ldI w19 (.add ⟨B3, 0, none⟩ 1) .i64 fun x64 => Calls Tryz.prog 109 #[.int .i64 x64] w19 fun e65 w66 => ∃ b67, e65 = .returned (.bool b67) ∧ (sel b67 (ldS w66 ⟨B1, 0, none⟩ fun A68 n68 c68 => ldS w66 (.add ⟨B1, 0, none⟩ 1) fun A69 n69 c69 => ldS w66 (.add ⟨B1, 0, none⟩ 2) fun A70 n70 c70 => stW w66 ⟨B5, 0, none⟩ (.slice A68 n68 c68) fun w71 => stW w71 (.add ⟨B5, 0, none⟩ 1) (.slice A69 n69 c69) fun w72 => stW w72 (.add ⟨B5, 0, none⟩ 2) (.slice A70 n70 c70) fun w73 => ldS w73 ⟨B5, 0, none⟩ fun A74 n74 c74 => ldS w73 (.add ⟨B5, 0, none⟩ 1) fun A75 n75 c75 => ldS w73 (.add ⟨B5, 0, none⟩ 2) fun A76 n76 c76 => Q (.returned (.tuple #[.agg #[.slice A74 n74 c74, .slice A75 n75 c75, .slice A76 n76 c76], .int .i64 1])) w73) (ldI w66 (.add ⟨B3, 0, none⟩ 2) .i64 fun x77 => Calls Tryz.prog 109 #[.int .i64 x77] w66 fun e78 w79 => ∃ b80, e78 = .returned (.bool b80) ∧ (sel b80 (ldS w79 ⟨B1, 0, none⟩ fun A81 n81 c81 => ldS w79 (.add ⟨B1, 0, none⟩ 1) fun A82 n82 c82 => ldS w79 (.add ⟨B1, 0, none⟩ 2) fun A83 n83 c83 => stW w79 ⟨B5, 0, none⟩ (.slice A81 n81 c81) fun w84 => stW w84 (.add ⟨B5, 0, none⟩ 1) (.slice A82 n82 c82) fun w85 => stW w85 (.add ⟨B5, 0, none⟩ 2) (.slice A83 n83 c83) fun w86 => ldS w86 ⟨B5, 0, none⟩ fun A87 n87 c87 => ldS w86 (.add ⟨B5, 0, none⟩ 1) fun A88 n88 c88 => ldS w86 (.add ⟨B5, 0, none⟩ 2) fun A89 n89 c89 => Q (.returned (.tuple #[.agg #[.slice A87 n87 c87, .slice A88 n88 c88, .slice A89 n89 c89], .int .i64 1])) w86) (ldI w79 (.add ⟨B3, 0, none⟩ 3) .i64 fun x90 => Calls Tryz.prog 109 #[.int .i64 x90] w79 fun e91 w92 => ∃ b93, e91 = .returned (.bool b93) ∧ (sel b93 (ldS w92 ⟨B1, 0, none⟩ fun A94 n94 c94 => ldS w92 (.add ⟨B1, 0, none⟩ 1) fun A95 n95 c95 => ldS w92 (.add ⟨B1, 0, none⟩ 2) fun A96 n96 c96 => stW w92 ⟨B5, 0, none⟩ (.slice A94 n94 c94) fun w97 => stW w97 (.add ⟨B5, 0, none⟩ 1) (.slice A95 n95 c95) fun w98 => stW w98 (.add ⟨B5, 0, none⟩ 2) (.slice A96 n96 c96) fun w99 => ldS w99 ⟨B5, 0, none⟩ fun A100 n100 c100 => ldS w99 (.add ⟨B5, 0, none⟩ 1) fun A101 n101 c101 => ldS w99 (.add ⟨B5, 0, none⟩ 2) fun A102 n102 c102 => Q (.returned (.tuple #[.agg #[.slice A100 n100 c100, .slice A101 n101 c101, .slice A102 n102 c102], .int .i64 1])) w99) (ldI w92 (.add ⟨B3, 0, none⟩ 4) .i64 fun x103 => sel (decide (x103 < 0)) (ldS w92 ⟨B1, 0, none⟩ fun A104 n104 c104 => ldS w92 (.add ⟨B1, 0, none⟩ 1) fun A105 n105 c105 => ldS w92 (.add ⟨B1, 0, none⟩ 2) fun A106 n106 c106 => stW w92 ⟨B5, 0, none⟩ (.slice A104 n104 c104) fun w107 => stW w107 (.add ⟨B5, 0, none⟩ 1) (.slice A105 n105 c105) fun w108 => stW w108 (.add ⟨B5, 0, none⟩ 2) (.slice A106 n106 c106) fun w109 => ldS w109 ⟨B5, 0, none⟩ fun A110 n110 c110 => ldS w109 (.add ⟨B5, 0, none⟩ 1) fun A111 n111 c111 => ldS w109 (.add ⟨B5, 0, none⟩ 2) fun A112 n112 c112 => Q (.returned (.tuple #[.agg #[.slice A110 n110 c110, .slice A111 n111 c111, .slice A112 n112 c112], .int .i64 53])) w109) (ldI w92 (.add ⟨B3, 0, none⟩ 4) .i64 fun x113 => sel (decide (x113 > 1099511627776)) (ldS w92 ⟨B1, 0, none⟩ fun A114 n114 c114 => ldS w92 (.add ⟨B1, 0, none⟩ 1) fun A115 n115 c115 => ldS w92 (.add ⟨B1, 0, none⟩ 2) fun A116 n116 c116 => stW w92 ⟨B5, 0, none⟩ (.slice A114 n114 c114) fun w117 => stW w117 (.add ⟨B5, 0, none⟩ 1) (.slice A115 n115 c115) fun w118 => stW w118 (.add ⟨B5, 0, none⟩ 2) (.slice A116 n116 c116) fun w119 => ldS w119 ⟨B5, 0, none⟩ fun A120 n120 c120 => ldS w119 (.add ⟨B5, 0, none⟩ 1) fun A121 n121 c121 => ldS w119 (.add ⟨B5, 0, none⟩ 2) fun A122 n122 c122 => Q (.returned (.tuple #[.agg #[.slice A120 n120 c120, .slice A121 n121 c121, .slice A122 n122 c122], .int .i64 53])) w119) (sel b13_1 (ldS w92 ⟨B1, 0, none⟩ fun A123 n123 c123 => ldS w92 (.add ⟨B1, 0, none⟩ 1) fun A124 n124 c124 => ldS w92 (.add ⟨B1, 0, none⟩ 2) fun A125 n125 c125 => stW w92 ⟨B5, 0, none⟩ (.slice A123 n123 c123) fun w126 => stW w126 (.add ⟨B5, 0, none⟩ 1) (.slice A124 n124 c124) fun w127 => stW w127 (.add ⟨B5, 0, none⟩ 2) (.slice A125 n125 c125) fun w128 => ldS w128 ⟨B5, 0, none⟩ fun A129 n129 c129 => ldS w128 (.add ⟨B5, 0, none⟩ 1) fun A130 n130 c130 => ldS w128 (.add ⟨B5, 0, none⟩ 2) fun A131 n131 c131 => Q (.returned (.tuple #[.agg #[.slice A129 n129 c129, .slice A130 n130 c130, .slice A131 n131 c131], .int .i64 50])) w128) (ldS w92 ⟨B1, 0, none⟩ fun A132 n132 c132 => ldS w92 (.add ⟨B1, 0, none⟩ 1) fun A133 n133 c133 => ldS w92 (.add ⟨B1, 0, none⟩ 2) fun A134 n134 c134 => ldI w92 (.add ⟨B3, 0, none⟩ 2) .i64 fun x135 => Calls Tryz.prog 110 #[.agg #[.slice A132 n132 c132, .slice A133 n133 c133, .slice A134 n134 c134], .int .i64 x135] w92 fun e136 w137 => ∃ b138, e136 = .returned (.bool b138) ∧ (sel (!b138) (ldS w137 ⟨B1, 0, none⟩ fun A139 n139 c139 => ldS w137 (.add ⟨B1, 0, none⟩ 1) fun A140 n140 c140 => ldS w137 (.add ⟨B1, 0, none⟩ 2) fun A141 n141 c141 => stW w137 ⟨B5, 0, none⟩ (.slice A139 n139 c139) fun w142 => stW w142 (.add ⟨B5, 0, none⟩ 1) (.slice A140 n140 c140) fun w143 => stW w143 (.add ⟨B5, 0, none⟩ 2) (.slice A141 n141 c141) fun w144 => ldS w144 ⟨B5, 0, none⟩ fun A145 n145 c145 => ldS w144 (.add ⟨B5, 0, none⟩ 1) fun A146 n146 c146 => ldS w144 (.add ⟨B5, 0, none⟩ 2) fun A147 n147 c147 => Q (.returned (.tuple #[.agg #[.slice A145 n145 c145, .slice A146 n146 c146, .slice A147 n147 c147], .int .i64 51])) w144) (ldS w137 ⟨B1, 0, none⟩ fun A148 n148 c148 => ldS w137 (.add ⟨B1, 0, none⟩ 1) fun A149 n149 c149 => ldS w137 (.add ⟨B1, 0, none⟩ 2) fun A150 n150 c150 => ldI w137 (.add ⟨B3, 0, none⟩ 3) .i64 fun x151 => Calls Tryz.prog 110 #[.agg #[.slice A148 n148 c148, .slice A149 n149 c149, .slice A150 n150 c150], .int .i64 x151] w137 fun e152 w153 => ∃ b154, e152 = .returned (.bool b154) ∧ (sel (!b154) (ldS w153 ⟨B1, 0, none⟩ fun A155 n155 c155 => ldS w153 (.add ⟨B1, 0, none⟩ 1) fun A156 n156 c156 => ldS w153 (.add ⟨B1, 0, none⟩ 2) fun A157 n157 c157 => stW w153 ⟨B5, 0, none⟩ (.slice A155 n155 c155) fun w158 => stW w158 (.add ⟨B5, 0, none⟩ 1) (.slice A156 n156 c156) fun w159 => stW w159 (.add ⟨B5, 0, none⟩ 2) (.slice A157 n157 c157) fun w160 => ldS w160 ⟨B5, 0, none⟩ fun A161 n161 c161 => ldS w160 (.add ⟨B5, 0, none⟩ 1) fun A162 n162 c162 => ldS w160 (.add ⟨B5, 0, none⟩ 2) fun A163 n163 c163 => Q (.returned (.tuple #[.agg #[.slice A161 n161 c161, .slice A162 n162 c162, .slice A163 n163 c163], .int .i64 51])) w160) (ldS w153 (.add ⟨B1, 0, none⟩ 1) fun A164 n164 c164 => sel (decide ((n164 : Int) ≥ 2048)) (ldS w153 ⟨B1, 0, none⟩ fun A165 n165 c165 => ldS w153 (.add ⟨B1, 0, none⟩ 1) fun A166 n166 c166 => ldS w153 (.add ⟨B1, 0, none⟩ 2) fun A167 n167 c167 => stW w153 ⟨B5, 0, none⟩ (.slice A165 n165 c165) fun w168 => stW w168 (.add ⟨B5, 0, none⟩ 1) (.slice A166 n166 c166) fun w169 => stW w169 (.add ⟨B5, 0, none⟩ 2) (.slice A167 n167 c167) fun w170 => ldS w170 ⟨B5, 0, none⟩ fun A171 n171 c171 => ldS w170 (.add ⟨B5, 0, none⟩ 1) fun A172 n172 c172 => ldS w170 (.add ⟨B5, 0, none⟩ 2) fun A173 n173 c173 => Q (.returned (.tuple #[.agg #[.slice A171 n171 c171, .slice A172 n172 c172, .slice A173 n173 c173], .int .i64 55])) w170) (ldS w153 (.add ⟨B1, 0, none⟩ 1) fun A174 n174 c174 => ldI w153 (.add ⟨B3, 0, none⟩ 1) .i64 fun x175 => ldI w153 (.add ⟨B3, 0, none⟩ 2) .i64 fun x176 => ldI w153 (.add ⟨B3, 0, none⟩ 3) .i64 fun x177 => ldI w153 (.add ⟨B3, 0, none⟩ 4) .i64 fun x178 => Calls Tryz.prog 116 #[.slice A174 n174 c174, .agg #[.int .i64 x175, .int .i64 x176, .int .i64 x177, .int .i64 x178]] w153 fun e179 w180 => ∃ A181 n181 c181, e179 = .returned (.slice A181 n181 c181) ∧ (stW w180 (.add ⟨B1, 0, none⟩ 1) (.slice A181 n181 c181) fun w182 => ldS w182 ⟨B1, 0, none⟩ fun A183 n183 c183 => ldS w182 (.add ⟨B1, 0, none⟩ 1) fun A184 n184 c184 => ldS w182 (.add ⟨B1, 0, none⟩ 2) fun A185 n185 c185 => stW w182 ⟨B5, 0, none⟩ (.slice A183 n183 c183) fun w186 => stW w186 (.add ⟨B5, 0, none⟩ 1) (.slice A184 n184 c184) fun w187 => stW w187 (.add ⟨B5, 0, none⟩ 2) (.slice A185 n185 c185) fun w188 => ldS w188 ⟨B5, 0, none⟩ fun A189 n189 c189 => ldS w188 (.add ⟨B5, 0, none⟩ 1) fun A190 n190 c190 => ldS w188 (.add ⟨B5, 0, none⟩ 2) fun A191 n191 c191 => Q (.returned (.tuple #[.agg #[.slice A189 n189 c189, .slice A190 n190 c190, .slice A191 n191 c191], .int .i64 0])) w188)))))))))))))))))
def D : Nat → Option DH := dtab []
def tb : List (List Nat × Spec) := []
variable (Aa0_0 : Option Addr) (na0_0 ca0_0 : Nat) (Aa0_1 : Option Addr) (na0_1 ca0_1 : Nat) (Aa0_2 : Option Addr) (na0_2 ca0_2 : Nat) (xa1_0 xa1_1 xa1_2 xa1_3 xa1_4 : Int) (ba1_5 : Bool) (xa1_6 : Int) (sa1_7 : ByteArray) (xa1_8 xa1_9 : Int) (ra1_10 ia1_10 : Nat) (Aa1_11 : Option Addr) (na1_11 ca1_11 : Nat) (w : World) (Q : Ending → World → Prop)
theorem wp_eq : wp Aa0_0 na0_0 ca0_0 Aa0_1 na0_1 ca0_1 Aa0_2 na0_2 ca0_2 xa1_0 xa1_1 xa1_2 xa1_3 xa1_4 ba1_5 xa1_6 sa1_7 xa1_8 xa1_9 ra1_10 ia1_10 Aa1_11 na1_11 ca1_11 w Q = codeW Tryz.prog hT 96 D (tab tb) [] body (topQ Tryz.prog hT 96 [.cell 4 128, .tmp 5] Q) (argsF [.agg #[.slice Aa0_0 na0_0 ca0_0, .slice Aa0_1 na0_1 ca0_1, .slice Aa0_2 na0_2 ca0_2], .agg #[.int .i64 xa1_0, .int .i64 xa1_1, .int .i64 xa1_2, .int .i64 xa1_3, .int .i64 xa1_4, .bool ba1_5, .int .i64 xa1_6, .string sa1_7, .int .i64 xa1_8, .int .i64 xa1_9, .complex .f64 ra1_10 ia1_10, .slice Aa1_11 na1_11 ca1_11]]) w := by cases ba1_5 <;> kernel_rfl
theorem ok (h : wp Aa0_0 na0_0 ca0_0 Aa0_1 na0_1 ca0_1 Aa0_2 na0_2 ca0_2 xa1_0 xa1_1 xa1_2 xa1_3 xa1_4 ba1_5 xa1_6 sa1_7 xa1_8 xa1_9 ra1_10 ia1_10 Aa1_11 na1_11 ca1_11 w Q) : Calls Tryz.prog 100 #[.agg #[.slice Aa0_0 na0_0 ca0_0, .slice Aa0_1 na0_1 ca0_1, .slice Aa0_2 na0_2 ca0_2], .agg #[.int .i64 xa1_0, .int .i64 xa1_1, .int .i64 xa1_2, .int .i64 xa1_3, .int .i64 xa1_4, .bool ba1_5, .int .i64 xa1_6, .string sa1_7, .int .i64 xa1_8, .int .i64 xa1_9, .complex .f64 ra1_10 ia1_10, .slice Aa1_11 na1_11 ca1_11]] w Q := by
  rw [wp_eq] at h
  refine calls_of_codeW (c := body) (rs := [.cell 4 128, .tmp 5]) Tryz.func100 ?_ ?_ ?_ ?_ ?_ (tab_snd (by
    intro x hx
    simp only [tb, List.not_mem_nil] at hx
    )) ?_ h <;> kernel_rfl
end f_ref05_edge
namespace f_law18_alive
noncomputable def body : Code := (Tryz.f9.body).getD .skip
def j0 (pt1 : Option Addr) (xt2 xt3 xt4 xt5 : Int) (bt6 : Bool) (xt7 xt8 : Int) (bt9 : Bool) (xt10 xt11 xt12 : Int) (At13 : Option Addr) (nt13 ct13 : Nat) (xt14 : Int) (w : World) (Kr : Bool → World → Prop) : Prop := Calls Tryz.prog 11 #[.pointer pt1] w fun e42 w43 => ∃ x44_0 x44_1, e42 = .returned (.tuple #[.int .i64 x44_0, .int .i64 x44_1]) ∧ (sel (xt2 == 0) (sel (xt3 == 0) (sel (xt4 == 0) (sel (xt5 == 0) (sel bt6 (sel (xt7 == 0) (sel (xt8 == 0) (sel (!bt9) (sel (xt10 == 0) (sel (xt11 == 2) (sel (xt12 == 0) (sel ((nt13 : Int) == 2) (sel (xt14 == 0) (Calls Tryz.prog 12 #[.pointer pt1] w43 fun e45 w46 => ∃ x47, e45 = .returned (.int .i64 x47) ∧ (sel (x47 == 2) (sel (x44_0 == 3) (Kr (x44_1 == 1) w46) (Kr false w46)) (Kr false w46))) (Kr false w43)) (Kr false w43)) (Kr false w43)) (Kr false w43)) (Kr false w43)) (Kr false w43)) (Kr false w43)) (Kr false w43)) (Kr false w43)) (Kr false w43)) (Kr false w43)) (Kr false w43)) (Kr false w43))
def wp (w : World) (Q : Ending → World → Prop) : Prop := alW w (.cells #[.int .i64 3] 3) fun B1 w2 => Calls Tryz.prog 8 #[.slice (some ⟨B1, 0, none⟩) 1 1] w2 fun e3 w4 => ∃ p5, e3 = .returned (.pointer p5) ∧ (sel p5.isNone (Q (.returned (.bool false)) w4) (Calls Tryz.prog 28 #[.pointer p5, .int .i64 1] w4 fun e6 w7 => ∃ x8, e6 = .returned (.int .i64 x8) ∧ (sel (x8 != 0) (Q (.returned (.bool false)) w7) (Calls Tryz.prog 28 #[.pointer p5, .int .i64 2] w7 fun e9 w10 => ∃ x11, e9 = .returned (.int .i64 x11) ∧ (sel (x11 != 0) (Q (.returned (.bool false)) w10) (Calls Tryz.prog 28 #[.pointer p5, .int .i64 3] w10 fun e12 w13 => ∃ x14, e12 = .returned (.int .i64 x14) ∧ (sel (x14 != 0) (Q (.returned (.bool false)) w13) (Calls Tryz.prog 18 #[.pointer p5, .int .i64 7, .int .i64 1, .int .i64 2] w13 fun e15 w16 => ∃ x17, e15 = .returned (.int .i64 x17) ∧ (Calls Tryz.prog 18 #[.pointer p5, .int .i64 8, .int .i64 2, .int .i64 3] w16 fun e18 w19 => ∃ x20, e18 = .returned (.int .i64 x20) ∧ (Calls Tryz.prog 18 #[.pointer p5, .int .i64 9, .int .i64 1, .int .i64 3] w19 fun e21 w22 => ∃ x23, e21 = .returned (.int .i64 x23) ∧ (Calls Tryz.prog 23 #[.pointer p5, .int .i64 8] w22 fun e24 w25 => ∃ x26, e24 = .returned (.int .i64 x26) ∧ (Calls Tryz.prog 16 #[.pointer p5, .int .i64 2, .int .i64 3] w25 fun e27 w28 => ∃ b29_0 x29_1, e27 = .returned (.tuple #[.bool b29_0, .int .i64 x29_1]) ∧ (Calls Tryz.prog 23 #[.pointer p5, .int .i64 9] w28 fun e30 w31 => ∃ x32, e30 = .returned (.int .i64 x32) ∧ (Calls Tryz.prog 16 #[.pointer p5, .int .i64 2, .int .i64 3] w31 fun e33 w34 => ∃ b35_0 x35_1, e33 = .returned (.tuple #[.bool b35_0, .int .i64 x35_1]) ∧ (Calls Tryz.prog 29 #[.pointer p5, .int .i64 1] w34 fun e36 w37 => ∃ x38_0 x38_1, e36 = .returned (.tuple #[.int .i64 x38_0, .int .i64 x38_1]) ∧ (Calls Tryz.prog 17 #[.pointer p5, .int .i64 2] w37 fun e39 w40 => ∃ A41_0 n41_0 c41_0 x41_1, e39 = .returned (.tuple #[.slice A41_0 n41_0 c41_0, .int .i64 x41_1]) ∧ (j0 p5 x17 x20 x23 x26 b29_0 x29_1 x32 b35_0 x35_1 x38_0 x38_1 A41_0 n41_0 c41_0 x41_1 w40 (fun b48 w49 => ∀ _ : Fr, Q (.returned (.bool b48)) w49))))))))))))))))))
def D : Nat → Option DH := dtab []
def j0LO : LO := ⟨[], [0], [], []⟩
def j0T : Spec := fun Q σ w => gPtr (σ 1) fun pt1 => gInt .i64 (σ 2) fun xt2 => gInt .i64 (σ 3) fun xt3 => gInt .i64 (σ 4) fun xt4 => gInt .i64 (σ 5) fun xt5 => gBool (σ 6) fun bt6 => gInt .i64 (σ 7) fun xt7 => gInt .i64 (σ 8) fun xt8 => gBool (σ 9) fun bt9 => gInt .i64 (σ 10) fun xt10 => gInt .i64 (σ 11) fun xt11 => gInt .i64 (σ 12) fun xt12 => gSlice (σ 13) fun At13 nt13 ct13 => gInt .i64 (σ 14) fun xt14 => j0 pt1 xt2 xt3 xt4 xt5 bt6 xt7 xt8 bt9 xt10 xt11 xt12 At13 nt13 ct13 xt14 w (fun bq0 w => ∀ d : Fr, Q .ret (ov d [(0, .bool bq0)]) w)
def j0tb : List (List Nat × Spec) := []
noncomputable def j0b : Code := (subC [1, 1, 1, 1, 1, 1, 1, 1, 1, 1] body).getD .skip
theorem j0_eq (pt1 : Option Addr) (xt2 xt3 xt4 xt5 : Int) (bt6 : Bool) (xt7 xt8 : Int) (bt9 : Bool) (xt10 xt11 xt12 : Int) (At13 : Option Addr) (nt13 ct13 : Nat) (xt14 : Int) (Q : PQ) (σ : Fr) (w : World) : j0 pt1 xt2 xt3 xt4 xt5 bt6 xt7 xt8 bt9 xt10 xt11 xt12 At13 nt13 ct13 xt14 w (fun bq0 w => ∀ d : Fr, Q .ret (ov d [(0, .bool bq0)]) w) = codeW Tryz.prog hT 134 D (tab j0tb) [1, 1, 1, 1, 1, 1, 1, 1, 1, 1] j0b (widen j0LO Q) (ov σ [(1, .pointer pt1), (2, .int .i64 xt2), (3, .int .i64 xt3), (4, .int .i64 xt4), (5, .int .i64 xt5), (6, .bool bt6), (7, .int .i64 xt7), (8, .int .i64 xt8), (9, .bool bt9), (10, .int .i64 xt10), (11, .int .i64 xt11), (12, .int .i64 xt12), (13, .slice At13 nt13 ct13), (14, .int .i64 xt14)]) w := by cases bt6 <;> cases bt9 <;> kernel_rfl
theorem j0_snd : ∀ c, subC [1, 1, 1, 1, 1, 1, 1, 1, 1, 1] body = some c → Snd Tryz.prog 134 c j0T := by
  refine cut_of (hT := hT) (D := D) (l := j0tb) (b := j0b) (lo := j0LO) (by kernel_rfl) (by
    intro x hx
    simp only [j0tb, List.not_mem_nil] at hx
    ) (by kernel_rfl) (by kernel_rfl) ?_
  intro Q σ w h
  unfold j0T at h
  obtain ⟨pt1, h1, h⟩ := gPtr_elim h
  obtain ⟨xt2, h2, h⟩ := gInt_elim h
  obtain ⟨xt3, h3, h⟩ := gInt_elim h
  obtain ⟨xt4, h4, h⟩ := gInt_elim h
  obtain ⟨xt5, h5, h⟩ := gInt_elim h
  obtain ⟨bt6, h6, h⟩ := gBool_elim h
  obtain ⟨xt7, h7, h⟩ := gInt_elim h
  obtain ⟨xt8, h8, h⟩ := gInt_elim h
  obtain ⟨bt9, h9, h⟩ := gBool_elim h
  obtain ⟨xt10, h10, h⟩ := gInt_elim h
  obtain ⟨xt11, h11, h⟩ := gInt_elim h
  obtain ⟨xt12, h12, h⟩ := gInt_elim h
  obtain ⟨At13, nt13, ct13, h13, h⟩ := gSlice_elim h
  obtain ⟨xt14, h14, h⟩ := gInt_elim h
  rw [j0_eq (σ := σ)] at h
  have e : (ov σ [(1, .pointer pt1), (2, .int .i64 xt2), (3, .int .i64 xt3), (4, .int .i64 xt4), (5, .int .i64 xt5), (6, .bool bt6), (7, .int .i64 xt7), (8, .int .i64 xt8), (9, .bool bt9), (10, .int .i64 xt10), (11, .int .i64 xt11), (12, .int .i64 xt12), (13, .slice At13 nt13 ct13), (14, .int .i64 xt14)]) = σ := ov_self (by simp [h1, h2, h3, h4, h5, h6, h7, h8, h9, h10, h11, h12, h13, h14])
  rw [e] at h
  exact h
def tb : List (List Nat × Spec) := [([1, 1, 1, 1, 1, 1, 1, 1, 1, 1], j0T)]
theorem wp_eq (w : World) (Q : Ending → World → Prop) : wp w Q = codeW Tryz.prog hT 134 D (tab tb) [] body (topQ Tryz.prog hT 134 [.tmp 0] Q) (argsF []) w := by kernel_rfl
theorem ok (w : World) (Q : Ending → World → Prop) (h : wp w Q) : Calls Tryz.prog 9 #[] w Q := by
  rw [wp_eq] at h
  refine calls_of_codeW (c := body) (rs := [.tmp 0]) Tryz.func9 ?_ ?_ ?_ ?_ ?_ (tab_snd (by
    intro x hx
    simp only [tb, List.mem_cons, List.not_mem_nil, or_false] at hx
    subst hx
    exact j0_snd)) ?_ h <;> kernel_rfl
end f_law18_alive
namespace f_law18_does
noncomputable def body : Code := (Tryz.f10.body).getD .skip
def wp (pa0 Aa1_0 : Option Addr) (na1_0 ca1_0 : Nat) (Aa1_1 : Option Addr) (na1_1 ca1_1 : Nat) (xa2_0 xa2_1 xa2_2 xa2_3 xa2_4 : Int) (w : World) (Q : Ending → World → Prop) : Prop := alW w (.cells #[.slice Aa1_0 na1_0 ca1_0, .slice Aa1_1 na1_1 ca1_1] 29) fun B1 w2 => alW w2 (.cells #[.int .i64 xa2_0, .int .i64 xa2_1, .int .i64 xa2_2, .int .i64 xa2_3, .int .i64 xa2_4] 33) fun B3 w4 => alW w4 (.cells #[.slice none 0 0, .slice none 0 0] 29) fun B5 w6 => ldI w6 ⟨B3, 0, none⟩ .i64 fun x7 => sel (x7 == 1) (ldI w6 (((⟨B3, 0, none⟩ : Addr).add 1).add 1) .i64 fun x8 => Calls Tryz.prog 28 #[.pointer pa0, .int .i64 x8] w6 fun e9 w10 => ∃ x11, e9 = .returned (.int .i64 x11) ∧ (ldS w10 ⟨B1, 0, none⟩ fun A12 n12 c12 => ldS w10 (.add ⟨B1, 0, none⟩ 1) fun A13 n13 c13 => ldI w10 (((⟨B3, 0, none⟩ : Addr).add 1).add 1) .i64 fun x14 => Calls Tryz.prog 24 #[.agg #[.slice A12 n12 c12, .slice A13 n13 c13], .int .i64 x14] w10 fun e15 w16 => ∃ A17_0_0 n17_0_0 c17_0_0 A17_0_1 n17_0_1 c17_0_1 x17_1, e15 = .returned (.tuple #[.agg #[.slice A17_0_0 n17_0_0 c17_0_0, .slice A17_0_1 n17_0_1 c17_0_1], .int .i64 x17_1]) ∧ (alW w16 (.cells #[.slice none 0 0, .slice none 0 0] 29) fun B18 w19 => stW w19 ⟨B18, 0, none⟩ (.slice A17_0_0 n17_0_0 c17_0_0) fun w20 => stW w20 (.add ⟨B18, 0, none⟩ 1) (.slice A17_0_1 n17_0_1 c17_0_1) fun w21 => ldS w21 ⟨B18, 0, none⟩ fun A22 n22 c22 => ldS w21 (.add ⟨B18, 0, none⟩ 1) fun A23 n23 c23 => stW w21 ⟨B5, 0, none⟩ (.slice A22 n22 c22) fun w24 => stW w24 (.add ⟨B5, 0, none⟩ 1) (.slice A23 n23 c23) fun w25 => ldS w25 ⟨B5, 0, none⟩ fun A26 n26 c26 => ldS w25 (.add ⟨B5, 0, none⟩ 1) fun A27 n27 c27 => Q (.returned (.tuple #[.agg #[.slice A26 n26 c26, .slice A27 n27 c27], .bool (x11 == x17_1)])) w25))) (sel (x7 == 2) (ldI w6 (((⟨B3, 0, none⟩ : Addr).add 1).add 1) .i64 fun x28 => Calls Tryz.prog 33 #[.pointer pa0, .int .i64 x28] w6 fun e29 w30 => ∃ x31, e29 = .returned (.int .i64 x31) ∧ (ldS w30 ⟨B1, 0, none⟩ fun A32 n32 c32 => ldS w30 (.add ⟨B1, 0, none⟩ 1) fun A33 n33 c33 => ldI w30 (((⟨B3, 0, none⟩ : Addr).add 1).add 1) .i64 fun x34 => Calls Tryz.prog 25 #[.agg #[.slice A32 n32 c32, .slice A33 n33 c33], .int .i64 x34] w30 fun e35 w36 => ∃ A37_0_0 n37_0_0 c37_0_0 A37_0_1 n37_0_1 c37_0_1 x37_1, e35 = .returned (.tuple #[.agg #[.slice A37_0_0 n37_0_0 c37_0_0, .slice A37_0_1 n37_0_1 c37_0_1], .int .i64 x37_1]) ∧ (alW w36 (.cells #[.slice none 0 0, .slice none 0 0] 29) fun B38 w39 => stW w39 ⟨B38, 0, none⟩ (.slice A37_0_0 n37_0_0 c37_0_0) fun w40 => stW w40 (.add ⟨B38, 0, none⟩ 1) (.slice A37_0_1 n37_0_1 c37_0_1) fun w41 => ldS w41 ⟨B38, 0, none⟩ fun A42 n42 c42 => ldS w41 (.add ⟨B38, 0, none⟩ 1) fun A43 n43 c43 => stW w41 ⟨B5, 0, none⟩ (.slice A42 n42 c42) fun w44 => stW w44 (.add ⟨B5, 0, none⟩ 1) (.slice A43 n43 c43) fun w45 => ldS w45 ⟨B5, 0, none⟩ fun A46 n46 c46 => ldS w45 (.add ⟨B5, 0, none⟩ 1) fun A47 n47 c47 => Q (.returned (.tuple #[.agg #[.slice A46 n46 c46, .slice A47 n47 c47], .bool (x31 == x37_1)])) w45))) (sel (x7 == 3) (ldI w6 (.add ⟨B3, 0, none⟩ 1) .i64 fun x48 => ldI w6 (((⟨B3, 0, none⟩ : Addr).add 1).add 1) .i64 fun x49 => ldI w6 (((⟨B3, 0, none⟩ : Addr).add 1).add 2) .i64 fun x50 => Calls Tryz.prog 18 #[.pointer pa0, .int .i64 x48, .int .i64 x49, .int .i64 x50] w6 fun e51 w52 => ∃ x53, e51 = .returned (.int .i64 x53) ∧ (ldS w52 ⟨B1, 0, none⟩ fun A54 n54 c54 => ldS w52 (.add ⟨B1, 0, none⟩ 1) fun A55 n55 c55 => ldI w52 (.add ⟨B3, 0, none⟩ 1) .i64 fun x56 => ldI w52 (((⟨B3, 0, none⟩ : Addr).add 1).add 1) .i64 fun x57 => ldI w52 (((⟨B3, 0, none⟩ : Addr).add 1).add 2) .i64 fun x58 => Calls Tryz.prog 26 #[.agg #[.slice A54 n54 c54, .slice A55 n55 c55], .agg #[.int .i64 x56, .int .i64 x57, .int .i64 x58, .int .i64 0]] w52 fun e59 w60 => ∃ A61_0_0 n61_0_0 c61_0_0 A61_0_1 n61_0_1 c61_0_1 x61_1, e59 = .returned (.tuple #[.agg #[.slice A61_0_0 n61_0_0 c61_0_0, .slice A61_0_1 n61_0_1 c61_0_1], .int .i64 x61_1]) ∧ (alW w60 (.cells #[.slice none 0 0, .slice none 0 0] 29) fun B62 w63 => stW w63 ⟨B62, 0, none⟩ (.slice A61_0_0 n61_0_0 c61_0_0) fun w64 => stW w64 (.add ⟨B62, 0, none⟩ 1) (.slice A61_0_1 n61_0_1 c61_0_1) fun w65 => ldS w65 ⟨B62, 0, none⟩ fun A66 n66 c66 => ldS w65 (.add ⟨B62, 0, none⟩ 1) fun A67 n67 c67 => stW w65 ⟨B5, 0, none⟩ (.slice A66 n66 c66) fun w68 => stW w68 (.add ⟨B5, 0, none⟩ 1) (.slice A67 n67 c67) fun w69 => ldS w69 ⟨B5, 0, none⟩ fun A70 n70 c70 => ldS w69 (.add ⟨B5, 0, none⟩ 1) fun A71 n71 c71 => Q (.returned (.tuple #[.agg #[.slice A70 n70 c70, .slice A71 n71 c71], .bool (x53 == x61_1)])) w69))) (sel (x7 == 4) (ldI w6 (.add ⟨B3, 0, none⟩ 1) .i64 fun x72 => Calls Tryz.prog 23 #[.pointer pa0, .int .i64 x72] w6 fun e73 w74 => ∃ x75, e73 = .returned (.int .i64 x75) ∧ (ldS w74 ⟨B1, 0, none⟩ fun A76 n76 c76 => ldS w74 (.add ⟨B1, 0, none⟩ 1) fun A77 n77 c77 => ldI w74 (.add ⟨B3, 0, none⟩ 1) .i64 fun x78 => Calls Tryz.prog 27 #[.agg #[.slice A76 n76 c76, .slice A77 n77 c77], .int .i64 x78] w74 fun e79 w80 => ∃ A81_0_0 n81_0_0 c81_0_0 A81_0_1 n81_0_1 c81_0_1 x81_1, e79 = .returned (.tuple #[.agg #[.slice A81_0_0 n81_0_0 c81_0_0, .slice A81_0_1 n81_0_1 c81_0_1], .int .i64 x81_1]) ∧ (alW w80 (.cells #[.slice none 0 0, .slice none 0 0] 29) fun B82 w83 => stW w83 ⟨B82, 0, none⟩ (.slice A81_0_0 n81_0_0 c81_0_0) fun w84 => stW w84 (.add ⟨B82, 0, none⟩ 1) (.slice A81_0_1 n81_0_1 c81_0_1) fun w85 => ldS w85 ⟨B82, 0, none⟩ fun A86 n86 c86 => ldS w85 (.add ⟨B82, 0, none⟩ 1) fun A87 n87 c87 => stW w85 ⟨B5, 0, none⟩ (.slice A86 n86 c86) fun w88 => stW w88 (.add ⟨B5, 0, none⟩ 1) (.slice A87 n87 c87) fun w89 => ldS w89 ⟨B5, 0, none⟩ fun A90 n90 c90 => ldS w89 (.add ⟨B5, 0, none⟩ 1) fun A91 n91 c91 => Q (.returned (.tuple #[.agg #[.slice A90 n90 c90, .slice A91 n91 c91], .bool (x75 == x81_1)])) w89))) (ldS w6 ⟨B1, 0, none⟩ fun A92 n92 c92 => ldS w6 (.add ⟨B1, 0, none⟩ 1) fun A93 n93 c93 => stW w6 ⟨B5, 0, none⟩ (.slice A92 n92 c92) fun w94 => stW w94 (.add ⟨B5, 0, none⟩ 1) (.slice A93 n93 c93) fun w95 => ldS w95 ⟨B5, 0, none⟩ fun A96 n96 c96 => ldS w95 (.add ⟨B5, 0, none⟩ 1) fun A97 n97 c97 => Q (.returned (.tuple #[.agg #[.slice A96 n96 c96, .slice A97 n97 c97], .bool true])) w95))))
def D : Nat → Option DH := dtab []
def tb : List (List Nat × Spec) := []
variable (pa0 Aa1_0 : Option Addr) (na1_0 ca1_0 : Nat) (Aa1_1 : Option Addr) (na1_1 ca1_1 : Nat) (xa2_0 xa2_1 xa2_2 xa2_3 xa2_4 : Int) (w : World) (Q : Ending → World → Prop)
theorem wp_eq : wp pa0 Aa1_0 na1_0 ca1_0 Aa1_1 na1_1 ca1_1 xa2_0 xa2_1 xa2_2 xa2_3 xa2_4 w Q = codeW Tryz.prog hT 112 D (tab tb) [] body (topQ Tryz.prog hT 112 [.cell 6 29, .tmp 7] Q) (argsF [.pointer pa0, .agg #[.slice Aa1_0 na1_0 ca1_0, .slice Aa1_1 na1_1 ca1_1], .agg #[.int .i64 xa2_0, .int .i64 xa2_1, .int .i64 xa2_2, .int .i64 xa2_3, .int .i64 xa2_4]]) w := by kernel_rfl
theorem ok (h : wp pa0 Aa1_0 na1_0 ca1_0 Aa1_1 na1_1 ca1_1 xa2_0 xa2_1 xa2_2 xa2_3 xa2_4 w Q) : Calls Tryz.prog 10 #[.pointer pa0, .agg #[.slice Aa1_0 na1_0 ca1_0, .slice Aa1_1 na1_1 ca1_1], .agg #[.int .i64 xa2_0, .int .i64 xa2_1, .int .i64 xa2_2, .int .i64 xa2_3, .int .i64 xa2_4]] w Q := by
  rw [wp_eq] at h
  refine calls_of_codeW (c := body) (rs := [.cell 6 29, .tmp 7]) Tryz.func10 ?_ ?_ ?_ ?_ ?_ (tab_snd (by
    intro x hx
    simp only [tb, List.not_mem_nil] at hx
    )) ?_ h <;> kernel_rfl
end f_law18_does
namespace f_law18_filled
noncomputable def body : Code := (Tryz.f15.body).getD .skip
def l0 : Nat → Option Addr → Nat → Nat → Option Addr → Int → World → (World → Prop) → Prop | 0, _, _, _, _, _, _, _ => False | k + 1, At1, nt1, ct1, pt5, xt6, w, K0 => sel (!pt5.isNone) (sel (decide (xt6 < (nt1 : Int))) (optB At1 fun a4 => req (decide (0 ≤ xt6 ∧ xt6 < (nt1 : Int))) <| ldI w (a4.add (xt6.toNat * 5)) .i64 fun x5 => ldI w ((a4.add (xt6.toNat * 5)).add 1) .i64 fun x6 => ldI w ((a4.add (xt6.toNat * 5)).add 2) .i64 fun x7 => ldI w ((a4.add (xt6.toNat * 5)).add 3) .i64 fun x8 => ldI w ((a4.add (xt6.toNat * 5)).add 4) .i64 fun x9 => Calls Tryz.prog 10 #[.pointer pt5, .agg #[.slice none 0 0, .slice none 0 0], .agg #[.int .i64 x5, .int .i64 x6, .int .i64 x7, .int .i64 x8, .int .i64 x9]] w fun e10 w11 => ∃ A12_0_0 n12_0_0 c12_0_0 A12_0_1 n12_0_1 c12_0_1 b12_1, e10 = .returned (.tuple #[.agg #[.slice A12_0_0 n12_0_0 c12_0_0, .slice A12_0_1 n12_0_1 c12_0_1], .bool b12_1]) ∧ (l0 k At1 nt1 ct1 pt5 (IntKind.i64.wrap (xt6 + 1)) w11 K0)) (K0 w)) (K0 w)
def wp (Aa0 : Option Addr) (na0 ca0 : Nat) (Aa1 : Option Addr) (na1 ca1 : Nat) (w : World) (Q : Ending → World → Prop) : Prop := Calls Tryz.prog 8 #[.slice Aa0 na0 ca0] w fun e1 w2 => ∃ p3, e1 = .returned (.pointer p3) ∧ (∃ k14, l0 k14 Aa1 na1 ca1 p3 0 w2 (fun w13 => ∀ _ : Fr, Q (.returned (.pointer p3)) w13))
def D : Nat → Option DH := dtab []
def l0LO : LO := ⟨[], [], [(0, [5])], []⟩
def l0Tk (k : Nat) : Spec := fun Q σ w => gSlice (σ 1) fun At1 nt1 ct1 => gPtr (σ 5) fun pt5 => gInt .i64 (σ 6) fun xt6 => l0 k At1 nt1 ct1 pt5 xt6 w (fun w => ∀ d : Fr, Q (.exit 0) (ov d [(5, .pointer pt5)]) w)
def l0T : Spec := fun Q σ w => ∃ k, l0Tk k Q σ w
def l0tb : List (List Nat × Spec) := []
noncomputable def l0b : Code := (subC [0, 0, 1, 0, 1, 1] body).getD .skip
theorem l0_eq (k : Nat) (At1 : Option Addr) (nt1 ct1 : Nat) (pt5 : Option Addr) (xt6 : Int) (Q : PQ) (σ : Fr) (w : World) : l0 (k + 1) At1 nt1 ct1 pt5 xt6 w (fun w => ∀ d : Fr, Q (.exit 0) (ov d [(5, .pointer pt5)]) w) = codeW Tryz.prog hT 27 D (tab l0tb) [0, 0, 1, 0, 1, 1] l0b (thenQ (l0Tk k Q) (widen l0LO Q)) (ov σ [(1, .slice At1 nt1 ct1), (5, .pointer pt5), (6, .int .i64 xt6)]) w := by kernel_rfl
theorem l0_snd : ∀ c, subC [0, 1, 0, 1, 1] body = some c → Snd Tryz.prog 27 c l0T := by
  refine loop_of (hT := hT) (D := D) (l := l0tb) (b := l0b) (lo := l0LO) (by kernel_rfl) (by
    intro x hx
    simp only [l0tb, List.not_mem_nil] at hx
    ) (by kernel_rfl) (by kernel_rfl) ?_ ?_
  · intro Q σ w h
    unfold l0Tk at h
    obtain ⟨_, _, _, _, h⟩ := gSlice_elim h
    obtain ⟨_, _, h⟩ := gPtr_elim h
    obtain ⟨_, _, h⟩ := gInt_elim h
    exact h
  · intro k Q σ w h
    unfold l0Tk at h
    obtain ⟨At1, nt1, ct1, h1, h⟩ := gSlice_elim h
    obtain ⟨pt5, h5, h⟩ := gPtr_elim h
    obtain ⟨xt6, h6, h⟩ := gInt_elim h
    rw [l0_eq (σ := σ)] at h
    have e : (ov σ [(1, .slice At1 nt1 ct1), (5, .pointer pt5), (6, .int .i64 xt6)]) = σ := ov_self (by simp [h1, h5, h6])
    rw [e] at h
    exact h
def tb : List (List Nat × Spec) := [([0, 1, 0, 1, 1], l0T)]
variable (Aa0 : Option Addr) (na0 ca0 : Nat) (Aa1 : Option Addr) (na1 ca1 : Nat) (w : World) (Q : Ending → World → Prop)
theorem wp_eq : wp Aa0 na0 ca0 Aa1 na1 ca1 w Q = codeW Tryz.prog hT 27 D (tab tb) [] body (topQ Tryz.prog hT 27 [.tmp 4] Q) (argsF [.slice Aa0 na0 ca0, .slice Aa1 na1 ca1]) w := by kernel_rfl
theorem ok (h : wp Aa0 na0 ca0 Aa1 na1 ca1 w Q) : Calls Tryz.prog 15 #[.slice Aa0 na0 ca0, .slice Aa1 na1 ca1] w Q := by
  rw [wp_eq] at h
  refine calls_of_codeW (c := body) (rs := [.tmp 4]) Tryz.func15 ?_ ?_ ?_ ?_ ?_ (tab_snd (by
    intro x hx
    simp only [tb, List.mem_cons, List.not_mem_nil, or_false] at hx
    subst hx
    exact l0_snd)) ?_ h <;> kernel_rfl
end f_law18_filled
namespace f_plain_Joined
noncomputable def body : Code := (Tryz.f30.body).getD .skip
def l0 : Nat → Option Nat → Option Addr → Nat → Nat → Int → Int → World → (World → Prop) → Prop | 0, _, _, _, _, _, _, _, _ => False | k + 1, mt9, At22, nt22, ct22, xt23, xt24, w, K0 => sel (decide (xt24 < xt23)) (optB At22 fun a13 => req (decide (0 ≤ xt24 ∧ xt24 < (nt22 : Int))) <| ldI w (a13.add (xt24.toNat * 4)) .i64 fun x14 => ldI w ((a13.add (xt24.toNat * 4)).add 1) .i64 fun x15 => ldI w ((a13.add (xt24.toNat * 4)).add 2) .i64 fun x16 => ldI w ((a13.add (xt24.toNat * 4)).add 3) .i64 fun x17 => alW w (.cells #[.int .i64 0, .int .i64 0, .int .i64 0, .int .i64 0] 31) fun B18 w19 => stW w19 ⟨B18, 0, none⟩ (.int .i64 x14) fun w20 => stW w20 (.add ⟨B18, 0, none⟩ 1) (.int .i64 x15) fun w21 => stW w21 (.add ⟨B18, 0, none⟩ 2) (.int .i64 x16) fun w22 => stW w22 (.add ⟨B18, 0, none⟩ 3) (.int .i64 x17) fun w23 => ldI w23 (.add ⟨B18, 0, none⟩ 1) .i64 fun x24 => ldI w23 (.add ⟨B18, 0, none⟩ 2) .i64 fun x25 => Calls Tryz.prog 50 #[.map mt9, .int .i64 x24, .int .i64 x25] w23 fun e26 w27 => ∃ b28, e26 = .returned (.bool b28) ∧ (l0 k mt9 At22 nt22 ct22 xt23 (IntKind.i64.wrap (xt24 + 1)) w27 K0)) (K0 w)
def wp (Aa0_0 : Option Addr) (na0_0 ca0_0 : Nat) (Aa0_1 : Option Addr) (na0_1 ca0_1 : Nat) (xa1 xa2 : Int) (w : World) (Q : Ending → World → Prop) : Prop := alW w (.cells #[.slice Aa0_0 na0_0 ca0_0, .slice Aa0_1 na0_1 ca0_1] 29) fun B1 w2 => ldS w2 ⟨B1, 0, none⟩ fun A3 n3 c3 => ldS w2 (.add ⟨B1, 0, none⟩ 1) fun A4 n4 c4 => alW w2 (.cells #[.int .i64 xa1, .int .i64 xa2] 3) fun B5 w6 => Calls Tryz.prog 49 #[.agg #[.slice A3 n3 c3, .slice A4 n4 c4], .slice (some ⟨B5, 0, none⟩) 2 2] w6 fun e7 w8 => ∃ x9, e7 = .returned (.int .i64 x9) ∧ (sel (x9 != 0) (Q (.returned (.tuple #[.bool false, .int .i64 x9])) w8) (alW w8 (.map #[] 0) fun B10 w11 => ldS w11 (.add ⟨B1, 0, none⟩ 1) fun A12 n12 c12 => ∃ k36, l0 k36 (some B10) A12 n12 c12 (n12 : Int) 0 w11 (fun w29 => ∀ _ : Fr, Calls Tryz.prog 51 #[.map (some B10), .int .i64 xa1] w29 fun e30 w31 => ∃ x32, e30 = .returned (.int .i64 x32) ∧ (Calls Tryz.prog 51 #[.map (some B10), .int .i64 xa2] w31 fun e33 w34 => ∃ x35, e33 = .returned (.int .i64 x35) ∧ (Q (.returned (.tuple #[.bool (x32 == x35), .int .i64 0])) w34)))))
def D : Nat → Option DH := dtab []
def l0LO : LO := ⟨[], [], [(0, [1, 2, 9])], []⟩
def l0Tk (k : Nat) : Spec := fun Q σ w => gMap (σ 9) fun mt9 => gSlice (σ 22) fun At22 nt22 ct22 => gInt .i64 (σ 23) fun xt23 => gInt .i64 (σ 24) fun xt24 => l0 k mt9 At22 nt22 ct22 xt23 xt24 w (fun w => ∀ d : Fr, Q (.exit 0) (ov d [(1, σ 1), (2, σ 2), (9, .map mt9)]) w)
def l0T : Spec := fun Q σ w => ∃ k, l0Tk k Q σ w
def l0tb : List (List Nat × Spec) := []
noncomputable def l0b : Code := (subC [0, 0, 1, 0, 1, 1, 1] body).getD .skip
theorem l0_eq (k : Nat) (mt9 : Option Nat) (At22 : Option Addr) (nt22 ct22 : Nat) (xt23 xt24 : Int) (Q : PQ) (σ : Fr) (w : World) : l0 (k + 1) mt9 At22 nt22 ct22 xt23 xt24 w (fun w => ∀ d : Fr, Q (.exit 0) (ov d [(1, σ 1), (2, σ 2), (9, .map mt9)]) w) = codeW Tryz.prog hT 42 D (tab l0tb) [0, 0, 1, 0, 1, 1, 1] l0b (thenQ (l0Tk k Q) (widen l0LO Q)) (ov σ [(9, .map mt9), (22, .slice At22 nt22 ct22), (23, .int .i64 xt23), (24, .int .i64 xt24)]) w := by kernel_rfl
theorem l0_snd : ∀ c, subC [0, 1, 0, 1, 1, 1] body = some c → Snd Tryz.prog 42 c l0T := by
  refine loop_of (hT := hT) (D := D) (l := l0tb) (b := l0b) (lo := l0LO) (by kernel_rfl) (by
    intro x hx
    simp only [l0tb, List.not_mem_nil] at hx
    ) (by kernel_rfl) (by kernel_rfl) ?_ ?_
  · intro Q σ w h
    unfold l0Tk at h
    obtain ⟨_, _, h⟩ := gMap_elim h
    obtain ⟨_, _, _, _, h⟩ := gSlice_elim h
    obtain ⟨_, _, h⟩ := gInt_elim h
    obtain ⟨_, _, h⟩ := gInt_elim h
    exact h
  · intro k Q σ w h
    unfold l0Tk at h
    obtain ⟨mt9, h9, h⟩ := gMap_elim h
    obtain ⟨At22, nt22, ct22, h22, h⟩ := gSlice_elim h
    obtain ⟨xt23, h23, h⟩ := gInt_elim h
    obtain ⟨xt24, h24, h⟩ := gInt_elim h
    rw [l0_eq (σ := σ)] at h
    have e : (ov σ [(9, .map mt9), (22, .slice At22 nt22 ct22), (23, .int .i64 xt23), (24, .int .i64 xt24)]) = σ := ov_self (by simp [h9, h22, h23, h24])
    rw [e] at h
    exact h
def tb : List (List Nat × Spec) := [([0, 1, 0, 1, 1, 1], l0T)]
variable (Aa0_0 : Option Addr) (na0_0 ca0_0 : Nat) (Aa0_1 : Option Addr) (na0_1 ca0_1 : Nat) (xa1 xa2 : Int) (w : World) (Q : Ending → World → Prop)
theorem wp_eq : wp Aa0_0 na0_0 ca0_0 Aa0_1 na0_1 ca0_1 xa1 xa2 w Q = codeW Tryz.prog hT 42 D (tab tb) [] body (topQ Tryz.prog hT 42 [.tmp 6, .tmp 7] Q) (argsF [.agg #[.slice Aa0_0 na0_0 ca0_0, .slice Aa0_1 na0_1 ca0_1], .int .i64 xa1, .int .i64 xa2]) w := by kernel_rfl
theorem ok (h : wp Aa0_0 na0_0 ca0_0 Aa0_1 na0_1 ca0_1 xa1 xa2 w Q) : Calls Tryz.prog 30 #[.agg #[.slice Aa0_0 na0_0 ca0_0, .slice Aa0_1 na0_1 ca0_1], .int .i64 xa1, .int .i64 xa2] w Q := by
  rw [wp_eq] at h
  refine calls_of_codeW (c := body) (rs := [.tmp 6, .tmp 7]) Tryz.func30 ?_ ?_ ?_ ?_ ?_ (tab_snd (by
    intro x hx
    simp only [tb, List.mem_cons, List.not_mem_nil, or_false] at hx
    subst hx
    exact l0_snd)) ?_ h <;> kernel_rfl
end f_plain_Joined
namespace f_plain_check
noncomputable def body : Code := (Tryz.f49.body).getD .skip
def l0 : Nat → Addr → Option Addr → Nat → Nat → Int → Int → World → (World → Prop) → (Int → World → Prop) → Prop | 0, _, _, _, _, _, _, _, _, _ => False | k + 1, at2, At13, nt13, ct13, xt14, xt15, w, K0, Kr => sel (decide (xt15 < xt14)) (optB At13 fun a8 => req (decide (0 ≤ xt15 ∧ xt15 < (nt13 : Int))) <| ldI w (a8.add (xt15.toNat * 1)) .i64 fun x9 => ldS w at2 fun A10 n10 c10 => ldS w (at2.add 1) fun A11 n11 c11 => Calls Tryz.prog 79 #[.agg #[.slice A10 n10 c10, .slice A11 n11 c11], .int .i64 x9] w fun e12 w13 => ∃ b14, e12 = .returned (.bool b14) ∧ (sel (!b14) (Kr 51 w13) (l0 k at2 At13 nt13 ct13 xt14 (IntKind.i64.wrap (xt15 + 1)) w13 K0 Kr))) (K0 w)
def wp (Aa0_0 : Option Addr) (na0_0 ca0_0 : Nat) (Aa0_1 : Option Addr) (na0_1 ca0_1 : Nat) (Aa1 : Option Addr) (na1 ca1 : Nat) (w : World) (Q : Ending → World → Prop) : Prop := alW w (.cells #[.slice Aa0_0 na0_0 ca0_0, .slice Aa0_1 na0_1 ca0_1] 29) fun B1 w2 => ldS w2 ⟨B1, 0, none⟩ fun A3 n3 c3 => ldS w2 (.add ⟨B1, 0, none⟩ 1) fun A4 n4 c4 => Calls Tryz.prog 78 #[.agg #[.slice A3 n3 c3, .slice A4 n4 c4]] w2 fun e5 w6 => ∃ x7, e5 = .returned (.int .i64 x7) ∧ (sel (x7 != 0) (Q (.returned (.int .i64 x7)) w6) (∃ k18, l0 k18 ⟨B1, 0, none⟩ Aa1 na1 ca1 (na1 : Int) 0 w6 (fun w15 => ∀ _ : Fr, Q (.returned (.int .i64 0)) w15) (fun x16 w17 => ∀ _ : Fr, Q (.returned (.int .i64 x16)) w17)))
def D : Nat → Option DH := dtab []
def l0LO : LO := ⟨[], [4], [(0, [])], []⟩
def l0Tk (k : Nat) : Spec := fun Q σ w => gAd (σ 2) fun at2 => gSlice (σ 13) fun At13 nt13 ct13 => gInt .i64 (σ 14) fun xt14 => gInt .i64 (σ 15) fun xt15 => l0 k at2 At13 nt13 ct13 xt14 xt15 w (fun w => ∀ d : Fr, Q (.exit 0) (ov d []) w) (fun xq4 w => ∀ d : Fr, Q .ret (ov d [(4, .int .i64 xq4)]) w)
def l0T : Spec := fun Q σ w => ∃ k, l0Tk k Q σ w
def l0tb : List (List Nat × Spec) := []
noncomputable def l0b : Code := (subC [0, 0, 1, 0, 1, 1] body).getD .skip
theorem l0_eq (k : Nat) (at2 : Addr) (At13 : Option Addr) (nt13 ct13 : Nat) (xt14 xt15 : Int) (Q : PQ) (σ : Fr) (w : World) : l0 (k + 1) at2 At13 nt13 ct13 xt14 xt15 w (fun w => ∀ d : Fr, Q (.exit 0) (ov d []) w) (fun xq4 w => ∀ d : Fr, Q .ret (ov d [(4, .int .i64 xq4)]) w) = codeW Tryz.prog hT 24 D (tab l0tb) [0, 0, 1, 0, 1, 1] l0b (thenQ (l0Tk k Q) (widen l0LO Q)) (ov σ [(2, .pointer (some at2)), (13, .slice At13 nt13 ct13), (14, .int .i64 xt14), (15, .int .i64 xt15)]) w := by kernel_rfl
theorem l0_snd : ∀ c, subC [0, 1, 0, 1, 1] body = some c → Snd Tryz.prog 24 c l0T := by
  refine loop_of (hT := hT) (D := D) (l := l0tb) (b := l0b) (lo := l0LO) (by kernel_rfl) (by
    intro x hx
    simp only [l0tb, List.not_mem_nil] at hx
    ) (by kernel_rfl) (by kernel_rfl) ?_ ?_
  · intro Q σ w h
    unfold l0Tk at h
    obtain ⟨_, _, h⟩ := gAd_elim h
    obtain ⟨_, _, _, _, h⟩ := gSlice_elim h
    obtain ⟨_, _, h⟩ := gInt_elim h
    obtain ⟨_, _, h⟩ := gInt_elim h
    exact h
  · intro k Q σ w h
    unfold l0Tk at h
    obtain ⟨at2, h2, h⟩ := gAd_elim h
    obtain ⟨At13, nt13, ct13, h13, h⟩ := gSlice_elim h
    obtain ⟨xt14, h14, h⟩ := gInt_elim h
    obtain ⟨xt15, h15, h⟩ := gInt_elim h
    rw [l0_eq (σ := σ)] at h
    have e : (ov σ [(2, .pointer (some at2)), (13, .slice At13 nt13 ct13), (14, .int .i64 xt14), (15, .int .i64 xt15)]) = σ := ov_self (by simp [h2, h13, h14, h15])
    rw [e] at h
    exact h
def tb : List (List Nat × Spec) := [([0, 1, 0, 1, 1], l0T)]
variable (Aa0_0 : Option Addr) (na0_0 ca0_0 : Nat) (Aa0_1 : Option Addr) (na0_1 ca0_1 : Nat) (Aa1 : Option Addr) (na1 ca1 : Nat) (w : World) (Q : Ending → World → Prop)
theorem wp_eq : wp Aa0_0 na0_0 ca0_0 Aa0_1 na0_1 ca0_1 Aa1 na1 ca1 w Q = codeW Tryz.prog hT 24 D (tab tb) [] body (topQ Tryz.prog hT 24 [.tmp 4] Q) (argsF [.agg #[.slice Aa0_0 na0_0 ca0_0, .slice Aa0_1 na0_1 ca0_1], .slice Aa1 na1 ca1]) w := by kernel_rfl
theorem ok (h : wp Aa0_0 na0_0 ca0_0 Aa0_1 na0_1 ca0_1 Aa1 na1 ca1 w Q) : Calls Tryz.prog 49 #[.agg #[.slice Aa0_0 na0_0 ca0_0, .slice Aa0_1 na0_1 ca0_1], .slice Aa1 na1 ca1] w Q := by
  rw [wp_eq] at h
  refine calls_of_codeW (c := body) (rs := [.tmp 4]) Tryz.func49 ?_ ?_ ?_ ?_ ?_ (tab_snd (by
    intro x hx
    simp only [tb, List.mem_cons, List.not_mem_nil, or_false] at hx
    subst hx
    exact l0_snd)) ?_ h <;> kernel_rfl
end f_plain_check
namespace f_plain_sets_join
noncomputable def body : Code := (Tryz.f50.body).getD .skip
def wp (ma0 : Option Nat) (xa1 xa2 : Int) (w : World) (Q : Ending → World → Prop) : Prop := Calls Tryz.prog 51 #[.map ma0, .int .i64 xa1] w fun e1 w2 => ∃ x3, e1 = .returned (.int .i64 x3) ∧ (Calls Tryz.prog 51 #[.map ma0, .int .i64 xa2] w2 fun e4 w5 => ∃ x6, e4 = .returned (.int .i64 x6) ∧ (sel (x3 == x6) (Q (.returned (.bool false)) w5) (Runs Tryz.prog (Instr.mapUpdate 96 (.map ma0) (.int .i64 x3) (.int .i64 x6)) w5 fun _ w7 => Q (.returned (.bool true)) w7)))
def D : Nat → Option DH := dtab []
def tb : List (List Nat × Spec) := []
variable (ma0 : Option Nat) (xa1 xa2 : Int) (w : World) (Q : Ending → World → Prop)
theorem wp_eq : wp ma0 xa1 xa2 w Q = codeW Tryz.prog hT 21 D (tab tb) [] body (topQ Tryz.prog hT 21 [.tmp 6] Q) (argsF [.map ma0, .int .i64 xa1, .int .i64 xa2]) w := by kernel_rfl
theorem ok (h : wp ma0 xa1 xa2 w Q) : Calls Tryz.prog 50 #[.map ma0, .int .i64 xa1, .int .i64 xa2] w Q := by
  rw [wp_eq] at h
  refine calls_of_codeW (c := body) (rs := [.tmp 6]) Tryz.func50 ?_ ?_ ?_ ?_ ?_ (tab_snd (by
    intro x hx
    simp only [tb, List.not_mem_nil] at hx
    )) ?_ h <;> kernel_rfl
end f_plain_sets_join
namespace f_plain_sets_root
noncomputable def body : Code := (Tryz.f51.body).getD .skip
def l0 : Nat → Option Nat → Int → World → (Int → World → Prop) → Prop | 0, _, _, _, _ => False | k + 1, mt0, xt1, w, Kr => Runs Tryz.prog (Instr.lookup 96 (.map mt0) (.int .i64 xt1) true) w fun v2 w1 => ∃ x3_0 b3_1, v2 = (.tuple #[.int .i64 x3_0, .bool b3_1]) ∧ (sel (!b3_1) (Kr xt1 w1) (Runs Tryz.prog (Instr.lookup 96 (.map mt0) (.int .i64 x3_0) true) w1 fun v5 w4 => ∃ x6_0 b6_1, v5 = (.tuple #[.int .i64 x6_0, .bool b6_1]) ∧ (sel b6_1 (Runs Tryz.prog (Instr.mapUpdate 96 (.map mt0) (.int .i64 xt1) (.int .i64 x6_0)) w4 fun _ w7 => l0 k mt0 x3_0 w7 Kr) (l0 k mt0 x3_0 w4 Kr))))
def wp (ma0 : Option Nat) (xa1 : Int) (w : World) (Q : Ending → World → Prop) : Prop := ∃ k10, l0 k10 ma0 xa1 w (fun x8 w9 => ∀ _ : Fr, Q (.returned (.int .i64 x8)) w9)
def D : Nat → Option DH := dtab []
def l0LO : LO := ⟨[], [4], [], []⟩
def l0Tk (k : Nat) : Spec := fun Q σ w => gMap (σ 0) fun mt0 => gInt .i64 (σ 1) fun xt1 => l0 k mt0 xt1 w (fun xq4 w => ∀ d : Fr, Q .ret (ov d [(4, .int .i64 xq4)]) w)
def l0T : Spec := fun Q σ w => ∃ k, l0Tk k Q σ w
def l0tb : List (List Nat × Spec) := []
noncomputable def l0b : Code := (subC [0, 0, 1] body).getD .skip
theorem l0_eq (k : Nat) (mt0 : Option Nat) (xt1 : Int) (Q : PQ) (σ : Fr) (w : World) : l0 (k + 1) mt0 xt1 w (fun xq4 w => ∀ d : Fr, Q .ret (ov d [(4, .int .i64 xq4)]) w) = codeW Tryz.prog hT 29 D (tab l0tb) [0, 0, 1] l0b (thenQ (l0Tk k Q) (widen l0LO Q)) (ov σ [(0, .map mt0), (1, .int .i64 xt1)]) w := by kernel_rfl
theorem l0_snd : ∀ c, subC [0, 1] body = some c → Snd Tryz.prog 29 c l0T := by
  refine loop_of (hT := hT) (D := D) (l := l0tb) (b := l0b) (lo := l0LO) (by kernel_rfl) (by
    intro x hx
    simp only [l0tb, List.not_mem_nil] at hx
    ) (by kernel_rfl) (by kernel_rfl) ?_ ?_
  · intro Q σ w h
    unfold l0Tk at h
    obtain ⟨_, _, h⟩ := gMap_elim h
    obtain ⟨_, _, h⟩ := gInt_elim h
    exact h
  · intro k Q σ w h
    unfold l0Tk at h
    obtain ⟨mt0, h0, h⟩ := gMap_elim h
    obtain ⟨xt1, h1, h⟩ := gInt_elim h
    rw [l0_eq (σ := σ)] at h
    have e : (ov σ [(0, .map mt0), (1, .int .i64 xt1)]) = σ := ov_self (by simp [h0, h1])
    rw [e] at h
    exact h
def tb : List (List Nat × Spec) := [([0, 1], l0T)]
variable (ma0 : Option Nat) (xa1 : Int) (w : World) (Q : Ending → World → Prop)
theorem wp_eq : wp ma0 xa1 w Q = codeW Tryz.prog hT 29 D (tab tb) [] body (topQ Tryz.prog hT 29 [.tmp 4] Q) (argsF [.map ma0, .int .i64 xa1]) w := by kernel_rfl
theorem ok (h : wp ma0 xa1 w Q) : Calls Tryz.prog 51 #[.map ma0, .int .i64 xa1] w Q := by
  rw [wp_eq] at h
  refine calls_of_codeW (c := body) (rs := [.tmp 4]) Tryz.func51 ?_ ?_ ?_ ?_ ?_ (tab_snd (by
    intro x hx
    simp only [tb, List.mem_cons, List.not_mem_nil, or_false] at hx
    subst hx
    exact l0_snd)) ?_ h <;> kernel_rfl
end f_plain_sets_root
namespace f_plain_Check
noncomputable def body : Code := (Tryz.f78.body).getD .skip
def l0 : Nat → Addr → Option Addr → Nat → Nat → Option Addr → Nat → Nat → Int → Int → World → (World → Prop) → (Int → World → Prop) → Prop | 0, _, _, _, _, _, _, _, _, _, _, _, _ => False | k + 1, at1, At3, nt3, ct3, At27, nt27, ct27, xt28, xt29, w, K0, Kr => sel (decide (xt29 < xt28)) (optB At27 fun a14 => req (decide (0 ≤ xt29 ∧ xt29 < (nt27 : Int))) <| ldI w (a14.add (xt29.toNat * 4)) .i64 fun x15 => ldI w ((a14.add (xt29.toNat * 4)).add 1) .i64 fun x16 => ldI w ((a14.add (xt29.toNat * 4)).add 2) .i64 fun x17 => ldI w ((a14.add (xt29.toNat * 4)).add 3) .i64 fun x18 => alW w (.cells #[.int .i64 0, .int .i64 0, .int .i64 0, .int .i64 0] 31) fun B19 w20 => stW w20 ⟨B19, 0, none⟩ (.int .i64 x15) fun w21 => stW w21 (.add ⟨B19, 0, none⟩ 1) (.int .i64 x16) fun w22 => stW w22 (.add ⟨B19, 0, none⟩ 2) (.int .i64 x17) fun w23 => stW w23 (.add ⟨B19, 0, none⟩ 3) (.int .i64 x18) fun w24 => ldI w24 ⟨B19, 0, none⟩ .i64 fun x25 => optB At3 fun a26 => req (decide (0 ≤ xt29 ∧ xt29 < (nt3 : Int))) <| stW w24 (a26.add (xt29.toNat * 1)) (.int .i64 x25) fun w27 => ldI w27 (.add ⟨B19, 0, none⟩ 3) .i64 fun x28 => sel (decide (x28 < 0)) (Kr 60 w27) (ldI w27 (.add ⟨B19, 0, none⟩ 3) .i64 fun x29 => sel (decide (x29 > 1099511627776)) (Kr 60 w27) (ldS w27 at1 fun A30 n30 c30 => ldS w27 (at1.add 1) fun A31 n31 c31 => ldI w27 (.add ⟨B19, 0, none⟩ 1) .i64 fun x32 => Calls Tryz.prog 79 #[.agg #[.slice A30 n30 c30, .slice A31 n31 c31], .int .i64 x32] w27 fun e33 w34 => ∃ b35, e33 = .returned (.bool b35) ∧ (sel (!b35) (Kr 60 w34) (ldS w34 at1 fun A36 n36 c36 => ldS w34 (at1.add 1) fun A37 n37 c37 => ldI w34 (.add ⟨B19, 0, none⟩ 2) .i64 fun x38 => Calls Tryz.prog 79 #[.agg #[.slice A36 n36 c36, .slice A37 n37 c37], .int .i64 x38] w34 fun e39 w40 => ∃ b41, e39 = .returned (.bool b41) ∧ (sel (!b41) (Kr 60 w40) (l0 k at1 At3 nt3 ct3 At27 nt27 ct27 xt28 (IntKind.i64.wrap (xt29 + 1)) w40 K0 Kr))))))) (K0 w)
def wp (Aa0_0 : Option Addr) (na0_0 ca0_0 : Nat) (Aa0_1 : Option Addr) (na0_1 ca0_1 : Nat) (w : World) (Q : Ending → World → Prop) : Prop := alW w (.cells #[.slice Aa0_0 na0_0 ca0_0, .slice Aa0_1 na0_1 ca0_1] 29) fun B1 w2 => ldS w2 ⟨B1, 0, none⟩ fun A3 n3 c3 => sel (decide ((n3 : Int) > 2048)) (Q (.returned (.int .i64 60)) w2) (ldS w2 (.add ⟨B1, 0, none⟩ 1) fun A4 n4 c4 => sel (decide ((n4 : Int) > 2048)) (Q (.returned (.int .i64 60)) w2) (ldS w2 ⟨B1, 0, none⟩ fun A5 n5 c5 => Calls Tryz.prog 102 #[.slice A5 n5 c5] w2 fun e6 w7 => ∃ b8, e6 = .returned (.bool b8) ∧ (sel (!b8) (Q (.returned (.int .i64 60)) w7) (ldS w7 (.add ⟨B1, 0, none⟩ 1) fun A9 n9 c9 => Runs Tryz.prog (Instr.makeSlice 22 (.int .i64 (n9 : Int)) (.int .i64 (n9 : Int))) w7 fun v11 w10 => ∃ A12 n12 c12, v11 = (.slice A12 n12 c12) ∧ (ldS w10 (.add ⟨B1, 0, none⟩ 1) fun A13 n13 c13 => ∃ k48, l0 k48 ⟨B1, 0, none⟩ A12 n12 c12 A13 n13 c13 (n13 : Int) 0 w10 (fun w42 => ∀ _ : Fr, Calls Tryz.prog 102 #[.slice A12 n12 c12] w42 fun e43 w44 => ∃ b45, e43 = .returned (.bool b45) ∧ (sel (!b45) (Q (.returned (.int .i64 60)) w44) (Q (.returned (.int .i64 0)) w44))) (fun x46 w47 => ∀ _ : Fr, Q (.returned (.int .i64 x46)) w47))))))
def D : Nat → Option DH := dtab []
def l0LO : LO := ⟨[], [2], [(0, [3])], []⟩
def l0Tk (k : Nat) : Spec := fun Q σ w => gAd (σ 1) fun at1 => gSlice (σ 3) fun At3 nt3 ct3 => gSlice (σ 27) fun At27 nt27 ct27 => gInt .i64 (σ 28) fun xt28 => gInt .i64 (σ 29) fun xt29 => l0 k at1 At3 nt3 ct3 At27 nt27 ct27 xt28 xt29 w (fun w => ∀ d : Fr, Q (.exit 0) (ov d [(3, .slice At3 nt3 ct3)]) w) (fun xq2 w => ∀ d : Fr, Q .ret (ov d [(2, .int .i64 xq2)]) w)
def l0T : Spec := fun Q σ w => ∃ k, l0Tk k Q σ w
def l0tb : List (List Nat × Spec) := []
noncomputable def l0b : Code := (subC [0, 0, 1, 0, 1, 1, 1] body).getD .skip
theorem l0_eq (k : Nat) (at1 : Addr) (At3 : Option Addr) (nt3 ct3 : Nat) (At27 : Option Addr) (nt27 ct27 : Nat) (xt28 xt29 : Int) (Q : PQ) (σ : Fr) (w : World) : l0 (k + 1) at1 At3 nt3 ct3 At27 nt27 ct27 xt28 xt29 w (fun w => ∀ d : Fr, Q (.exit 0) (ov d [(3, .slice At3 nt3 ct3)]) w) (fun xq2 w => ∀ d : Fr, Q .ret (ov d [(2, .int .i64 xq2)]) w) = codeW Tryz.prog hT 65 D (tab l0tb) [0, 0, 1, 0, 1, 1, 1] l0b (thenQ (l0Tk k Q) (widen l0LO Q)) (ov σ [(1, .pointer (some at1)), (3, .slice At3 nt3 ct3), (27, .slice At27 nt27 ct27), (28, .int .i64 xt28), (29, .int .i64 xt29)]) w := by kernel_rfl
theorem l0_snd : ∀ c, subC [0, 1, 0, 1, 1, 1] body = some c → Snd Tryz.prog 65 c l0T := by
  refine loop_of (hT := hT) (D := D) (l := l0tb) (b := l0b) (lo := l0LO) (by kernel_rfl) (by
    intro x hx
    simp only [l0tb, List.not_mem_nil] at hx
    ) (by kernel_rfl) (by kernel_rfl) ?_ ?_
  · intro Q σ w h
    unfold l0Tk at h
    obtain ⟨_, _, h⟩ := gAd_elim h
    obtain ⟨_, _, _, _, h⟩ := gSlice_elim h
    obtain ⟨_, _, _, _, h⟩ := gSlice_elim h
    obtain ⟨_, _, h⟩ := gInt_elim h
    obtain ⟨_, _, h⟩ := gInt_elim h
    exact h
  · intro k Q σ w h
    unfold l0Tk at h
    obtain ⟨at1, h1, h⟩ := gAd_elim h
    obtain ⟨At3, nt3, ct3, h3, h⟩ := gSlice_elim h
    obtain ⟨At27, nt27, ct27, h27, h⟩ := gSlice_elim h
    obtain ⟨xt28, h28, h⟩ := gInt_elim h
    obtain ⟨xt29, h29, h⟩ := gInt_elim h
    rw [l0_eq (σ := σ)] at h
    have e : (ov σ [(1, .pointer (some at1)), (3, .slice At3 nt3 ct3), (27, .slice At27 nt27 ct27), (28, .int .i64 xt28), (29, .int .i64 xt29)]) = σ := ov_self (by simp [h1, h3, h27, h28, h29])
    rw [e] at h
    exact h
def tb : List (List Nat × Spec) := [([0, 1, 0, 1, 1, 1], l0T)]
variable (Aa0_0 : Option Addr) (na0_0 ca0_0 : Nat) (Aa0_1 : Option Addr) (na0_1 ca0_1 : Nat) (w : World) (Q : Ending → World → Prop)
theorem wp_eq : wp Aa0_0 na0_0 ca0_0 Aa0_1 na0_1 ca0_1 w Q = codeW Tryz.prog hT 65 D (tab tb) [] body (topQ Tryz.prog hT 65 [.tmp 2] Q) (argsF [.agg #[.slice Aa0_0 na0_0 ca0_0, .slice Aa0_1 na0_1 ca0_1]]) w := by kernel_rfl
theorem ok (h : wp Aa0_0 na0_0 ca0_0 Aa0_1 na0_1 ca0_1 w Q) : Calls Tryz.prog 78 #[.agg #[.slice Aa0_0 na0_0 ca0_0, .slice Aa0_1 na0_1 ca0_1]] w Q := by
  rw [wp_eq] at h
  refine calls_of_codeW (c := body) (rs := [.tmp 2]) Tryz.func78 ?_ ?_ ?_ ?_ ?_ (tab_snd (by
    intro x hx
    simp only [tb, List.mem_cons, List.not_mem_nil, or_false] at hx
    subst hx
    exact l0_snd)) ?_ h <;> kernel_rfl
end f_plain_Check
namespace f_plain_has
noncomputable def body : Code := (Tryz.f79.body).getD .skip
def wp (Aa0_0 : Option Addr) (na0_0 ca0_0 : Nat) (Aa0_1 : Option Addr) (na0_1 ca0_1 : Nat) (xa1 : Int) (w : World) (Q : Ending → World → Prop) : Prop := alW w (.cells #[.slice Aa0_0 na0_0 ca0_0, .slice Aa0_1 na0_1 ca0_1] 29) fun B1 w2 => ldS w2 ⟨B1, 0, none⟩ fun A3 n3 c3 => Calls Tryz.prog 103 #[.slice A3 n3 c3, .int .i64 xa1] w2 fun e4 w5 => ∃ x6_0 b6_1, e4 = .returned (.tuple #[.int .i64 x6_0, .bool b6_1]) ∧ (Q (.returned (.bool b6_1)) w5)
def D : Nat → Option DH := dtab []
def tb : List (List Nat × Spec) := []
variable (Aa0_0 : Option Addr) (na0_0 ca0_0 : Nat) (Aa0_1 : Option Addr) (na0_1 ca0_1 : Nat) (xa1 : Int) (w : World) (Q : Ending → World → Prop)
theorem wp_eq : wp Aa0_0 na0_0 ca0_0 Aa0_1 na0_1 ca0_1 xa1 w Q = codeW Tryz.prog hT 15 D (tab tb) [] body (topQ Tryz.prog hT 15 [.tmp 4] Q) (argsF [.agg #[.slice Aa0_0 na0_0 ca0_0, .slice Aa0_1 na0_1 ca0_1], .int .i64 xa1]) w := by kernel_rfl
theorem ok (h : wp Aa0_0 na0_0 ca0_0 Aa0_1 na0_1 ca0_1 xa1 w Q) : Calls Tryz.prog 79 #[.agg #[.slice Aa0_0 na0_0 ca0_0, .slice Aa0_1 na0_1 ca0_1], .int .i64 xa1] w Q := by
  rw [wp_eq] at h
  refine calls_of_codeW (c := body) (rs := [.tmp 4]) Tryz.func79 ?_ ?_ ?_ ?_ ?_ (tab_snd (by
    intro x hx
    simp only [tb, List.not_mem_nil] at hx
    )) ?_ h <;> kernel_rfl
end f_plain_has
namespace f_plain_rises
noncomputable def body : Code := (Tryz.f102.body).getD .skip
def l0 : Nat → Option Addr → Nat → Nat → Option Addr → Nat → Nat → Int → Int → World → (World → Prop) → (Bool → World → Prop) → Prop | 0, _, _, _, _, _, _, _, _, _, _, _ => False | k + 1, At0, nt0, ct0, At5, nt5, ct5, xt6, xt7, w, K0, Kr => sel (decide (xt7 < xt6)) (optB At5 fun a1 => req (decide (0 ≤ xt7 ∧ xt7 < (nt5 : Int))) <| ldI w (a1.add (xt7.toNat * 1)) .i64 fun x2 => Calls Tryz.prog 124 #[.int .i64 x2] w fun e3 w4 => ∃ b5, e3 = .returned (.bool b5) ∧ (sel b5 (Kr false w4) (sel (decide (xt7 > 0)) (optB At0 fun a6 => req (decide (0 ≤ (IntKind.i64.wrap (xt7 - 1)) ∧ (IntKind.i64.wrap (xt7 - 1)) < (nt0 : Int))) <| ldI w4 (a6.add ((IntKind.i64.wrap (xt7 - 1)).toNat * 1)) .i64 fun x7 => sel (decide (x7 ≥ x2)) (Kr false w4) (l0 k At0 nt0 ct0 At5 nt5 ct5 xt6 (IntKind.i64.wrap (xt7 + 1)) w4 K0 Kr)) (l0 k At0 nt0 ct0 At5 nt5 ct5 xt6 (IntKind.i64.wrap (xt7 + 1)) w4 K0 Kr)))) (K0 w)
def wp (Aa0 : Option Addr) (na0 ca0 : Nat) (w : World) (Q : Ending → World → Prop) : Prop := ∃ k11, l0 k11 Aa0 na0 ca0 Aa0 na0 ca0 (na0 : Int) 0 w (fun w8 => ∀ _ : Fr, Q (.returned (.bool true)) w8) (fun b9 w10 => ∀ _ : Fr, Q (.returned (.bool b9)) w10)
def D : Nat → Option DH := dtab []
def l0LO : LO := ⟨[], [2], [(0, [])], []⟩
def l0Tk (k : Nat) : Spec := fun Q σ w => gSlice (σ 0) fun At0 nt0 ct0 => gSlice (σ 5) fun At5 nt5 ct5 => gInt .i64 (σ 6) fun xt6 => gInt .i64 (σ 7) fun xt7 => l0 k At0 nt0 ct0 At5 nt5 ct5 xt6 xt7 w (fun w => ∀ d : Fr, Q (.exit 0) (ov d []) w) (fun bq2 w => ∀ d : Fr, Q .ret (ov d [(2, .bool bq2)]) w)
def l0T : Spec := fun Q σ w => ∃ k, l0Tk k Q σ w
def l0tb : List (List Nat × Spec) := []
noncomputable def l0b : Code := (subC [0, 0, 1, 0, 1] body).getD .skip
theorem l0_eq (k : Nat) (At0 : Option Addr) (nt0 ct0 : Nat) (At5 : Option Addr) (nt5 ct5 : Nat) (xt6 xt7 : Int) (Q : PQ) (σ : Fr) (w : World) : l0 (k + 1) At0 nt0 ct0 At5 nt5 ct5 xt6 xt7 w (fun w => ∀ d : Fr, Q (.exit 0) (ov d []) w) (fun bq2 w => ∀ d : Fr, Q .ret (ov d [(2, .bool bq2)]) w) = codeW Tryz.prog hT 28 D (tab l0tb) [0, 0, 1, 0, 1] l0b (thenQ (l0Tk k Q) (widen l0LO Q)) (ov σ [(0, .slice At0 nt0 ct0), (5, .slice At5 nt5 ct5), (6, .int .i64 xt6), (7, .int .i64 xt7)]) w := by kernel_rfl
theorem l0_snd : ∀ c, subC [0, 1, 0, 1] body = some c → Snd Tryz.prog 28 c l0T := by
  refine loop_of (hT := hT) (D := D) (l := l0tb) (b := l0b) (lo := l0LO) (by kernel_rfl) (by
    intro x hx
    simp only [l0tb, List.not_mem_nil] at hx
    ) (by kernel_rfl) (by kernel_rfl) ?_ ?_
  · intro Q σ w h
    unfold l0Tk at h
    obtain ⟨_, _, _, _, h⟩ := gSlice_elim h
    obtain ⟨_, _, _, _, h⟩ := gSlice_elim h
    obtain ⟨_, _, h⟩ := gInt_elim h
    obtain ⟨_, _, h⟩ := gInt_elim h
    exact h
  · intro k Q σ w h
    unfold l0Tk at h
    obtain ⟨At0, nt0, ct0, h0, h⟩ := gSlice_elim h
    obtain ⟨At5, nt5, ct5, h5, h⟩ := gSlice_elim h
    obtain ⟨xt6, h6, h⟩ := gInt_elim h
    obtain ⟨xt7, h7, h⟩ := gInt_elim h
    rw [l0_eq (σ := σ)] at h
    have e : (ov σ [(0, .slice At0 nt0 ct0), (5, .slice At5 nt5 ct5), (6, .int .i64 xt6), (7, .int .i64 xt7)]) = σ := ov_self (by simp [h0, h5, h6, h7])
    rw [e] at h
    exact h
def tb : List (List Nat × Spec) := [([0, 1, 0, 1], l0T)]
variable (Aa0 : Option Addr) (na0 ca0 : Nat) (w : World) (Q : Ending → World → Prop)
theorem wp_eq : wp Aa0 na0 ca0 w Q = codeW Tryz.prog hT 28 D (tab tb) [] body (topQ Tryz.prog hT 28 [.tmp 2] Q) (argsF [.slice Aa0 na0 ca0]) w := by kernel_rfl
theorem ok (h : wp Aa0 na0 ca0 w Q) : Calls Tryz.prog 102 #[.slice Aa0 na0 ca0] w Q := by
  rw [wp_eq] at h
  refine calls_of_codeW (c := body) (rs := [.tmp 2]) Tryz.func102 ?_ ?_ ?_ ?_ ?_ (tab_snd (by
    intro x hx
    simp only [tb, List.mem_cons, List.not_mem_nil, or_false] at hx
    subst hx
    exact l0_snd)) ?_ h <;> kernel_rfl
end f_plain_rises
namespace f_slices_BinarySearch_int_int
noncomputable def body : Code := (Tryz.f103.body).getD .skip
def l0 : Nat → Option Addr → Nat → Nat → Int → Int → Int → World → (Int → World → Prop) → Prop | 0, _, _, _, _, _, _, _, _ => False | k + 1, At0, nt0, ct0, xt1, xt7, xt8, w, K0 => sel (decide (xt7 < xt8)) (optB At0 fun a1 => req (decide (0 ≤ (IntKind.i64.wrap ((IntKind.u64.wrap (IntKind.i64.wrap (xt7 + xt8))).fdiv (2 ^ 1))) ∧ (IntKind.i64.wrap ((IntKind.u64.wrap (IntKind.i64.wrap (xt7 + xt8))).fdiv (2 ^ 1))) < (nt0 : Int))) <| ldI w (a1.add ((IntKind.i64.wrap ((IntKind.u64.wrap (IntKind.i64.wrap (xt7 + xt8))).fdiv (2 ^ 1))).toNat * 1)) .i64 fun x2 => Calls Tryz.prog 125 #[.int .i64 x2, .int .i64 xt1] w fun e3 w4 => ∃ b5, e3 = .returned (.bool b5) ∧ (sel b5 (l0 k At0 nt0 ct0 xt1 (IntKind.i64.wrap ((IntKind.i64.wrap ((IntKind.u64.wrap (IntKind.i64.wrap (xt7 + xt8))).fdiv (2 ^ 1))) + 1)) xt8 w4 K0) (l0 k At0 nt0 ct0 xt1 xt7 (IntKind.i64.wrap ((IntKind.u64.wrap (IntKind.i64.wrap (xt7 + xt8))).fdiv (2 ^ 1))) w4 K0))) (K0 xt7 w)
def wp (Aa0 : Option Addr) (na0 ca0 : Nat) (xa1 : Int) (w : World) (Q : Ending → World → Prop) : Prop := ∃ k18, l0 k18 Aa0 na0 ca0 xa1 0 (na0 : Int) w (fun x6 w7 => ∀ _ : Fr, sel (decide (x6 < (na0 : Int))) (optB Aa0 fun a8 => req (decide (0 ≤ x6 ∧ x6 < (na0 : Int))) <| ldI w7 (a8.add (x6.toNat * 1)) .i64 fun x9 => sel (x9 == xa1) (Q (.returned (.tuple #[.int .i64 x6, .bool true])) w7) (optB Aa0 fun a10 => req (decide (0 ≤ x6 ∧ x6 < (na0 : Int))) <| ldI w7 (a10.add (x6.toNat * 1)) .i64 fun x11 => Calls Tryz.prog 126 #[.int .i64 x11] w7 fun e12 w13 => ∃ b14, e12 = .returned (.bool b14) ∧ (sel b14 (Calls Tryz.prog 126 #[.int .i64 xa1] w13 fun e15 w16 => ∃ b17, e15 = .returned (.bool b17) ∧ (Q (.returned (.tuple #[.int .i64 x6, .bool b17])) w16)) (Q (.returned (.tuple #[.int .i64 x6, .bool false])) w13)))) (Q (.returned (.tuple #[.int .i64 x6, .bool false])) w7))
def D : Nat → Option DH := dtab []
def l0LO : LO := ⟨[], [], [(0, [0, 1, 6, 7])], []⟩
def l0Tk (k : Nat) : Spec := fun Q σ w => gSlice (σ 0) fun At0 nt0 ct0 => gInt .i64 (σ 1) fun xt1 => gInt .i64 (σ 7) fun xt7 => gInt .i64 (σ 8) fun xt8 => l0 k At0 nt0 ct0 xt1 xt7 xt8 w (fun xq7 w => ∀ d : Fr, Q (.exit 0) (ov d [(0, .slice At0 nt0 ct0), (1, .int .i64 xt1), (6, σ 6), (7, .int .i64 xq7)]) w)
def l0T : Spec := fun Q σ w => ∃ k, l0Tk k Q σ w
def l0tb : List (List Nat × Spec) := []
noncomputable def l0b : Code := (subC [0, 0, 0, 1, 1, 1] body).getD .skip
theorem l0_eq (k : Nat) (At0 : Option Addr) (nt0 ct0 : Nat) (xt1 xt7 xt8 : Int) (Q : PQ) (σ : Fr) (w : World) : l0 (k + 1) At0 nt0 ct0 xt1 xt7 xt8 w (fun xq7 w => ∀ d : Fr, Q (.exit 0) (ov d [(0, .slice At0 nt0 ct0), (1, .int .i64 xt1), (6, σ 6), (7, .int .i64 xq7)]) w) = codeW Tryz.prog hT 54 D (tab l0tb) [0, 0, 0, 1, 1, 1] l0b (thenQ (l0Tk k Q) (widen l0LO Q)) (ov σ [(0, .slice At0 nt0 ct0), (1, .int .i64 xt1), (7, .int .i64 xt7), (8, .int .i64 xt8)]) w := by kernel_rfl
theorem l0_snd : ∀ c, subC [0, 0, 1, 1, 1] body = some c → Snd Tryz.prog 54 c l0T := by
  refine loop_of (hT := hT) (D := D) (l := l0tb) (b := l0b) (lo := l0LO) (by kernel_rfl) (by
    intro x hx
    simp only [l0tb, List.not_mem_nil] at hx
    ) (by kernel_rfl) (by kernel_rfl) ?_ ?_
  · intro Q σ w h
    unfold l0Tk at h
    obtain ⟨_, _, _, _, h⟩ := gSlice_elim h
    obtain ⟨_, _, h⟩ := gInt_elim h
    obtain ⟨_, _, h⟩ := gInt_elim h
    obtain ⟨_, _, h⟩ := gInt_elim h
    exact h
  · intro k Q σ w h
    unfold l0Tk at h
    obtain ⟨At0, nt0, ct0, h0, h⟩ := gSlice_elim h
    obtain ⟨xt1, h1, h⟩ := gInt_elim h
    obtain ⟨xt7, h7, h⟩ := gInt_elim h
    obtain ⟨xt8, h8, h⟩ := gInt_elim h
    rw [l0_eq (σ := σ)] at h
    have e : (ov σ [(0, .slice At0 nt0 ct0), (1, .int .i64 xt1), (7, .int .i64 xt7), (8, .int .i64 xt8)]) = σ := ov_self (by simp [h0, h1, h7, h8])
    rw [e] at h
    exact h
def tb : List (List Nat × Spec) := [([0, 0, 1, 1, 1], l0T)]
variable (Aa0 : Option Addr) (na0 ca0 : Nat) (xa1 : Int) (w : World) (Q : Ending → World → Prop)
theorem wp_eq : wp Aa0 na0 ca0 xa1 w Q = codeW Tryz.prog hT 54 D (tab tb) [] body (topQ Tryz.prog hT 54 [.tmp 4, .tmp 5] Q) (argsF [.slice Aa0 na0 ca0, .int .i64 xa1]) w := by kernel_rfl
theorem ok (h : wp Aa0 na0 ca0 xa1 w Q) : Calls Tryz.prog 103 #[.slice Aa0 na0 ca0, .int .i64 xa1] w Q := by
  rw [wp_eq] at h
  refine calls_of_codeW (c := body) (rs := [.tmp 4, .tmp 5]) Tryz.func103 ?_ ?_ ?_ ?_ ?_ (tab_snd (by
    intro x hx
    simp only [tb, List.mem_cons, List.not_mem_nil, or_false] at hx
    subst hx
    exact l0_snd)) ?_ h <;> kernel_rfl
end f_slices_BinarySearch_int_int
namespace f_plain_badId
noncomputable def body : Code := (Tryz.f124.body).getD .skip
def wp (xa0 : Int) (w : World) (Q : Ending → World → Prop) : Prop := sel (decide (xa0 < 1)) (Q (.returned (.bool true)) w) (Q (.returned (.bool (decide (xa0 > 2147483647)))) w)
def D : Nat → Option DH := dtab []
def tb : List (List Nat × Spec) := []
variable (xa0 : Int) (w : World) (Q : Ending → World → Prop)
theorem wp_eq : wp xa0 w Q = codeW Tryz.prog hT 9 D (tab tb) [] body (topQ Tryz.prog hT 9 [.tmp 2] Q) (argsF [.int .i64 xa0]) w := by kernel_rfl
theorem ok (h : wp xa0 w Q) : Calls Tryz.prog 124 #[.int .i64 xa0] w Q := by
  rw [wp_eq] at h
  refine calls_of_codeW (c := body) (rs := [.tmp 2]) Tryz.func124 ?_ ?_ ?_ ?_ ?_ (tab_snd (by
    intro x hx
    simp only [tb, List.not_mem_nil] at hx
    )) ?_ h <;> kernel_rfl
end f_plain_badId
namespace f_cmp_Less_int
noncomputable def body : Code := (Tryz.f125.body).getD .skip
def wp (xa0 xa1 : Int) (w : World) (Q : Ending → World → Prop) : Prop := Calls Tryz.prog 140 #[.int .i64 xa0] w fun e1 w2 => ∃ b3, e1 = .returned (.bool b3) ∧ (sel b3 (Calls Tryz.prog 140 #[.int .i64 xa1] w2 fun e4 w5 => ∃ b6, e4 = .returned (.bool b6) ∧ (sel (!b6) (Q (.returned (.bool true)) w5) (Q (.returned (.bool (decide (xa0 < xa1)))) w5))) (Q (.returned (.bool (decide (xa0 < xa1)))) w2))
def D : Nat → Option DH := dtab []
def tb : List (List Nat × Spec) := []
variable (xa0 xa1 : Int) (w : World) (Q : Ending → World → Prop)
theorem wp_eq : wp xa0 xa1 w Q = codeW Tryz.prog hT 17 D (tab tb) [] body (topQ Tryz.prog hT 17 [.tmp 4] Q) (argsF [.int .i64 xa0, .int .i64 xa1]) w := by kernel_rfl
theorem ok (h : wp xa0 xa1 w Q) : Calls Tryz.prog 125 #[.int .i64 xa0, .int .i64 xa1] w Q := by
  rw [wp_eq] at h
  refine calls_of_codeW (c := body) (rs := [.tmp 4]) Tryz.func125 ?_ ?_ ?_ ?_ ?_ (tab_snd (by
    intro x hx
    simp only [tb, List.not_mem_nil] at hx
    )) ?_ h <;> kernel_rfl
end f_cmp_Less_int
namespace f_slices_isNaN_int
noncomputable def body : Code := (Tryz.f126.body).getD .skip
def wp (xa0 : Int) (w : World) (Q : Ending → World → Prop) : Prop := Q (.returned (.bool (xa0 != xa0))) w
def D : Nat → Option DH := dtab []
def tb : List (List Nat × Spec) := []
variable (xa0 : Int) (w : World) (Q : Ending → World → Prop)
theorem wp_eq : wp xa0 w Q = codeW Tryz.prog hT 6 D (tab tb) [] body (topQ Tryz.prog hT 6 [.tmp 2] Q) (argsF [.int .i64 xa0]) w := by kernel_rfl
theorem ok (h : wp xa0 w Q) : Calls Tryz.prog 126 #[.int .i64 xa0] w Q := by
  rw [wp_eq] at h
  refine calls_of_codeW (c := body) (rs := [.tmp 2]) Tryz.func126 ?_ ?_ ?_ ?_ ?_ (tab_snd (by
    intro x hx
    simp only [tb, List.not_mem_nil] at hx
    )) ?_ h <;> kernel_rfl
end f_slices_isNaN_int
namespace f_cmp_isNaN_int
noncomputable def body : Code := (Tryz.f140.body).getD .skip
def wp (xa0 : Int) (w : World) (Q : Ending → World → Prop) : Prop := Q (.returned (.bool (xa0 != xa0))) w
def D : Nat → Option DH := dtab []
def tb : List (List Nat × Spec) := []
variable (xa0 : Int) (w : World) (Q : Ending → World → Prop)
theorem wp_eq : wp xa0 w Q = codeW Tryz.prog hT 6 D (tab tb) [] body (topQ Tryz.prog hT 6 [.tmp 2] Q) (argsF [.int .i64 xa0]) w := by kernel_rfl
theorem ok (h : wp xa0 w Q) : Calls Tryz.prog 140 #[.int .i64 xa0] w Q := by
  rw [wp_eq] at h
  refine calls_of_codeW (c := body) (rs := [.tmp 2]) Tryz.func140 ?_ ?_ ?_ ?_ ?_ (tab_snd (by
    intro x hx
    simp only [tb, List.not_mem_nil] at hx
    )) ?_ h <;> kernel_rfl
end f_cmp_isNaN_int
namespace f_law18_HdtBridges
noncomputable def body : Code := (Tryz.f7.body).getD .skip
def l0 : Nat → Addr → Option Addr → Nat → Nat → Int → Int → World → (World → Prop) → Prop | 0, _, _, _, _, _, _, _, _ => False | k + 1, at8, At30, nt30, ct30, xt31, xt32, w, K0 => sel (decide (xt32 < xt31)) (optB At30 fun a11 => req (decide (0 ≤ xt32 ∧ xt32 < (nt30 : Int))) <| ldI w (a11.add (xt32.toNat * 5)) .i64 fun x12 => ldI w ((a11.add (xt32.toNat * 5)).add 1) .i64 fun x13 => ldI w ((a11.add (xt32.toNat * 5)).add 2) .i64 fun x14 => ldI w ((a11.add (xt32.toNat * 5)).add 3) .i64 fun x15 => ldI w ((a11.add (xt32.toNat * 5)).add 4) .i64 fun x16 => alW w (.cells #[.int .i64 0, .int .i64 0, .int .i64 0, .int .i64 0, .int .i64 0] 33) fun B17 w18 => stW w18 ⟨B17, 0, none⟩ (.int .i64 x12) fun w19 => stW w19 (.add ⟨B17, 0, none⟩ 1) (.int .i64 x13) fun w20 => stW w20 (.add ⟨B17, 0, none⟩ 2) (.int .i64 x14) fun w21 => stW w21 (.add ⟨B17, 0, none⟩ 3) (.int .i64 x15) fun w22 => stW w22 (.add ⟨B17, 0, none⟩ 4) (.int .i64 x16) fun w23 => ldS w23 at8 fun A24 n24 c24 => ldS w23 (at8.add 1) fun A25 n25 c25 => alW w23 (.cells #[.slice none 0 0, .slice none 0 0] 29) fun B26 w27 => stW w27 ⟨B26, 0, none⟩ (.slice A24 n24 c24) fun w28 => stW w28 (.add ⟨B26, 0, none⟩ 1) (.slice A25 n25 c25) fun w29 => ldI w29 ⟨B17, 0, none⟩ .i64 fun x30 => sel (x30 == 1) (ldS w29 at8 fun A31 n31 c31 => ldS w29 (at8.add 1) fun A32 n32 c32 => ldI w29 (((⟨B17, 0, none⟩ : Addr).add 1).add 1) .i64 fun x33 => Calls Tryz.prog 24 #[.agg #[.slice A31 n31 c31, .slice A32 n32 c32], .int .i64 x33] w29 fun e34 w35 => ∃ A36_0_0 n36_0_0 c36_0_0 A36_0_1 n36_0_1 c36_0_1 x36_1, e34 = .returned (.tuple #[.agg #[.slice A36_0_0 n36_0_0 c36_0_0, .slice A36_0_1 n36_0_1 c36_0_1], .int .i64 x36_1]) ∧ (stW w35 ⟨B26, 0, none⟩ (.slice A36_0_0 n36_0_0 c36_0_0) fun w37 => stW w37 (.add ⟨B26, 0, none⟩ 1) (.slice A36_0_1 n36_0_1 c36_0_1) fun w38 => ldS w38 ⟨B26, 0, none⟩ fun A39 n39 c39 => ldS w38 (.add ⟨B26, 0, none⟩ 1) fun A40 n40 c40 => stW w38 at8 (.slice A39 n39 c39) fun w41 => stW w41 (at8.add 1) (.slice A40 n40 c40) fun w42 => l0 k at8 At30 nt30 ct30 xt31 (IntKind.i64.wrap (xt32 + 1)) w42 K0)) (sel (x30 == 2) (ldS w29 at8 fun A43 n43 c43 => ldS w29 (at8.add 1) fun A44 n44 c44 => ldI w29 (((⟨B17, 0, none⟩ : Addr).add 1).add 1) .i64 fun x45 => Calls Tryz.prog 25 #[.agg #[.slice A43 n43 c43, .slice A44 n44 c44], .int .i64 x45] w29 fun e46 w47 => ∃ A48_0_0 n48_0_0 c48_0_0 A48_0_1 n48_0_1 c48_0_1 x48_1, e46 = .returned (.tuple #[.agg #[.slice A48_0_0 n48_0_0 c48_0_0, .slice A48_0_1 n48_0_1 c48_0_1], .int .i64 x48_1]) ∧ (stW w47 ⟨B26, 0, none⟩ (.slice A48_0_0 n48_0_0 c48_0_0) fun w49 => stW w49 (.add ⟨B26, 0, none⟩ 1) (.slice A48_0_1 n48_0_1 c48_0_1) fun w50 => ldS w50 ⟨B26, 0, none⟩ fun A51 n51 c51 => ldS w50 (.add ⟨B26, 0, none⟩ 1) fun A52 n52 c52 => stW w50 at8 (.slice A51 n51 c51) fun w53 => stW w53 (at8.add 1) (.slice A52 n52 c52) fun w54 => l0 k at8 At30 nt30 ct30 xt31 (IntKind.i64.wrap (xt32 + 1)) w54 K0)) (sel (x30 == 3) (ldS w29 at8 fun A55 n55 c55 => ldS w29 (at8.add 1) fun A56 n56 c56 => ldI w29 (.add ⟨B17, 0, none⟩ 1) .i64 fun x57 => ldI w29 (((⟨B17, 0, none⟩ : Addr).add 1).add 1) .i64 fun x58 => ldI w29 (((⟨B17, 0, none⟩ : Addr).add 1).add 2) .i64 fun x59 => Calls Tryz.prog 26 #[.agg #[.slice A55 n55 c55, .slice A56 n56 c56], .agg #[.int .i64 x57, .int .i64 x58, .int .i64 x59, .int .i64 0]] w29 fun e60 w61 => ∃ A62_0_0 n62_0_0 c62_0_0 A62_0_1 n62_0_1 c62_0_1 x62_1, e60 = .returned (.tuple #[.agg #[.slice A62_0_0 n62_0_0 c62_0_0, .slice A62_0_1 n62_0_1 c62_0_1], .int .i64 x62_1]) ∧ (stW w61 ⟨B26, 0, none⟩ (.slice A62_0_0 n62_0_0 c62_0_0) fun w63 => stW w63 (.add ⟨B26, 0, none⟩ 1) (.slice A62_0_1 n62_0_1 c62_0_1) fun w64 => ldS w64 ⟨B26, 0, none⟩ fun A65 n65 c65 => ldS w64 (.add ⟨B26, 0, none⟩ 1) fun A66 n66 c66 => stW w64 at8 (.slice A65 n65 c65) fun w67 => stW w67 (at8.add 1) (.slice A66 n66 c66) fun w68 => l0 k at8 At30 nt30 ct30 xt31 (IntKind.i64.wrap (xt32 + 1)) w68 K0)) (sel (x30 == 4) (ldS w29 at8 fun A69 n69 c69 => ldS w29 (at8.add 1) fun A70 n70 c70 => ldI w29 (.add ⟨B17, 0, none⟩ 1) .i64 fun x71 => Calls Tryz.prog 27 #[.agg #[.slice A69 n69 c69, .slice A70 n70 c70], .int .i64 x71] w29 fun e72 w73 => ∃ A74_0_0 n74_0_0 c74_0_0 A74_0_1 n74_0_1 c74_0_1 x74_1, e72 = .returned (.tuple #[.agg #[.slice A74_0_0 n74_0_0 c74_0_0, .slice A74_0_1 n74_0_1 c74_0_1], .int .i64 x74_1]) ∧ (stW w73 ⟨B26, 0, none⟩ (.slice A74_0_0 n74_0_0 c74_0_0) fun w75 => stW w75 (.add ⟨B26, 0, none⟩ 1) (.slice A74_0_1 n74_0_1 c74_0_1) fun w76 => ldS w76 ⟨B26, 0, none⟩ fun A77 n77 c77 => ldS w76 (.add ⟨B26, 0, none⟩ 1) fun A78 n78 c78 => stW w76 at8 (.slice A77 n77 c77) fun w79 => stW w79 (at8.add 1) (.slice A78 n78 c78) fun w80 => l0 k at8 At30 nt30 ct30 xt31 (IntKind.i64.wrap (xt32 + 1)) w80 K0)) (ldS w29 ⟨B26, 0, none⟩ fun A81 n81 c81 => ldS w29 (.add ⟨B26, 0, none⟩ 1) fun A82 n82 c82 => stW w29 at8 (.slice A81 n81 c81) fun w83 => stW w83 (at8.add 1) (.slice A82 n82 c82) fun w84 => l0 k at8 At30 nt30 ct30 xt31 (IntKind.i64.wrap (xt32 + 1)) w84 K0))))) (K0 w)
def j2 (pt7 : Option Addr) (xt13 : Int) (bt16 : Bool) (xt17 : Int) (bt18 : Bool) (xt19 : Int) (w : World) (Kn : World → Prop) (Kr : Bool → World → Prop) : Prop := sel (xt17 != 0) (Kr false w) (sel (xt19 != 0) (Kr false w) (sel (!(bt18 == bt16)) (Kr false w) (sel bt16 (Calls Tryz.prog 12 #[.pointer pt7] w fun e137 w138 => ∃ x139, e137 = .returned (.int .i64 x139) ∧ (sel (x139 != xt13) (Kr false w138) (sel (!bt16) (Calls Tryz.prog 12 #[.pointer pt7] w138 fun e140 w141 => ∃ x142, e140 = .returned (.int .i64 x142) ∧ (sel (x142 != (IntKind.i64.wrap (xt13 + 1))) (Kr false w141) (Kn w141))) (Kn w138)))) (sel (!bt16) (Calls Tryz.prog 12 #[.pointer pt7] w fun e143 w144 => ∃ x145, e143 = .returned (.int .i64 x145) ∧ (sel (x145 != (IntKind.i64.wrap (xt13 + 1))) (Kr false w144) (Kn w144))) (Kn w)))))
def l1 : Nat → Int → Option Addr → Addr → World → (World → Prop) → (Bool → World → Prop) → Prop | 0, _, _, _, _, _, _ => False | k + 1, xt2, pt7, at8, w, K3, Kr => ldS w (at8.add 1) fun A87 n87 c87 => sel (decide ((n87 : Int) > 0)) (drW w fun w88 => ∃ S89 : World → Prop, S89 w88 ∧ (hdS S89 (at8.add 1) fun A90 n90 c90 => hdS S89 (at8.add 1) fun A91 n91 c91 => hdS S89 (at8.add 1) fun A92 n92 c92 => req (!decide ((n92 : Int) = 0)) <| optB A90 fun a93 => req (decide (0 ≤ ((IntKind.i64.wrap ((IntKind.i64.wrap (xt2 * (n91 : Int))) + xt2)).tmod (n92 : Int)) ∧ ((IntKind.i64.wrap ((IntKind.i64.wrap (xt2 * (n91 : Int))) + xt2)).tmod (n92 : Int)) < (n90 : Int))) <| hdI S89 (a93.add (((IntKind.i64.wrap ((IntKind.i64.wrap (xt2 * (n91 : Int))) + xt2)).tmod (n92 : Int)).toNat * 4)) .i64 fun x94 => hdI S89 ((a93.add (((IntKind.i64.wrap ((IntKind.i64.wrap (xt2 * (n91 : Int))) + xt2)).tmod (n92 : Int)).toNat * 4)).add 1) .i64 fun x95 => hdI S89 ((a93.add (((IntKind.i64.wrap ((IntKind.i64.wrap (xt2 * (n91 : Int))) + xt2)).tmod (n92 : Int)).toNat * 4)).add 2) .i64 fun x96 => hdI S89 ((a93.add (((IntKind.i64.wrap ((IntKind.i64.wrap (xt2 * (n91 : Int))) + xt2)).tmod (n92 : Int)).toNat * 4)).add 3) .i64 fun x97 => alW w88 (.cells #[.int .i64 0, .int .i64 0, .int .i64 0, .int .i64 0] 31) fun B98 w99 => S89 w99 ∧ (stW w99 ⟨B98, 0, none⟩ (.int .i64 x94) fun w100 => stW w100 (.add ⟨B98, 0, none⟩ 1) (.int .i64 x95) fun w101 => stW w101 (.add ⟨B98, 0, none⟩ 2) (.int .i64 x96) fun w102 => stW w102 (.add ⟨B98, 0, none⟩ 3) (.int .i64 x97) fun w103 => Calls Tryz.prog 12 #[.pointer pt7] w103 fun e104 w105 => ∃ x106, e104 = .returned (.int .i64 x106) ∧ (ldS w105 at8 fun A107 n107 c107 => ldS w105 (at8.add 1) fun A108 n108 c108 => ldI w105 ⟨B98, 0, none⟩ .i64 fun x109 => Calls Tryz.prog 27 #[.agg #[.slice A107 n107 c107, .slice A108 n108 c108], .int .i64 x109] w105 fun e110 w111 => ∃ A112_0_0 n112_0_0 c112_0_0 A112_0_1 n112_0_1 c112_0_1 x112_1, e110 = .returned (.tuple #[.agg #[.slice A112_0_0 n112_0_0 c112_0_0, .slice A112_0_1 n112_0_1 c112_0_1], .int .i64 x112_1]) ∧ (alW w111 (.cells #[.slice none 0 0, .slice none 0 0] 29) fun B113 w114 => stW w114 ⟨B113, 0, none⟩ (.slice A112_0_0 n112_0_0 c112_0_0) fun w115 => stW w115 (.add ⟨B113, 0, none⟩ 1) (.slice A112_0_1 n112_0_1 c112_0_1) fun w116 => ldS w116 ⟨B113, 0, none⟩ fun A117 n117 c117 => ldS w116 (.add ⟨B113, 0, none⟩ 1) fun A118 n118 c118 => stW w116 at8 (.slice A117 n117 c117) fun w119 => stW w119 (at8.add 1) (.slice A118 n118 c118) fun w120 => ldI w120 ⟨B98, 0, none⟩ .i64 fun x121 => Calls Tryz.prog 23 #[.pointer pt7, .int .i64 x121] w120 fun e122 w123 => ∃ x124, e122 = .returned (.int .i64 x124) ∧ (sel (x124 != 0) (Kr false w123) (ldS w123 at8 fun A125 n125 c125 => ldS w123 (at8.add 1) fun A126 n126 c126 => ldI w123 (.add ⟨B98, 0, none⟩ 1) .i64 fun x127 => ldI w123 (.add ⟨B98, 0, none⟩ 2) .i64 fun x128 => Calls Tryz.prog 30 #[.agg #[.slice A125 n125 c125, .slice A126 n126 c126], .int .i64 x127, .int .i64 x128] w123 fun e129 w130 => ∃ b131_0 x131_1, e129 = .returned (.tuple #[.bool b131_0, .int .i64 x131_1]) ∧ (ldI w130 (.add ⟨B98, 0, none⟩ 1) .i64 fun x132 => ldI w130 (.add ⟨B98, 0, none⟩ 2) .i64 fun x133 => Calls Tryz.prog 16 #[.pointer pt7, .int .i64 x132, .int .i64 x133] w130 fun e134 w135 => ∃ b136_0 x136_1, e134 = .returned (.tuple #[.bool b136_0, .int .i64 x136_1]) ∧ (j2 pt7 x106 b131_0 x131_1 b136_0 x136_1 w135 (fun w146 => ∀ _ : Fr, l1 k xt2 pt7 at8 w146 K3 Kr) (fun b147 w148 => ∀ _ : Fr, Kr b147 w148)))))))))) (K3 w)
def wp (Aa0 : Option Addr) (na0 ca0 : Nat) (Aa1 : Option Addr) (na1 ca1 : Nat) (xa2 : Int) (w : World) (Q : Ending → World → Prop) : Prop := Calls Tryz.prog 15 #[.slice Aa0 na0 ca0, .slice Aa1 na1 ca1] w fun e1 w2 => ∃ p3, e1 = .returned (.pointer p3) ∧ (sel p3.isNone (Q (.returned (.bool false)) w2) (Calls Tryz.prog 9 #[] w2 fun e4 w5 => ∃ b6, e4 = .returned (.bool b6) ∧ (sel (!b6) (Q (.returned (.bool false)) w5) (alW w5 (.cells #[.slice none 0 0, .slice none 0 0] 29) fun B7 w8 => stW w8 ⟨B7, 0, none⟩ (.slice none 0 0) fun w9 => stW w9 (.add ⟨B7, 0, none⟩ 1) (.slice none 0 0) fun w10 => ∃ k159, l0 k159 ⟨B7, 0, none⟩ Aa1 na1 ca1 (na1 : Int) 0 w10 (fun w85 => ∀ _ : Fr, ldS w85 (.add ⟨B7, 0, none⟩ 1) fun A86 n86 c86 => sel (decide ((n86 : Int) > 60)) (Q (.returned (.bool true)) w85) (∃ k158, l1 k158 (band .i64 xa2 1023) p3 ⟨B7, 0, none⟩ w85 (fun w149 => ∀ _ : Fr, drW w149 fun w150 => ∃ S151 : World → Prop, S151 w150 ∧ (hdS S151 ⟨B7, 0, none⟩ fun A152 n152 c152 => Calls Tryz.prog 12 #[.pointer p3] w150 fun e153 w154 => ∃ x155, e153 = .returned (.int .i64 x155) ∧ (S151 w154 ∧ (Q (.returned (.bool (x155 == (n152 : Int)))) w154)))) (fun b156 w157 => ∀ _ : Fr, Q (.returned (.bool b156)) w157)))))))
def D : Nat → Option DH := dtab [(24, .held [.fst 0, .fst 1, .fst 2, .fst 3, .fst 4, .fst 5, .fst 6, .fst 7, .fst 8, .fst 9, .fst 10, .fst 11, .fst 12, .fst 13, .fst 14, .eff 15] [.eff 16]), (34, .held [.fst 0, .fst 2, .fst 3, .fst 4, .eff 1] [.fst 5, .fst 6])]
def l0LO : LO := ⟨[], [], [(0, [2, 7, 8])], []⟩
def l0Tk (k : Nat) : Spec := fun Q σ w => gAd (σ 8) fun at8 => gSlice (σ 30) fun At30 nt30 ct30 => gInt .i64 (σ 31) fun xt31 => gInt .i64 (σ 32) fun xt32 => l0 k at8 At30 nt30 ct30 xt31 xt32 w (fun w => ∀ d : Fr, Q (.exit 0) (ov d [(2, σ 2), (7, σ 7), (8, .pointer (some at8))]) w)
def l0T : Spec := fun Q σ w => ∃ k, l0Tk k Q σ w
def l0tb : List (List Nat × Spec) := []
noncomputable def l0b : Code := (subC [0, 0, 1, 0, 1, 1, 1, 1] body).getD .skip
theorem l0_eq (k : Nat) (at8 : Addr) (At30 : Option Addr) (nt30 ct30 : Nat) (xt31 xt32 : Int) (Q : PQ) (σ : Fr) (w : World) : l0 (k + 1) at8 At30 nt30 ct30 xt31 xt32 w (fun w => ∀ d : Fr, Q (.exit 0) (ov d [(2, σ 2), (7, σ 7), (8, .pointer (some at8))]) w) = codeW Tryz.prog hT 183 D (tab l0tb) [0, 0, 1, 0, 1, 1, 1, 1] l0b (thenQ (l0Tk k Q) (widen l0LO Q)) (ov σ [(8, .pointer (some at8)), (30, .slice At30 nt30 ct30), (31, .int .i64 xt31), (32, .int .i64 xt32)]) w := by kernel_rfl
theorem l0_snd : ∀ c, subC [0, 1, 0, 1, 1, 1, 1] body = some c → Snd Tryz.prog 183 c l0T := by
  refine loop_of (hT := hT) (D := D) (l := l0tb) (b := l0b) (lo := l0LO) (by kernel_rfl) (by
    intro x hx
    simp only [l0tb, List.not_mem_nil] at hx
    ) (by kernel_rfl) (by kernel_rfl) ?_ ?_
  · intro Q σ w h
    unfold l0Tk at h
    obtain ⟨_, _, h⟩ := gAd_elim h
    obtain ⟨_, _, _, _, h⟩ := gSlice_elim h
    obtain ⟨_, _, h⟩ := gInt_elim h
    obtain ⟨_, _, h⟩ := gInt_elim h
    exact h
  · intro k Q σ w h
    unfold l0Tk at h
    obtain ⟨at8, h8, h⟩ := gAd_elim h
    obtain ⟨At30, nt30, ct30, h30, h⟩ := gSlice_elim h
    obtain ⟨xt31, h31, h⟩ := gInt_elim h
    obtain ⟨xt32, h32, h⟩ := gInt_elim h
    rw [l0_eq (σ := σ)] at h
    have e : (ov σ [(8, .pointer (some at8)), (30, .slice At30 nt30 ct30), (31, .int .i64 xt31), (32, .int .i64 xt32)]) = σ := ov_self (by simp [h8, h30, h31, h32])
    rw [e] at h
    exact h
def j2LO : LO := ⟨[2, 7, 8], [6], [], []⟩
def j2T : Spec := fun Q σ w => gPtr (σ 7) fun pt7 => gInt .i64 (σ 13) fun xt13 => gBool (σ 16) fun bt16 => gInt .i64 (σ 17) fun xt17 => gBool (σ 18) fun bt18 => gInt .i64 (σ 19) fun xt19 => j2 pt7 xt13 bt16 xt17 bt18 xt19 w (fun w => ∀ d : Fr, Q .normal (ov d [(2, σ 2), (7, .pointer pt7), (8, σ 8)]) w) (fun bq6 w => ∀ d : Fr, Q .ret (ov d [(6, .bool bq6)]) w)
def j2tb : List (List Nat × Spec) := []
noncomputable def j2b : Code := (subC [1, 1, 1, 1, 1, 1, 1, 0, 1, 0, 0, 0, 1, 1, 1, 1, 1, 1, 1] body).getD .skip
theorem j2_eq (pt7 : Option Addr) (xt13 : Int) (bt16 : Bool) (xt17 : Int) (bt18 : Bool) (xt19 : Int) (Q : PQ) (σ : Fr) (w : World) : j2 pt7 xt13 bt16 xt17 bt18 xt19 w (fun w => ∀ d : Fr, Q .normal (ov d [(2, σ 2), (7, .pointer pt7), (8, σ 8)]) w) (fun bq6 w => ∀ d : Fr, Q .ret (ov d [(6, .bool bq6)]) w) = codeW Tryz.prog hT 183 D (tab j2tb) [1, 1, 1, 1, 1, 1, 1, 0, 1, 0, 0, 0, 1, 1, 1, 1, 1, 1, 1] j2b (widen j2LO Q) (ov σ [(7, .pointer pt7), (13, .int .i64 xt13), (16, .bool bt16), (17, .int .i64 xt17), (18, .bool bt18), (19, .int .i64 xt19)]) w := by cases bt16 <;> cases bt18 <;> kernel_rfl
theorem j2_snd : ∀ c, subC [1, 1, 1, 1, 1, 1, 1, 0, 1, 0, 0, 0, 1, 1, 1, 1, 1, 1, 1] body = some c → Snd Tryz.prog 183 c j2T := by
  refine cut_of (hT := hT) (D := D) (l := j2tb) (b := j2b) (lo := j2LO) (by kernel_rfl) (by
    intro x hx
    simp only [j2tb, List.not_mem_nil] at hx
    ) (by kernel_rfl) (by kernel_rfl) ?_
  intro Q σ w h
  unfold j2T at h
  obtain ⟨pt7, h7, h⟩ := gPtr_elim h
  obtain ⟨xt13, h13, h⟩ := gInt_elim h
  obtain ⟨bt16, h16, h⟩ := gBool_elim h
  obtain ⟨xt17, h17, h⟩ := gInt_elim h
  obtain ⟨bt18, h18, h⟩ := gBool_elim h
  obtain ⟨xt19, h19, h⟩ := gInt_elim h
  rw [j2_eq (σ := σ)] at h
  have e : (ov σ [(7, .pointer pt7), (13, .int .i64 xt13), (16, .bool bt16), (17, .int .i64 xt17), (18, .bool bt18), (19, .int .i64 xt19)]) = σ := ov_self (by simp [h7, h13, h16, h17, h18, h19])
  rw [e] at h
  exact h
def l1LO : LO := ⟨[], [6], [(3, [7, 8])], []⟩
def l1Tk (k : Nat) : Spec := fun Q σ w => gInt .i64 (σ 2) fun xt2 => gPtr (σ 7) fun pt7 => gAd (σ 8) fun at8 => l1 k xt2 pt7 at8 w (fun w => ∀ d : Fr, Q (.exit 3) (ov d [(7, .pointer pt7), (8, .pointer (some at8))]) w) (fun bq6 w => ∀ d : Fr, Q .ret (ov d [(6, .bool bq6)]) w)
def l1T : Spec := fun Q σ w => ∃ k, l1Tk k Q σ w
def l1tb : List (List Nat × Spec) := [([1, 1, 1, 1, 1, 1, 1, 0, 1, 0, 0, 0, 1, 1, 1, 1, 1, 1, 1], j2T)]
noncomputable def l1b : Code := (subC [0, 0, 0, 1, 1, 1, 1, 1, 1, 1] body).getD .skip
theorem l1_eq (k : Nat) (xt2 : Int) (pt7 : Option Addr) (at8 : Addr) (Q : PQ) (σ : Fr) (w : World) : l1 (k + 1) xt2 pt7 at8 w (fun w => ∀ d : Fr, Q (.exit 3) (ov d [(7, .pointer pt7), (8, .pointer (some at8))]) w) (fun bq6 w => ∀ d : Fr, Q .ret (ov d [(6, .bool bq6)]) w) = codeW Tryz.prog hT 183 D (tab l1tb) [0, 0, 0, 1, 1, 1, 1, 1, 1, 1] l1b (thenQ (l1Tk k Q) (widen l1LO Q)) (ov σ [(2, .int .i64 xt2), (7, .pointer pt7), (8, .pointer (some at8))]) w := by kernel_rfl
theorem l1_snd : ∀ c, subC [0, 0, 1, 1, 1, 1, 1, 1, 1] body = some c → Snd Tryz.prog 183 c l1T := by
  refine loop_of (hT := hT) (D := D) (l := l1tb) (b := l1b) (lo := l1LO) (by kernel_rfl) (by
    intro x hx
    simp only [l1tb, List.mem_cons, List.not_mem_nil, or_false] at hx
    subst hx
    exact j2_snd) (by kernel_rfl) (by kernel_rfl) ?_ ?_
  · intro Q σ w h
    unfold l1Tk at h
    obtain ⟨_, _, h⟩ := gInt_elim h
    obtain ⟨_, _, h⟩ := gPtr_elim h
    obtain ⟨_, _, h⟩ := gAd_elim h
    exact h
  · intro k Q σ w h
    unfold l1Tk at h
    obtain ⟨xt2, h2, h⟩ := gInt_elim h
    obtain ⟨pt7, h7, h⟩ := gPtr_elim h
    obtain ⟨at8, h8, h⟩ := gAd_elim h
    rw [l1_eq (σ := σ)] at h
    have e : (ov σ [(2, .int .i64 xt2), (7, .pointer pt7), (8, .pointer (some at8))]) = σ := ov_self (by simp [h2, h7, h8])
    rw [e] at h
    exact h
def tb : List (List Nat × Spec) := [([0, 1, 0, 1, 1, 1, 1], l0T), ([1, 1, 1, 1, 1, 1, 1, 0, 1, 0, 0, 0, 1, 1, 1, 1, 1, 1, 1], j2T), ([0, 0, 1, 1, 1, 1, 1, 1, 1], l1T)]
variable (Aa0 : Option Addr) (na0 ca0 : Nat) (Aa1 : Option Addr) (na1 ca1 : Nat) (xa2 : Int) (w : World) (Q : Ending → World → Prop)
theorem wp_eq : wp Aa0 na0 ca0 Aa1 na1 ca1 xa2 w Q = codeW Tryz.prog hT 183 D (tab tb) [] body (topQ Tryz.prog hT 183 [.tmp 6] Q) (argsF [.slice Aa0 na0 ca0, .slice Aa1 na1 ca1, .int .i64 xa2]) w := by kernel_rfl
theorem ok (h : wp Aa0 na0 ca0 Aa1 na1 ca1 xa2 w Q) : Calls Tryz.prog 7 #[.slice Aa0 na0 ca0, .slice Aa1 na1 ca1, .int .i64 xa2] w Q := by
  rw [wp_eq] at h
  refine calls_of_codeW (c := body) (rs := [.tmp 6]) Tryz.func7 ?_ ?_ ?_ ?_ ?_ (tab_snd (by
    intro x hx
    simp only [tb, List.mem_cons, List.not_mem_nil, or_false] at hx
    rcases hx with rfl | rfl | rfl
    · exact l0_snd
    · exact j2_snd
    · exact l1_snd)) ?_ h <;> kernel_rfl
end f_law18_HdtBridges
end Go.Proofs.YtbhhbnnmdekjiaaGreat.Rd
