/- The printed readings of some functions: each function's code reckoned by the kernel to its predicate transformer -/
import Derived.Test.YtklnlnjgaadjbaaZ4A
set_option linter.unusedSimpArgs false
set_option linter.unusedVariables false
namespace Go.Proofs.Ytklnlnjgaadjbaa.Rd
open Go.Dn
set_option maxRecDepth 100000
namespace f_law20_SpanLinks
noncomputable def body : Code := (Try.f4.body).getD .skip
def j1 (at5 : Addr) (pt7 : Option Addr) (xt8 xt10 : Int) (w : World) (Kr : Bool → World → Prop) : Prop := ldI w at5 .i64 fun x62 => Calls Try.prog 17 #[.pointer pt7, .int .i64 x62] w fun e63 w64 => ∃ x65, e63 = .returned (.int .i64 x65) ∧ (sel (x65 != 0) (Kr false w64) (ldI w64 (at5.add 1) .i64 fun x66 => Calls Try.prog 13 #[.pointer pt7, .int .i64 x66] w64 fun e67 w68 => ∃ x69_0 x69_1, e67 = .returned (.tuple #[.int .i64 x69_0, .int .i64 x69_1]) ∧ (ldI w68 (at5.add 2) .i64 fun x70 => Calls Try.prog 13 #[.pointer pt7, .int .i64 x70] w68 fun e71 w72 => ∃ x73_0 x73_1, e71 = .returned (.tuple #[.int .i64 x73_0, .int .i64 x73_1]) ∧ (sel (x69_0 == xt8) (sel (x73_0 == xt10) (sel (x69_1 == 0) (Kr (x73_1 == 0) w72) (Kr false w72)) (Kr false w72)) (Kr false w72)))))
def j0 (at5 : Addr) (pt7 : Option Addr) (xt8 xt9 xt10 xt11 xt13 xt15 xt16 xt18 : Int) (w : World) (Kr : Bool → World → Prop) : Prop := ldI w (at5.add 1) .i64 fun x29 => Calls Try.prog 15 #[.pointer pt7, .int .i64 x29, .int .i64 xt13] w fun e30 w31 => ∃ x32_0 x32_1, e30 = .returned (.tuple #[.int .i64 x32_0, .int .i64 x32_1]) ∧ (ldI w31 (at5.add 2) .i64 fun x33 => Calls Try.prog 15 #[.pointer pt7, .int .i64 x33, .int .i64 xt15] w31 fun e34 w35 => ∃ x36_0 x36_1, e34 = .returned (.tuple #[.int .i64 x36_0, .int .i64 x36_1]) ∧ (ldI w35 (at5.add 2) .i64 fun x37 => Calls Try.prog 15 #[.pointer pt7, .int .i64 x37, .int .i64 xt16] w35 fun e38 w39 => ∃ x40_0 x40_1, e38 = .returned (.tuple #[.int .i64 x40_0, .int .i64 x40_1]) ∧ (ldI w39 at5 .i64 fun x41 => ldI w39 (at5.add 1) .i64 fun x42 => ldI w39 (at5.add 2) .i64 fun x43 => ldI w39 (at5.add 3) .i64 fun x44 => Calls Try.prog 16 #[.pointer pt7, .agg #[.int .i64 x41, .int .i64 x42, .int .i64 x43, .int .i64 x44]] w39 fun e45 w46 => ∃ x47, e45 = .returned (.int .i64 x47) ∧ (sel (x47 != 0) (ldI w46 (at5.add 1) .i64 fun x48 => Calls Try.prog 13 #[.pointer pt7, .int .i64 x48] w46 fun e49 w50 => ∃ x51_0 x51_1, e49 = .returned (.tuple #[.int .i64 x51_0, .int .i64 x51_1]) ∧ (sel (x51_0 == xt8) (Kr (x51_1 == xt9) w50) (Kr false w50))) (ldI w46 (at5.add 1) .i64 fun x52 => Calls Try.prog 13 #[.pointer pt7, .int .i64 x52] w46 fun e53 w54 => ∃ x55_0 x55_1, e53 = .returned (.tuple #[.int .i64 x55_0, .int .i64 x55_1]) ∧ (ldI w54 (at5.add 2) .i64 fun x56 => Calls Try.prog 13 #[.pointer pt7, .int .i64 x56] w54 fun e57 w58 => ∃ x59_0 x59_1, e57 = .returned (.tuple #[.int .i64 x59_0, .int .i64 x59_1]) ∧ (sel (xt9 != 0) (Kr false w58) (sel (xt11 != 0) (Kr false w58) (sel (x55_1 != 0) (Kr false w58) (sel (x59_1 != 0) (Kr false w58) (sel (x55_0 != x59_0) (Kr false w58) (sel (decide (x55_0 < xt8)) (Kr false w58) (sel (decide (x55_0 < xt10)) (Kr false w58) (ldI w58 (at5.add 3) .i64 fun x60 => sel (decide (x55_0 > (IntKind.i64.wrap ((IntKind.i64.wrap (xt8 + xt10)) + x60)))) (Kr false w58) (ldI w58 (at5.add 3) .i64 fun x61 => sel (x55_0 != (if (IntKind.i64.wrap ((IntKind.i64.wrap ((if x32_0 > xt18 then x32_0 else xt18) + x61)) + (if x40_0 > x36_0 then x40_0 else x36_0))) > (if xt10 > xt8 then xt10 else xt8) then (IntKind.i64.wrap ((IntKind.i64.wrap ((if x32_0 > xt18 then x32_0 else xt18) + x61)) + (if x40_0 > x36_0 then x40_0 else x36_0))) else (if xt10 > xt8 then xt10 else xt8))) (Kr false w58) (j1 at5 pt7 xt8 xt10 w58 (fun b74 w75 => ∀ _ : Fr, Kr b74 w75)))))))))))))))))
def wp (Aa0 : Option Addr) (na0 ca0 : Nat) (Aa1 : Option Addr) (na1 ca1 : Nat) (xa2_0 xa2_1 xa2_2 xa2_3 : Int) (w : World) (Q : Ending → World → Prop) : Prop := alW w (.cells #[.int .i64 xa2_0, .int .i64 xa2_1, .int .i64 xa2_2, .int .i64 xa2_3] 33) fun B1 w2 => Calls Try.prog 12 #[.slice Aa0 na0 ca0, .slice Aa1 na1 ca1] w2 fun e3 w4 => ∃ p5, e3 = .returned (.pointer p5) ∧ (sel p5.isNone (Q (.returned (.bool false)) w4) (Calls Try.prog 8 #[] w4 fun e6 w7 => ∃ b8, e6 = .returned (.bool b8) ∧ (sel (!b8) (Q (.returned (.bool false)) w7) (ldI w7 (.add ⟨B1, 0, none⟩ 1) .i64 fun x9 => Calls Try.prog 13 #[.pointer p5, .int .i64 x9] w7 fun e10 w11 => ∃ x12_0 x12_1, e10 = .returned (.tuple #[.int .i64 x12_0, .int .i64 x12_1]) ∧ (ldI w11 (.add ⟨B1, 0, none⟩ 2) .i64 fun x13 => Calls Try.prog 13 #[.pointer p5, .int .i64 x13] w11 fun e14 w15 => ∃ x16_0 x16_1, e14 = .returned (.tuple #[.int .i64 x16_0, .int .i64 x16_1]) ∧ (ldI w15 (.add ⟨B1, 0, none⟩ 1) .i64 fun x17 => Calls Try.prog 14 #[.pointer p5, .int .i64 x17] w15 fun e18 w19 => ∃ x20_0 x20_1 x20_2, e18 = .returned (.tuple #[.int .i64 x20_0, .int .i64 x20_1, .int .i64 x20_2]) ∧ (ldI w19 (.add ⟨B1, 0, none⟩ 2) .i64 fun x21 => Calls Try.prog 14 #[.pointer p5, .int .i64 x21] w19 fun e22 w23 => ∃ x24_0 x24_1 x24_2, e22 = .returned (.tuple #[.int .i64 x24_0, .int .i64 x24_1, .int .i64 x24_2]) ∧ (ldI w23 (.add ⟨B1, 0, none⟩ 1) .i64 fun x25 => Calls Try.prog 15 #[.pointer p5, .int .i64 x25, .int .i64 x20_0] w23 fun e26 w27 => ∃ x28_0 x28_1, e26 = .returned (.tuple #[.int .i64 x28_0, .int .i64 x28_1]) ∧ (j0 ⟨B1, 0, none⟩ p5 x12_0 x12_1 x16_0 x16_1 x20_1 x24_0 x24_1 x28_0 w27 (fun b76 w77 => ∀ _ : Fr, Q (.returned (.bool b76)) w77))))))))))
def D : Nat → Option DH := dtab []
def j1LO : LO := ⟨[], [6], [], []⟩
def j1T : Spec := fun Q σ w => gAd (σ 5) fun at5 => gPtr (σ 7) fun pt7 => gInt .i64 (σ 8) fun xt8 => gInt .i64 (σ 10) fun xt10 => j1 at5 pt7 xt8 xt10 w (fun bq6 w => ∀ d : Fr, Q .ret (ov d [(6, .bool bq6)]) w)
def j1tb : List (List Nat × Spec) := []
noncomputable def j1b : Code := (subC [1, 1, 1, 1, 1, 1, 1, 1, 1, 1, 1, 1, 1, 1, 1] body).getD .skip
theorem j1_eq (at5 : Addr) (pt7 : Option Addr) (xt8 xt10 : Int) (Q : PQ) (σ : Fr) (w : World) : j1 at5 pt7 xt8 xt10 w (fun bq6 w => ∀ d : Fr, Q .ret (ov d [(6, .bool bq6)]) w) = codeW Try.prog hT 231 D (tab j1tb) [1, 1, 1, 1, 1, 1, 1, 1, 1, 1, 1, 1, 1, 1, 1] j1b (widen j1LO Q) (ov σ [(5, .pointer (some at5)), (7, .pointer pt7), (8, .int .i64 xt8), (10, .int .i64 xt10)]) w := by kernel_rfl
theorem j1_snd : ∀ c, subC [1, 1, 1, 1, 1, 1, 1, 1, 1, 1, 1, 1, 1, 1, 1] body = some c → Snd Try.prog 231 c j1T := by
  refine cut_of (hT := hT) (D := D) (l := j1tb) (b := j1b) (lo := j1LO) (by kernel_rfl) (by
    intro x hx
    simp only [j1tb, List.not_mem_nil] at hx
    ) (by kernel_rfl) (by kernel_rfl) ?_
  intro Q σ w h
  unfold j1T at h
  obtain ⟨at5, h5, h⟩ := gAd_elim h
  obtain ⟨pt7, h7, h⟩ := gPtr_elim h
  obtain ⟨xt8, h8, h⟩ := gInt_elim h
  obtain ⟨xt10, h10, h⟩ := gInt_elim h
  rw [j1_eq (σ := σ)] at h
  have e : (ov σ [(5, .pointer (some at5)), (7, .pointer pt7), (8, .int .i64 xt8), (10, .int .i64 xt10)]) = σ := ov_self (by simp [h5, h7, h8, h10])
  rw [e] at h
  exact h
def j0LO : LO := ⟨[], [6], [], []⟩
def j0T : Spec := fun Q σ w => gAd (σ 5) fun at5 => gPtr (σ 7) fun pt7 => gInt .i64 (σ 8) fun xt8 => gInt .i64 (σ 9) fun xt9 => gInt .i64 (σ 10) fun xt10 => gInt .i64 (σ 11) fun xt11 => gInt .i64 (σ 13) fun xt13 => gInt .i64 (σ 15) fun xt15 => gInt .i64 (σ 16) fun xt16 => gInt .i64 (σ 18) fun xt18 => j0 at5 pt7 xt8 xt9 xt10 xt11 xt13 xt15 xt16 xt18 w (fun bq6 w => ∀ d : Fr, Q .ret (ov d [(6, .bool bq6)]) w)
def j0tb : List (List Nat × Spec) := [([1, 1, 1, 1, 1, 1, 1, 1, 1, 1, 1, 1, 1, 1, 1], j1T)]
noncomputable def j0b : Code := (subC [1, 1, 1, 1, 1, 1, 1, 1] body).getD .skip
theorem j0_eq (at5 : Addr) (pt7 : Option Addr) (xt8 xt9 xt10 xt11 xt13 xt15 xt16 xt18 : Int) (Q : PQ) (σ : Fr) (w : World) : j0 at5 pt7 xt8 xt9 xt10 xt11 xt13 xt15 xt16 xt18 w (fun bq6 w => ∀ d : Fr, Q .ret (ov d [(6, .bool bq6)]) w) = codeW Try.prog hT 231 D (tab j0tb) [1, 1, 1, 1, 1, 1, 1, 1] j0b (widen j0LO Q) (ov σ [(5, .pointer (some at5)), (7, .pointer pt7), (8, .int .i64 xt8), (9, .int .i64 xt9), (10, .int .i64 xt10), (11, .int .i64 xt11), (13, .int .i64 xt13), (15, .int .i64 xt15), (16, .int .i64 xt16), (18, .int .i64 xt18)]) w := by kernel_rfl
theorem j0_snd : ∀ c, subC [1, 1, 1, 1, 1, 1, 1, 1] body = some c → Snd Try.prog 231 c j0T := by
  refine cut_of (hT := hT) (D := D) (l := j0tb) (b := j0b) (lo := j0LO) (by kernel_rfl) (by
    intro x hx
    simp only [j0tb, List.mem_cons, List.not_mem_nil, or_false] at hx
    subst hx
    exact j1_snd) (by kernel_rfl) (by kernel_rfl) ?_
  intro Q σ w h
  unfold j0T at h
  obtain ⟨at5, h5, h⟩ := gAd_elim h
  obtain ⟨pt7, h7, h⟩ := gPtr_elim h
  obtain ⟨xt8, h8, h⟩ := gInt_elim h
  obtain ⟨xt9, h9, h⟩ := gInt_elim h
  obtain ⟨xt10, h10, h⟩ := gInt_elim h
  obtain ⟨xt11, h11, h⟩ := gInt_elim h
  obtain ⟨xt13, h13, h⟩ := gInt_elim h
  obtain ⟨xt15, h15, h⟩ := gInt_elim h
  obtain ⟨xt16, h16, h⟩ := gInt_elim h
  obtain ⟨xt18, h18, h⟩ := gInt_elim h
  rw [j0_eq (σ := σ)] at h
  have e : (ov σ [(5, .pointer (some at5)), (7, .pointer pt7), (8, .int .i64 xt8), (9, .int .i64 xt9), (10, .int .i64 xt10), (11, .int .i64 xt11), (13, .int .i64 xt13), (15, .int .i64 xt15), (16, .int .i64 xt16), (18, .int .i64 xt18)]) = σ := ov_self (by simp [h5, h7, h8, h9, h10, h11, h13, h15, h16, h18])
  rw [e] at h
  exact h
def tb : List (List Nat × Spec) := [([1, 1, 1, 1, 1, 1, 1, 1, 1, 1, 1, 1, 1, 1, 1], j1T), ([1, 1, 1, 1, 1, 1, 1, 1], j0T)]
variable (Aa0 : Option Addr) (na0 ca0 : Nat) (Aa1 : Option Addr) (na1 ca1 : Nat) (xa2_0 xa2_1 xa2_2 xa2_3 : Int) (w : World) (Q : Ending → World → Prop)
theorem wp_eq : wp Aa0 na0 ca0 Aa1 na1 ca1 xa2_0 xa2_1 xa2_2 xa2_3 w Q = codeW Try.prog hT 231 D (tab tb) [] body (topQ Try.prog hT 231 [.tmp 6] Q) (argsF [.slice Aa0 na0 ca0, .slice Aa1 na1 ca1, .agg #[.int .i64 xa2_0, .int .i64 xa2_1, .int .i64 xa2_2, .int .i64 xa2_3]]) w := by kernel_rfl
theorem ok (h : wp Aa0 na0 ca0 Aa1 na1 ca1 xa2_0 xa2_1 xa2_2 xa2_3 w Q) : Calls Try.prog 4 #[.slice Aa0 na0 ca0, .slice Aa1 na1 ca1, .agg #[.int .i64 xa2_0, .int .i64 xa2_1, .int .i64 xa2_2, .int .i64 xa2_3]] w Q := by
  rw [wp_eq] at h
  refine calls_of_codeW (c := body) (rs := [.tmp 6]) Try.func4 ?_ ?_ ?_ ?_ ?_ (tab_snd (by
    intro x hx
    simp only [tb, List.mem_cons, List.not_mem_nil, or_false] at hx
    rcases hx with rfl | rfl
    · exact j1_snd
    · exact j0_snd)) ?_ h <;> kernel_rfl
end f_law20_SpanLinks
end Go.Proofs.Ytklnlnjgaadjbaa.Rd
