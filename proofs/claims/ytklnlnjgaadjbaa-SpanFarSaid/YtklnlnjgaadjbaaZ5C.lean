/- The printed readings of some functions: each function's code reckoned by the kernel to its predicate transformer -/
import Derived.Test.YtklnlnjgaadjbaaZ5A
set_option linter.unusedSimpArgs false
set_option linter.unusedVariables false
namespace Go.Proofs.Ytklnlnjgaadjbaa.Rd
open Go.Dn
set_option maxRecDepth 100000
namespace f_law20_SpanFar
noncomputable def body : Code := (Try.f5.body).getD .skip
def l1 : Nat → Option Addr → Int → Int → Option Addr → Nat → Nat → Int → Int → World → (World → Prop) → (Bool → World → Prop) → Prop | 0, _, _, _, _, _, _, _, _, _, _, _ => False | k + 1, pt7, xt8, xt17, At117, nt117, ct117, xt118, xt119, w, K2, Kr => sel (decide (xt119 < xt118)) (optB At117 fun a36 => req (decide (0 ≤ xt119 ∧ xt119 < (nt117 : Int))) <| ldI w (a36.add (xt119.toNat * 5)) .i64 fun x37 => ldI w ((a36.add (xt119.toNat * 5)).add 1) .i64 fun x38 => ldI w ((a36.add (xt119.toNat * 5)).add 2) .i64 fun x39 => ldI w ((a36.add (xt119.toNat * 5)).add 3) .i64 fun x40 => ldI w ((a36.add (xt119.toNat * 5)).add 4) .i64 fun x41 => alW w (.cells #[.int .i64 0, .int .i64 0, .int .i64 0, .int .i64 0, .int .i64 0] 35) fun B42 w43 => stW w43 ⟨B42, 0, none⟩ (.int .i64 x37) fun w44 => stW w44 (.add ⟨B42, 0, none⟩ 1) (.int .i64 x38) fun w45 => stW w45 (.add ⟨B42, 0, none⟩ 2) (.int .i64 x39) fun w46 => stW w46 (.add ⟨B42, 0, none⟩ 3) (.int .i64 x40) fun w47 => stW w47 (.add ⟨B42, 0, none⟩ 4) (.int .i64 x41) fun w48 => ldI w48 (((⟨B42, 0, none⟩ : Addr).add 1).add 2) .i64 fun x49 => Calls Try.prog 15 #[.pointer pt7, .int .i64 xt17, .int .i64 x49] w48 fun e50 w51 => ∃ x52_0 x52_1, e50 = .returned (.tuple #[.int .i64 x52_0, .int .i64 x52_1]) ∧ (sel (decide (xt119 < 60)) (sel (x52_1 == 0) (sel (decide (x52_0 > xt8)) (Kr false w51) (l1 k pt7 xt8 xt17 At117 nt117 ct117 xt118 (IntKind.i64.wrap (xt119 + 1)) w51 K2 Kr)) (l1 k pt7 xt8 xt17 At117 nt117 ct117 xt118 (IntKind.i64.wrap (xt119 + 1)) w51 K2 Kr)) (l1 k pt7 xt8 xt17 At117 nt117 ct117 xt118 (IntKind.i64.wrap (xt119 + 1)) w51 K2 Kr))) (K2 w)
def l0 : Nat → Option Addr → Nat → Nat → Int → Option Addr → Int → Option Addr → Nat → Nat → Int → Int → World → (World → Prop) → (Bool → World → Prop) → Prop | 0, _, _, _, _, _, _, _, _, _, _, _, _, _, _ => False | k + 1, At1, nt1, ct1, xt2, pt7, xt8, At83, nt83, ct83, xt84, xt85, w, K0, Kr => sel (decide (xt85 < xt84)) (optB At83 fun a16 => req (decide (0 ≤ xt85 ∧ xt85 < (nt83 : Int))) <| ldI w (a16.add (xt85.toNat * 5)) .i64 fun x17 => ldI w ((a16.add (xt85.toNat * 5)).add 1) .i64 fun x18 => ldI w ((a16.add (xt85.toNat * 5)).add 2) .i64 fun x19 => ldI w ((a16.add (xt85.toNat * 5)).add 3) .i64 fun x20 => ldI w ((a16.add (xt85.toNat * 5)).add 4) .i64 fun x21 => alW w (.cells #[.int .i64 0, .int .i64 0, .int .i64 0, .int .i64 0, .int .i64 0] 35) fun B22 w23 => stW w23 ⟨B22, 0, none⟩ (.int .i64 x17) fun w24 => stW w24 (.add ⟨B22, 0, none⟩ 1) (.int .i64 x18) fun w25 => stW w25 (.add ⟨B22, 0, none⟩ 2) (.int .i64 x19) fun w26 => stW w26 (.add ⟨B22, 0, none⟩ 3) (.int .i64 x20) fun w27 => stW w27 (.add ⟨B22, 0, none⟩ 4) (.int .i64 x21) fun w28 => ldI w28 (((⟨B22, 0, none⟩ : Addr).add 1).add 1) .i64 fun x29 => sel (decide (xt85 > 60)) (K0 w28) (Calls Try.prog 15 #[.pointer pt7, .int .i64 xt2, .int .i64 x29] w28 fun e30 w31 => ∃ x32_0 x32_1, e30 = .returned (.tuple #[.int .i64 x32_0, .int .i64 x32_1]) ∧ (sel (x32_1 != 0) (l0 k At1 nt1 ct1 xt2 pt7 xt8 At83 nt83 ct83 xt84 (IntKind.i64.wrap (xt85 + 1)) w31 K0 Kr) (Calls Try.prog 13 #[.pointer pt7, .int .i64 x29] w31 fun e33 w34 => ∃ x35_0 x35_1, e33 = .returned (.tuple #[.int .i64 x35_0, .int .i64 x35_1]) ∧ (sel (x35_0 != xt8) (Kr false w34) (sel (x35_1 != 0) (Kr false w34) (∃ k56, l1 k56 pt7 xt8 x29 At1 nt1 ct1 (nt1 : Int) 0 w34 (fun w53 => ∀ _ : Fr, l0 k At1 nt1 ct1 xt2 pt7 xt8 At83 nt83 ct83 xt84 (IntKind.i64.wrap (xt85 + 1)) w53 K0 Kr) (fun b54 w55 => ∀ _ : Fr, Kr b54 w55)))))))) (K0 w)
def wp (Aa0 : Option Addr) (na0 ca0 : Nat) (Aa1 : Option Addr) (na1 ca1 : Nat) (xa2 : Int) (w : World) (Q : Ending → World → Prop) : Prop := Calls Try.prog 12 #[.slice Aa0 na0 ca0, .slice Aa1 na1 ca1] w fun e1 w2 => ∃ p3, e1 = .returned (.pointer p3) ∧ (sel p3.isNone (Q (.returned (.bool false)) w2) (Calls Try.prog 8 #[] w2 fun e4 w5 => ∃ b6, e4 = .returned (.bool b6) ∧ (sel (!b6) (Q (.returned (.bool false)) w5) (Calls Try.prog 13 #[.pointer p3, .int .i64 xa2] w5 fun e7 w8 => ∃ x9_0 x9_1, e7 = .returned (.tuple #[.int .i64 x9_0, .int .i64 x9_1]) ∧ (Calls Try.prog 14 #[.pointer p3, .int .i64 xa2] w8 fun e10 w11 => ∃ x12_0 x12_1 x12_2, e10 = .returned (.tuple #[.int .i64 x12_0, .int .i64 x12_1, .int .i64 x12_2]) ∧ (sel (x9_1 != 0) (sel (x9_1 == 51) (sel (x12_2 == x9_1) (sel (x12_0 == 0) (Q (.returned (.bool (x12_1 == 0))) w11) (Q (.returned (.bool false)) w11)) (Q (.returned (.bool false)) w11)) (Q (.returned (.bool false)) w11)) (Calls Try.prog 15 #[.pointer p3, .int .i64 x12_0, .int .i64 x12_1] w11 fun e13 w14 => ∃ x15_0 x15_1, e13 = .returned (.tuple #[.int .i64 x15_0, .int .i64 x15_1]) ∧ (sel (x12_2 != 0) (Q (.returned (.bool false)) w14) (sel (x15_1 != 0) (Q (.returned (.bool false)) w14) (sel (x15_0 != x9_0) (Q (.returned (.bool false)) w14) (∃ k60, l0 k60 Aa1 na1 ca1 xa2 p3 x9_0 Aa1 na1 ca1 (na1 : Int) 0 w14 (fun w57 => ∀ _ : Fr, Q (.returned (.bool true)) w57) (fun b58 w59 => ∀ _ : Fr, Q (.returned (.bool b58)) w59))))))))))))
def D : Nat → Option DH := dtab []
def l1LO : LO := ⟨[], [6], [(2, [1, 2, 7, 8, 83, 84, 85])], []⟩
def l1Tk (k : Nat) : Spec := fun Q σ w => gPtr (σ 7) fun pt7 => gInt .i64 (σ 8) fun xt8 => gInt .i64 (σ 17) fun xt17 => gSlice (σ 117) fun At117 nt117 ct117 => gInt .i64 (σ 118) fun xt118 => gInt .i64 (σ 119) fun xt119 => l1 k pt7 xt8 xt17 At117 nt117 ct117 xt118 xt119 w (fun w => ∀ d : Fr, Q (.exit 2) (ov d [(1, σ 1), (2, σ 2), (7, .pointer pt7), (8, .int .i64 xt8), (83, σ 83), (84, σ 84), (85, σ 85)]) w) (fun bq6 w => ∀ d : Fr, Q .ret (ov d [(6, .bool bq6)]) w)
def l1T : Spec := fun Q σ w => ∃ k, l1Tk k Q σ w
def l1tb : List (List Nat × Spec) := []
noncomputable def l1b : Code := (subC [0, 0, 1, 1, 1, 1, 1, 1, 1, 1, 0, 0, 1, 1, 0, 0, 1, 0, 1, 1, 1, 1, 1, 1, 1, 1] body).getD .skip
theorem l1_eq (k : Nat) (pt7 : Option Addr) (xt8 xt17 : Int) (At117 : Option Addr) (nt117 ct117 : Nat) (xt118 xt119 : Int) (Q : PQ) (σ : Fr) (w : World) : l1 (k + 1) pt7 xt8 xt17 At117 nt117 ct117 xt118 xt119 w (fun w => ∀ d : Fr, Q (.exit 2) (ov d [(1, σ 1), (2, σ 2), (7, .pointer pt7), (8, .int .i64 xt8), (83, σ 83), (84, σ 84), (85, σ 85)]) w) (fun bq6 w => ∀ d : Fr, Q .ret (ov d [(6, .bool bq6)]) w) = codeW Try.prog hT 146 D (tab l1tb) [0, 0, 1, 1, 1, 1, 1, 1, 1, 1, 0, 0, 1, 1, 0, 0, 1, 0, 1, 1, 1, 1, 1, 1, 1, 1] l1b (thenQ (l1Tk k Q) (widen l1LO Q)) (ov σ [(7, .pointer pt7), (8, .int .i64 xt8), (17, .int .i64 xt17), (117, .slice At117 nt117 ct117), (118, .int .i64 xt118), (119, .int .i64 xt119)]) w := by kernel_rfl
theorem l1_snd : ∀ c, subC [0, 1, 1, 1, 1, 1, 1, 1, 1, 0, 0, 1, 1, 0, 0, 1, 0, 1, 1, 1, 1, 1, 1, 1, 1] body = some c → Snd Try.prog 146 c l1T := by
  refine loop_of (hT := hT) (D := D) (l := l1tb) (b := l1b) (lo := l1LO) (by kernel_rfl) (by
    intro x hx
    simp only [l1tb, List.not_mem_nil] at hx
    ) (by kernel_rfl) (by kernel_rfl) ?_ ?_
  · intro Q σ w h
    unfold l1Tk at h
    obtain ⟨_, _, h⟩ := gPtr_elim h
    obtain ⟨_, _, h⟩ := gInt_elim h
    obtain ⟨_, _, h⟩ := gInt_elim h
    obtain ⟨_, _, _, _, h⟩ := gSlice_elim h
    obtain ⟨_, _, h⟩ := gInt_elim h
    obtain ⟨_, _, h⟩ := gInt_elim h
    exact h
  · intro k Q σ w h
    unfold l1Tk at h
    obtain ⟨pt7, h7, h⟩ := gPtr_elim h
    obtain ⟨xt8, h8, h⟩ := gInt_elim h
    obtain ⟨xt17, h17, h⟩ := gInt_elim h
    obtain ⟨At117, nt117, ct117, h117, h⟩ := gSlice_elim h
    obtain ⟨xt118, h118, h⟩ := gInt_elim h
    obtain ⟨xt119, h119, h⟩ := gInt_elim h
    rw [l1_eq (σ := σ)] at h
    have e : (ov σ [(7, .pointer pt7), (8, .int .i64 xt8), (17, .int .i64 xt17), (117, .slice At117 nt117 ct117), (118, .int .i64 xt118), (119, .int .i64 xt119)]) = σ := ov_self (by simp [h7, h8, h17, h117, h118, h119])
    rw [e] at h
    exact h
def l0LO : LO := ⟨[], [6], [(0, [])], []⟩
def l0Tk (k : Nat) : Spec := fun Q σ w => gSlice (σ 1) fun At1 nt1 ct1 => gInt .i64 (σ 2) fun xt2 => gPtr (σ 7) fun pt7 => gInt .i64 (σ 8) fun xt8 => gSlice (σ 83) fun At83 nt83 ct83 => gInt .i64 (σ 84) fun xt84 => gInt .i64 (σ 85) fun xt85 => l0 k At1 nt1 ct1 xt2 pt7 xt8 At83 nt83 ct83 xt84 xt85 w (fun w => ∀ d : Fr, Q (.exit 0) (ov d []) w) (fun bq6 w => ∀ d : Fr, Q .ret (ov d [(6, .bool bq6)]) w)
def l0T : Spec := fun Q σ w => ∃ k, l0Tk k Q σ w
def l0tb : List (List Nat × Spec) := [([0, 1, 1, 1, 1, 1, 1, 1, 1, 0, 0, 1, 1, 0, 0, 1, 0, 1, 1, 1, 1, 1, 1, 1, 1], l1T)]
noncomputable def l0b : Code := (subC [0, 0, 1, 0, 1, 1, 1, 1, 1, 1, 1, 1] body).getD .skip
theorem l0_eq (k : Nat) (At1 : Option Addr) (nt1 ct1 : Nat) (xt2 : Int) (pt7 : Option Addr) (xt8 : Int) (At83 : Option Addr) (nt83 ct83 : Nat) (xt84 xt85 : Int) (Q : PQ) (σ : Fr) (w : World) : l0 (k + 1) At1 nt1 ct1 xt2 pt7 xt8 At83 nt83 ct83 xt84 xt85 w (fun w => ∀ d : Fr, Q (.exit 0) (ov d []) w) (fun bq6 w => ∀ d : Fr, Q .ret (ov d [(6, .bool bq6)]) w) = codeW Try.prog hT 146 D (tab l0tb) [0, 0, 1, 0, 1, 1, 1, 1, 1, 1, 1, 1] l0b (thenQ (l0Tk k Q) (widen l0LO Q)) (ov σ [(1, .slice At1 nt1 ct1), (2, .int .i64 xt2), (7, .pointer pt7), (8, .int .i64 xt8), (83, .slice At83 nt83 ct83), (84, .int .i64 xt84), (85, .int .i64 xt85)]) w := by kernel_rfl
theorem l0_snd : ∀ c, subC [0, 1, 0, 1, 1, 1, 1, 1, 1, 1, 1] body = some c → Snd Try.prog 146 c l0T := by
  refine loop_of (hT := hT) (D := D) (l := l0tb) (b := l0b) (lo := l0LO) (by kernel_rfl) (by
    intro x hx
    simp only [l0tb, List.mem_cons, List.not_mem_nil, or_false] at hx
    subst hx
    exact l1_snd) (by kernel_rfl) (by kernel_rfl) ?_ ?_
  · intro Q σ w h
    unfold l0Tk at h
    obtain ⟨_, _, _, _, h⟩ := gSlice_elim h
    obtain ⟨_, _, h⟩ := gInt_elim h
    obtain ⟨_, _, h⟩ := gPtr_elim h
    obtain ⟨_, _, h⟩ := gInt_elim h
    obtain ⟨_, _, _, _, h⟩ := gSlice_elim h
    obtain ⟨_, _, h⟩ := gInt_elim h
    obtain ⟨_, _, h⟩ := gInt_elim h
    exact h
  · intro k Q σ w h
    unfold l0Tk at h
    obtain ⟨At1, nt1, ct1, h1, h⟩ := gSlice_elim h
    obtain ⟨xt2, h2, h⟩ := gInt_elim h
    obtain ⟨pt7, h7, h⟩ := gPtr_elim h
    obtain ⟨xt8, h8, h⟩ := gInt_elim h
    obtain ⟨At83, nt83, ct83, h83, h⟩ := gSlice_elim h
    obtain ⟨xt84, h84, h⟩ := gInt_elim h
    obtain ⟨xt85, h85, h⟩ := gInt_elim h
    rw [l0_eq (σ := σ)] at h
    have e : (ov σ [(1, .slice At1 nt1 ct1), (2, .int .i64 xt2), (7, .pointer pt7), (8, .int .i64 xt8), (83, .slice At83 nt83 ct83), (84, .int .i64 xt84), (85, .int .i64 xt85)]) = σ := ov_self (by simp [h1, h2, h7, h8, h83, h84, h85])
    rw [e] at h
    exact h
def tb : List (List Nat × Spec) := [([0, 1, 1, 1, 1, 1, 1, 1, 1, 0, 0, 1, 1, 0, 0, 1, 0, 1, 1, 1, 1, 1, 1, 1, 1], l1T), ([0, 1, 0, 1, 1, 1, 1, 1, 1, 1, 1], l0T)]
variable (Aa0 : Option Addr) (na0 ca0 : Nat) (Aa1 : Option Addr) (na1 ca1 : Nat) (xa2 : Int) (w : World) (Q : Ending → World → Prop)
theorem wp_eq : wp Aa0 na0 ca0 Aa1 na1 ca1 xa2 w Q = codeW Try.prog hT 146 D (tab tb) [] body (topQ Try.prog hT 146 [.tmp 6] Q) (argsF [.slice Aa0 na0 ca0, .slice Aa1 na1 ca1, .int .i64 xa2]) w := by kernel_rfl
theorem ok (h : wp Aa0 na0 ca0 Aa1 na1 ca1 xa2 w Q) : Calls Try.prog 5 #[.slice Aa0 na0 ca0, .slice Aa1 na1 ca1, .int .i64 xa2] w Q := by
  rw [wp_eq] at h
  refine calls_of_codeW (c := body) (rs := [.tmp 6]) Try.func5 ?_ ?_ ?_ ?_ ?_ (tab_snd (by
    intro x hx
    simp only [tb, List.mem_cons, List.not_mem_nil, or_false] at hx
    rcases hx with rfl | rfl
    · exact l1_snd
    · exact l0_snd)) ?_ h <;> kernel_rfl
end f_law20_SpanFar
end Go.Proofs.Ytklnlnjgaadjbaa.Rd
