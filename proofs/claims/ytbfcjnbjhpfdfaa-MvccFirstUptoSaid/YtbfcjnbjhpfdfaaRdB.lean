/- The printed readings of some functions: each function's code reckoned by the kernel to its predicate transformer. -/
import Derived.Test.YtbfcjnbjhpfdfaaHint
namespace Go.Proofs.Ytbfcjnbjhpfdfaa.Rd
open Go.Dn
set_option maxRecDepth 100000
set_option linter.unusedVariables false
namespace f_ref14_New
/-! skein/skeinref14.New: function 10 -/
noncomputable def body : Code := (Try.f10.body).getD .skip
def wp (xa0 : Int) (w : World) (Q : Ending → World → Prop) : Prop :=
  alW w (.cells #[.slice none 0 0, .int .i64 (0 : Int)] 28) fun B1 w2 =>
  sel (decide (xa0 < (0 : Int))) (
  sel (decide ((0 : Int) > (1099511627776 : Int))) (
  stW w2 (⟨B1, 0, Option.none⟩ : Addr) (.slice none 0 0) fun w3 =>
  stW w3 ((⟨B1, 0, Option.none⟩ : Addr).add 1) (.int .i64 (1099511627776 : Int)) fun w4 =>
  ldS w4 (⟨B1, 0, Option.none⟩ : Addr) fun A5 n5 c5 =>
  ldI w4 ((⟨B1, 0, Option.none⟩ : Addr).add 1) .i64 fun x6 =>
  Q (.returned (.agg #[.slice A5 n5 c5, .int .i64 x6])) w4) (
  stW w2 (⟨B1, 0, Option.none⟩ : Addr) (.slice none 0 0) fun w7 =>
  stW w7 ((⟨B1, 0, Option.none⟩ : Addr).add 1) (.int .i64 (0 : Int)) fun w8 =>
  ldS w8 (⟨B1, 0, Option.none⟩ : Addr) fun A9 n9 c9 =>
  ldI w8 ((⟨B1, 0, Option.none⟩ : Addr).add 1) .i64 fun x10 =>
  Q (.returned (.agg #[.slice A9 n9 c9, .int .i64 x10])) w8)) (
  sel (decide (xa0 > (1099511627776 : Int))) (
  stW w2 (⟨B1, 0, Option.none⟩ : Addr) (.slice none 0 0) fun w11 =>
  stW w11 ((⟨B1, 0, Option.none⟩ : Addr).add 1) (.int .i64 (1099511627776 : Int)) fun w12 =>
  ldS w12 (⟨B1, 0, Option.none⟩ : Addr) fun A13 n13 c13 =>
  ldI w12 ((⟨B1, 0, Option.none⟩ : Addr).add 1) .i64 fun x14 =>
  Q (.returned (.agg #[.slice A13 n13 c13, .int .i64 x14])) w12) (
  stW w2 (⟨B1, 0, Option.none⟩ : Addr) (.slice none 0 0) fun w15 =>
  stW w15 ((⟨B1, 0, Option.none⟩ : Addr).add 1) (.int .i64 xa0) fun w16 =>
  ldS w16 (⟨B1, 0, Option.none⟩ : Addr) fun A17 n17 c17 =>
  ldI w16 ((⟨B1, 0, Option.none⟩ : Addr).add 1) .i64 fun x18 =>
  Q (.returned (.agg #[.slice A17 n17 c17, .int .i64 x18])) w16))
def D : Nat → Option DH := dtab []
def tb : List (List Nat × Spec) := []
theorem wp_eq (xa0 : Int) (w : World) (Q : Ending → World → Prop) :
    wp xa0 w Q = codeW Try.prog hT 9 D (tab tb) [] body (topQ Try.prog hT 9 [.cell 2 28] Q) (argsF [.int .i64 xa0]) w := by kernel_rfl
theorem ok (xa0 : Int) (w : World) (Q : Ending → World → Prop) (h : wp xa0 w Q) : Calls Try.prog 10 #[.int .i64 xa0] w Q := by
  rw [wp_eq] at h
  exact calls_of_codeW (c := body) (rs := [.cell 2 28]) Try.func10 (by kernel_rfl) (by kernel_rfl) (by kernel_rfl) (by kernel_rfl) (by kernel_rfl) (tab_snd (by
    intro x hx
    simp only [tb, List.not_mem_nil] at hx
    )) (by kernel_rfl) h
end f_ref14_New
namespace f_ref14_Horizon
/-! skein/skeinref14.Horizon: function 15 -/
noncomputable def body : Code := (Try.f15.body).getD .skip
def l0 : Nat → Addr → Int → Int → World → (Int → World → Prop) → Prop
  | 0, _, _, _, _, _ => False
  | k + 1, at1, xt3, xt4, w, K0 =>
    ldS w at1 fun A4 n4 c4 =>
    sel (decide (xt4 < (n4 : Int))) (
    ldS w at1 fun A5 n5 c5 =>
    optB A5 fun a6 =>
    req (decide (0 ≤ xt4 ∧ xt4 < (n5 : Int))) <|
    ldB w ((a6.add (xt4.toNat * 4)).add 2) fun b7 =>
    sel b7 (
    ldS w at1 fun A8 n8 c8 =>
    optB A8 fun a9 =>
    req (decide (0 ≤ xt4 ∧ xt4 < (n8 : Int))) <|
    ldI w (a9.add (xt4.toNat * 4)) .i64 fun x10 =>
    sel (decide (x10 < xt3)) (
    ldS w at1 fun A11 n11 c11 =>
    optB A11 fun a12 =>
    req (decide (0 ≤ xt4 ∧ xt4 < (n11 : Int))) <|
    ldI w (a12.add (xt4.toNat * 4)) .i64 fun x13 =>
    l0 k at1 x13 (IntKind.i64.wrap (xt4 + (1 : Int))) w K0) (
    l0 k at1 xt3 (IntKind.i64.wrap (xt4 + (1 : Int))) w K0)) (
    l0 k at1 xt3 (IntKind.i64.wrap (xt4 + (1 : Int))) w K0)) (
    K0 xt3 w)
def wp (Aa0_0 : Option Addr) (na0_0 : Nat) (ca0_0 : Nat) (xa0_1 : Int) (w : World) (Q : Ending → World → Prop) : Prop :=
  alW w (.cells #[.slice Aa0_0 na0_0 ca0_0, .int .i64 xa0_1] 28) fun B1 w2 =>
  ldI w2 ((⟨B1, 0, Option.none⟩ : Addr).add 1) .i64 fun x3 =>
  ∃ k16 : Nat, l0 k16 (⟨B1, 0, Option.none⟩ : Addr) x3 (0 : Int) w2 (fun (x14 : Int) (w15 : World) => ∀ _ : Fr,
  Q (.returned (.int .i64 x14)) w15)
def D : Nat → Option DH := dtab []
def l0LO : LO := ⟨[], [], [(0, [3])], []⟩
def l0Tk (k : Nat) : Spec := fun Q σ w =>
  gAd (σ 1) fun at1 =>
  gInt .i64 (σ 3) fun xt3 =>
  gInt .i64 (σ 4) fun xt4 =>
  l0 k at1 xt3 xt4 w (fun (xq3 : Int) (w : World) => ∀ d : Fr, Q (.exit 0) (ov d [(3, .int .i64 xq3)]) w)
def l0T : Spec := fun Q σ w => ∃ k, l0Tk k Q σ w
def l0tb : List (List Nat × Spec) := []
noncomputable def l0b : Code := (subC [0, 0, 1, 0, 1, 1] body).getD .skip
theorem l0_eq (k : Nat) (at1 : Addr) (xt3 : Int) (xt4 : Int) (Q : PQ) (σ : Fr) (w : World) :
    l0 (k + 1) at1 xt3 xt4 w (fun (xq3 : Int) (w : World) => ∀ d : Fr, Q (.exit 0) (ov d [(3, .int .i64 xq3)]) w) = codeW Try.prog hT 37 D (tab l0tb) [0, 0, 1, 0, 1, 1] l0b (thenQ (l0Tk k Q) (widen l0LO Q)) (ov σ [(1, .pointer (some at1)), (3, .int .i64 xt3), (4, .int .i64 xt4)]) w := by kernel_rfl
theorem l0_snd : ∀ c, subC [0, 1, 0, 1, 1] body = some c → Snd Try.prog 37 c l0T := by
  refine loop_of (hT := hT) (D := D) (l := l0tb) (b := l0b) (lo := l0LO) (by kernel_rfl) (by
    intro x hx
    simp only [l0tb, List.not_mem_nil] at hx
    ) (by kernel_rfl) (by kernel_rfl) ?_ ?_
  · intro Q σ w h
    unfold l0Tk at h
    obtain ⟨at1, h1, hn⟩ := gAd_elim h
    clear h
    have h := hn
    clear hn
    obtain ⟨xt3, h3, hn⟩ := gInt_elim h
    clear h
    have h := hn
    clear hn
    obtain ⟨xt4, h4, hn⟩ := gInt_elim h
    clear h
    have h := hn
    clear hn
    exact h
  · intro k Q σ w h
    unfold l0Tk at h
    obtain ⟨at1, h1, hn⟩ := gAd_elim h
    clear h
    have h := hn
    clear hn
    obtain ⟨xt3, h3, hn⟩ := gInt_elim h
    clear h
    have h := hn
    clear hn
    obtain ⟨xt4, h4, hn⟩ := gInt_elim h
    clear h
    have h := hn
    clear hn
    rw [l0_eq (σ := σ)] at h
    have e : (ov σ [(1, .pointer (some at1)), (3, .int .i64 xt3), (4, .int .i64 xt4)]) = σ := ov_self (by simp [h1, h3, h4])
    rw [e] at h
    exact h
def tb : List (List Nat × Spec) := [([0, 1, 0, 1, 1], l0T)]
theorem wp_eq (Aa0_0 : Option Addr) (na0_0 : Nat) (ca0_0 : Nat) (xa0_1 : Int) (w : World) (Q : Ending → World → Prop) :
    wp Aa0_0 na0_0 ca0_0 xa0_1 w Q = codeW Try.prog hT 37 D (tab tb) [] body (topQ Try.prog hT 37 [.tmp 2] Q) (argsF [.agg #[.slice Aa0_0 na0_0 ca0_0, .int .i64 xa0_1]]) w := by kernel_rfl
theorem ok (Aa0_0 : Option Addr) (na0_0 : Nat) (ca0_0 : Nat) (xa0_1 : Int) (w : World) (Q : Ending → World → Prop) (h : wp Aa0_0 na0_0 ca0_0 xa0_1 w Q) : Calls Try.prog 15 #[.agg #[.slice Aa0_0 na0_0 ca0_0, .int .i64 xa0_1]] w Q := by
  rw [wp_eq] at h
  exact calls_of_codeW (c := body) (rs := [.tmp 2]) Try.func15 (by kernel_rfl) (by kernel_rfl) (by kernel_rfl) (by kernel_rfl) (by kernel_rfl) (tab_snd (by
    intro x hx
    simp only [tb, List.mem_cons, List.not_mem_nil, or_false] at hx
    subst hx
    exact l0_snd)) (by kernel_rfl) h
end f_ref14_Horizon
namespace f_ref01_SameInts
/-! skein/skeinref01.SameInts: function 16 -/
noncomputable def body : Code := (Try.f16.body).getD .skip
def l0 : Nat → Option Addr → Nat → Nat → Option Addr → Nat → Nat → Int → World → (World → Prop) → (Bool → World → Prop) → Prop
  | 0, _, _, _, _, _, _, _, _, _, _ => False
  | k + 1, At0, nt0, ct0, At1, nt1, ct1, xt5, w, K0, Kr =>
    sel (decide (xt5 < (nt0 : Int))) (
    drW w fun w1 =>
    optB At0 fun a3 =>
    req (decide (0 ≤ xt5 ∧ xt5 < (nt0 : Int))) <|
    ldI w1 (a3.add (xt5.toNat * 1)) .i64 fun x4 =>
    optB At1 fun a5 =>
    req (decide (0 ≤ xt5 ∧ xt5 < (nt1 : Int))) <|
    ldI w1 (a5.add (xt5.toNat * 1)) .i64 fun x6 =>
    sel (x4 != x6) (
    Kr false w1) (
    l0 k At0 nt0 ct0 At1 nt1 ct1 (IntKind.i64.wrap (xt5 + (1 : Int))) w1 K0 Kr)) (
    K0  w)
def wp (Aa0 : Option Addr) (na0 : Nat) (ca0 : Nat) (Aa1 : Option Addr) (na1 : Nat) (ca1 : Nat) (w : World) (Q : Ending → World → Prop) : Prop :=
  sel ((na0 : Int) != (na1 : Int)) (
  Q (.returned (.bool false)) w) (
  ∃ k10 : Nat, l0 k10 Aa0 na0 ca0 Aa1 na1 ca1 (0 : Int) w (fun (w7 : World) => ∀ _ : Fr,
  Q (.returned (.bool true)) w7) (fun (b8 : Bool) (w9 : World) => ∀ _ : Fr,
  Q (.returned (.bool b8)) w9))
def D : Nat → Option DH := dtab [(6, .simple [.fst 0, .fst 1, .fst 2, .fst 3, .fst 4, .fst 5, .fst 6, .fst 7] [.fst 8])]
def l0LO : LO := ⟨[], [4], [(0, [])], []⟩
def l0Tk (k : Nat) : Spec := fun Q σ w =>
  gSlice (σ 0) fun At0 nt0 ct0 =>
  gSlice (σ 1) fun At1 nt1 ct1 =>
  gInt .i64 (σ 5) fun xt5 =>
  l0 k At0 nt0 ct0 At1 nt1 ct1 xt5 w (fun (w : World) => ∀ d : Fr, Q (.exit 0) (ov d []) w) (fun (bq4 : Bool) (w : World) => ∀ d : Fr, Q .ret (ov d [(4, .bool bq4)]) w)
def l0T : Spec := fun Q σ w => ∃ k, l0Tk k Q σ w
def l0tb : List (List Nat × Spec) := []
noncomputable def l0b : Code := (subC [0, 0, 1, 0, 1, 1] body).getD .skip
theorem l0_eq (k : Nat) (At0 : Option Addr) (nt0 : Nat) (ct0 : Nat) (At1 : Option Addr) (nt1 : Nat) (ct1 : Nat) (xt5 : Int) (Q : PQ) (σ : Fr) (w : World) :
    l0 (k + 1) At0 nt0 ct0 At1 nt1 ct1 xt5 w (fun (w : World) => ∀ d : Fr, Q (.exit 0) (ov d []) w) (fun (bq4 : Bool) (w : World) => ∀ d : Fr, Q .ret (ov d [(4, .bool bq4)]) w) = codeW Try.prog hT 26 D (tab l0tb) [0, 0, 1, 0, 1, 1] l0b (thenQ (l0Tk k Q) (widen l0LO Q)) (ov σ [(0, .slice At0 nt0 ct0), (1, .slice At1 nt1 ct1), (5, .int .i64 xt5)]) w := by kernel_rfl
theorem l0_snd : ∀ c, subC [0, 1, 0, 1, 1] body = some c → Snd Try.prog 26 c l0T := by
  refine loop_of (hT := hT) (D := D) (l := l0tb) (b := l0b) (lo := l0LO) (by kernel_rfl) (by
    intro x hx
    simp only [l0tb, List.not_mem_nil] at hx
    ) (by kernel_rfl) (by kernel_rfl) ?_ ?_
  · intro Q σ w h
    unfold l0Tk at h
    obtain ⟨At0, nt0, ct0, h0, hn⟩ := gSlice_elim h
    clear h
    have h := hn
    clear hn
    obtain ⟨At1, nt1, ct1, h1, hn⟩ := gSlice_elim h
    clear h
    have h := hn
    clear hn
    obtain ⟨xt5, h5, hn⟩ := gInt_elim h
    clear h
    have h := hn
    clear hn
    exact h
  · intro k Q σ w h
    unfold l0Tk at h
    obtain ⟨At0, nt0, ct0, h0, hn⟩ := gSlice_elim h
    clear h
    have h := hn
    clear hn
    obtain ⟨At1, nt1, ct1, h1, hn⟩ := gSlice_elim h
    clear h
    have h := hn
    clear hn
    obtain ⟨xt5, h5, hn⟩ := gInt_elim h
    clear h
    have h := hn
    clear hn
    rw [l0_eq (σ := σ)] at h
    have e : (ov σ [(0, .slice At0 nt0 ct0), (1, .slice At1 nt1 ct1), (5, .int .i64 xt5)]) = σ := ov_self (by simp [h0, h1, h5])
    rw [e] at h
    exact h
def tb : List (List Nat × Spec) := [([0, 1, 0, 1, 1], l0T)]
theorem wp_eq (Aa0 : Option Addr) (na0 : Nat) (ca0 : Nat) (Aa1 : Option Addr) (na1 : Nat) (ca1 : Nat) (w : World) (Q : Ending → World → Prop) :
    wp Aa0 na0 ca0 Aa1 na1 ca1 w Q = codeW Try.prog hT 26 D (tab tb) [] body (topQ Try.prog hT 26 [.tmp 4] Q) (argsF [.slice Aa0 na0 ca0, .slice Aa1 na1 ca1]) w := by kernel_rfl
theorem ok (Aa0 : Option Addr) (na0 : Nat) (ca0 : Nat) (Aa1 : Option Addr) (na1 : Nat) (ca1 : Nat) (w : World) (Q : Ending → World → Prop) (h : wp Aa0 na0 ca0 Aa1 na1 ca1 w Q) : Calls Try.prog 16 #[.slice Aa0 na0 ca0, .slice Aa1 na1 ca1] w Q := by
  rw [wp_eq] at h
  exact calls_of_codeW (c := body) (rs := [.tmp 4]) Try.func16 (by kernel_rfl) (by kernel_rfl) (by kernel_rfl) (by kernel_rfl) (by kernel_rfl) (tab_snd (by
    intro x hx
    simp only [tb, List.mem_cons, List.not_mem_nil, or_false] at hx
    subst hx
    exact l0_snd)) (by kernel_rfl) h
end f_ref01_SameInts
namespace f_ref14_Live
/-! skein/skeinref14.Live: function 17 -/
noncomputable def body : Code := (Try.f17.body).getD .skip
def l0 : Nat → Addr → Option Addr → Nat → Nat → Int → World → ((Option Addr) → Nat → Nat → World → Prop) → Prop
  | 0, _, _, _, _, _, _, _ => False
  | k + 1, at1, At3, nt3, ct3, xt4, w, K0 =>
    ldS w at1 fun A5 n5 c5 =>
    sel (decide (xt4 < (n5 : Int))) (
    ldS w at1 fun A6 n6 c6 =>
    optB A6 fun a7 =>
    req (decide (0 ≤ xt4 ∧ xt4 < (n6 : Int))) <|
    ldB w ((a7.add (xt4.toNat * 4)).add 2) fun b8 =>
    sel b8 (
    alW w (.cells #[.int .i64 (IntKind.i64.wrap (xt4 + (1 : Int)))] 3) fun B9 w10 =>
    Runs Try.prog (Builtin.append_ #[35, 35] 35 #[.slice At3 nt3 ct3, .slice (some (⟨B9, 0, Option.none⟩ : Addr)) 1 1]) w10 fun v12 w11 => ∃ (A13 : Option Addr) (n13 : Nat) (c13 : Nat), v12 = (.slice A13 n13 c13) ∧ (
    l0 k at1 A13 n13 c13 (IntKind.i64.wrap (xt4 + (1 : Int))) w11 K0)) (
    l0 k at1 At3 nt3 ct3 (IntKind.i64.wrap (xt4 + (1 : Int))) w K0)) (
    K0 At3 nt3 ct3 w)
def wp (Aa0_0 : Option Addr) (na0_0 : Nat) (ca0_0 : Nat) (xa0_1 : Int) (w : World) (Q : Ending → World → Prop) : Prop :=
  alW w (.cells #[.slice Aa0_0 na0_0 ca0_0, .int .i64 xa0_1] 28) fun B1 w2 =>
  alW w2 (.cells #[] 3) fun B3 w4 =>
  ∃ k16 : Nat, l0 k16 (⟨B1, 0, Option.none⟩ : Addr) (some (⟨B3, 0, Option.none⟩ : Addr)) 0 0 (0 : Int) w4 (fun (A14 : Option Addr) (n14 : Nat) (c14 : Nat) (w15 : World) => ∀ _ : Fr,
  Q (.returned (.slice A14 n14 c14)) w15)
def D : Nat → Option DH := dtab []
def l0LO : LO := ⟨[], [], [(0, [3])], []⟩
def l0Tk (k : Nat) : Spec := fun Q σ w =>
  gAd (σ 1) fun at1 =>
  gSlice (σ 3) fun At3 nt3 ct3 =>
  gInt .i64 (σ 4) fun xt4 =>
  l0 k at1 At3 nt3 ct3 xt4 w (fun (Aq3 : Option Addr) (nq3 : Nat) (cq3 : Nat) (w : World) => ∀ d : Fr, Q (.exit 0) (ov d [(3, .slice Aq3 nq3 cq3)]) w)
def l0T : Spec := fun Q σ w => ∃ k, l0Tk k Q σ w
def l0tb : List (List Nat × Spec) := []
noncomputable def l0b : Code := (subC [0, 0, 1, 0, 1, 1] body).getD .skip
theorem l0_eq (k : Nat) (at1 : Addr) (At3 : Option Addr) (nt3 : Nat) (ct3 : Nat) (xt4 : Int) (Q : PQ) (σ : Fr) (w : World) :
    l0 (k + 1) at1 At3 nt3 ct3 xt4 w (fun (Aq3 : Option Addr) (nq3 : Nat) (cq3 : Nat) (w : World) => ∀ d : Fr, Q (.exit 0) (ov d [(3, .slice Aq3 nq3 cq3)]) w) = codeW Try.prog hT 25 D (tab l0tb) [0, 0, 1, 0, 1, 1] l0b (thenQ (l0Tk k Q) (widen l0LO Q)) (ov σ [(1, .pointer (some at1)), (3, .slice At3 nt3 ct3), (4, .int .i64 xt4)]) w := by kernel_rfl
theorem l0_snd : ∀ c, subC [0, 1, 0, 1, 1] body = some c → Snd Try.prog 25 c l0T := by
  refine loop_of (hT := hT) (D := D) (l := l0tb) (b := l0b) (lo := l0LO) (by kernel_rfl) (by
    intro x hx
    simp only [l0tb, List.not_mem_nil] at hx
    ) (by kernel_rfl) (by kernel_rfl) ?_ ?_
  · intro Q σ w h
    unfold l0Tk at h
    obtain ⟨at1, h1, hn⟩ := gAd_elim h
    clear h
    have h := hn
    clear hn
    obtain ⟨At3, nt3, ct3, h3, hn⟩ := gSlice_elim h
    clear h
    have h := hn
    clear hn
    obtain ⟨xt4, h4, hn⟩ := gInt_elim h
    clear h
    have h := hn
    clear hn
    exact h
  · intro k Q σ w h
    unfold l0Tk at h
    obtain ⟨at1, h1, hn⟩ := gAd_elim h
    clear h
    have h := hn
    clear hn
    obtain ⟨At3, nt3, ct3, h3, hn⟩ := gSlice_elim h
    clear h
    have h := hn
    clear hn
    obtain ⟨xt4, h4, hn⟩ := gInt_elim h
    clear h
    have h := hn
    clear hn
    rw [l0_eq (σ := σ)] at h
    have e : (ov σ [(1, .pointer (some at1)), (3, .slice At3 nt3 ct3), (4, .int .i64 xt4)]) = σ := ov_self (by simp [h1, h3, h4])
    rw [e] at h
    exact h
def tb : List (List Nat × Spec) := [([0, 1, 0, 1, 1], l0T)]
theorem wp_eq (Aa0_0 : Option Addr) (na0_0 : Nat) (ca0_0 : Nat) (xa0_1 : Int) (w : World) (Q : Ending → World → Prop) :
    wp Aa0_0 na0_0 ca0_0 xa0_1 w Q = codeW Try.prog hT 25 D (tab tb) [] body (topQ Try.prog hT 25 [.tmp 2] Q) (argsF [.agg #[.slice Aa0_0 na0_0 ca0_0, .int .i64 xa0_1]]) w := by kernel_rfl
theorem ok (Aa0_0 : Option Addr) (na0_0 : Nat) (ca0_0 : Nat) (xa0_1 : Int) (w : World) (Q : Ending → World → Prop) (h : wp Aa0_0 na0_0 ca0_0 xa0_1 w Q) : Calls Try.prog 17 #[.agg #[.slice Aa0_0 na0_0 ca0_0, .int .i64 xa0_1]] w Q := by
  rw [wp_eq] at h
  exact calls_of_codeW (c := body) (rs := [.tmp 2]) Try.func17 (by kernel_rfl) (by kernel_rfl) (by kernel_rfl) (by kernel_rfl) (by kernel_rfl) (tab_snd (by
    intro x hx
    simp only [tb, List.mem_cons, List.not_mem_nil, or_false] at hx
    subst hx
    exact l0_snd)) (by kernel_rfl) h
end f_ref14_Live
namespace f_law14_meet
/-! skein/skeinlaw14.meet: function 23 -/
noncomputable def body : Code := (Try.f23.body).getD .skip
def l1 : Nat → Addr → Option Addr → Nat → Nat → Int → Int → World → (World → Prop) → (Bool → World → Prop) → Prop
  | 0, _, _, _, _, _, _, _, _, _ => False
  | k + 1, at6, At15, nt15, ct15, xt16, xt17, w, K2, Kr =>
    sel (decide (xt17 < xt16)) (
    optB At15 fun a8 =>
    req (decide (0 ≤ xt17 ∧ xt17 < (nt15 : Int))) <|
    ldB w (a8.add (xt17.toNat * 2)) fun b9 =>
    ldI w ((a8.add (xt17.toNat * 2)).add 1) .i64 fun x10 =>
    alW w (.cells #[.bool false, .int .i64 (0 : Int)] 62) fun B11 w12 =>
    stW w12 (⟨B11, 0, Option.none⟩ : Addr) (.bool b9) fun w13 =>
    stW w13 ((⟨B11, 0, Option.none⟩ : Addr).add 1) (.int .i64 x10) fun w14 =>
    ldB w14 at6 fun b15 =>
    ldI w14 (at6.add 1) .i64 fun x16 =>
    ldB w14 (⟨B11, 0, Option.none⟩ : Addr) fun b17 =>
    ldI w14 ((⟨B11, 0, Option.none⟩ : Addr).add 1) .i64 fun x18 =>
    sel ((b15 == b17) && ((x16 == x18) && true)) (
    Kr true w14) (
    l1 k at6 At15 nt15 ct15 xt16 (IntKind.i64.wrap (xt17 + (1 : Int))) w14 K2 Kr)) (
    K2  w)
def l0 : Nat → Option Addr → Nat → Nat → Option Addr → Nat → Nat → Int → Int → World → (World → Prop) → (Bool → World → Prop) → Prop
  | 0, _, _, _, _, _, _, _, _, _, _, _ => False
  | k + 1, At1, nt1, ct1, At9, nt9, ct9, xt10, xt11, w, K0, Kr =>
    sel (decide (xt11 < xt10)) (
    optB At9 fun a1 =>
    req (decide (0 ≤ xt11 ∧ xt11 < (nt9 : Int))) <|
    ldB w (a1.add (xt11.toNat * 2)) fun b2 =>
    ldI w ((a1.add (xt11.toNat * 2)).add 1) .i64 fun x3 =>
    alW w (.cells #[.bool false, .int .i64 (0 : Int)] 62) fun B4 w5 =>
    stW w5 (⟨B4, 0, Option.none⟩ : Addr) (.bool b2) fun w6 =>
    stW w6 ((⟨B4, 0, Option.none⟩ : Addr).add 1) (.int .i64 x3) fun w7 =>
    ∃ k22 : Nat, l1 k22 (⟨B4, 0, Option.none⟩ : Addr) At1 nt1 ct1 (nt1 : Int) (0 : Int) w7 (fun (w19 : World) => ∀ _ : Fr,
    l0 k At1 nt1 ct1 At9 nt9 ct9 xt10 (IntKind.i64.wrap (xt11 + (1 : Int))) w19 K0 Kr) (fun (b20 : Bool) (w21 : World) => ∀ _ : Fr,
    Kr b20 w21)) (
    K0  w)
def wp (Aa0 : Option Addr) (na0 : Nat) (ca0 : Nat) (Aa1 : Option Addr) (na1 : Nat) (ca1 : Nat) (w : World) (Q : Ending → World → Prop) : Prop :=
  ∃ k26 : Nat, l0 k26 Aa1 na1 ca1 Aa0 na0 ca0 (na0 : Int) (0 : Int) w (fun (w23 : World) => ∀ _ : Fr,
  Q (.returned (.bool false)) w23) (fun (b24 : Bool) (w25 : World) => ∀ _ : Fr,
  Q (.returned (.bool b24)) w25)
def D : Nat → Option DH := dtab []
def l1LO : LO := ⟨[], [4], [(2, [1, 9, 10, 11])], []⟩
def l1Tk (k : Nat) : Spec := fun Q σ w =>
  gAd (σ 6) fun at6 =>
  gSlice (σ 15) fun At15 nt15 ct15 =>
  gInt .i64 (σ 16) fun xt16 =>
  gInt .i64 (σ 17) fun xt17 =>
  l1 k at6 At15 nt15 ct15 xt16 xt17 w (fun (w : World) => ∀ d : Fr, Q (.exit 2) (ov d [(1, σ 1), (9, σ 9), (10, σ 10), (11, σ 11)]) w) (fun (bq4 : Bool) (w : World) => ∀ d : Fr, Q .ret (ov d [(4, .bool bq4)]) w)
def l1T : Spec := fun Q σ w => ∃ k, l1Tk k Q σ w
def l1tb : List (List Nat × Spec) := []
noncomputable def l1b : Code := (subC [0, 0, 1, 1, 0, 0, 1, 1, 0, 0, 1, 0, 1] body).getD .skip
theorem l1_eq (k : Nat) (at6 : Addr) (At15 : Option Addr) (nt15 : Nat) (ct15 : Nat) (xt16 : Int) (xt17 : Int) (Q : PQ) (σ : Fr) (w : World) :
    l1 (k + 1) at6 At15 nt15 ct15 xt16 xt17 w (fun (w : World) => ∀ d : Fr, Q (.exit 2) (ov d [(1, σ 1), (9, σ 9), (10, σ 10), (11, σ 11)]) w) (fun (bq4 : Bool) (w : World) => ∀ d : Fr, Q .ret (ov d [(4, .bool bq4)]) w) = codeW Try.prog hT 26 D (tab l1tb) [0, 0, 1, 1, 0, 0, 1, 1, 0, 0, 1, 0, 1] l1b (thenQ (l1Tk k Q) (widen l1LO Q)) (ov σ [(6, .pointer (some at6)), (15, .slice At15 nt15 ct15), (16, .int .i64 xt16), (17, .int .i64 xt17)]) w := by kernel_rfl
theorem l1_snd : ∀ c, subC [0, 1, 1, 0, 0, 1, 1, 0, 0, 1, 0, 1] body = some c → Snd Try.prog 26 c l1T := by
  refine loop_of (hT := hT) (D := D) (l := l1tb) (b := l1b) (lo := l1LO) (by kernel_rfl) (by
    intro x hx
    simp only [l1tb, List.not_mem_nil] at hx
    ) (by kernel_rfl) (by kernel_rfl) ?_ ?_
  · intro Q σ w h
    unfold l1Tk at h
    obtain ⟨at6, h6, hn⟩ := gAd_elim h
    clear h
    have h := hn
    clear hn
    obtain ⟨At15, nt15, ct15, h15, hn⟩ := gSlice_elim h
    clear h
    have h := hn
    clear hn
    obtain ⟨xt16, h16, hn⟩ := gInt_elim h
    clear h
    have h := hn
    clear hn
    obtain ⟨xt17, h17, hn⟩ := gInt_elim h
    clear h
    have h := hn
    clear hn
    exact h
  · intro k Q σ w h
    unfold l1Tk at h
    obtain ⟨at6, h6, hn⟩ := gAd_elim h
    clear h
    have h := hn
    clear hn
    obtain ⟨At15, nt15, ct15, h15, hn⟩ := gSlice_elim h
    clear h
    have h := hn
    clear hn
    obtain ⟨xt16, h16, hn⟩ := gInt_elim h
    clear h
    have h := hn
    clear hn
    obtain ⟨xt17, h17, hn⟩ := gInt_elim h
    clear h
    have h := hn
    clear hn
    rw [l1_eq (σ := σ)] at h
    have e : (ov σ [(6, .pointer (some at6)), (15, .slice At15 nt15 ct15), (16, .int .i64 xt16), (17, .int .i64 xt17)]) = σ := ov_self (by simp [h6, h15, h16, h17])
    rw [e] at h
    exact h
def l0LO : LO := ⟨[], [4], [(0, [])], []⟩
def l0Tk (k : Nat) : Spec := fun Q σ w =>
  gSlice (σ 1) fun At1 nt1 ct1 =>
  gSlice (σ 9) fun At9 nt9 ct9 =>
  gInt .i64 (σ 10) fun xt10 =>
  gInt .i64 (σ 11) fun xt11 =>
  l0 k At1 nt1 ct1 At9 nt9 ct9 xt10 xt11 w (fun (w : World) => ∀ d : Fr, Q (.exit 0) (ov d []) w) (fun (bq4 : Bool) (w : World) => ∀ d : Fr, Q .ret (ov d [(4, .bool bq4)]) w)
def l0T : Spec := fun Q σ w => ∃ k, l0Tk k Q σ w
def l0tb : List (List Nat × Spec) := [([0, 1, 1, 0, 0, 1, 1, 0, 0, 1, 0, 1], l1T)]
noncomputable def l0b : Code := (subC [0, 0, 1, 0, 1] body).getD .skip
theorem l0_eq (k : Nat) (At1 : Option Addr) (nt1 : Nat) (ct1 : Nat) (At9 : Option Addr) (nt9 : Nat) (ct9 : Nat) (xt10 : Int) (xt11 : Int) (Q : PQ) (σ : Fr) (w : World) :
    l0 (k + 1) At1 nt1 ct1 At9 nt9 ct9 xt10 xt11 w (fun (w : World) => ∀ d : Fr, Q (.exit 0) (ov d []) w) (fun (bq4 : Bool) (w : World) => ∀ d : Fr, Q .ret (ov d [(4, .bool bq4)]) w) = codeW Try.prog hT 26 D (tab l0tb) [0, 0, 1, 0, 1] l0b (thenQ (l0Tk k Q) (widen l0LO Q)) (ov σ [(1, .slice At1 nt1 ct1), (9, .slice At9 nt9 ct9), (10, .int .i64 xt10), (11, .int .i64 xt11)]) w := by kernel_rfl
theorem l0_snd : ∀ c, subC [0, 1, 0, 1] body = some c → Snd Try.prog 26 c l0T := by
  refine loop_of (hT := hT) (D := D) (l := l0tb) (b := l0b) (lo := l0LO) (by kernel_rfl) (by
    intro x hx
    simp only [l0tb, List.mem_cons, List.not_mem_nil, or_false] at hx
    subst hx
    exact l1_snd) (by kernel_rfl) (by kernel_rfl) ?_ ?_
  · intro Q σ w h
    unfold l0Tk at h
    obtain ⟨At1, nt1, ct1, h1, hn⟩ := gSlice_elim h
    clear h
    have h := hn
    clear hn
    obtain ⟨At9, nt9, ct9, h9, hn⟩ := gSlice_elim h
    clear h
    have h := hn
    clear hn
    obtain ⟨xt10, h10, hn⟩ := gInt_elim h
    clear h
    have h := hn
    clear hn
    obtain ⟨xt11, h11, hn⟩ := gInt_elim h
    clear h
    have h := hn
    clear hn
    exact h
  · intro k Q σ w h
    unfold l0Tk at h
    obtain ⟨At1, nt1, ct1, h1, hn⟩ := gSlice_elim h
    clear h
    have h := hn
    clear hn
    obtain ⟨At9, nt9, ct9, h9, hn⟩ := gSlice_elim h
    clear h
    have h := hn
    clear hn
    obtain ⟨xt10, h10, hn⟩ := gInt_elim h
    clear h
    have h := hn
    clear hn
    obtain ⟨xt11, h11, hn⟩ := gInt_elim h
    clear h
    have h := hn
    clear hn
    rw [l0_eq (σ := σ)] at h
    have e : (ov σ [(1, .slice At1 nt1 ct1), (9, .slice At9 nt9 ct9), (10, .int .i64 xt10), (11, .int .i64 xt11)]) = σ := ov_self (by simp [h1, h9, h10, h11])
    rw [e] at h
    exact h
def tb : List (List Nat × Spec) := [([0, 1, 1, 0, 0, 1, 1, 0, 0, 1, 0, 1], l1T), ([0, 1, 0, 1], l0T)]
theorem wp_eq (Aa0 : Option Addr) (na0 : Nat) (ca0 : Nat) (Aa1 : Option Addr) (na1 : Nat) (ca1 : Nat) (w : World) (Q : Ending → World → Prop) :
    wp Aa0 na0 ca0 Aa1 na1 ca1 w Q = codeW Try.prog hT 26 D (tab tb) [] body (topQ Try.prog hT 26 [.tmp 4] Q) (argsF [.slice Aa0 na0 ca0, .slice Aa1 na1 ca1]) w := by kernel_rfl
theorem ok (Aa0 : Option Addr) (na0 : Nat) (ca0 : Nat) (Aa1 : Option Addr) (na1 : Nat) (ca1 : Nat) (w : World) (Q : Ending → World → Prop) (h : wp Aa0 na0 ca0 Aa1 na1 ca1 w Q) : Calls Try.prog 23 #[.slice Aa0 na0 ca0, .slice Aa1 na1 ca1] w Q := by
  rw [wp_eq] at h
  exact calls_of_codeW (c := body) (rs := [.tmp 4]) Try.func23 (by kernel_rfl) (by kernel_rfl) (by kernel_rfl) (by kernel_rfl) (by kernel_rfl) (tab_snd (by
    intro x hx
    simp only [tb, List.mem_cons, List.not_mem_nil, or_false] at hx
    rcases hx with rfl | rfl
    · exact l1_snd
    · exact l0_snd)) (by kernel_rfl) h
end f_law14_meet
namespace f_ref14_Begin
/-! skein/skeinref14.Begin: function 25 -/
noncomputable def body : Code := (Try.f25.body).getD .skip
def l0 : Nat → Addr → Option Addr → Nat → Nat → Int → World → ((Option Addr) → Nat → Nat → World → Prop) → Prop
  | 0, _, _, _, _, _, _, _ => False
  | k + 1, at1, At5, nt5, ct5, xt6, w, K0 =>
    ldS w at1 fun A18 n18 c18 =>
    sel (decide (xt6 < (n18 : Int))) (
    ldS w at1 fun A19 n19 c19 =>
    optB A19 fun a20 =>
    req (decide (0 ≤ xt6 ∧ xt6 < (n19 : Int))) <|
    ldI w (a20.add (xt6.toNat * 4)) .i64 fun x21 =>
    ldS w ((a20.add (xt6.toNat * 4)).add 1) fun A22 n22 c22 =>
    ldB w ((a20.add (xt6.toNat * 4)).add 2) fun b23 =>
    ldI w ((a20.add (xt6.toNat * 4)).add 3) .i64 fun x24 =>
    alW w (.cells #[.int .i64 x21, .slice A22 n22 c22, .bool b23, .int .i64 x24] 73) fun B25 w26 =>
    Runs Try.prog (Builtin.append_ #[26, 26] 26 #[.slice At5 nt5 ct5, .slice (some (⟨B25, 0, Option.none⟩ : Addr)) 1 1]) w26 fun v28 w27 => ∃ (A29 : Option Addr) (n29 : Nat) (c29 : Nat), v28 = (.slice A29 n29 c29) ∧ (
    l0 k at1 A29 n29 c29 (IntKind.i64.wrap (xt6 + (1 : Int))) w27 K0)) (
    K0 At5 nt5 ct5 w)
def wp (Aa0_0 : Option Addr) (na0_0 : Nat) (ca0_0 : Nat) (xa0_1 : Int) (w : World) (Q : Ending → World → Prop) : Prop :=
  alW w (.cells #[.slice Aa0_0 na0_0 ca0_0, .int .i64 xa0_1] 28) fun B1 w2 =>
  alW w2 (.cells #[.slice none 0 0, .int .i64 (0 : Int)] 28) fun B3 w4 =>
  ldS w4 (⟨B1, 0, Option.none⟩ : Addr) fun A5 n5 c5 =>
  ldI w4 ((⟨B1, 0, Option.none⟩ : Addr).add 1) .i64 fun x6 =>
  Calls Try.prog 17 #[.agg #[.slice A5 n5 c5, .int .i64 x6]] w4 fun e7 w8 => ∃ (A9 : Option Addr) (n9 : Nat) (c9 : Nat), e7 = .returned (.slice A9 n9 c9) ∧ (
  sel (decide ((n9 : Int) ≥ (8 : Int))) (
  ldS w8 (⟨B1, 0, Option.none⟩ : Addr) fun A10 n10 c10 =>
  ldI w8 ((⟨B1, 0, Option.none⟩ : Addr).add 1) .i64 fun x11 =>
  stW w8 (⟨B3, 0, Option.none⟩ : Addr) (.slice A10 n10 c10) fun w12 =>
  stW w12 ((⟨B3, 0, Option.none⟩ : Addr).add 1) (.int .i64 x11) fun w13 =>
  ldS w13 (⟨B3, 0, Option.none⟩ : Addr) fun A14 n14 c14 =>
  ldI w13 ((⟨B3, 0, Option.none⟩ : Addr).add 1) .i64 fun x15 =>
  Q (.returned (.tuple #[.agg #[.slice A14 n14 c14, .int .i64 x15], .int .i64 (0 : Int), .int .i64 (142 : Int)])) w13) (
  alW w8 (.cells #[] 73) fun B16 w17 =>
  ∃ k45 : Nat, l0 k45 (⟨B1, 0, Option.none⟩ : Addr) (some (⟨B16, 0, Option.none⟩ : Addr)) 0 0 (0 : Int) w17 (fun (A30 : Option Addr) (n30 : Nat) (c30 : Nat) (w31 : World) => ∀ _ : Fr,
  ldI w31 ((⟨B1, 0, Option.none⟩ : Addr).add 1) .i64 fun x32 =>
  alW w31 (.cells #[.int .i64 x32, .slice none 0 0, .bool true, .int .i64 (-1 : Int)] 73) fun B33 w34 =>
  Runs Try.prog (Builtin.append_ #[26, 26] 26 #[.slice A30 n30 c30, .slice (some (⟨B33, 0, Option.none⟩ : Addr)) 1 1]) w34 fun v36 w35 => ∃ (A37 : Option Addr) (n37 : Nat) (c37 : Nat), v36 = (.slice A37 n37 c37) ∧ (
  stW w35 (⟨B1, 0, Option.none⟩ : Addr) (.slice A37 n37 c37) fun w38 =>
  ldS w38 (⟨B1, 0, Option.none⟩ : Addr) fun A39 n39 c39 =>
  ldI w38 ((⟨B1, 0, Option.none⟩ : Addr).add 1) .i64 fun x40 =>
  stW w38 (⟨B3, 0, Option.none⟩ : Addr) (.slice A39 n39 c39) fun w41 =>
  stW w41 ((⟨B3, 0, Option.none⟩ : Addr).add 1) (.int .i64 x40) fun w42 =>
  ldS w42 (⟨B3, 0, Option.none⟩ : Addr) fun A43 n43 c43 =>
  ldI w42 ((⟨B3, 0, Option.none⟩ : Addr).add 1) .i64 fun x44 =>
  Q (.returned (.tuple #[.agg #[.slice A43 n43 c43, .int .i64 x44], .int .i64 (n37 : Int), .int .i64 (0 : Int)])) w42))))
def D : Nat → Option DH := dtab []
def l0LO : LO := ⟨[], [], [(0, [1, 2, 5])], []⟩
def l0Tk (k : Nat) : Spec := fun Q σ w =>
  gAd (σ 1) fun at1 =>
  gSlice (σ 5) fun At5 nt5 ct5 =>
  gInt .i64 (σ 6) fun xt6 =>
  l0 k at1 At5 nt5 ct5 xt6 w (fun (Aq5 : Option Addr) (nq5 : Nat) (cq5 : Nat) (w : World) => ∀ d : Fr, Q (.exit 0) (ov d [(1, .pointer (some at1)), (2, σ 2), (5, .slice Aq5 nq5 cq5)]) w)
def l0T : Spec := fun Q σ w => ∃ k, l0Tk k Q σ w
def l0tb : List (List Nat × Spec) := []
noncomputable def l0b : Code := (subC [0, 0, 1, 0, 1, 1, 1] body).getD .skip
theorem l0_eq (k : Nat) (at1 : Addr) (At5 : Option Addr) (nt5 : Nat) (ct5 : Nat) (xt6 : Int) (Q : PQ) (σ : Fr) (w : World) :
    l0 (k + 1) at1 At5 nt5 ct5 xt6 w (fun (Aq5 : Option Addr) (nq5 : Nat) (cq5 : Nat) (w : World) => ∀ d : Fr, Q (.exit 0) (ov d [(1, .pointer (some at1)), (2, σ 2), (5, .slice Aq5 nq5 cq5)]) w) = codeW Try.prog hT 39 D (tab l0tb) [0, 0, 1, 0, 1, 1, 1] l0b (thenQ (l0Tk k Q) (widen l0LO Q)) (ov σ [(1, .pointer (some at1)), (5, .slice At5 nt5 ct5), (6, .int .i64 xt6)]) w := by kernel_rfl
theorem l0_snd : ∀ c, subC [0, 1, 0, 1, 1, 1] body = some c → Snd Try.prog 39 c l0T := by
  refine loop_of (hT := hT) (D := D) (l := l0tb) (b := l0b) (lo := l0LO) (by kernel_rfl) (by
    intro x hx
    simp only [l0tb, List.not_mem_nil] at hx
    ) (by kernel_rfl) (by kernel_rfl) ?_ ?_
  · intro Q σ w h
    unfold l0Tk at h
    obtain ⟨at1, h1, hn⟩ := gAd_elim h
    clear h
    have h := hn
    clear hn
    obtain ⟨At5, nt5, ct5, h5, hn⟩ := gSlice_elim h
    clear h
    have h := hn
    clear hn
    obtain ⟨xt6, h6, hn⟩ := gInt_elim h
    clear h
    have h := hn
    clear hn
    exact h
  · intro k Q σ w h
    unfold l0Tk at h
    obtain ⟨at1, h1, hn⟩ := gAd_elim h
    clear h
    have h := hn
    clear hn
    obtain ⟨At5, nt5, ct5, h5, hn⟩ := gSlice_elim h
    clear h
    have h := hn
    clear hn
    obtain ⟨xt6, h6, hn⟩ := gInt_elim h
    clear h
    have h := hn
    clear hn
    rw [l0_eq (σ := σ)] at h
    have e : (ov σ [(1, .pointer (some at1)), (5, .slice At5 nt5 ct5), (6, .int .i64 xt6)]) = σ := ov_self (by simp [h1, h5, h6])
    rw [e] at h
    exact h
def tb : List (List Nat × Spec) := [([0, 1, 0, 1, 1, 1], l0T)]
theorem wp_eq (Aa0_0 : Option Addr) (na0_0 : Nat) (ca0_0 : Nat) (xa0_1 : Int) (w : World) (Q : Ending → World → Prop) :
    wp Aa0_0 na0_0 ca0_0 xa0_1 w Q = codeW Try.prog hT 39 D (tab tb) [] body (topQ Try.prog hT 39 [.cell 2 28, .tmp 3, .tmp 4] Q) (argsF [.agg #[.slice Aa0_0 na0_0 ca0_0, .int .i64 xa0_1]]) w := by kernel_rfl
theorem ok (Aa0_0 : Option Addr) (na0_0 : Nat) (ca0_0 : Nat) (xa0_1 : Int) (w : World) (Q : Ending → World → Prop) (h : wp Aa0_0 na0_0 ca0_0 xa0_1 w Q) : Calls Try.prog 25 #[.agg #[.slice Aa0_0 na0_0 ca0_0, .int .i64 xa0_1]] w Q := by
  rw [wp_eq] at h
  exact calls_of_codeW (c := body) (rs := [.cell 2 28, .tmp 3, .tmp 4]) Try.func25 (by kernel_rfl) (by kernel_rfl) (by kernel_rfl) (by kernel_rfl) (by kernel_rfl) (tab_snd (by
    intro x hx
    simp only [tb, List.mem_cons, List.not_mem_nil, or_false] at hx
    subst hx
    exact l0_snd)) (by kernel_rfl) h
end f_ref14_Begin
namespace f_ref14_Touch
/-! skein/skeinref14.Touch: function 26 -/
noncomputable def body : Code := (Try.f26.body).getD .skip
def l0 : Nat → Addr → Option Addr → Nat → Nat → Int → World → ((Option Addr) → Nat → Nat → World → Prop) → Prop
  | 0, _, _, _, _, _, _, _ => False
  | k + 1, at8, At9, nt9, ct9, xt10, w, K0 =>
    ldS w (at8.add 1) fun A30 n30 c30 =>
    sel (decide (xt10 < (n30 : Int))) (
    ldS w (at8.add 1) fun A31 n31 c31 =>
    optB A31 fun a32 =>
    req (decide (0 ≤ xt10 ∧ xt10 < (n31 : Int))) <|
    ldB w (a32.add (xt10.toNat * 2)) fun b33 =>
    ldI w ((a32.add (xt10.toNat * 2)).add 1) .i64 fun x34 =>
    alW w (.cells #[.bool b33, .int .i64 x34] 62) fun B35 w36 =>
    Runs Try.prog (Builtin.append_ #[30, 30] 30 #[.slice At9 nt9 ct9, .slice (some (⟨B35, 0, Option.none⟩ : Addr)) 1 1]) w36 fun v38 w37 => ∃ (A39 : Option Addr) (n39 : Nat) (c39 : Nat), v38 = (.slice A39 n39 c39) ∧ (
    l0 k at8 A39 n39 c39 (IntKind.i64.wrap (xt10 + (1 : Int))) w37 K0)) (
    K0 At9 nt9 ct9 w)
def l1 : Nat → Option Addr → Nat → Nat → Option Addr → Nat → Nat → Int → World → ((Option Addr) → Nat → Nat → World → Prop) → Prop
  | 0, _, _, _, _, _, _, _, _, _ => False
  | k + 1, At2, nt2, ct2, At9, nt9, ct9, xt11, w, K2 =>
    sel (decide (xt11 < (nt2 : Int))) (
    optB At2 fun a42 =>
    req (decide (0 ≤ xt11 ∧ xt11 < (nt2 : Int))) <|
    ldB w (a42.add (xt11.toNat * 2)) fun b43 =>
    ldI w ((a42.add (xt11.toNat * 2)).add 1) .i64 fun x44 =>
    alW w (.cells #[.bool b43, .int .i64 x44] 62) fun B45 w46 =>
    Runs Try.prog (Builtin.append_ #[30, 30] 30 #[.slice At9 nt9 ct9, .slice (some (⟨B45, 0, Option.none⟩ : Addr)) 1 1]) w46 fun v48 w47 => ∃ (A49 : Option Addr) (n49 : Nat) (c49 : Nat), v48 = (.slice A49 n49 c49) ∧ (
    l1 k At2 nt2 ct2 A49 n49 c49 (IntKind.i64.wrap (xt11 + (1 : Int))) w47 K2)) (
    K2 At9 nt9 ct9 w)
def wp (Aa0_0 : Option Addr) (na0_0 : Nat) (ca0_0 : Nat) (xa0_1 : Int) (xa1 : Int) (Aa2 : Option Addr) (na2 : Nat) (ca2 : Nat) (w : World) (Q : Ending → World → Prop) : Prop :=
  alW w (.cells #[.slice Aa0_0 na0_0 ca0_0, .int .i64 xa0_1] 28) fun B1 w2 =>
  alW w2 (.cells #[.slice none 0 0, .int .i64 (0 : Int)] 28) fun B3 w4 =>
  ldS w4 (⟨B1, 0, Option.none⟩ : Addr) fun A5 n5 c5 =>
  ldI w4 ((⟨B1, 0, Option.none⟩ : Addr).add 1) .i64 fun x6 =>
  Calls Try.prog 30 #[.agg #[.slice A5 n5 c5, .int .i64 x6], .int .i64 xa1] w4 fun e7 w8 => ∃ (b9 : Bool), e7 = .returned (.bool b9) ∧ (
  sel (!b9) (
  ldS w8 (⟨B1, 0, Option.none⟩ : Addr) fun A10 n10 c10 =>
  ldI w8 ((⟨B1, 0, Option.none⟩ : Addr).add 1) .i64 fun x11 =>
  stW w8 (⟨B3, 0, Option.none⟩ : Addr) (.slice A10 n10 c10) fun w12 =>
  stW w12 ((⟨B3, 0, Option.none⟩ : Addr).add 1) (.int .i64 x11) fun w13 =>
  ldS w13 (⟨B3, 0, Option.none⟩ : Addr) fun A14 n14 c14 =>
  ldI w13 ((⟨B3, 0, Option.none⟩ : Addr).add 1) .i64 fun x15 =>
  Q (.returned (.tuple #[.agg #[.slice A14 n14 c14, .int .i64 x15], .int .i64 (141 : Int)])) w13) (
  ldS w8 (⟨B1, 0, Option.none⟩ : Addr) fun A16 n16 c16 =>
  optB A16 fun a17 =>
  req (decide (0 ≤ (IntKind.i64.wrap (xa1 - (1 : Int))) ∧ (IntKind.i64.wrap (xa1 - (1 : Int))) < (n16 : Int))) <|
  ldI w8 (a17.add ((IntKind.i64.wrap (xa1 - (1 : Int))).toNat * 4)) .i64 fun x18 =>
  ldS w8 ((a17.add ((IntKind.i64.wrap (xa1 - (1 : Int))).toNat * 4)).add 1) fun A19 n19 c19 =>
  ldB w8 ((a17.add ((IntKind.i64.wrap (xa1 - (1 : Int))).toNat * 4)).add 2) fun b20 =>
  ldI w8 ((a17.add ((IntKind.i64.wrap (xa1 - (1 : Int))).toNat * 4)).add 3) .i64 fun x21 =>
  alW w8 (.cells #[.int .i64 (0 : Int), .slice none 0 0, .bool false, .int .i64 (0 : Int)] 73) fun B22 w23 =>
  stW w23 (⟨B22, 0, Option.none⟩ : Addr) (.int .i64 x18) fun w24 =>
  stW w24 ((⟨B22, 0, Option.none⟩ : Addr).add 1) (.slice A19 n19 c19) fun w25 =>
  stW w25 ((⟨B22, 0, Option.none⟩ : Addr).add 2) (.bool b20) fun w26 =>
  stW w26 ((⟨B22, 0, Option.none⟩ : Addr).add 3) (.int .i64 x21) fun w27 =>
  alW w27 (.cells #[] 62) fun B28 w29 =>
  ∃ k67 : Nat, l0 k67 (⟨B22, 0, Option.none⟩ : Addr) (some (⟨B28, 0, Option.none⟩ : Addr)) 0 0 (0 : Int) w29 (fun (A40 : Option Addr) (n40 : Nat) (c40 : Nat) (w41 : World) => ∀ _ : Fr,
  ∃ k66 : Nat, l1 k66 Aa2 na2 ca2 A40 n40 c40 (0 : Int) w41 (fun (A50 : Option Addr) (n50 : Nat) (c50 : Nat) (w51 : World) => ∀ _ : Fr,
  stW w51 ((⟨B22, 0, Option.none⟩ : Addr).add 1) (.slice A50 n50 c50) fun w52 =>
  ldS w52 (⟨B1, 0, Option.none⟩ : Addr) fun A53 n53 c53 =>
  ldI w52 ((⟨B1, 0, Option.none⟩ : Addr).add 1) .i64 fun x54 =>
  ldI w52 (⟨B22, 0, Option.none⟩ : Addr) .i64 fun x55 =>
  ldS w52 ((⟨B22, 0, Option.none⟩ : Addr).add 1) fun A56 n56 c56 =>
  ldB w52 ((⟨B22, 0, Option.none⟩ : Addr).add 2) fun b57 =>
  ldI w52 ((⟨B22, 0, Option.none⟩ : Addr).add 3) .i64 fun x58 =>
  Calls Try.prog 35 #[.agg #[.slice A53 n53 c53, .int .i64 x54], .int .i64 xa1, .agg #[.int .i64 x55, .slice A56 n56 c56, .bool b57, .int .i64 x58]] w52 fun e59 w60 => ∃ (A61_0 : Option Addr) (n61_0 : Nat) (c61_0 : Nat) (x61_1 : Int), e59 = .returned (.agg #[.slice A61_0 n61_0 c61_0, .int .i64 x61_1]) ∧ (
  stW w60 (⟨B3, 0, Option.none⟩ : Addr) (.slice A61_0 n61_0 c61_0) fun w62 =>
  stW w62 ((⟨B3, 0, Option.none⟩ : Addr).add 1) (.int .i64 x61_1) fun w63 =>
  ldS w63 (⟨B3, 0, Option.none⟩ : Addr) fun A64 n64 c64 =>
  ldI w63 ((⟨B3, 0, Option.none⟩ : Addr).add 1) .i64 fun x65 =>
  Q (.returned (.tuple #[.agg #[.slice A64 n64 c64, .int .i64 x65], .int .i64 (0 : Int)])) w63)))))
def D : Nat → Option DH := dtab []
def l0LO : LO := ⟨[], [], [(0, [1, 2, 3, 6, 8, 9])], []⟩
def l0Tk (k : Nat) : Spec := fun Q σ w =>
  gAd (σ 8) fun at8 =>
  gSlice (σ 9) fun At9 nt9 ct9 =>
  gInt .i64 (σ 10) fun xt10 =>
  l0 k at8 At9 nt9 ct9 xt10 w (fun (Aq9 : Option Addr) (nq9 : Nat) (cq9 : Nat) (w : World) => ∀ d : Fr, Q (.exit 0) (ov d [(1, σ 1), (2, σ 2), (3, σ 3), (6, σ 6), (8, .pointer (some at8)), (9, .slice Aq9 nq9 cq9)]) w)
def l0T : Spec := fun Q σ w => ∃ k, l0Tk k Q σ w
def l0tb : List (List Nat × Spec) := []
noncomputable def l0b : Code := (subC [0, 0, 1, 0, 1, 1, 1, 1] body).getD .skip
theorem l0_eq (k : Nat) (at8 : Addr) (At9 : Option Addr) (nt9 : Nat) (ct9 : Nat) (xt10 : Int) (Q : PQ) (σ : Fr) (w : World) :
    l0 (k + 1) at8 At9 nt9 ct9 xt10 w (fun (Aq9 : Option Addr) (nq9 : Nat) (cq9 : Nat) (w : World) => ∀ d : Fr, Q (.exit 0) (ov d [(1, σ 1), (2, σ 2), (3, σ 3), (6, σ 6), (8, .pointer (some at8)), (9, .slice Aq9 nq9 cq9)]) w) = codeW Try.prog hT 58 D (tab l0tb) [0, 0, 1, 0, 1, 1, 1, 1] l0b (thenQ (l0Tk k Q) (widen l0LO Q)) (ov σ [(8, .pointer (some at8)), (9, .slice At9 nt9 ct9), (10, .int .i64 xt10)]) w := by kernel_rfl
theorem l0_snd : ∀ c, subC [0, 1, 0, 1, 1, 1, 1] body = some c → Snd Try.prog 58 c l0T := by
  refine loop_of (hT := hT) (D := D) (l := l0tb) (b := l0b) (lo := l0LO) (by kernel_rfl) (by
    intro x hx
    simp only [l0tb, List.not_mem_nil] at hx
    ) (by kernel_rfl) (by kernel_rfl) ?_ ?_
  · intro Q σ w h
    unfold l0Tk at h
    obtain ⟨at8, h8, hn⟩ := gAd_elim h
    clear h
    have h := hn
    clear hn
    obtain ⟨At9, nt9, ct9, h9, hn⟩ := gSlice_elim h
    clear h
    have h := hn
    clear hn
    obtain ⟨xt10, h10, hn⟩ := gInt_elim h
    clear h
    have h := hn
    clear hn
    exact h
  · intro k Q σ w h
    unfold l0Tk at h
    obtain ⟨at8, h8, hn⟩ := gAd_elim h
    clear h
    have h := hn
    clear hn
    obtain ⟨At9, nt9, ct9, h9, hn⟩ := gSlice_elim h
    clear h
    have h := hn
    clear hn
    obtain ⟨xt10, h10, hn⟩ := gInt_elim h
    clear h
    have h := hn
    clear hn
    rw [l0_eq (σ := σ)] at h
    have e : (ov σ [(8, .pointer (some at8)), (9, .slice At9 nt9 ct9), (10, .int .i64 xt10)]) = σ := ov_self (by simp [h8, h9, h10])
    rw [e] at h
    exact h
def l1LO : LO := ⟨[], [], [(2, [1, 3, 6, 8, 9])], []⟩
def l1Tk (k : Nat) : Spec := fun Q σ w =>
  gSlice (σ 2) fun At2 nt2 ct2 =>
  gSlice (σ 9) fun At9 nt9 ct9 =>
  gInt .i64 (σ 11) fun xt11 =>
  l1 k At2 nt2 ct2 At9 nt9 ct9 xt11 w (fun (Aq9 : Option Addr) (nq9 : Nat) (cq9 : Nat) (w : World) => ∀ d : Fr, Q (.exit 2) (ov d [(1, σ 1), (3, σ 3), (6, σ 6), (8, σ 8), (9, .slice Aq9 nq9 cq9)]) w)
def l1T : Spec := fun Q σ w => ∃ k, l1Tk k Q σ w
def l1tb : List (List Nat × Spec) := []
noncomputable def l1b : Code := (subC [0, 0, 1, 0, 1, 1, 1, 1, 1] body).getD .skip
theorem l1_eq (k : Nat) (At2 : Option Addr) (nt2 : Nat) (ct2 : Nat) (At9 : Option Addr) (nt9 : Nat) (ct9 : Nat) (xt11 : Int) (Q : PQ) (σ : Fr) (w : World) :
    l1 (k + 1) At2 nt2 ct2 At9 nt9 ct9 xt11 w (fun (Aq9 : Option Addr) (nq9 : Nat) (cq9 : Nat) (w : World) => ∀ d : Fr, Q (.exit 2) (ov d [(1, σ 1), (3, σ 3), (6, σ 6), (8, σ 8), (9, .slice Aq9 nq9 cq9)]) w) = codeW Try.prog hT 58 D (tab l1tb) [0, 0, 1, 0, 1, 1, 1, 1, 1] l1b (thenQ (l1Tk k Q) (widen l1LO Q)) (ov σ [(2, .slice At2 nt2 ct2), (9, .slice At9 nt9 ct9), (11, .int .i64 xt11)]) w := by kernel_rfl
theorem l1_snd : ∀ c, subC [0, 1, 0, 1, 1, 1, 1, 1] body = some c → Snd Try.prog 58 c l1T := by
  refine loop_of (hT := hT) (D := D) (l := l1tb) (b := l1b) (lo := l1LO) (by kernel_rfl) (by
    intro x hx
    simp only [l1tb, List.not_mem_nil] at hx
    ) (by kernel_rfl) (by kernel_rfl) ?_ ?_
  · intro Q σ w h
    unfold l1Tk at h
    obtain ⟨At2, nt2, ct2, h2, hn⟩ := gSlice_elim h
    clear h
    have h := hn
    clear hn
    obtain ⟨At9, nt9, ct9, h9, hn⟩ := gSlice_elim h
    clear h
    have h := hn
    clear hn
    obtain ⟨xt11, h11, hn⟩ := gInt_elim h
    clear h
    have h := hn
    clear hn
    exact h
  · intro k Q σ w h
    unfold l1Tk at h
    obtain ⟨At2, nt2, ct2, h2, hn⟩ := gSlice_elim h
    clear h
    have h := hn
    clear hn
    obtain ⟨At9, nt9, ct9, h9, hn⟩ := gSlice_elim h
    clear h
    have h := hn
    clear hn
    obtain ⟨xt11, h11, hn⟩ := gInt_elim h
    clear h
    have h := hn
    clear hn
    rw [l1_eq (σ := σ)] at h
    have e : (ov σ [(2, .slice At2 nt2 ct2), (9, .slice At9 nt9 ct9), (11, .int .i64 xt11)]) = σ := ov_self (by simp [h2, h9, h11])
    rw [e] at h
    exact h
def tb : List (List Nat × Spec) := [([0, 1, 0, 1, 1, 1, 1], l0T), ([0, 1, 0, 1, 1, 1, 1, 1], l1T)]
theorem wp_eq (Aa0_0 : Option Addr) (na0_0 : Nat) (ca0_0 : Nat) (xa0_1 : Int) (xa1 : Int) (Aa2 : Option Addr) (na2 : Nat) (ca2 : Nat) (w : World) (Q : Ending → World → Prop) :
    wp Aa0_0 na0_0 ca0_0 xa0_1 xa1 Aa2 na2 ca2 w Q = codeW Try.prog hT 58 D (tab tb) [] body (topQ Try.prog hT 58 [.cell 6 28, .tmp 7] Q) (argsF [.agg #[.slice Aa0_0 na0_0 ca0_0, .int .i64 xa0_1], .int .i64 xa1, .slice Aa2 na2 ca2]) w := by kernel_rfl
theorem ok (Aa0_0 : Option Addr) (na0_0 : Nat) (ca0_0 : Nat) (xa0_1 : Int) (xa1 : Int) (Aa2 : Option Addr) (na2 : Nat) (ca2 : Nat) (w : World) (Q : Ending → World → Prop) (h : wp Aa0_0 na0_0 ca0_0 xa0_1 xa1 Aa2 na2 ca2 w Q) : Calls Try.prog 26 #[.agg #[.slice Aa0_0 na0_0 ca0_0, .int .i64 xa0_1], .int .i64 xa1, .slice Aa2 na2 ca2] w Q := by
  rw [wp_eq] at h
  exact calls_of_codeW (c := body) (rs := [.cell 6 28, .tmp 7]) Try.func26 (by kernel_rfl) (by kernel_rfl) (by kernel_rfl) (by kernel_rfl) (by kernel_rfl) (tab_snd (by
    intro x hx
    simp only [tb, List.mem_cons, List.not_mem_nil, or_false] at hx
    rcases hx with rfl | rfl
    · exact l0_snd
    · exact l1_snd)) (by kernel_rfl) h
end f_ref14_Touch
namespace f_ref14_Commit
/-! skein/skeinref14.Commit: function 27 -/
noncomputable def body : Code := (Try.f27.body).getD .skip
def wp (Aa0_0 : Option Addr) (na0_0 : Nat) (ca0_0 : Nat) (xa0_1 : Int) (xa1 : Int) (w : World) (Q : Ending → World → Prop) : Prop :=
  alW w (.cells #[.slice Aa0_0 na0_0 ca0_0, .int .i64 xa0_1] 28) fun B1 w2 =>
  alW w2 (.cells #[.slice none 0 0, .int .i64 (0 : Int)] 28) fun B3 w4 =>
  ldS w4 (⟨B1, 0, Option.none⟩ : Addr) fun A5 n5 c5 =>
  ldI w4 ((⟨B1, 0, Option.none⟩ : Addr).add 1) .i64 fun x6 =>
  Calls Try.prog 29 #[.agg #[.slice A5 n5 c5, .int .i64 x6], .int .i64 xa1] w4 fun e7 w8 => ∃ (x9 : Int), e7 = .returned (.int .i64 x9) ∧ (
  sel (x9 == (141 : Int)) (
  ldS w8 (⟨B1, 0, Option.none⟩ : Addr) fun A10 n10 c10 =>
  ldI w8 ((⟨B1, 0, Option.none⟩ : Addr).add 1) .i64 fun x11 =>
  stW w8 (⟨B3, 0, Option.none⟩ : Addr) (.slice A10 n10 c10) fun w12 =>
  stW w12 ((⟨B3, 0, Option.none⟩ : Addr).add 1) (.int .i64 x11) fun w13 =>
  ldS w13 (⟨B3, 0, Option.none⟩ : Addr) fun A14 n14 c14 =>
  ldI w13 ((⟨B3, 0, Option.none⟩ : Addr).add 1) .i64 fun x15 =>
  Q (.returned (.tuple #[.agg #[.slice A14 n14 c14, .int .i64 x15], .int .i64 (0 : Int), .int .i64 x9])) w13) (
  ldS w8 (⟨B1, 0, Option.none⟩ : Addr) fun A16 n16 c16 =>
  optB A16 fun a17 =>
  req (decide (0 ≤ (IntKind.i64.wrap (xa1 - (1 : Int))) ∧ (IntKind.i64.wrap (xa1 - (1 : Int))) < (n16 : Int))) <|
  ldI w8 (a17.add ((IntKind.i64.wrap (xa1 - (1 : Int))).toNat * 4)) .i64 fun x18 =>
  ldS w8 ((a17.add ((IntKind.i64.wrap (xa1 - (1 : Int))).toNat * 4)).add 1) fun A19 n19 c19 =>
  ldB w8 ((a17.add ((IntKind.i64.wrap (xa1 - (1 : Int))).toNat * 4)).add 2) fun b20 =>
  ldI w8 ((a17.add ((IntKind.i64.wrap (xa1 - (1 : Int))).toNat * 4)).add 3) .i64 fun x21 =>
  alW w8 (.cells #[.int .i64 (0 : Int), .slice none 0 0, .bool false, .int .i64 (0 : Int)] 73) fun B22 w23 =>
  stW w23 (⟨B22, 0, Option.none⟩ : Addr) (.int .i64 x18) fun w24 =>
  stW w24 ((⟨B22, 0, Option.none⟩ : Addr).add 1) (.slice A19 n19 c19) fun w25 =>
  stW w25 ((⟨B22, 0, Option.none⟩ : Addr).add 2) (.bool b20) fun w26 =>
  stW w26 ((⟨B22, 0, Option.none⟩ : Addr).add 3) (.int .i64 x21) fun w27 =>
  stW w27 ((⟨B22, 0, Option.none⟩ : Addr).add 2) (.bool false) fun w28 =>
  sel (x9 != (0 : Int)) (
  ldS w28 (⟨B1, 0, Option.none⟩ : Addr) fun A29 n29 c29 =>
  ldI w28 ((⟨B1, 0, Option.none⟩ : Addr).add 1) .i64 fun x30 =>
  ldI w28 (⟨B22, 0, Option.none⟩ : Addr) .i64 fun x31 =>
  ldS w28 ((⟨B22, 0, Option.none⟩ : Addr).add 1) fun A32 n32 c32 =>
  ldB w28 ((⟨B22, 0, Option.none⟩ : Addr).add 2) fun b33 =>
  ldI w28 ((⟨B22, 0, Option.none⟩ : Addr).add 3) .i64 fun x34 =>
  Calls Try.prog 35 #[.agg #[.slice A29 n29 c29, .int .i64 x30], .int .i64 xa1, .agg #[.int .i64 x31, .slice A32 n32 c32, .bool b33, .int .i64 x34]] w28 fun e35 w36 => ∃ (A37_0 : Option Addr) (n37_0 : Nat) (c37_0 : Nat) (x37_1 : Int), e35 = .returned (.agg #[.slice A37_0 n37_0 c37_0, .int .i64 x37_1]) ∧ (
  stW w36 (⟨B3, 0, Option.none⟩ : Addr) (.slice A37_0 n37_0 c37_0) fun w38 =>
  stW w38 ((⟨B3, 0, Option.none⟩ : Addr).add 1) (.int .i64 x37_1) fun w39 =>
  ldS w39 (⟨B3, 0, Option.none⟩ : Addr) fun A40 n40 c40 =>
  ldI w39 ((⟨B3, 0, Option.none⟩ : Addr).add 1) .i64 fun x41 =>
  Q (.returned (.tuple #[.agg #[.slice A40 n40 c40, .int .i64 x41], .int .i64 (0 : Int), .int .i64 x9])) w39)) (
  ldS w28 ((⟨B22, 0, Option.none⟩ : Addr).add 1) fun A42 n42 c42 =>
  sel ((n42 : Int) == (0 : Int)) (
  drW w28 fun w43 =>
  ∃ S44 : World → Prop, S44 w43 ∧ (
  hdS S44 (⟨B1, 0, Option.none⟩ : Addr) fun A45 n45 c45 =>
  hdI S44 ((⟨B1, 0, Option.none⟩ : Addr).add 1) .i64 fun x46 =>
  hdI S44 (⟨B22, 0, Option.none⟩ : Addr) .i64 fun x47 =>
  hdS S44 ((⟨B22, 0, Option.none⟩ : Addr).add 1) fun A48 n48 c48 =>
  hdB S44 ((⟨B22, 0, Option.none⟩ : Addr).add 2) fun b49 =>
  hdI S44 ((⟨B22, 0, Option.none⟩ : Addr).add 3) .i64 fun x50 =>
  hdI S44 (⟨B22, 0, Option.none⟩ : Addr) .i64 fun x51 =>
  Calls Try.prog 35 #[.agg #[.slice A45 n45 c45, .int .i64 x46], .int .i64 xa1, .agg #[.int .i64 x47, .slice A48 n48 c48, .bool b49, .int .i64 x50]] w43 fun e52 w53 => ∃ (A54_0 : Option Addr) (n54_0 : Nat) (c54_0 : Nat) (x54_1 : Int), e52 = .returned (.agg #[.slice A54_0 n54_0 c54_0, .int .i64 x54_1]) ∧ (
  S44 w53 ∧ (
  stW w53 (⟨B3, 0, Option.none⟩ : Addr) (.slice A54_0 n54_0 c54_0) fun w55 =>
  stW w55 ((⟨B3, 0, Option.none⟩ : Addr).add 1) (.int .i64 x54_1) fun w56 =>
  S44 w56 ∧ (
  ldS w56 (⟨B3, 0, Option.none⟩ : Addr) fun A57 n57 c57 =>
  ldI w56 ((⟨B3, 0, Option.none⟩ : Addr).add 1) .i64 fun x58 =>
  Q (.returned (.tuple #[.agg #[.slice A57 n57 c57, .int .i64 x58], .int .i64 x51, .int .i64 (0 : Int)])) w56))))) (
  ldI w28 ((⟨B1, 0, Option.none⟩ : Addr).add 1) .i64 fun x59 =>
  stW w28 ((⟨B1, 0, Option.none⟩ : Addr).add 1) (.int .i64 (IntKind.i64.wrap (x59 + (1 : Int)))) fun w60 =>
  ldI w60 ((⟨B1, 0, Option.none⟩ : Addr).add 1) .i64 fun x61 =>
  stW w60 ((⟨B22, 0, Option.none⟩ : Addr).add 3) (.int .i64 x61) fun w62 =>
  drW w62 fun w63 =>
  ∃ S64 : World → Prop, S64 w63 ∧ (
  hdS S64 (⟨B1, 0, Option.none⟩ : Addr) fun A65 n65 c65 =>
  hdI S64 ((⟨B1, 0, Option.none⟩ : Addr).add 1) .i64 fun x66 =>
  hdI S64 (⟨B22, 0, Option.none⟩ : Addr) .i64 fun x67 =>
  hdS S64 ((⟨B22, 0, Option.none⟩ : Addr).add 1) fun A68 n68 c68 =>
  hdB S64 ((⟨B22, 0, Option.none⟩ : Addr).add 2) fun b69 =>
  hdI S64 ((⟨B22, 0, Option.none⟩ : Addr).add 3) .i64 fun x70 =>
  hdI S64 ((⟨B1, 0, Option.none⟩ : Addr).add 1) .i64 fun x71 =>
  Calls Try.prog 35 #[.agg #[.slice A65 n65 c65, .int .i64 x66], .int .i64 xa1, .agg #[.int .i64 x67, .slice A68 n68 c68, .bool b69, .int .i64 x70]] w63 fun e72 w73 => ∃ (A74_0 : Option Addr) (n74_0 : Nat) (c74_0 : Nat) (x74_1 : Int), e72 = .returned (.agg #[.slice A74_0 n74_0 c74_0, .int .i64 x74_1]) ∧ (
  S64 w73 ∧ (
  stW w73 (⟨B3, 0, Option.none⟩ : Addr) (.slice A74_0 n74_0 c74_0) fun w75 =>
  stW w75 ((⟨B3, 0, Option.none⟩ : Addr).add 1) (.int .i64 x74_1) fun w76 =>
  S64 w76 ∧ (
  ldS w76 (⟨B3, 0, Option.none⟩ : Addr) fun A77 n77 c77 =>
  ldI w76 ((⟨B3, 0, Option.none⟩ : Addr).add 1) .i64 fun x78 =>
  Q (.returned (.tuple #[.agg #[.slice A77 n77 c77, .int .i64 x78], .int .i64 x71, .int .i64 (0 : Int)])) w76))))))))
def D : Nat → Option DH := dtab [(9, .held [.fst 0, .fst 1, .fst 2, .fst 4, .fst 5, .eff 3, .eff 6] [.fst 7, .fst 8]), (12, .held [.fst 0, .fst 1, .fst 2, .fst 4, .fst 5, .eff 3, .eff 6] [.fst 7, .fst 8])]
def tb : List (List Nat × Spec) := []
theorem wp_eq (Aa0_0 : Option Addr) (na0_0 : Nat) (ca0_0 : Nat) (xa0_1 : Int) (xa1 : Int) (w : World) (Q : Ending → World → Prop) :
    wp Aa0_0 na0_0 ca0_0 xa0_1 xa1 w Q = codeW Try.prog hT 53 D (tab tb) [] body (topQ Try.prog hT 53 [.cell 4 28, .tmp 5, .tmp 6] Q) (argsF [.agg #[.slice Aa0_0 na0_0 ca0_0, .int .i64 xa0_1], .int .i64 xa1]) w := by kernel_rfl
theorem ok (Aa0_0 : Option Addr) (na0_0 : Nat) (ca0_0 : Nat) (xa0_1 : Int) (xa1 : Int) (w : World) (Q : Ending → World → Prop) (h : wp Aa0_0 na0_0 ca0_0 xa0_1 xa1 w Q) : Calls Try.prog 27 #[.agg #[.slice Aa0_0 na0_0 ca0_0, .int .i64 xa0_1], .int .i64 xa1] w Q := by
  rw [wp_eq] at h
  exact calls_of_codeW (c := body) (rs := [.cell 4 28, .tmp 5, .tmp 6]) Try.func27 (by kernel_rfl) (by kernel_rfl) (by kernel_rfl) (by kernel_rfl) (by kernel_rfl) (tab_snd (by
    intro x hx
    simp only [tb, List.not_mem_nil] at hx
    )) (by kernel_rfl) h
end f_ref14_Commit
namespace f_ref14_Abort
/-! skein/skeinref14.Abort: function 28 -/
noncomputable def body : Code := (Try.f28.body).getD .skip
def wp (Aa0_0 : Option Addr) (na0_0 : Nat) (ca0_0 : Nat) (xa0_1 : Int) (xa1 : Int) (w : World) (Q : Ending → World → Prop) : Prop :=
  alW w (.cells #[.slice Aa0_0 na0_0 ca0_0, .int .i64 xa0_1] 28) fun B1 w2 =>
  alW w2 (.cells #[.slice none 0 0, .int .i64 (0 : Int)] 28) fun B3 w4 =>
  ldS w4 (⟨B1, 0, Option.none⟩ : Addr) fun A5 n5 c5 =>
  ldI w4 ((⟨B1, 0, Option.none⟩ : Addr).add 1) .i64 fun x6 =>
  Calls Try.prog 30 #[.agg #[.slice A5 n5 c5, .int .i64 x6], .int .i64 xa1] w4 fun e7 w8 => ∃ (b9 : Bool), e7 = .returned (.bool b9) ∧ (
  sel (!b9) (
  ldS w8 (⟨B1, 0, Option.none⟩ : Addr) fun A10 n10 c10 =>
  ldI w8 ((⟨B1, 0, Option.none⟩ : Addr).add 1) .i64 fun x11 =>
  stW w8 (⟨B3, 0, Option.none⟩ : Addr) (.slice A10 n10 c10) fun w12 =>
  stW w12 ((⟨B3, 0, Option.none⟩ : Addr).add 1) (.int .i64 x11) fun w13 =>
  ldS w13 (⟨B3, 0, Option.none⟩ : Addr) fun A14 n14 c14 =>
  ldI w13 ((⟨B3, 0, Option.none⟩ : Addr).add 1) .i64 fun x15 =>
  Q (.returned (.tuple #[.agg #[.slice A14 n14 c14, .int .i64 x15], .int .i64 (141 : Int)])) w13) (
  ldS w8 (⟨B1, 0, Option.none⟩ : Addr) fun A16 n16 c16 =>
  optB A16 fun a17 =>
  req (decide (0 ≤ (IntKind.i64.wrap (xa1 - (1 : Int))) ∧ (IntKind.i64.wrap (xa1 - (1 : Int))) < (n16 : Int))) <|
  ldI w8 (a17.add ((IntKind.i64.wrap (xa1 - (1 : Int))).toNat * 4)) .i64 fun x18 =>
  ldS w8 ((a17.add ((IntKind.i64.wrap (xa1 - (1 : Int))).toNat * 4)).add 1) fun A19 n19 c19 =>
  ldB w8 ((a17.add ((IntKind.i64.wrap (xa1 - (1 : Int))).toNat * 4)).add 2) fun b20 =>
  ldI w8 ((a17.add ((IntKind.i64.wrap (xa1 - (1 : Int))).toNat * 4)).add 3) .i64 fun x21 =>
  alW w8 (.cells #[.int .i64 (0 : Int), .slice none 0 0, .bool false, .int .i64 (0 : Int)] 73) fun B22 w23 =>
  stW w23 (⟨B22, 0, Option.none⟩ : Addr) (.int .i64 x18) fun w24 =>
  stW w24 ((⟨B22, 0, Option.none⟩ : Addr).add 1) (.slice A19 n19 c19) fun w25 =>
  stW w25 ((⟨B22, 0, Option.none⟩ : Addr).add 2) (.bool b20) fun w26 =>
  stW w26 ((⟨B22, 0, Option.none⟩ : Addr).add 3) (.int .i64 x21) fun w27 =>
  stW w27 ((⟨B22, 0, Option.none⟩ : Addr).add 2) (.bool false) fun w28 =>
  ldS w28 (⟨B1, 0, Option.none⟩ : Addr) fun A29 n29 c29 =>
  ldI w28 ((⟨B1, 0, Option.none⟩ : Addr).add 1) .i64 fun x30 =>
  ldI w28 (⟨B22, 0, Option.none⟩ : Addr) .i64 fun x31 =>
  ldS w28 ((⟨B22, 0, Option.none⟩ : Addr).add 1) fun A32 n32 c32 =>
  ldB w28 ((⟨B22, 0, Option.none⟩ : Addr).add 2) fun b33 =>
  ldI w28 ((⟨B22, 0, Option.none⟩ : Addr).add 3) .i64 fun x34 =>
  Calls Try.prog 35 #[.agg #[.slice A29 n29 c29, .int .i64 x30], .int .i64 xa1, .agg #[.int .i64 x31, .slice A32 n32 c32, .bool b33, .int .i64 x34]] w28 fun e35 w36 => ∃ (A37_0 : Option Addr) (n37_0 : Nat) (c37_0 : Nat) (x37_1 : Int), e35 = .returned (.agg #[.slice A37_0 n37_0 c37_0, .int .i64 x37_1]) ∧ (
  stW w36 (⟨B3, 0, Option.none⟩ : Addr) (.slice A37_0 n37_0 c37_0) fun w38 =>
  stW w38 ((⟨B3, 0, Option.none⟩ : Addr).add 1) (.int .i64 x37_1) fun w39 =>
  ldS w39 (⟨B3, 0, Option.none⟩ : Addr) fun A40 n40 c40 =>
  ldI w39 ((⟨B3, 0, Option.none⟩ : Addr).add 1) .i64 fun x41 =>
  Q (.returned (.tuple #[.agg #[.slice A40 n40 c40, .int .i64 x41], .int .i64 (0 : Int)])) w39)))
def D : Nat → Option DH := dtab []
def tb : List (List Nat × Spec) := []
theorem wp_eq (Aa0_0 : Option Addr) (na0_0 : Nat) (ca0_0 : Nat) (xa0_1 : Int) (xa1 : Int) (w : World) (Q : Ending → World → Prop) :
    wp Aa0_0 na0_0 ca0_0 xa0_1 xa1 w Q = codeW Try.prog hT 23 D (tab tb) [] body (topQ Try.prog hT 23 [.cell 4 28, .tmp 5] Q) (argsF [.agg #[.slice Aa0_0 na0_0 ca0_0, .int .i64 xa0_1], .int .i64 xa1]) w := by kernel_rfl
theorem ok (Aa0_0 : Option Addr) (na0_0 : Nat) (ca0_0 : Nat) (xa0_1 : Int) (xa1 : Int) (w : World) (Q : Ending → World → Prop) (h : wp Aa0_0 na0_0 ca0_0 xa0_1 xa1 w Q) : Calls Try.prog 28 #[.agg #[.slice Aa0_0 na0_0 ca0_0, .int .i64 xa0_1], .int .i64 xa1] w Q := by
  rw [wp_eq] at h
  exact calls_of_codeW (c := body) (rs := [.cell 4 28, .tmp 5]) Try.func28 (by kernel_rfl) (by kernel_rfl) (by kernel_rfl) (by kernel_rfl) (by kernel_rfl) (tab_snd (by
    intro x hx
    simp only [tb, List.not_mem_nil] at hx
    )) (by kernel_rfl) h
end f_ref14_Abort
namespace f_ref14_Try
/-! skein/skeinref14.Try: function 29 -/
noncomputable def body : Code := (Try.f29.body).getD .skip
def l0 : Nat → Addr → Addr → Int → World → (World → Prop) → (Int → World → Prop) → Prop
  | 0, _, _, _, _, _, _ => False
  | k + 1, at2, at5, xt6, w, K0, Kr =>
    ldS w at2 fun A20 n20 c20 =>
    sel (decide (xt6 < (n20 : Int))) (
    drW w fun w21 =>
    ldS w21 at2 fun A23 n23 c23 =>
    optB A23 fun a24 =>
    req (decide (0 ≤ xt6 ∧ xt6 < (n23 : Int))) <|
    ldI w21 ((a24.add (xt6.toNat * 4)).add 3) .i64 fun x25 =>
    ldI w21 at5 .i64 fun x26 =>
    sel (decide (x25 > x26)) (
    ldS w21 at2 fun A27 n27 c27 =>
    optB A27 fun a28 =>
    req (decide (0 ≤ xt6 ∧ xt6 < (n27 : Int))) <|
    ldS w21 ((a28.add (xt6.toNat * 4)).add 1) fun A29 n29 c29 =>
    ldS w21 (at5.add 1) fun A30 n30 c30 =>
    Calls Try.prog 36 #[.slice A29 n29 c29, .slice A30 n30 c30] w21 fun e31 w32 => ∃ (b33 : Bool), e31 = .returned (.bool b33) ∧ (
    sel b33 (
    Kr (140 : Int) w32) (
    l0 k at2 at5 (IntKind.i64.wrap (xt6 + (1 : Int))) w32 K0 Kr))) (
    l0 k at2 at5 (IntKind.i64.wrap (xt6 + (1 : Int))) w21 K0 Kr)) (
    K0  w)
def wp (Aa0_0 : Option Addr) (na0_0 : Nat) (ca0_0 : Nat) (xa0_1 : Int) (xa1 : Int) (w : World) (Q : Ending → World → Prop) : Prop :=
  alW w (.cells #[.slice Aa0_0 na0_0 ca0_0, .int .i64 xa0_1] 28) fun B1 w2 =>
  ldS w2 (⟨B1, 0, Option.none⟩ : Addr) fun A3 n3 c3 =>
  ldI w2 ((⟨B1, 0, Option.none⟩ : Addr).add 1) .i64 fun x4 =>
  Calls Try.prog 30 #[.agg #[.slice A3 n3 c3, .int .i64 x4], .int .i64 xa1] w2 fun e5 w6 => ∃ (b7 : Bool), e5 = .returned (.bool b7) ∧ (
  sel (!b7) (
  Q (.returned (.int .i64 (141 : Int))) w6) (
  ldS w6 (⟨B1, 0, Option.none⟩ : Addr) fun A8 n8 c8 =>
  optB A8 fun a9 =>
  req (decide (0 ≤ (IntKind.i64.wrap (xa1 - (1 : Int))) ∧ (IntKind.i64.wrap (xa1 - (1 : Int))) < (n8 : Int))) <|
  ldI w6 (a9.add ((IntKind.i64.wrap (xa1 - (1 : Int))).toNat * 4)) .i64 fun x10 =>
  ldS w6 ((a9.add ((IntKind.i64.wrap (xa1 - (1 : Int))).toNat * 4)).add 1) fun A11 n11 c11 =>
  ldB w6 ((a9.add ((IntKind.i64.wrap (xa1 - (1 : Int))).toNat * 4)).add 2) fun b12 =>
  ldI w6 ((a9.add ((IntKind.i64.wrap (xa1 - (1 : Int))).toNat * 4)).add 3) .i64 fun x13 =>
  alW w6 (.cells #[.int .i64 (0 : Int), .slice none 0 0, .bool false, .int .i64 (0 : Int)] 73) fun B14 w15 =>
  stW w15 (⟨B14, 0, Option.none⟩ : Addr) (.int .i64 x10) fun w16 =>
  stW w16 ((⟨B14, 0, Option.none⟩ : Addr).add 1) (.slice A11 n11 c11) fun w17 =>
  stW w17 ((⟨B14, 0, Option.none⟩ : Addr).add 2) (.bool b12) fun w18 =>
  stW w18 ((⟨B14, 0, Option.none⟩ : Addr).add 3) (.int .i64 x13) fun w19 =>
  ∃ k39 : Nat, l0 k39 (⟨B1, 0, Option.none⟩ : Addr) (⟨B14, 0, Option.none⟩ : Addr) (0 : Int) w19 (fun (w34 : World) => ∀ _ : Fr,
  ldS w34 ((⟨B14, 0, Option.none⟩ : Addr).add 1) fun A35 n35 c35 =>
  sel (decide ((n35 : Int) > (0 : Int))) (
  ldI w34 ((⟨B1, 0, Option.none⟩ : Addr).add 1) .i64 fun x36 =>
  sel (decide (x36 ≥ (1099511627776 : Int))) (
  Q (.returned (.int .i64 (4 : Int))) w34) (
  Q (.returned (.int .i64 (0 : Int))) w34)) (
  Q (.returned (.int .i64 (0 : Int))) w34)) (fun (x37 : Int) (w38 : World) => ∀ _ : Fr,
  Q (.returned (.int .i64 x37)) w38)))
def D : Nat → Option DH := dtab [(7, .simple [.fst 0, .fst 1, .fst 2, .fst 3, .fst 4, .fst 5, .fst 6, .fst 7, .fst 8, .fst 9, .fst 10, .fst 11, .fst 12, .fst 13, .fst 14, .fst 15, .fst 16, .fst 17] [.eff 18, .fst 19])]
def l0LO : LO := ⟨[], [4], [(0, [2, 5])], []⟩
def l0Tk (k : Nat) : Spec := fun Q σ w =>
  gAd (σ 2) fun at2 =>
  gAd (σ 5) fun at5 =>
  gInt .i64 (σ 6) fun xt6 =>
  l0 k at2 at5 xt6 w (fun (w : World) => ∀ d : Fr, Q (.exit 0) (ov d [(2, .pointer (some at2)), (5, .pointer (some at5))]) w) (fun (xq4 : Int) (w : World) => ∀ d : Fr, Q .ret (ov d [(4, .int .i64 xq4)]) w)
def l0T : Spec := fun Q σ w => ∃ k, l0Tk k Q σ w
def l0tb : List (List Nat × Spec) := []
noncomputable def l0b : Code := (subC [0, 0, 1, 0, 1, 1, 1] body).getD .skip
theorem l0_eq (k : Nat) (at2 : Addr) (at5 : Addr) (xt6 : Int) (Q : PQ) (σ : Fr) (w : World) :
    l0 (k + 1) at2 at5 xt6 w (fun (w : World) => ∀ d : Fr, Q (.exit 0) (ov d [(2, .pointer (some at2)), (5, .pointer (some at5))]) w) (fun (xq4 : Int) (w : World) => ∀ d : Fr, Q .ret (ov d [(4, .int .i64 xq4)]) w) = codeW Try.prog hT 53 D (tab l0tb) [0, 0, 1, 0, 1, 1, 1] l0b (thenQ (l0Tk k Q) (widen l0LO Q)) (ov σ [(2, .pointer (some at2)), (5, .pointer (some at5)), (6, .int .i64 xt6)]) w := by kernel_rfl
theorem l0_snd : ∀ c, subC [0, 1, 0, 1, 1, 1] body = some c → Snd Try.prog 53 c l0T := by
  refine loop_of (hT := hT) (D := D) (l := l0tb) (b := l0b) (lo := l0LO) (by kernel_rfl) (by
    intro x hx
    simp only [l0tb, List.not_mem_nil] at hx
    ) (by kernel_rfl) (by kernel_rfl) ?_ ?_
  · intro Q σ w h
    unfold l0Tk at h
    obtain ⟨at2, h2, hn⟩ := gAd_elim h
    clear h
    have h := hn
    clear hn
    obtain ⟨at5, h5, hn⟩ := gAd_elim h
    clear h
    have h := hn
    clear hn
    obtain ⟨xt6, h6, hn⟩ := gInt_elim h
    clear h
    have h := hn
    clear hn
    exact h
  · intro k Q σ w h
    unfold l0Tk at h
    obtain ⟨at2, h2, hn⟩ := gAd_elim h
    clear h
    have h := hn
    clear hn
    obtain ⟨at5, h5, hn⟩ := gAd_elim h
    clear h
    have h := hn
    clear hn
    obtain ⟨xt6, h6, hn⟩ := gInt_elim h
    clear h
    have h := hn
    clear hn
    rw [l0_eq (σ := σ)] at h
    have e : (ov σ [(2, .pointer (some at2)), (5, .pointer (some at5)), (6, .int .i64 xt6)]) = σ := ov_self (by simp [h2, h5, h6])
    rw [e] at h
    exact h
def tb : List (List Nat × Spec) := [([0, 1, 0, 1, 1, 1], l0T)]
theorem wp_eq (Aa0_0 : Option Addr) (na0_0 : Nat) (ca0_0 : Nat) (xa0_1 : Int) (xa1 : Int) (w : World) (Q : Ending → World → Prop) :
    wp Aa0_0 na0_0 ca0_0 xa0_1 xa1 w Q = codeW Try.prog hT 53 D (tab tb) [] body (topQ Try.prog hT 53 [.tmp 4] Q) (argsF [.agg #[.slice Aa0_0 na0_0 ca0_0, .int .i64 xa0_1], .int .i64 xa1]) w := by kernel_rfl
theorem ok (Aa0_0 : Option Addr) (na0_0 : Nat) (ca0_0 : Nat) (xa0_1 : Int) (xa1 : Int) (w : World) (Q : Ending → World → Prop) (h : wp Aa0_0 na0_0 ca0_0 xa0_1 xa1 w Q) : Calls Try.prog 29 #[.agg #[.slice Aa0_0 na0_0 ca0_0, .int .i64 xa0_1], .int .i64 xa1] w Q := by
  rw [wp_eq] at h
  exact calls_of_codeW (c := body) (rs := [.tmp 4]) Try.func29 (by kernel_rfl) (by kernel_rfl) (by kernel_rfl) (by kernel_rfl) (by kernel_rfl) (tab_snd (by
    intro x hx
    simp only [tb, List.mem_cons, List.not_mem_nil, or_false] at hx
    subst hx
    exact l0_snd)) (by kernel_rfl) h
end f_ref14_Try
namespace f_ref14_Is
/-! skein/skeinref14.Is: function 30 -/
noncomputable def body : Code := (Try.f30.body).getD .skip
def wp (Aa0_0 : Option Addr) (na0_0 : Nat) (ca0_0 : Nat) (xa0_1 : Int) (xa1 : Int) (w : World) (Q : Ending → World → Prop) : Prop :=
  alW w (.cells #[.slice Aa0_0 na0_0 ca0_0, .int .i64 xa0_1] 28) fun B1 w2 =>
  sel (decide (xa1 ≥ (1 : Int))) (
  ldS w2 (⟨B1, 0, Option.none⟩ : Addr) fun A3 n3 c3 =>
  sel (decide (xa1 ≤ (n3 : Int))) (
  ldS w2 (⟨B1, 0, Option.none⟩ : Addr) fun A4 n4 c4 =>
  optB A4 fun a5 =>
  req (decide (0 ≤ (IntKind.i64.wrap (xa1 - (1 : Int))) ∧ (IntKind.i64.wrap (xa1 - (1 : Int))) < (n4 : Int))) <|
  ldB w2 ((a5.add ((IntKind.i64.wrap (xa1 - (1 : Int))).toNat * 4)).add 2) fun b6 =>
  Q (.returned (.bool b6)) w2) (
  Q (.returned (.bool false)) w2)) (
  Q (.returned (.bool false)) w2)
def D : Nat → Option DH := dtab []
def tb : List (List Nat × Spec) := []
theorem wp_eq (Aa0_0 : Option Addr) (na0_0 : Nat) (ca0_0 : Nat) (xa0_1 : Int) (xa1 : Int) (w : World) (Q : Ending → World → Prop) :
    wp Aa0_0 na0_0 ca0_0 xa0_1 xa1 w Q = codeW Try.prog hT 23 D (tab tb) [] body (topQ Try.prog hT 23 [.tmp 4] Q) (argsF [.agg #[.slice Aa0_0 na0_0 ca0_0, .int .i64 xa0_1], .int .i64 xa1]) w := by kernel_rfl
theorem ok (Aa0_0 : Option Addr) (na0_0 : Nat) (ca0_0 : Nat) (xa0_1 : Int) (xa1 : Int) (w : World) (Q : Ending → World → Prop) (h : wp Aa0_0 na0_0 ca0_0 xa0_1 xa1 w Q) : Calls Try.prog 30 #[.agg #[.slice Aa0_0 na0_0 ca0_0, .int .i64 xa0_1], .int .i64 xa1] w Q := by
  rw [wp_eq] at h
  exact calls_of_codeW (c := body) (rs := [.tmp 4]) Try.func30 (by kernel_rfl) (by kernel_rfl) (by kernel_rfl) (by kernel_rfl) (by kernel_rfl) (tab_snd (by
    intro x hx
    simp only [tb, List.not_mem_nil] at hx
    )) (by kernel_rfl) h
end f_ref14_Is
namespace f_ref14_put
/-! skein/skeinref14.put: function 35 -/
noncomputable def body : Code := (Try.f35.body).getD .skip
def l0 : Nat → Int → Addr → Addr → Option Addr → Nat → Nat → Int → World → ((Option Addr) → Nat → Nat → World → Prop) → Prop
  | 0, _, _, _, _, _, _, _, _, _ => False
  | k + 1, xt1, at3, at5, At7, nt7, ct7, xt8, w, K0 =>
    ldS w at3 fun A9 n9 c9 =>
    sel (decide (xt8 < (n9 : Int))) (
    sel (xt8 == (IntKind.i64.wrap (xt1 - (1 : Int)))) (
    ldI w at5 .i64 fun x10 =>
    ldS w (at5.add 1) fun A11 n11 c11 =>
    ldB w (at5.add 2) fun b12 =>
    ldI w (at5.add 3) .i64 fun x13 =>
    alW w (.cells #[.int .i64 x10, .slice A11 n11 c11, .bool b12, .int .i64 x13] 73) fun B14 w15 =>
    Runs Try.prog (Builtin.append_ #[26, 26] 26 #[.slice At7 nt7 ct7, .slice (some (⟨B14, 0, Option.none⟩ : Addr)) 1 1]) w15 fun v17 w16 => ∃ (A18 : Option Addr) (n18 : Nat) (c18 : Nat), v17 = (.slice A18 n18 c18) ∧ (
    l0 k xt1 at3 at5 A18 n18 c18 (IntKind.i64.wrap (xt8 + (1 : Int))) w16 K0)) (
    ldS w at3 fun A19 n19 c19 =>
    optB A19 fun a20 =>
    req (decide (0 ≤ xt8 ∧ xt8 < (n19 : Int))) <|
    ldI w (a20.add (xt8.toNat * 4)) .i64 fun x21 =>
    ldS w ((a20.add (xt8.toNat * 4)).add 1) fun A22 n22 c22 =>
    ldB w ((a20.add (xt8.toNat * 4)).add 2) fun b23 =>
    ldI w ((a20.add (xt8.toNat * 4)).add 3) .i64 fun x24 =>
    alW w (.cells #[.int .i64 x21, .slice A22 n22 c22, .bool b23, .int .i64 x24] 73) fun B25 w26 =>
    Runs Try.prog (Builtin.append_ #[26, 26] 26 #[.slice At7 nt7 ct7, .slice (some (⟨B25, 0, Option.none⟩ : Addr)) 1 1]) w26 fun v28 w27 => ∃ (A29 : Option Addr) (n29 : Nat) (c29 : Nat), v28 = (.slice A29 n29 c29) ∧ (
    l0 k xt1 at3 at5 A29 n29 c29 (IntKind.i64.wrap (xt8 + (1 : Int))) w27 K0))) (
    K0 At7 nt7 ct7 w)
def wp (Aa0_0 : Option Addr) (na0_0 : Nat) (ca0_0 : Nat) (xa0_1 : Int) (xa1 : Int) (xa2_0 : Int) (Aa2_1 : Option Addr) (na2_1 : Nat) (ca2_1 : Nat) (ba2_2 : Bool) (xa2_3 : Int) (w : World) (Q : Ending → World → Prop) : Prop :=
  alW w (.cells #[.slice Aa0_0 na0_0 ca0_0, .int .i64 xa0_1] 28) fun B1 w2 =>
  alW w2 (.cells #[.int .i64 xa2_0, .slice Aa2_1 na2_1 ca2_1, .bool ba2_2, .int .i64 xa2_3] 73) fun B3 w4 =>
  alW w4 (.cells #[.slice none 0 0, .int .i64 (0 : Int)] 28) fun B5 w6 =>
  alW w6 (.cells #[] 73) fun B7 w8 =>
  ∃ k39 : Nat, l0 k39 xa1 (⟨B1, 0, Option.none⟩ : Addr) (⟨B3, 0, Option.none⟩ : Addr) (some (⟨B7, 0, Option.none⟩ : Addr)) 0 0 (0 : Int) w8 (fun (A30 : Option Addr) (n30 : Nat) (c30 : Nat) (w31 : World) => ∀ _ : Fr,
  stW w31 (⟨B1, 0, Option.none⟩ : Addr) (.slice A30 n30 c30) fun w32 =>
  ldS w32 (⟨B1, 0, Option.none⟩ : Addr) fun A33 n33 c33 =>
  ldI w32 ((⟨B1, 0, Option.none⟩ : Addr).add 1) .i64 fun x34 =>
  stW w32 (⟨B5, 0, Option.none⟩ : Addr) (.slice A33 n33 c33) fun w35 =>
  stW w35 ((⟨B5, 0, Option.none⟩ : Addr).add 1) (.int .i64 x34) fun w36 =>
  ldS w36 (⟨B5, 0, Option.none⟩ : Addr) fun A37 n37 c37 =>
  ldI w36 ((⟨B5, 0, Option.none⟩ : Addr).add 1) .i64 fun x38 =>
  Q (.returned (.agg #[.slice A37 n37 c37, .int .i64 x38])) w36)
def D : Nat → Option DH := dtab []
def l0LO : LO := ⟨[], [], [(0, [3, 6, 7])], []⟩
def l0Tk (k : Nat) : Spec := fun Q σ w =>
  gInt .i64 (σ 1) fun xt1 =>
  gAd (σ 3) fun at3 =>
  gAd (σ 5) fun at5 =>
  gSlice (σ 7) fun At7 nt7 ct7 =>
  gInt .i64 (σ 8) fun xt8 =>
  l0 k xt1 at3 at5 At7 nt7 ct7 xt8 w (fun (Aq7 : Option Addr) (nq7 : Nat) (cq7 : Nat) (w : World) => ∀ d : Fr, Q (.exit 0) (ov d [(3, .pointer (some at3)), (6, σ 6), (7, .slice Aq7 nq7 cq7)]) w)
def l0T : Spec := fun Q σ w => ∃ k, l0Tk k Q σ w
def l0tb : List (List Nat × Spec) := []
noncomputable def l0b : Code := (subC [0, 0, 1, 0, 1, 1] body).getD .skip
theorem l0_eq (k : Nat) (xt1 : Int) (at3 : Addr) (at5 : Addr) (At7 : Option Addr) (nt7 : Nat) (ct7 : Nat) (xt8 : Int) (Q : PQ) (σ : Fr) (w : World) :
    l0 (k + 1) xt1 at3 at5 At7 nt7 ct7 xt8 w (fun (Aq7 : Option Addr) (nq7 : Nat) (cq7 : Nat) (w : World) => ∀ d : Fr, Q (.exit 0) (ov d [(3, .pointer (some at3)), (6, σ 6), (7, .slice Aq7 nq7 cq7)]) w) = codeW Try.prog hT 36 D (tab l0tb) [0, 0, 1, 0, 1, 1] l0b (thenQ (l0Tk k Q) (widen l0LO Q)) (ov σ [(1, .int .i64 xt1), (3, .pointer (some at3)), (5, .pointer (some at5)), (7, .slice At7 nt7 ct7), (8, .int .i64 xt8)]) w := by kernel_rfl
theorem l0_snd : ∀ c, subC [0, 1, 0, 1, 1] body = some c → Snd Try.prog 36 c l0T := by
  refine loop_of (hT := hT) (D := D) (l := l0tb) (b := l0b) (lo := l0LO) (by kernel_rfl) (by
    intro x hx
    simp only [l0tb, List.not_mem_nil] at hx
    ) (by kernel_rfl) (by kernel_rfl) ?_ ?_
  · intro Q σ w h
    unfold l0Tk at h
    obtain ⟨xt1, h1, hn⟩ := gInt_elim h
    clear h
    have h := hn
    clear hn
    obtain ⟨at3, h3, hn⟩ := gAd_elim h
    clear h
    have h := hn
    clear hn
    obtain ⟨at5, h5, hn⟩ := gAd_elim h
    clear h
    have h := hn
    clear hn
    obtain ⟨At7, nt7, ct7, h7, hn⟩ := gSlice_elim h
    clear h
    have h := hn
    clear hn
    obtain ⟨xt8, h8, hn⟩ := gInt_elim h
    clear h
    have h := hn
    clear hn
    exact h
  · intro k Q σ w h
    unfold l0Tk at h
    obtain ⟨xt1, h1, hn⟩ := gInt_elim h
    clear h
    have h := hn
    clear hn
    obtain ⟨at3, h3, hn⟩ := gAd_elim h
    clear h
    have h := hn
    clear hn
    obtain ⟨at5, h5, hn⟩ := gAd_elim h
    clear h
    have h := hn
    clear hn
    obtain ⟨At7, nt7, ct7, h7, hn⟩ := gSlice_elim h
    clear h
    have h := hn
    clear hn
    obtain ⟨xt8, h8, hn⟩ := gInt_elim h
    clear h
    have h := hn
    clear hn
    rw [l0_eq (σ := σ)] at h
    have e : (ov σ [(1, .int .i64 xt1), (3, .pointer (some at3)), (5, .pointer (some at5)), (7, .slice At7 nt7 ct7), (8, .int .i64 xt8)]) = σ := ov_self (by simp [h1, h3, h5, h7, h8])
    rw [e] at h
    exact h
def tb : List (List Nat × Spec) := [([0, 1, 0, 1, 1], l0T)]
theorem wp_eq (Aa0_0 : Option Addr) (na0_0 : Nat) (ca0_0 : Nat) (xa0_1 : Int) (xa1 : Int) (xa2_0 : Int) (Aa2_1 : Option Addr) (na2_1 : Nat) (ca2_1 : Nat) (ba2_2 : Bool) (xa2_3 : Int) (w : World) (Q : Ending → World → Prop) :
    wp Aa0_0 na0_0 ca0_0 xa0_1 xa1 xa2_0 Aa2_1 na2_1 ca2_1 ba2_2 xa2_3 w Q = codeW Try.prog hT 36 D (tab tb) [] body (topQ Try.prog hT 36 [.cell 6 28] Q) (argsF [.agg #[.slice Aa0_0 na0_0 ca0_0, .int .i64 xa0_1], .int .i64 xa1, .agg #[.int .i64 xa2_0, .slice Aa2_1 na2_1 ca2_1, .bool ba2_2, .int .i64 xa2_3]]) w := by cases ba2_2 <;> kernel_rfl
theorem ok (Aa0_0 : Option Addr) (na0_0 : Nat) (ca0_0 : Nat) (xa0_1 : Int) (xa1 : Int) (xa2_0 : Int) (Aa2_1 : Option Addr) (na2_1 : Nat) (ca2_1 : Nat) (ba2_2 : Bool) (xa2_3 : Int) (w : World) (Q : Ending → World → Prop) (h : wp Aa0_0 na0_0 ca0_0 xa0_1 xa1 xa2_0 Aa2_1 na2_1 ca2_1 ba2_2 xa2_3 w Q) : Calls Try.prog 35 #[.agg #[.slice Aa0_0 na0_0 ca0_0, .int .i64 xa0_1], .int .i64 xa1, .agg #[.int .i64 xa2_0, .slice Aa2_1 na2_1 ca2_1, .bool ba2_2, .int .i64 xa2_3]] w Q := by
  rw [wp_eq] at h
  exact calls_of_codeW (c := body) (rs := [.cell 6 28]) Try.func35 (by kernel_rfl) (by kernel_rfl) (by kernel_rfl) (by kernel_rfl) (by kernel_rfl) (tab_snd (by
    intro x hx
    simp only [tb, List.mem_cons, List.not_mem_nil, or_false] at hx
    subst hx
    exact l0_snd)) (by kernel_rfl) h
end f_ref14_put
namespace f_ref14_common
/-! skein/skeinref14.common: function 36 -/
noncomputable def body : Code := (Try.f36.body).getD .skip
def l1 : Nat → Option Addr → Nat → Nat → Option Addr → Nat → Nat → Int → Int → World → (World → Prop) → (Bool → World → Prop) → Prop
  | 0, _, _, _, _, _, _, _, _, _, _, _ => False
  | k + 1, At0, nt0, ct0, At1, nt1, ct1, xt5, xt6, w, K2, Kr =>
    sel (decide (xt6 < (nt1 : Int))) (
    drW w fun w1 =>
    optB At0 fun a3 =>
    req (decide (0 ≤ xt5 ∧ xt5 < (nt0 : Int))) <|
    ldB w1 (a3.add (xt5.toNat * 2)) fun b4 =>
    ldI w1 ((a3.add (xt5.toNat * 2)).add 1) .i64 fun x5 =>
    optB At1 fun a6 =>
    req (decide (0 ≤ xt6 ∧ xt6 < (nt1 : Int))) <|
    ldB w1 (a6.add (xt6.toNat * 2)) fun b7 =>
    ldI w1 ((a6.add (xt6.toNat * 2)).add 1) .i64 fun x8 =>
    sel ((b4 == b7) && ((x5 == x8) && true)) (
    Kr true w1) (
    l1 k At0 nt0 ct0 At1 nt1 ct1 xt5 (IntKind.i64.wrap (xt6 + (1 : Int))) w1 K2 Kr)) (
    K2  w)
def l0 : Nat → Option Addr → Nat → Nat → Option Addr → Nat → Nat → Int → World → (World → Prop) → (Bool → World → Prop) → Prop
  | 0, _, _, _, _, _, _, _, _, _, _ => False
  | k + 1, At0, nt0, ct0, At1, nt1, ct1, xt5, w, K0, Kr =>
    sel (decide (xt5 < (nt0 : Int))) (
    ∃ k12 : Nat, l1 k12 At0 nt0 ct0 At1 nt1 ct1 xt5 (0 : Int) w (fun (w9 : World) => ∀ _ : Fr,
    l0 k At0 nt0 ct0 At1 nt1 ct1 (IntKind.i64.wrap (xt5 + (1 : Int))) w9 K0 Kr) (fun (b10 : Bool) (w11 : World) => ∀ _ : Fr,
    Kr b10 w11)) (
    K0  w)
def wp (Aa0 : Option Addr) (na0 : Nat) (ca0 : Nat) (Aa1 : Option Addr) (na1 : Nat) (ca1 : Nat) (w : World) (Q : Ending → World → Prop) : Prop :=
  ∃ k16 : Nat, l0 k16 Aa0 na0 ca0 Aa1 na1 ca1 (0 : Int) w (fun (w13 : World) => ∀ _ : Fr,
  Q (.returned (.bool false)) w13) (fun (b14 : Bool) (w15 : World) => ∀ _ : Fr,
  Q (.returned (.bool b14)) w15)
def D : Nat → Option DH := dtab [(7, .simple [.fst 0, .fst 1, .fst 2, .fst 3, .fst 4, .fst 5, .fst 6, .fst 7] [.fst 8])]
def l1LO : LO := ⟨[], [4], [(2, [0, 1, 5])], []⟩
def l1Tk (k : Nat) : Spec := fun Q σ w =>
  gSlice (σ 0) fun At0 nt0 ct0 =>
  gSlice (σ 1) fun At1 nt1 ct1 =>
  gInt .i64 (σ 5) fun xt5 =>
  gInt .i64 (σ 6) fun xt6 =>
  l1 k At0 nt0 ct0 At1 nt1 ct1 xt5 xt6 w (fun (w : World) => ∀ d : Fr, Q (.exit 2) (ov d [(0, .slice At0 nt0 ct0), (1, .slice At1 nt1 ct1), (5, .int .i64 xt5)]) w) (fun (bq4 : Bool) (w : World) => ∀ d : Fr, Q .ret (ov d [(4, .bool bq4)]) w)
def l1T : Spec := fun Q σ w => ∃ k, l1Tk k Q σ w
def l1tb : List (List Nat × Spec) := []
noncomputable def l1b : Code := (subC [0, 0, 1, 0, 0, 1, 0, 0, 1, 0, 1] body).getD .skip
theorem l1_eq (k : Nat) (At0 : Option Addr) (nt0 : Nat) (ct0 : Nat) (At1 : Option Addr) (nt1 : Nat) (ct1 : Nat) (xt5 : Int) (xt6 : Int) (Q : PQ) (σ : Fr) (w : World) :
    l1 (k + 1) At0 nt0 ct0 At1 nt1 ct1 xt5 xt6 w (fun (w : World) => ∀ d : Fr, Q (.exit 2) (ov d [(0, .slice At0 nt0 ct0), (1, .slice At1 nt1 ct1), (5, .int .i64 xt5)]) w) (fun (bq4 : Bool) (w : World) => ∀ d : Fr, Q .ret (ov d [(4, .bool bq4)]) w) = codeW Try.prog hT 28 D (tab l1tb) [0, 0, 1, 0, 0, 1, 0, 0, 1, 0, 1] l1b (thenQ (l1Tk k Q) (widen l1LO Q)) (ov σ [(0, .slice At0 nt0 ct0), (1, .slice At1 nt1 ct1), (5, .int .i64 xt5), (6, .int .i64 xt6)]) w := by kernel_rfl
theorem l1_snd : ∀ c, subC [0, 1, 0, 0, 1, 0, 0, 1, 0, 1] body = some c → Snd Try.prog 28 c l1T := by
  refine loop_of (hT := hT) (D := D) (l := l1tb) (b := l1b) (lo := l1LO) (by kernel_rfl) (by
    intro x hx
    simp only [l1tb, List.not_mem_nil] at hx
    ) (by kernel_rfl) (by kernel_rfl) ?_ ?_
  · intro Q σ w h
    unfold l1Tk at h
    obtain ⟨At0, nt0, ct0, h0, hn⟩ := gSlice_elim h
    clear h
    have h := hn
    clear hn
    obtain ⟨At1, nt1, ct1, h1, hn⟩ := gSlice_elim h
    clear h
    have h := hn
    clear hn
    obtain ⟨xt5, h5, hn⟩ := gInt_elim h
    clear h
    have h := hn
    clear hn
    obtain ⟨xt6, h6, hn⟩ := gInt_elim h
    clear h
    have h := hn
    clear hn
    exact h
  · intro k Q σ w h
    unfold l1Tk at h
    obtain ⟨At0, nt0, ct0, h0, hn⟩ := gSlice_elim h
    clear h
    have h := hn
    clear hn
    obtain ⟨At1, nt1, ct1, h1, hn⟩ := gSlice_elim h
    clear h
    have h := hn
    clear hn
    obtain ⟨xt5, h5, hn⟩ := gInt_elim h
    clear h
    have h := hn
    clear hn
    obtain ⟨xt6, h6, hn⟩ := gInt_elim h
    clear h
    have h := hn
    clear hn
    rw [l1_eq (σ := σ)] at h
    have e : (ov σ [(0, .slice At0 nt0 ct0), (1, .slice At1 nt1 ct1), (5, .int .i64 xt5), (6, .int .i64 xt6)]) = σ := ov_self (by simp [h0, h1, h5, h6])
    rw [e] at h
    exact h
def l0LO : LO := ⟨[], [4], [(0, [])], []⟩
def l0Tk (k : Nat) : Spec := fun Q σ w =>
  gSlice (σ 0) fun At0 nt0 ct0 =>
  gSlice (σ 1) fun At1 nt1 ct1 =>
  gInt .i64 (σ 5) fun xt5 =>
  l0 k At0 nt0 ct0 At1 nt1 ct1 xt5 w (fun (w : World) => ∀ d : Fr, Q (.exit 0) (ov d []) w) (fun (bq4 : Bool) (w : World) => ∀ d : Fr, Q .ret (ov d [(4, .bool bq4)]) w)
def l0T : Spec := fun Q σ w => ∃ k, l0Tk k Q σ w
def l0tb : List (List Nat × Spec) := [([0, 1, 0, 0, 1, 0, 0, 1, 0, 1], l1T)]
noncomputable def l0b : Code := (subC [0, 0, 1, 0, 1] body).getD .skip
theorem l0_eq (k : Nat) (At0 : Option Addr) (nt0 : Nat) (ct0 : Nat) (At1 : Option Addr) (nt1 : Nat) (ct1 : Nat) (xt5 : Int) (Q : PQ) (σ : Fr) (w : World) :
    l0 (k + 1) At0 nt0 ct0 At1 nt1 ct1 xt5 w (fun (w : World) => ∀ d : Fr, Q (.exit 0) (ov d []) w) (fun (bq4 : Bool) (w : World) => ∀ d : Fr, Q .ret (ov d [(4, .bool bq4)]) w) = codeW Try.prog hT 28 D (tab l0tb) [0, 0, 1, 0, 1] l0b (thenQ (l0Tk k Q) (widen l0LO Q)) (ov σ [(0, .slice At0 nt0 ct0), (1, .slice At1 nt1 ct1), (5, .int .i64 xt5)]) w := by kernel_rfl
theorem l0_snd : ∀ c, subC [0, 1, 0, 1] body = some c → Snd Try.prog 28 c l0T := by
  refine loop_of (hT := hT) (D := D) (l := l0tb) (b := l0b) (lo := l0LO) (by kernel_rfl) (by
    intro x hx
    simp only [l0tb, List.mem_cons, List.not_mem_nil, or_false] at hx
    subst hx
    exact l1_snd) (by kernel_rfl) (by kernel_rfl) ?_ ?_
  · intro Q σ w h
    unfold l0Tk at h
    obtain ⟨At0, nt0, ct0, h0, hn⟩ := gSlice_elim h
    clear h
    have h := hn
    clear hn
    obtain ⟨At1, nt1, ct1, h1, hn⟩ := gSlice_elim h
    clear h
    have h := hn
    clear hn
    obtain ⟨xt5, h5, hn⟩ := gInt_elim h
    clear h
    have h := hn
    clear hn
    exact h
  · intro k Q σ w h
    unfold l0Tk at h
    obtain ⟨At0, nt0, ct0, h0, hn⟩ := gSlice_elim h
    clear h
    have h := hn
    clear hn
    obtain ⟨At1, nt1, ct1, h1, hn⟩ := gSlice_elim h
    clear h
    have h := hn
    clear hn
    obtain ⟨xt5, h5, hn⟩ := gInt_elim h
    clear h
    have h := hn
    clear hn
    rw [l0_eq (σ := σ)] at h
    have e : (ov σ [(0, .slice At0 nt0 ct0), (1, .slice At1 nt1 ct1), (5, .int .i64 xt5)]) = σ := ov_self (by simp [h0, h1, h5])
    rw [e] at h
    exact h
def tb : List (List Nat × Spec) := [([0, 1, 0, 0, 1, 0, 0, 1, 0, 1], l1T), ([0, 1, 0, 1], l0T)]
theorem wp_eq (Aa0 : Option Addr) (na0 : Nat) (ca0 : Nat) (Aa1 : Option Addr) (na1 : Nat) (ca1 : Nat) (w : World) (Q : Ending → World → Prop) :
    wp Aa0 na0 ca0 Aa1 na1 ca1 w Q = codeW Try.prog hT 28 D (tab tb) [] body (topQ Try.prog hT 28 [.tmp 4] Q) (argsF [.slice Aa0 na0 ca0, .slice Aa1 na1 ca1]) w := by kernel_rfl
theorem ok (Aa0 : Option Addr) (na0 : Nat) (ca0 : Nat) (Aa1 : Option Addr) (na1 : Nat) (ca1 : Nat) (w : World) (Q : Ending → World → Prop) (h : wp Aa0 na0 ca0 Aa1 na1 ca1 w Q) : Calls Try.prog 36 #[.slice Aa0 na0 ca0, .slice Aa1 na1 ca1] w Q := by
  rw [wp_eq] at h
  exact calls_of_codeW (c := body) (rs := [.tmp 4]) Try.func36 (by kernel_rfl) (by kernel_rfl) (by kernel_rfl) (by kernel_rfl) (by kernel_rfl) (tab_snd (by
    intro x hx
    simp only [tb, List.mem_cons, List.not_mem_nil, or_false] at hx
    rcases hx with rfl | rfl
    · exact l1_snd
    · exact l0_snd)) (by kernel_rfl) h
end f_ref14_common
namespace f_law14_asks
/-! skein/skeinlaw14.asks: function 11 -/
noncomputable def body : Code := (Try.f11.body).getD .skip
def l0 : Nat → Addr → Addr → Addr → Option Addr → Nat → Nat → Int → Int → World → (World → Prop) → (Bool → World → Prop) → Prop
  | 0, _, _, _, _, _, _, _, _, _, _, _ => False
  | k + 1, at4, at5, at6, At13, nt13, ct13, xt65, xt66, w, K1, Kr =>
    sel (decide (xt66 < xt65)) (
    drW w fun w40 =>
    optB At13 fun a42 =>
    req (decide (0 ≤ xt66 ∧ xt66 < (nt13 : Int))) <|
    ldB w40 (a42.add (xt66.toNat * 2)) fun b43 =>
    ldI w40 ((a42.add (xt66.toNat * 2)).add 1) .i64 fun x44 =>
    ldS w40 (at5.add 2) fun A45 n45 c45 =>
    optB A45 fun a46 =>
    req (decide (0 ≤ xt66 ∧ xt66 < (n45 : Int))) <|
    ldB w40 (a46.add (xt66.toNat * 2)) fun b47 =>
    ldI w40 ((a46.add (xt66.toNat * 2)).add 1) .i64 fun x48 =>
    sel (!((b43 == b47) && ((x44 == x48) && true))) (
    ldS w40 at4 fun A49 n49 c49 =>
    ldI w40 (at4.add 1) .i64 fun x50 =>
    stW w40 at6 (.slice A49 n49 c49) fun w51 =>
    stW w51 (at6.add 1) (.int .i64 x50) fun w52 =>
    Kr false w52) (
    optB At13 fun a53 =>
    req (decide (0 ≤ xt66 ∧ xt66 < (nt13 : Int))) <|
    stW w40 ((a53.add (xt66.toNat * 2)).add 1) (.int .i64 (-9 : Int)) fun w54 =>
    l0 k at4 at5 at6 At13 nt13 ct13 xt65 (IntKind.i64.wrap (xt66 + (1 : Int))) w54 K1 Kr)) (
    K1  w)
def wp (pa0 : Option Addr) (Aa1_0 : Option Addr) (na1_0 : Nat) (ca1_0 : Nat) (xa1_1 : Int) (xa2_0 : Int) (xa2_1 : Int) (Aa2_2 : Option Addr) (na2_2 : Nat) (ca2_2 : Nat) (w : World) (Q : Ending → World → Prop) : Prop :=
  alW w (.cells #[.slice Aa1_0 na1_0 ca1_0, .int .i64 xa1_1] 28) fun B1 w2 =>
  alW w2 (.cells #[.int .i64 xa2_0, .int .i64 xa2_1, .slice Aa2_2 na2_2 ca2_2] 32) fun B3 w4 =>
  alW w4 (.cells #[.slice none 0 0, .int .i64 (0 : Int)] 28) fun B5 w6 =>
  ldI w6 (⟨B3, 0, Option.none⟩ : Addr) .i64 fun x7 =>
  sel (x7 == (1 : Int)) (
  Calls Try.prog 18 #[.pointer pa0] w6 fun e8 w9 => ∃ (x10_0 : Int) (x10_1 : Int), e8 = .returned (.tuple #[.int .i64 x10_0, .int .i64 x10_1]) ∧ (
  ldS w9 (⟨B1, 0, Option.none⟩ : Addr) fun A11 n11 c11 =>
  ldI w9 ((⟨B1, 0, Option.none⟩ : Addr).add 1) .i64 fun x12 =>
  Calls Try.prog 25 #[.agg #[.slice A11 n11 c11, .int .i64 x12]] w9 fun e13 w14 => ∃ (A15_0_0 : Option Addr) (n15_0_0 : Nat) (c15_0_0 : Nat) (x15_0_1 : Int) (x15_1 : Int) (x15_2 : Int), e13 = .returned (.tuple #[.agg #[.slice A15_0_0 n15_0_0 c15_0_0, .int .i64 x15_0_1], .int .i64 x15_1, .int .i64 x15_2]) ∧ (
  alW w14 (.cells #[.slice none 0 0, .int .i64 (0 : Int)] 28) fun B16 w17 =>
  stW w17 (⟨B16, 0, Option.none⟩ : Addr) (.slice A15_0_0 n15_0_0 c15_0_0) fun w18 =>
  stW w18 ((⟨B16, 0, Option.none⟩ : Addr).add 1) (.int .i64 x15_0_1) fun w19 =>
  ldS w19 (⟨B16, 0, Option.none⟩ : Addr) fun A20 n20 c20 =>
  ldI w19 ((⟨B16, 0, Option.none⟩ : Addr).add 1) .i64 fun x21 =>
  sel (x10_0 == x15_1) (
  stW w19 (⟨B5, 0, Option.none⟩ : Addr) (.slice A20 n20 c20) fun w22 =>
  stW w22 ((⟨B5, 0, Option.none⟩ : Addr).add 1) (.int .i64 x21) fun w23 =>
  ldS w23 (⟨B5, 0, Option.none⟩ : Addr) fun A24 n24 c24 =>
  ldI w23 ((⟨B5, 0, Option.none⟩ : Addr).add 1) .i64 fun x25 =>
  Q (.returned (.tuple #[.agg #[.slice A24 n24 c24, .int .i64 x25], .bool (x10_1 == x15_2)])) w23) (
  stW w19 (⟨B5, 0, Option.none⟩ : Addr) (.slice A20 n20 c20) fun w26 =>
  stW w26 ((⟨B5, 0, Option.none⟩ : Addr).add 1) (.int .i64 x21) fun w27 =>
  ldS w27 (⟨B5, 0, Option.none⟩ : Addr) fun A28 n28 c28 =>
  ldI w27 ((⟨B5, 0, Option.none⟩ : Addr).add 1) .i64 fun x29 =>
  Q (.returned (.tuple #[.agg #[.slice A28 n28 c28, .int .i64 x29], .bool false])) w27)))) (
  sel (x7 == (2 : Int)) (
  alW w6 (.cells #[] 62) fun B30 w31 =>
  ldS w31 ((⟨B3, 0, Option.none⟩ : Addr).add 2) fun A32 n32 c32 =>
  Runs Try.prog (Builtin.append_ #[30, 30] 30 #[.slice (some (⟨B30, 0, Option.none⟩ : Addr)) 0 0, .slice A32 n32 c32]) w31 fun v34 w33 => ∃ (A35 : Option Addr) (n35 : Nat) (c35 : Nat), v34 = (.slice A35 n35 c35) ∧ (
  ldI w33 ((⟨B3, 0, Option.none⟩ : Addr).add 1) .i64 fun x36 =>
  Calls Try.prog 19 #[.pointer pa0, .int .i64 x36, .slice A35 n35 c35] w33 fun e37 w38 => ∃ (x39 : Int), e37 = .returned (.int .i64 x39) ∧ (
  ∃ k77 : Nat, l0 k77 (⟨B1, 0, Option.none⟩ : Addr) (⟨B3, 0, Option.none⟩ : Addr) (⟨B5, 0, Option.none⟩ : Addr) A35 n35 c35 (n35 : Int) (0 : Int) w38 (fun (w55 : World) => ∀ _ : Fr,
  ldS w55 (⟨B1, 0, Option.none⟩ : Addr) fun A56 n56 c56 =>
  ldI w55 ((⟨B1, 0, Option.none⟩ : Addr).add 1) .i64 fun x57 =>
  ldI w55 ((⟨B3, 0, Option.none⟩ : Addr).add 1) .i64 fun x58 =>
  ldS w55 ((⟨B3, 0, Option.none⟩ : Addr).add 2) fun A59 n59 c59 =>
  Calls Try.prog 26 #[.agg #[.slice A56 n56 c56, .int .i64 x57], .int .i64 x58, .slice A59 n59 c59] w55 fun e60 w61 => ∃ (A62_0_0 : Option Addr) (n62_0_0 : Nat) (c62_0_0 : Nat) (x62_0_1 : Int) (x62_1 : Int), e60 = .returned (.tuple #[.agg #[.slice A62_0_0 n62_0_0 c62_0_0, .int .i64 x62_0_1], .int .i64 x62_1]) ∧ (
  alW w61 (.cells #[.slice none 0 0, .int .i64 (0 : Int)] 28) fun B63 w64 =>
  stW w64 (⟨B63, 0, Option.none⟩ : Addr) (.slice A62_0_0 n62_0_0 c62_0_0) fun w65 =>
  stW w65 ((⟨B63, 0, Option.none⟩ : Addr).add 1) (.int .i64 x62_0_1) fun w66 =>
  ldS w66 (⟨B63, 0, Option.none⟩ : Addr) fun A67 n67 c67 =>
  ldI w66 ((⟨B63, 0, Option.none⟩ : Addr).add 1) .i64 fun x68 =>
  stW w66 (⟨B5, 0, Option.none⟩ : Addr) (.slice A67 n67 c67) fun w69 =>
  stW w69 ((⟨B5, 0, Option.none⟩ : Addr).add 1) (.int .i64 x68) fun w70 =>
  ldS w70 (⟨B5, 0, Option.none⟩ : Addr) fun A71 n71 c71 =>
  ldI w70 ((⟨B5, 0, Option.none⟩ : Addr).add 1) .i64 fun x72 =>
  Q (.returned (.tuple #[.agg #[.slice A71 n71 c71, .int .i64 x72], .bool (x39 == x62_1)])) w70)) (fun (b73 : Bool) (w74 : World) => ∀ _ : Fr,
  ldS w74 (⟨B5, 0, Option.none⟩ : Addr) fun A75 n75 c75 =>
  ldI w74 ((⟨B5, 0, Option.none⟩ : Addr).add 1) .i64 fun x76 =>
  Q (.returned (.tuple #[.agg #[.slice A75 n75 c75, .int .i64 x76], .bool b73])) w74)))) (
  sel (x7 == (3 : Int)) (
  ldI w6 ((⟨B3, 0, Option.none⟩ : Addr).add 1) .i64 fun x78 =>
  Calls Try.prog 21 #[.pointer pa0, .int .i64 x78] w6 fun e79 w80 => ∃ (x81_0 : Int) (x81_1 : Int), e79 = .returned (.tuple #[.int .i64 x81_0, .int .i64 x81_1]) ∧ (
  ldS w80 (⟨B1, 0, Option.none⟩ : Addr) fun A82 n82 c82 =>
  ldI w80 ((⟨B1, 0, Option.none⟩ : Addr).add 1) .i64 fun x83 =>
  ldI w80 ((⟨B3, 0, Option.none⟩ : Addr).add 1) .i64 fun x84 =>
  Calls Try.prog 27 #[.agg #[.slice A82 n82 c82, .int .i64 x83], .int .i64 x84] w80 fun e85 w86 => ∃ (A87_0_0 : Option Addr) (n87_0_0 : Nat) (c87_0_0 : Nat) (x87_0_1 : Int) (x87_1 : Int) (x87_2 : Int), e85 = .returned (.tuple #[.agg #[.slice A87_0_0 n87_0_0 c87_0_0, .int .i64 x87_0_1], .int .i64 x87_1, .int .i64 x87_2]) ∧ (
  alW w86 (.cells #[.slice none 0 0, .int .i64 (0 : Int)] 28) fun B88 w89 =>
  stW w89 (⟨B88, 0, Option.none⟩ : Addr) (.slice A87_0_0 n87_0_0 c87_0_0) fun w90 =>
  stW w90 ((⟨B88, 0, Option.none⟩ : Addr).add 1) (.int .i64 x87_0_1) fun w91 =>
  ldS w91 (⟨B88, 0, Option.none⟩ : Addr) fun A92 n92 c92 =>
  ldI w91 ((⟨B88, 0, Option.none⟩ : Addr).add 1) .i64 fun x93 =>
  sel (x81_0 == x87_1) (
  stW w91 (⟨B5, 0, Option.none⟩ : Addr) (.slice A92 n92 c92) fun w94 =>
  stW w94 ((⟨B5, 0, Option.none⟩ : Addr).add 1) (.int .i64 x93) fun w95 =>
  ldS w95 (⟨B5, 0, Option.none⟩ : Addr) fun A96 n96 c96 =>
  ldI w95 ((⟨B5, 0, Option.none⟩ : Addr).add 1) .i64 fun x97 =>
  Q (.returned (.tuple #[.agg #[.slice A96 n96 c96, .int .i64 x97], .bool (x81_1 == x87_2)])) w95) (
  stW w91 (⟨B5, 0, Option.none⟩ : Addr) (.slice A92 n92 c92) fun w98 =>
  stW w98 ((⟨B5, 0, Option.none⟩ : Addr).add 1) (.int .i64 x93) fun w99 =>
  ldS w99 (⟨B5, 0, Option.none⟩ : Addr) fun A100 n100 c100 =>
  ldI w99 ((⟨B5, 0, Option.none⟩ : Addr).add 1) .i64 fun x101 =>
  Q (.returned (.tuple #[.agg #[.slice A100 n100 c100, .int .i64 x101], .bool false])) w99)))) (
  sel (x7 == (4 : Int)) (
  ldI w6 ((⟨B3, 0, Option.none⟩ : Addr).add 1) .i64 fun x102 =>
  Calls Try.prog 22 #[.pointer pa0, .int .i64 x102] w6 fun e103 w104 => ∃ (x105 : Int), e103 = .returned (.int .i64 x105) ∧ (
  ldS w104 (⟨B1, 0, Option.none⟩ : Addr) fun A106 n106 c106 =>
  ldI w104 ((⟨B1, 0, Option.none⟩ : Addr).add 1) .i64 fun x107 =>
  ldI w104 ((⟨B3, 0, Option.none⟩ : Addr).add 1) .i64 fun x108 =>
  Calls Try.prog 28 #[.agg #[.slice A106 n106 c106, .int .i64 x107], .int .i64 x108] w104 fun e109 w110 => ∃ (A111_0_0 : Option Addr) (n111_0_0 : Nat) (c111_0_0 : Nat) (x111_0_1 : Int) (x111_1 : Int), e109 = .returned (.tuple #[.agg #[.slice A111_0_0 n111_0_0 c111_0_0, .int .i64 x111_0_1], .int .i64 x111_1]) ∧ (
  alW w110 (.cells #[.slice none 0 0, .int .i64 (0 : Int)] 28) fun B112 w113 =>
  stW w113 (⟨B112, 0, Option.none⟩ : Addr) (.slice A111_0_0 n111_0_0 c111_0_0) fun w114 =>
  stW w114 ((⟨B112, 0, Option.none⟩ : Addr).add 1) (.int .i64 x111_0_1) fun w115 =>
  ldS w115 (⟨B112, 0, Option.none⟩ : Addr) fun A116 n116 c116 =>
  ldI w115 ((⟨B112, 0, Option.none⟩ : Addr).add 1) .i64 fun x117 =>
  stW w115 (⟨B5, 0, Option.none⟩ : Addr) (.slice A116 n116 c116) fun w118 =>
  stW w118 ((⟨B5, 0, Option.none⟩ : Addr).add 1) (.int .i64 x117) fun w119 =>
  ldS w119 (⟨B5, 0, Option.none⟩ : Addr) fun A120 n120 c120 =>
  ldI w119 ((⟨B5, 0, Option.none⟩ : Addr).add 1) .i64 fun x121 =>
  Q (.returned (.tuple #[.agg #[.slice A120 n120 c120, .int .i64 x121], .bool (x105 == x111_1)])) w119))) (
  sel (x7 == (5 : Int)) (
  drW w6 fun w122 =>
  ∃ S123 : World → Prop, S123 w122 ∧ (
  hdS S123 (⟨B1, 0, Option.none⟩ : Addr) fun A124 n124 c124 =>
  hdI S123 ((⟨B1, 0, Option.none⟩ : Addr).add 1) .i64 fun x125 =>
  hdI S123 ((⟨B3, 0, Option.none⟩ : Addr).add 1) .i64 fun x126 =>
  hdS S123 (⟨B1, 0, Option.none⟩ : Addr) fun A127 n127 c127 =>
  hdI S123 ((⟨B1, 0, Option.none⟩ : Addr).add 1) .i64 fun x128 =>
  hdI S123 ((⟨B3, 0, Option.none⟩ : Addr).add 1) .i64 fun x129 =>
  Calls Try.prog 24 #[.pointer pa0, .int .i64 x126] w122 fun e130 w131 => ∃ (x132 : Int), e130 = .returned (.int .i64 x132) ∧ (
  S123 w131 ∧ (
  Calls Try.prog 29 #[.agg #[.slice A127 n127 c127, .int .i64 x128], .int .i64 x129] w131 fun e133 w134 => ∃ (x135 : Int), e133 = .returned (.int .i64 x135) ∧ (
  S123 w134 ∧ (
  stW w134 (⟨B5, 0, Option.none⟩ : Addr) (.slice A124 n124 c124) fun w136 =>
  stW w136 ((⟨B5, 0, Option.none⟩ : Addr).add 1) (.int .i64 x125) fun w137 =>
  S123 w137 ∧ (
  ldS w137 (⟨B5, 0, Option.none⟩ : Addr) fun A138 n138 c138 =>
  ldI w137 ((⟨B5, 0, Option.none⟩ : Addr).add 1) .i64 fun x139 =>
  Q (.returned (.tuple #[.agg #[.slice A138 n138 c138, .int .i64 x139], .bool (x132 == x135)])) w137))))))) (
  sel (x7 == (6 : Int)) (
  ldI w6 ((⟨B3, 0, Option.none⟩ : Addr).add 1) .i64 fun x140 =>
  Calls Try.prog 20 #[.pointer pa0, .int .i64 x140] w6 fun e141 w142 => ∃ (x143_0 : Int) (x143_1 : Int), e141 = .returned (.tuple #[.int .i64 x143_0, .int .i64 x143_1]) ∧ (
  ldS w142 (⟨B1, 0, Option.none⟩ : Addr) fun A144 n144 c144 =>
  ldI w142 ((⟨B1, 0, Option.none⟩ : Addr).add 1) .i64 fun x145 =>
  ldI w142 ((⟨B3, 0, Option.none⟩ : Addr).add 1) .i64 fun x146 =>
  Calls Try.prog 30 #[.agg #[.slice A144 n144 c144, .int .i64 x145], .int .i64 x146] w142 fun e147 w148 => ∃ (b149 : Bool), e147 = .returned (.bool b149) ∧ (
  sel (!b149) (
  ldS w148 (⟨B1, 0, Option.none⟩ : Addr) fun A150 n150 c150 =>
  ldI w148 ((⟨B1, 0, Option.none⟩ : Addr).add 1) .i64 fun x151 =>
  sel (x143_0 == (0 : Int)) (
  stW w148 (⟨B5, 0, Option.none⟩ : Addr) (.slice A150 n150 c150) fun w152 =>
  stW w152 ((⟨B5, 0, Option.none⟩ : Addr).add 1) (.int .i64 x151) fun w153 =>
  ldS w153 (⟨B5, 0, Option.none⟩ : Addr) fun A154 n154 c154 =>
  ldI w153 ((⟨B5, 0, Option.none⟩ : Addr).add 1) .i64 fun x155 =>
  Q (.returned (.tuple #[.agg #[.slice A154 n154 c154, .int .i64 x155], .bool (x143_1 == (141 : Int))])) w153) (
  stW w148 (⟨B5, 0, Option.none⟩ : Addr) (.slice A150 n150 c150) fun w156 =>
  stW w156 ((⟨B5, 0, Option.none⟩ : Addr).add 1) (.int .i64 x151) fun w157 =>
  ldS w157 (⟨B5, 0, Option.none⟩ : Addr) fun A158 n158 c158 =>
  ldI w157 ((⟨B5, 0, Option.none⟩ : Addr).add 1) .i64 fun x159 =>
  Q (.returned (.tuple #[.agg #[.slice A158 n158 c158, .int .i64 x159], .bool false])) w157)) (
  drW w148 fun w160 =>
  ∃ S161 : World → Prop, S161 w160 ∧ (
  hdS S161 (⟨B1, 0, Option.none⟩ : Addr) fun A162 n162 c162 =>
  hdI S161 ((⟨B1, 0, Option.none⟩ : Addr).add 1) .i64 fun x163 =>
  hdS S161 (⟨B1, 0, Option.none⟩ : Addr) fun A164 n164 c164 =>
  hdI S161 ((⟨B3, 0, Option.none⟩ : Addr).add 1) .i64 fun x165 =>
  optB A164 fun a166 =>
  req (decide (0 ≤ (IntKind.i64.wrap (x165 - (1 : Int))) ∧ (IntKind.i64.wrap (x165 - (1 : Int))) < (n164 : Int))) <|
  hdI S161 (a166.add ((IntKind.i64.wrap (x165 - (1 : Int))).toNat * 4)) .i64 fun x167 =>
  sel (x143_0 == x167) (
  stW w160 (⟨B5, 0, Option.none⟩ : Addr) (.slice A162 n162 c162) fun w168 =>
  stW w168 ((⟨B5, 0, Option.none⟩ : Addr).add 1) (.int .i64 x163) fun w169 =>
  S161 w169 ∧ (
  ldS w169 (⟨B5, 0, Option.none⟩ : Addr) fun A170 n170 c170 =>
  ldI w169 ((⟨B5, 0, Option.none⟩ : Addr).add 1) .i64 fun x171 =>
  Q (.returned (.tuple #[.agg #[.slice A170 n170 c170, .int .i64 x171], .bool (x143_1 == (0 : Int))])) w169)) (
  stW w160 (⟨B5, 0, Option.none⟩ : Addr) (.slice A162 n162 c162) fun w172 =>
  stW w172 ((⟨B5, 0, Option.none⟩ : Addr).add 1) (.int .i64 x163) fun w173 =>
  S161 w173 ∧ (
  ldS w173 (⟨B5, 0, Option.none⟩ : Addr) fun A174 n174 c174 =>
  ldI w173 ((⟨B5, 0, Option.none⟩ : Addr).add 1) .i64 fun x175 =>
  Q (.returned (.tuple #[.agg #[.slice A174 n174 c174, .int .i64 x175], .bool false])) w173))))))) (
  ldS w6 (⟨B1, 0, Option.none⟩ : Addr) fun A176 n176 c176 =>
  ldI w6 ((⟨B1, 0, Option.none⟩ : Addr).add 1) .i64 fun x177 =>
  stW w6 (⟨B5, 0, Option.none⟩ : Addr) (.slice A176 n176 c176) fun w178 =>
  stW w178 ((⟨B5, 0, Option.none⟩ : Addr).add 1) (.int .i64 x177) fun w179 =>
  ldS w179 (⟨B5, 0, Option.none⟩ : Addr) fun A180 n180 c180 =>
  ldI w179 ((⟨B5, 0, Option.none⟩ : Addr).add 1) .i64 fun x181 =>
  Q (.returned (.tuple #[.agg #[.slice A180 n180 c180, .int .i64 x181], .bool true])) w179))))))
def D : Nat → Option DH := dtab [(13, .simple [.fst 0, .fst 1, .fst 2, .fst 3, .fst 4, .fst 5, .fst 6, .fst 7, .fst 8] [.fst 9]), (28, .held [.fst 0, .fst 1, .fst 2, .fst 3, .fst 5, .fst 6, .fst 7, .eff 4, .eff 8, .fst 9, .eff 10] [.fst 11]), (33, .held [.fst 0, .fst 1, .fst 2, .fst 3, .fst 4, .fst 5, .fst 6, .fst 7, .fst 8, .fst 9, .fst 10, .fst 11, .fst 12, .fst 13, .fst 14, .eff 15] [.fst 16])]
def l0LO : LO := ⟨[], [6, 7], [(1, [4, 5, 6, 14])], []⟩
def l0Tk (k : Nat) : Spec := fun Q σ w =>
  gAd (σ 4) fun at4 =>
  gAd (σ 5) fun at5 =>
  gAd (σ 6) fun at6 =>
  gSlice (σ 13) fun At13 nt13 ct13 =>
  gInt .i64 (σ 65) fun xt65 =>
  gInt .i64 (σ 66) fun xt66 =>
  l0 k at4 at5 at6 At13 nt13 ct13 xt65 xt66 w (fun (w : World) => ∀ d : Fr, Q (.exit 1) (ov d [(4, .pointer (some at4)), (5, .pointer (some at5)), (6, .pointer (some at6)), (14, σ 14)]) w) (fun (bq7 : Bool) (w : World) => ∀ d : Fr, Q .ret (ov d [(6, .pointer (some at6)), (7, .bool bq7)]) w)
def l0T : Spec := fun Q σ w => ∃ k, l0Tk k Q σ w
def l0tb : List (List Nat × Spec) := []
noncomputable def l0b : Code := (subC [0, 0, 1, 0, 1, 1, 1, 0, 1, 1, 1, 0, 1, 0, 1] body).getD .skip
theorem l0_eq (k : Nat) (at4 : Addr) (at5 : Addr) (at6 : Addr) (At13 : Option Addr) (nt13 : Nat) (ct13 : Nat) (xt65 : Int) (xt66 : Int) (Q : PQ) (σ : Fr) (w : World) :
    l0 (k + 1) at4 at5 at6 At13 nt13 ct13 xt65 xt66 w (fun (w : World) => ∀ d : Fr, Q (.exit 1) (ov d [(4, .pointer (some at4)), (5, .pointer (some at5)), (6, .pointer (some at6)), (14, σ 14)]) w) (fun (bq7 : Bool) (w : World) => ∀ d : Fr, Q .ret (ov d [(6, .pointer (some at6)), (7, .bool bq7)]) w) = codeW Try.prog hT 190 D (tab l0tb) [0, 0, 1, 0, 1, 1, 1, 0, 1, 1, 1, 0, 1, 0, 1] l0b (thenQ (l0Tk k Q) (widen l0LO Q)) (ov σ [(4, .pointer (some at4)), (5, .pointer (some at5)), (6, .pointer (some at6)), (13, .slice At13 nt13 ct13), (65, .int .i64 xt65), (66, .int .i64 xt66)]) w := by kernel_rfl
theorem l0_snd : ∀ c, subC [0, 1, 0, 1, 1, 1, 0, 1, 1, 1, 0, 1, 0, 1] body = some c → Snd Try.prog 190 c l0T := by
  refine loop_of (hT := hT) (D := D) (l := l0tb) (b := l0b) (lo := l0LO) (by kernel_rfl) (by
    intro x hx
    simp only [l0tb, List.not_mem_nil] at hx
    ) (by kernel_rfl) (by kernel_rfl) ?_ ?_
  · intro Q σ w h
    unfold l0Tk at h
    obtain ⟨at4, h4, hn⟩ := gAd_elim h
    clear h
    have h := hn
    clear hn
    obtain ⟨at5, h5, hn⟩ := gAd_elim h
    clear h
    have h := hn
    clear hn
    obtain ⟨at6, h6, hn⟩ := gAd_elim h
    clear h
    have h := hn
    clear hn
    obtain ⟨At13, nt13, ct13, h13, hn⟩ := gSlice_elim h
    clear h
    have h := hn
    clear hn
    obtain ⟨xt65, h65, hn⟩ := gInt_elim h
    clear h
    have h := hn
    clear hn
    obtain ⟨xt66, h66, hn⟩ := gInt_elim h
    clear h
    have h := hn
    clear hn
    exact h
  · intro k Q σ w h
    unfold l0Tk at h
    obtain ⟨at4, h4, hn⟩ := gAd_elim h
    clear h
    have h := hn
    clear hn
    obtain ⟨at5, h5, hn⟩ := gAd_elim h
    clear h
    have h := hn
    clear hn
    obtain ⟨at6, h6, hn⟩ := gAd_elim h
    clear h
    have h := hn
    clear hn
    obtain ⟨At13, nt13, ct13, h13, hn⟩ := gSlice_elim h
    clear h
    have h := hn
    clear hn
    obtain ⟨xt65, h65, hn⟩ := gInt_elim h
    clear h
    have h := hn
    clear hn
    obtain ⟨xt66, h66, hn⟩ := gInt_elim h
    clear h
    have h := hn
    clear hn
    rw [l0_eq (σ := σ)] at h
    have e : (ov σ [(4, .pointer (some at4)), (5, .pointer (some at5)), (6, .pointer (some at6)), (13, .slice At13 nt13 ct13), (65, .int .i64 xt65), (66, .int .i64 xt66)]) = σ := ov_self (by simp [h4, h5, h6, h13, h65, h66])
    rw [e] at h
    exact h
def tb : List (List Nat × Spec) := [([0, 1, 0, 1, 1, 1, 0, 1, 1, 1, 0, 1, 0, 1], l0T)]
theorem wp_eq (pa0 : Option Addr) (Aa1_0 : Option Addr) (na1_0 : Nat) (ca1_0 : Nat) (xa1_1 : Int) (xa2_0 : Int) (xa2_1 : Int) (Aa2_2 : Option Addr) (na2_2 : Nat) (ca2_2 : Nat) (w : World) (Q : Ending → World → Prop) :
    wp pa0 Aa1_0 na1_0 ca1_0 xa1_1 xa2_0 xa2_1 Aa2_2 na2_2 ca2_2 w Q = codeW Try.prog hT 190 D (tab tb) [] body (topQ Try.prog hT 190 [.cell 6 28, .tmp 7] Q) (argsF [.pointer pa0, .agg #[.slice Aa1_0 na1_0 ca1_0, .int .i64 xa1_1], .agg #[.int .i64 xa2_0, .int .i64 xa2_1, .slice Aa2_2 na2_2 ca2_2]]) w := by kernel_rfl
theorem ok (pa0 : Option Addr) (Aa1_0 : Option Addr) (na1_0 : Nat) (ca1_0 : Nat) (xa1_1 : Int) (xa2_0 : Int) (xa2_1 : Int) (Aa2_2 : Option Addr) (na2_2 : Nat) (ca2_2 : Nat) (w : World) (Q : Ending → World → Prop) (h : wp pa0 Aa1_0 na1_0 ca1_0 xa1_1 xa2_0 xa2_1 Aa2_2 na2_2 ca2_2 w Q) : Calls Try.prog 11 #[.pointer pa0, .agg #[.slice Aa1_0 na1_0 ca1_0, .int .i64 xa1_1], .agg #[.int .i64 xa2_0, .int .i64 xa2_1, .slice Aa2_2 na2_2 ca2_2]] w Q := by
  rw [wp_eq] at h
  exact calls_of_codeW (c := body) (rs := [.cell 6 28, .tmp 7]) Try.func11 (by kernel_rfl) (by kernel_rfl) (by kernel_rfl) (by kernel_rfl) (by kernel_rfl) (tab_snd (by
    intro x hx
    simp only [tb, List.mem_cons, List.not_mem_nil, or_false] at hx
    subst hx
    exact l0_snd)) (by kernel_rfl) h
end f_law14_asks
namespace f_law14_alive
/-! skein/skeinlaw14.alive: function 9 -/
noncomputable def body : Code := (Try.f9.body).getD .skip
def wp  (w : World) (Q : Ending → World → Prop) : Prop :=
  Calls Try.prog 8 #[.int .i64 (4 : Int)] w fun e1 w2 => ∃ (p3 : Option Addr), e1 = .returned (.pointer p3) ∧ (
  sel p3.isNone (
  Q (.returned (.bool false)) w2) (
  Calls Try.prog 18 #[.pointer p3] w2 fun e4 w5 => ∃ (x6_0 : Int) (x6_1 : Int), e4 = .returned (.tuple #[.int .i64 x6_0, .int .i64 x6_1]) ∧ (
  Calls Try.prog 18 #[.pointer p3] w5 fun e7 w8 => ∃ (x9_0 : Int) (x9_1 : Int), e7 = .returned (.tuple #[.int .i64 x9_0, .int .i64 x9_1]) ∧ (
  alW w8 (.cells #[.bool false, .int .i64 (7 : Int)] 62) fun B10 w11 =>
  Calls Try.prog 19 #[.pointer p3, .int .i64 (1 : Int), .slice (some (⟨B10, 0, Option.none⟩ : Addr)) 1 1] w11 fun e12 w13 => ∃ (x14 : Int), e12 = .returned (.int .i64 x14) ∧ (
  alW w13 (.cells #[.bool false, .int .i64 (7 : Int)] 62) fun B15 w16 =>
  Calls Try.prog 19 #[.pointer p3, .int .i64 (2 : Int), .slice (some (⟨B15, 0, Option.none⟩ : Addr)) 1 1] w16 fun e17 w18 => ∃ (x19 : Int), e17 = .returned (.int .i64 x19) ∧ (
  Calls Try.prog 21 #[.pointer p3, .int .i64 (2 : Int)] w18 fun e20 w21 => ∃ (x22_0 : Int) (x22_1 : Int), e20 = .returned (.tuple #[.int .i64 x22_0, .int .i64 x22_1]) ∧ (
  Calls Try.prog 21 #[.pointer p3, .int .i64 (1 : Int)] w21 fun e23 w24 => ∃ (x25_0 : Int) (x25_1 : Int), e23 = .returned (.tuple #[.int .i64 x25_0, .int .i64 x25_1]) ∧ (
  Calls Try.prog 18 #[.pointer p3] w24 fun e26 w27 => ∃ (x28_0 : Int) (x28_1 : Int), e26 = .returned (.tuple #[.int .i64 x28_0, .int .i64 x28_1]) ∧ (
  Calls Try.prog 20 #[.pointer p3, .int .i64 (3 : Int)] w27 fun e29 w30 => ∃ (x31_0 : Int) (x31_1 : Int), e29 = .returned (.tuple #[.int .i64 x31_0, .int .i64 x31_1]) ∧ (
  sel (x6_0 == (1 : Int)) (
  sel (x9_0 == (2 : Int)) (
  sel (x28_0 == (3 : Int)) (
  sel (x6_1 == (0 : Int)) (
  sel (x9_1 == (0 : Int)) (
  sel (x14 == (0 : Int)) (
  sel (x19 == (0 : Int)) (
  sel (x22_0 == (5 : Int)) (
  sel (x22_1 == (0 : Int)) (
  sel (x25_1 == (140 : Int)) (
  sel (x28_1 == (0 : Int)) (
  sel (x31_0 == (5 : Int)) (
  sel (x31_1 == (0 : Int)) (
  Calls Try.prog 13 #[.pointer p3] w30 fun e32 w33 => ∃ (x34 : Int), e32 = .returned (.int .i64 x34) ∧ (
  sel (x34 == (5 : Int)) (
  Calls Try.prog 12 #[.pointer p3] w33 fun e35 w36 => ∃ (A37 : Option Addr) (n37 : Nat) (c37 : Nat), e35 = .returned (.slice A37 n37 c37) ∧ (
  sel ((n37 : Int) == (1 : Int)) (
  Calls Try.prog 14 #[.pointer p3] w36 fun e38 w39 => ∃ (x40 : Int), e38 = .returned (.int .i64 x40) ∧ (
  sel (x40 == (5 : Int)) (
  Calls Try.prog 24 #[.pointer p3, .int .i64 (3 : Int)] w39 fun e41 w42 => ∃ (x43 : Int), e41 = .returned (.int .i64 x43) ∧ (
  sel (x43 == (0 : Int)) (
  Calls Try.prog 22 #[.pointer p3, .int .i64 (3 : Int)] w42 fun e44 w45 => ∃ (x46 : Int), e44 = .returned (.int .i64 x46) ∧ (
  Q (.returned (.bool (x46 == (0 : Int)))) w45)) (
  Q (.returned (.bool false)) w42))) (
  Q (.returned (.bool false)) w39))) (
  Q (.returned (.bool false)) w36))) (
  Q (.returned (.bool false)) w33))) (
  Q (.returned (.bool false)) w30)) (
  Q (.returned (.bool false)) w30)) (
  Q (.returned (.bool false)) w30)) (
  Q (.returned (.bool false)) w30)) (
  Q (.returned (.bool false)) w30)) (
  Q (.returned (.bool false)) w30)) (
  Q (.returned (.bool false)) w30)) (
  Q (.returned (.bool false)) w30)) (
  Q (.returned (.bool false)) w30)) (
  Q (.returned (.bool false)) w30)) (
  Q (.returned (.bool false)) w30)) (
  Q (.returned (.bool false)) w30)) (
  Q (.returned (.bool false)) w30)))))))))))
def D : Nat → Option DH := dtab []
def tb : List (List Nat × Spec) := []
theorem wp_eq  (w : World) (Q : Ending → World → Prop) :
    wp  w Q = codeW Try.prog hT 133 D (tab tb) [] body (topQ Try.prog hT 133 [.tmp 0] Q) (argsF []) w := by kernel_rfl
theorem ok  (w : World) (Q : Ending → World → Prop) (h : wp  w Q) : Calls Try.prog 9 #[] w Q := by
  rw [wp_eq] at h
  exact calls_of_codeW (c := body) (rs := [.tmp 0]) Try.func9 (by kernel_rfl) (by kernel_rfl) (by kernel_rfl) (by kernel_rfl) (by kernel_rfl) (tab_snd (by
    intro x hx
    simp only [tb, List.not_mem_nil] at hx
    )) (by kernel_rfl) h
end f_law14_alive
end Go.Proofs.Ytbfcjnbjhpfdfaa.Rd
