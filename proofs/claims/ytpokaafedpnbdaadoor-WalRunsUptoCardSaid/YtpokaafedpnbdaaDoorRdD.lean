/- The printed readings of some functions: each function's code reckoned by the kernel to its predicate transformer. -/
import Derived.Test.YtpokaafedpnbdaaDoorHint
namespace Go.Proofs.YtpokaafedpnbdaaDoor.Rd
open Go.Dn
set_option maxRecDepth 100000
set_option linter.unusedVariables false
namespace f_api_Record
/-! slices.IndexFunc[[]skein/api.Record,skein/api.Record]: function 43 -/
noncomputable def body : Code := (Tryd.f43.body).getD .skip
def l0 : Nat → Option Addr → Nat → Nat → Addr → Int → Int → World → (World → Prop) → (Int → World → Prop) → Prop
  | 0, _, _, _, _, _, _, _, _, _ => False
  | k + 1, At0, nt0, ct0, at1_0, xt7, xt8, w, K0, Kr =>
    sel (decide (xt8 < xt7)) (
    optB At0 fun a1 =>
    req (decide (0 ≤ xt8 ∧ xt8 < (nt0 : Int))) <|
    ldI w (a1.add (xt8.toNat * 3)) .i64 fun x2 =>
    ldI w ((a1.add (xt8.toNat * 3)).add 1) .i64 fun x3 =>
    ldS w ((a1.add (xt8.toNat * 3)).add 2) fun A4 n4 c4 =>
    Calls Tryd.prog 44 #[.agg #[.int .i64 x2, .int .i64 x3, .slice A4 n4 c4], .pointer (some at1_0)] w fun e5 w6 => ∃ (b7 : Bool), e5 = .returned (.bool b7) ∧ (
    sel b7 (
    Kr xt8 w6) (
    l0 k At0 nt0 ct0 at1_0 xt7 (IntKind.i64.wrap (xt8 + (1 : Int))) w6 K0 Kr))) (
    K0  w)
def wp (Aa0 : Option Addr) (na0 : Nat) (ca0 : Nat) (aa1_0 : Addr) (w : World) (Q : Ending → World → Prop) : Prop :=
  ∃ k11 : Nat, l0 k11 Aa0 na0 ca0 aa1_0 (na0 : Int) (0 : Int) w (fun (w8 : World) => ∀ _ : Fr,
  Q (.returned (.int .i64 (-1 : Int))) w8) (fun (x9 : Int) (w10 : World) => ∀ _ : Fr,
  Q (.returned (.int .i64 x9)) w10)
def D : Nat → Option DH := dtab []
def l0LO : LO := ⟨[], [4], [(0, [])], []⟩
def l0Tk (k : Nat) : Spec := fun Q σ w =>
  gSlice (σ 0) fun At0 nt0 ct0 =>
  gFnC (σ 1) 44 fun l12 =>
  gCons l12 fun h14 l13 =>
  gAd h14 fun at1_0 =>
  gNil l13 <|
  gInt .i64 (σ 7) fun xt7 =>
  gInt .i64 (σ 8) fun xt8 =>
  l0 k At0 nt0 ct0 at1_0 xt7 xt8 w (fun (w : World) => ∀ d : Fr, Q (.exit 0) (ov d []) w) (fun (xq4 : Int) (w : World) => ∀ d : Fr, Q .ret (ov d [(4, .int .i64 xq4)]) w)
def l0T : Spec := fun Q σ w => ∃ k, l0Tk k Q σ w
def l0tb : List (List Nat × Spec) := []
noncomputable def l0b : Code := (subC [0, 0, 1, 0, 1] body).getD .skip
theorem l0_eq (k : Nat) (At0 : Option Addr) (nt0 : Nat) (ct0 : Nat) (at1_0 : Addr) (xt7 : Int) (xt8 : Int) (Q : PQ) (σ : Fr) (w : World) :
    l0 (k + 1) At0 nt0 ct0 at1_0 xt7 xt8 w (fun (w : World) => ∀ d : Fr, Q (.exit 0) (ov d []) w) (fun (xq4 : Int) (w : World) => ∀ d : Fr, Q .ret (ov d [(4, .int .i64 xq4)]) w) = codeW Tryd.prog hT 19 D (tab l0tb) [0, 0, 1, 0, 1] l0b (thenQ (l0Tk k Q) (widen l0LO Q)) (ov σ [(0, .slice At0 nt0 ct0), (1, .func (.func 44) #[] #[.pointer (some at1_0)]), (7, .int .i64 xt7), (8, .int .i64 xt8)]) w := by kernel_rfl
theorem l0_snd : ∀ c, subC [0, 1, 0, 1] body = some c → Snd Tryd.prog 19 c l0T := by
  refine loop_of (hT := hT) (D := D) (l := l0tb) (b := l0b) (lo := l0LO) (by kernel_rfl) (by
    intro x hx
    simp only [l0tb, List.not_mem_nil] at hx
    ) (by kernel_rfl) (by kernel_rfl) ?_ ?_
  · intro Q σ w h
    unfold l0Tk at h
    obtain ⟨At0, nt0, ct0, h0, hn⟩ := gSlice_elim h
    clear h
    have h := hn
    clear hn
    obtain ⟨lh1, h1, hn⟩ := gFnC_elim h
    clear h
    have h := hn
    clear hn
    obtain ⟨hdh1_0, tlh1_0, eh1_0, hn⟩ := gCons_elim h
    clear h
    have h := hn
    clear hn
    subst eh1_0
    obtain ⟨at1_0, fh1_0, hn⟩ := gAd_elim h
    clear h
    have h := hn
    clear hn
    subst fh1_0
    obtain ⟨eh1, hn⟩ := gNil_elim h
    clear h
    have h := hn
    clear hn
    subst eh1
    obtain ⟨xt7, h7, hn⟩ := gInt_elim h
    clear h
    have h := hn
    clear hn
    obtain ⟨xt8, h8, hn⟩ := gInt_elim h
    clear h
    have h := hn
    clear hn
    exact h
  · intro k Q σ w h
    unfold l0Tk at h
    obtain ⟨At0, nt0, ct0, h0, hn⟩ := gSlice_elim h
    clear h
    have h := hn
    clear hn
    obtain ⟨lh1, h1, hn⟩ := gFnC_elim h
    clear h
    have h := hn
    clear hn
    obtain ⟨hdh1_0, tlh1_0, eh1_0, hn⟩ := gCons_elim h
    clear h
    have h := hn
    clear hn
    subst eh1_0
    obtain ⟨at1_0, fh1_0, hn⟩ := gAd_elim h
    clear h
    have h := hn
    clear hn
    subst fh1_0
    obtain ⟨eh1, hn⟩ := gNil_elim h
    clear h
    have h := hn
    clear hn
    subst eh1
    obtain ⟨xt7, h7, hn⟩ := gInt_elim h
    clear h
    have h := hn
    clear hn
    obtain ⟨xt8, h8, hn⟩ := gInt_elim h
    clear h
    have h := hn
    clear hn
    rw [l0_eq (σ := σ)] at h
    have e : (ov σ [(0, .slice At0 nt0 ct0), (1, .func (.func 44) #[] #[.pointer (some at1_0)]), (7, .int .i64 xt7), (8, .int .i64 xt8)]) = σ := ov_self (by simp [h0, h1, h7, h8])
    rw [e] at h
    exact h
def tb : List (List Nat × Spec) := [([0, 1, 0, 1], l0T)]
theorem wp_eq (Aa0 : Option Addr) (na0 : Nat) (ca0 : Nat) (aa1_0 : Addr) (w : World) (Q : Ending → World → Prop) :
    wp Aa0 na0 ca0 aa1_0 w Q = codeW Tryd.prog hT 19 D (tab tb) [] body (topQ Tryd.prog hT 19 [.tmp 4] Q) (argsF [.slice Aa0 na0 ca0, .func (.func 44) #[] #[.pointer (some aa1_0)]]) w := by kernel_rfl
theorem ok (Aa0 : Option Addr) (na0 : Nat) (ca0 : Nat) (aa1_0 : Addr) (w : World) (Q : Ending → World → Prop) (h : wp Aa0 na0 ca0 aa1_0 w Q) : Calls Tryd.prog 43 #[.slice Aa0 na0 ca0, .func (.func 44) #[] #[.pointer (some aa1_0)]] w Q := by
  rw [wp_eq] at h
  exact calls_of_codeW (c := body) (rs := [.tmp 4]) Tryd.func43 (by kernel_rfl) (by kernel_rfl) (by kernel_rfl) (by kernel_rfl) (by kernel_rfl) (tab_snd (by
    intro x hx
    simp only [tb, List.mem_cons, List.not_mem_nil, or_false] at hx
    subst hx
    exact l0_snd)) (by kernel_rfl) h
end f_api_Record
namespace f_ref01_ApartAll
/-! skein/skeinref01.ApartAll: function 58 -/
noncomputable def body : Code := (Tryd.f58.body).getD .skip
def l0 : Nat → Option Addr → Nat → Nat → Option Addr → Nat → Nat → Int → World → (World → Prop) → (Bool → World → Prop) → Prop
  | 0, _, _, _, _, _, _, _, _, _, _ => False
  | k + 1, At0, nt0, ct0, At1, nt1, ct1, xt5, w, K0, Kr =>
    sel (decide (xt5 < (nt0 : Int))) (
    drW w fun w1 =>
    optB At0 fun a3 =>
    req (decide (0 ≤ xt5 ∧ xt5 < (nt0 : Int))) <|
    ldS w1 (a3.add (xt5.toNat * 1)) fun A4 n4 c4 =>
    optB At1 fun a5 =>
    req (decide (0 ≤ xt5 ∧ xt5 < (nt1 : Int))) <|
    ldS w1 (a5.add (xt5.toNat * 1)) fun A6 n6 c6 =>
    Calls Tryd.prog 50 #[.slice A4 n4 c4, .slice A6 n6 c6] w1 fun e7 w8 => ∃ (b9 : Bool), e7 = .returned (.bool b9) ∧ (
    sel (!b9) (
    Kr false w8) (
    l0 k At0 nt0 ct0 At1 nt1 ct1 (IntKind.i64.wrap (xt5 + (1 : Int))) w8 K0 Kr))) (
    K0  w)
def l1 : Nat → Option Addr → Nat → Nat → Int → World → (World → Prop) → Prop
  | 0, _, _, _, _, _, _ => False
  | k + 1, At0, nt0, ct0, xt6, w, K2 =>
    sel (decide (xt6 < (nt0 : Int))) (
    optB At0 fun a11 =>
    req (decide (0 ≤ xt6 ∧ xt6 < (nt0 : Int))) <|
    ldS w (a11.add (xt6.toNat * 1)) fun A12 n12 c12 =>
    Calls Tryd.prog 54 #[.slice A12 n12 c12] w fun e13 w14 => e13 = .returned (.tuple #[]) ∧ (
    l1 k At0 nt0 ct0 (IntKind.i64.wrap (xt6 + (1 : Int))) w14 K2)) (
    K2  w)
def l3 : Nat → Int → Option Addr → Nat → Nat → Int → World → ((Option Addr) → Nat → Nat → World → Prop) → Prop
  | 0, _, _, _, _, _, _, _ => False
  | k + 1, xt8, At9, nt9, ct9, xt10, w, K6 =>
    sel (decide (xt10 < (70 : Int))) (
    alW w (.cells #[.int .u8 (IntKind.u8.wrap (IntKind.i64.wrap (xt10 + xt8)))] 5) fun B18 w19 =>
    Runs Tryd.prog (Builtin.append_ #[29, 29] 29 #[.slice At9 nt9 ct9, .slice (some (⟨B18, 0, Option.none⟩ : Addr)) 1 1]) w19 fun v21 w20 => ∃ (A22 : Option Addr) (n22 : Nat) (c22 : Nat), v21 = (.slice A22 n22 c22) ∧ (
    l3 k xt8 A22 n22 c22 (IntKind.i64.wrap (xt10 + (1 : Int))) w20 K6)) (
    K6 At9 nt9 ct9 w)
def l2 : Nat → Option Addr → Nat → Nat → Int → Int → World → (Int → World → Prop) → Prop
  | 0, _, _, _, _, _, _, _ => False
  | k + 1, At0, nt0, ct0, xt7, xt8, w, K4 =>
    sel (decide (xt8 < (nt0 : Int))) (
    optB At0 fun a16 =>
    req (decide (0 ≤ xt8 ∧ xt8 < (nt0 : Int))) <|
    ldS w (a16.add (xt8.toNat * 1)) fun A17 n17 c17 =>
    ∃ k25 : Nat, l3 k25 xt8 A17 n17 c17 (0 : Int) w (fun (A23 : Option Addr) (n23 : Nat) (c23 : Nat) (w24 : World) => ∀ _ : Fr,
    l2 k At0 nt0 ct0 (IntKind.i64.wrap (xt7 + (n23 : Int))) (IntKind.i64.wrap (xt8 + (1 : Int))) w24 K4)) (
    K4 xt7 w)
def l4 : Nat → Option Addr → Nat → Nat → Option Addr → Nat → Nat → Int → World → (World → Prop) → (Bool → World → Prop) → Prop
  | 0, _, _, _, _, _, _, _, _, _, _ => False
  | k + 1, At0, nt0, ct0, At1, nt1, ct1, xt11, w, K8, Kr =>
    sel (decide (xt11 < (nt0 : Int))) (
    drW w fun w28 =>
    optB At0 fun a30 =>
    req (decide (0 ≤ xt11 ∧ xt11 < (nt0 : Int))) <|
    ldS w28 (a30.add (xt11.toNat * 1)) fun A31 n31 c31 =>
    optB At1 fun a32 =>
    req (decide (0 ≤ xt11 ∧ xt11 < (nt1 : Int))) <|
    ldS w28 (a32.add (xt11.toNat * 1)) fun A33 n33 c33 =>
    Calls Tryd.prog 78 #[.slice A31 n31 c31, .slice A33 n33 c33] w28 fun e34 w35 => ∃ (b36 : Bool), e34 = .returned (.bool b36) ∧ (
    sel (!b36) (
    Kr false w35) (
    l4 k At0 nt0 ct0 At1 nt1 ct1 (IntKind.i64.wrap (xt11 + (1 : Int))) w35 K8 Kr))) (
    K8  w)
def wp (Aa0 : Option Addr) (na0 : Nat) (ca0 : Nat) (Aa1 : Option Addr) (na1 : Nat) (ca1 : Nat) (w : World) (Q : Ending → World → Prop) : Prop :=
  sel ((na0 : Int) != (na1 : Int)) (
  Q (.returned (.bool false)) w) (
  ∃ k45 : Nat, l0 k45 Aa0 na0 ca0 Aa1 na1 ca1 (0 : Int) w (fun (w10 : World) => ∀ _ : Fr,
  ∃ k42 : Nat, l1 k42 Aa0 na0 ca0 (0 : Int) w10 (fun (w15 : World) => ∀ _ : Fr,
  ∃ k41 : Nat, l2 k41 Aa0 na0 ca0 (0 : Int) (0 : Int) w15 (fun (x26 : Int) (w27 : World) => ∀ _ : Fr,
  ∃ k40 : Nat, l4 k40 Aa0 na0 ca0 Aa1 na1 ca1 (0 : Int) w27 (fun (w37 : World) => ∀ _ : Fr,
  Q (.returned (.bool (decide (x26 ≥ (0 : Int))))) w37) (fun (b38 : Bool) (w39 : World) => ∀ _ : Fr,
  Q (.returned (.bool b38)) w39)))) (fun (b43 : Bool) (w44 : World) => ∀ _ : Fr,
  Q (.returned (.bool b43)) w44))
def D : Nat → Option DH := dtab [(6, .simple [.fst 0, .fst 1, .fst 2, .fst 3, .fst 4, .fst 5, .fst 6, .fst 7] [.eff 8, .fst 9]), (25, .simple [.fst 0, .fst 1, .fst 2, .fst 3, .fst 4, .fst 5, .fst 6, .fst 7] [.eff 8, .fst 9])]
def l0LO : LO := ⟨[], [4], [(0, [0, 1])], []⟩
def l0Tk (k : Nat) : Spec := fun Q σ w =>
  gSlice (σ 0) fun At0 nt0 ct0 =>
  gSlice (σ 1) fun At1 nt1 ct1 =>
  gInt .i64 (σ 5) fun xt5 =>
  l0 k At0 nt0 ct0 At1 nt1 ct1 xt5 w (fun (w : World) => ∀ d : Fr, Q (.exit 0) (ov d [(0, .slice At0 nt0 ct0), (1, .slice At1 nt1 ct1)]) w) (fun (bq4 : Bool) (w : World) => ∀ d : Fr, Q .ret (ov d [(4, .bool bq4)]) w)
def l0T : Spec := fun Q σ w => ∃ k, l0Tk k Q σ w
def l0tb : List (List Nat × Spec) := []
noncomputable def l0b : Code := (subC [0, 0, 1, 0, 1, 1] body).getD .skip
theorem l0_eq (k : Nat) (At0 : Option Addr) (nt0 : Nat) (ct0 : Nat) (At1 : Option Addr) (nt1 : Nat) (ct1 : Nat) (xt5 : Int) (Q : PQ) (σ : Fr) (w : World) :
    l0 (k + 1) At0 nt0 ct0 At1 nt1 ct1 xt5 w (fun (w : World) => ∀ d : Fr, Q (.exit 0) (ov d [(0, .slice At0 nt0 ct0), (1, .slice At1 nt1 ct1)]) w) (fun (bq4 : Bool) (w : World) => ∀ d : Fr, Q .ret (ov d [(4, .bool bq4)]) w) = codeW Tryd.prog hT 87 D (tab l0tb) [0, 0, 1, 0, 1, 1] l0b (thenQ (l0Tk k Q) (widen l0LO Q)) (ov σ [(0, .slice At0 nt0 ct0), (1, .slice At1 nt1 ct1), (5, .int .i64 xt5)]) w := by kernel_rfl
theorem l0_snd : ∀ c, subC [0, 1, 0, 1, 1] body = some c → Snd Tryd.prog 87 c l0T := by
  refine loop_of (hT := hT) (D := D) (l := l0tb) (b := l0b) (lo := l0LO) (by kernel_rfl) (by
    intro x hx
    simp only [l0tb, List.not_mem_nil] at hx
    ) (by kernel_rfl) (by kernel_rfl) ?_ ?_
  · intro Q σ w h
    unfold l0Tk at h
    obtain ⟨At0, nt0, ct0, h0, hn⟩ := gSlice_elim h
    clear h
    have h := hn
    clear hn
    obtain ⟨At1, nt1, ct1, h1, hn⟩ := gSlice_elim h
    clear h
    have h := hn
    clear hn
    obtain ⟨xt5, h5, hn⟩ := gInt_elim h
    clear h
    have h := hn
    clear hn
    exact h
  · intro k Q σ w h
    unfold l0Tk at h
    obtain ⟨At0, nt0, ct0, h0, hn⟩ := gSlice_elim h
    clear h
    have h := hn
    clear hn
    obtain ⟨At1, nt1, ct1, h1, hn⟩ := gSlice_elim h
    clear h
    have h := hn
    clear hn
    obtain ⟨xt5, h5, hn⟩ := gInt_elim h
    clear h
    have h := hn
    clear hn
    rw [l0_eq (σ := σ)] at h
    have e : (ov σ [(0, .slice At0 nt0 ct0), (1, .slice At1 nt1 ct1), (5, .int .i64 xt5)]) = σ := ov_self (by simp [h0, h1, h5])
    rw [e] at h
    exact h
def l1LO : LO := ⟨[], [], [(2, [0, 1])], []⟩
def l1Tk (k : Nat) : Spec := fun Q σ w =>
  gSlice (σ 0) fun At0 nt0 ct0 =>
  gInt .i64 (σ 6) fun xt6 =>
  l1 k At0 nt0 ct0 xt6 w (fun (w : World) => ∀ d : Fr, Q (.exit 2) (ov d [(0, .slice At0 nt0 ct0), (1, σ 1)]) w)
def l1T : Spec := fun Q σ w => ∃ k, l1Tk k Q σ w
def l1tb : List (List Nat × Spec) := []
noncomputable def l1b : Code := (subC [0, 0, 1, 0, 1, 1, 1] body).getD .skip
theorem l1_eq (k : Nat) (At0 : Option Addr) (nt0 : Nat) (ct0 : Nat) (xt6 : Int) (Q : PQ) (σ : Fr) (w : World) :
    l1 (k + 1) At0 nt0 ct0 xt6 w (fun (w : World) => ∀ d : Fr, Q (.exit 2) (ov d [(0, .slice At0 nt0 ct0), (1, σ 1)]) w) = codeW Tryd.prog hT 87 D (tab l1tb) [0, 0, 1, 0, 1, 1, 1] l1b (thenQ (l1Tk k Q) (widen l1LO Q)) (ov σ [(0, .slice At0 nt0 ct0), (6, .int .i64 xt6)]) w := by kernel_rfl
theorem l1_snd : ∀ c, subC [0, 1, 0, 1, 1, 1] body = some c → Snd Tryd.prog 87 c l1T := by
  refine loop_of (hT := hT) (D := D) (l := l1tb) (b := l1b) (lo := l1LO) (by kernel_rfl) (by
    intro x hx
    simp only [l1tb, List.not_mem_nil] at hx
    ) (by kernel_rfl) (by kernel_rfl) ?_ ?_
  · intro Q σ w h
    unfold l1Tk at h
    obtain ⟨At0, nt0, ct0, h0, hn⟩ := gSlice_elim h
    clear h
    have h := hn
    clear hn
    obtain ⟨xt6, h6, hn⟩ := gInt_elim h
    clear h
    have h := hn
    clear hn
    exact h
  · intro k Q σ w h
    unfold l1Tk at h
    obtain ⟨At0, nt0, ct0, h0, hn⟩ := gSlice_elim h
    clear h
    have h := hn
    clear hn
    obtain ⟨xt6, h6, hn⟩ := gInt_elim h
    clear h
    have h := hn
    clear hn
    rw [l1_eq (σ := σ)] at h
    have e : (ov σ [(0, .slice At0 nt0 ct0), (6, .int .i64 xt6)]) = σ := ov_self (by simp [h0, h6])
    rw [e] at h
    exact h
def l3LO : LO := ⟨[], [], [(6, [0, 1, 7, 8, 9])], []⟩
def l3Tk (k : Nat) : Spec := fun Q σ w =>
  gInt .i64 (σ 8) fun xt8 =>
  gSlice (σ 9) fun At9 nt9 ct9 =>
  gInt .i64 (σ 10) fun xt10 =>
  l3 k xt8 At9 nt9 ct9 xt10 w (fun (Aq9 : Option Addr) (nq9 : Nat) (cq9 : Nat) (w : World) => ∀ d : Fr, Q (.exit 6) (ov d [(0, σ 0), (1, σ 1), (7, σ 7), (8, .int .i64 xt8), (9, .slice Aq9 nq9 cq9)]) w)
def l3T : Spec := fun Q σ w => ∃ k, l3Tk k Q σ w
def l3tb : List (List Nat × Spec) := []
noncomputable def l3b : Code := (subC [0, 0, 1, 0, 1, 0, 0, 1, 0, 0, 1, 0, 1, 1, 1, 1, 1] body).getD .skip
theorem l3_eq (k : Nat) (xt8 : Int) (At9 : Option Addr) (nt9 : Nat) (ct9 : Nat) (xt10 : Int) (Q : PQ) (σ : Fr) (w : World) :
    l3 (k + 1) xt8 At9 nt9 ct9 xt10 w (fun (Aq9 : Option Addr) (nq9 : Nat) (cq9 : Nat) (w : World) => ∀ d : Fr, Q (.exit 6) (ov d [(0, σ 0), (1, σ 1), (7, σ 7), (8, .int .i64 xt8), (9, .slice Aq9 nq9 cq9)]) w) = codeW Tryd.prog hT 87 D (tab l3tb) [0, 0, 1, 0, 1, 0, 0, 1, 0, 0, 1, 0, 1, 1, 1, 1, 1] l3b (thenQ (l3Tk k Q) (widen l3LO Q)) (ov σ [(8, .int .i64 xt8), (9, .slice At9 nt9 ct9), (10, .int .i64 xt10)]) w := by kernel_rfl
theorem l3_snd : ∀ c, subC [0, 1, 0, 1, 0, 0, 1, 0, 0, 1, 0, 1, 1, 1, 1, 1] body = some c → Snd Tryd.prog 87 c l3T := by
  refine loop_of (hT := hT) (D := D) (l := l3tb) (b := l3b) (lo := l3LO) (by kernel_rfl) (by
    intro x hx
    simp only [l3tb, List.not_mem_nil] at hx
    ) (by kernel_rfl) (by kernel_rfl) ?_ ?_
  · intro Q σ w h
    unfold l3Tk at h
    obtain ⟨xt8, h8, hn⟩ := gInt_elim h
    clear h
    have h := hn
    clear hn
    obtain ⟨At9, nt9, ct9, h9, hn⟩ := gSlice_elim h
    clear h
    have h := hn
    clear hn
    obtain ⟨xt10, h10, hn⟩ := gInt_elim h
    clear h
    have h := hn
    clear hn
    exact h
  · intro k Q σ w h
    unfold l3Tk at h
    obtain ⟨xt8, h8, hn⟩ := gInt_elim h
    clear h
    have h := hn
    clear hn
    obtain ⟨At9, nt9, ct9, h9, hn⟩ := gSlice_elim h
    clear h
    have h := hn
    clear hn
    obtain ⟨xt10, h10, hn⟩ := gInt_elim h
    clear h
    have h := hn
    clear hn
    rw [l3_eq (σ := σ)] at h
    have e : (ov σ [(8, .int .i64 xt8), (9, .slice At9 nt9 ct9), (10, .int .i64 xt10)]) = σ := ov_self (by simp [h8, h9, h10])
    rw [e] at h
    exact h
def l2LO : LO := ⟨[], [], [(4, [0, 1, 7])], []⟩
def l2Tk (k : Nat) : Spec := fun Q σ w =>
  gSlice (σ 0) fun At0 nt0 ct0 =>
  gInt .i64 (σ 7) fun xt7 =>
  gInt .i64 (σ 8) fun xt8 =>
  l2 k At0 nt0 ct0 xt7 xt8 w (fun (xq7 : Int) (w : World) => ∀ d : Fr, Q (.exit 4) (ov d [(0, .slice At0 nt0 ct0), (1, σ 1), (7, .int .i64 xq7)]) w)
def l2T : Spec := fun Q σ w => ∃ k, l2Tk k Q σ w
def l2tb : List (List Nat × Spec) := [([0, 1, 0, 1, 0, 0, 1, 0, 0, 1, 0, 1, 1, 1, 1, 1], l3T)]
noncomputable def l2b : Code := (subC [0, 0, 1, 0, 1, 1, 1, 1, 1] body).getD .skip
theorem l2_eq (k : Nat) (At0 : Option Addr) (nt0 : Nat) (ct0 : Nat) (xt7 : Int) (xt8 : Int) (Q : PQ) (σ : Fr) (w : World) :
    l2 (k + 1) At0 nt0 ct0 xt7 xt8 w (fun (xq7 : Int) (w : World) => ∀ d : Fr, Q (.exit 4) (ov d [(0, .slice At0 nt0 ct0), (1, σ 1), (7, .int .i64 xq7)]) w) = codeW Tryd.prog hT 87 D (tab l2tb) [0, 0, 1, 0, 1, 1, 1, 1, 1] l2b (thenQ (l2Tk k Q) (widen l2LO Q)) (ov σ [(0, .slice At0 nt0 ct0), (7, .int .i64 xt7), (8, .int .i64 xt8)]) w := by kernel_rfl
theorem l2_snd : ∀ c, subC [0, 1, 0, 1, 1, 1, 1, 1] body = some c → Snd Tryd.prog 87 c l2T := by
  refine loop_of (hT := hT) (D := D) (l := l2tb) (b := l2b) (lo := l2LO) (by kernel_rfl) (by
    intro x hx
    simp only [l2tb, List.mem_cons, List.not_mem_nil, or_false] at hx
    subst hx
    exact l3_snd) (by kernel_rfl) (by kernel_rfl) ?_ ?_
  · intro Q σ w h
    unfold l2Tk at h
    obtain ⟨At0, nt0, ct0, h0, hn⟩ := gSlice_elim h
    clear h
    have h := hn
    clear hn
    obtain ⟨xt7, h7, hn⟩ := gInt_elim h
    clear h
    have h := hn
    clear hn
    obtain ⟨xt8, h8, hn⟩ := gInt_elim h
    clear h
    have h := hn
    clear hn
    exact h
  · intro k Q σ w h
    unfold l2Tk at h
    obtain ⟨At0, nt0, ct0, h0, hn⟩ := gSlice_elim h
    clear h
    have h := hn
    clear hn
    obtain ⟨xt7, h7, hn⟩ := gInt_elim h
    clear h
    have h := hn
    clear hn
    obtain ⟨xt8, h8, hn⟩ := gInt_elim h
    clear h
    have h := hn
    clear hn
    rw [l2_eq (σ := σ)] at h
    have e : (ov σ [(0, .slice At0 nt0 ct0), (7, .int .i64 xt7), (8, .int .i64 xt8)]) = σ := ov_self (by simp [h0, h7, h8])
    rw [e] at h
    exact h
def l4LO : LO := ⟨[], [4], [(8, [7])], []⟩
def l4Tk (k : Nat) : Spec := fun Q σ w =>
  gSlice (σ 0) fun At0 nt0 ct0 =>
  gSlice (σ 1) fun At1 nt1 ct1 =>
  gInt .i64 (σ 11) fun xt11 =>
  l4 k At0 nt0 ct0 At1 nt1 ct1 xt11 w (fun (w : World) => ∀ d : Fr, Q (.exit 8) (ov d [(7, σ 7)]) w) (fun (bq4 : Bool) (w : World) => ∀ d : Fr, Q .ret (ov d [(4, .bool bq4)]) w)
def l4T : Spec := fun Q σ w => ∃ k, l4Tk k Q σ w
def l4tb : List (List Nat × Spec) := []
noncomputable def l4b : Code := (subC [0, 0, 1, 0, 1, 1, 1, 1, 1, 1] body).getD .skip
theorem l4_eq (k : Nat) (At0 : Option Addr) (nt0 : Nat) (ct0 : Nat) (At1 : Option Addr) (nt1 : Nat) (ct1 : Nat) (xt11 : Int) (Q : PQ) (σ : Fr) (w : World) :
    l4 (k + 1) At0 nt0 ct0 At1 nt1 ct1 xt11 w (fun (w : World) => ∀ d : Fr, Q (.exit 8) (ov d [(7, σ 7)]) w) (fun (bq4 : Bool) (w : World) => ∀ d : Fr, Q .ret (ov d [(4, .bool bq4)]) w) = codeW Tryd.prog hT 87 D (tab l4tb) [0, 0, 1, 0, 1, 1, 1, 1, 1, 1] l4b (thenQ (l4Tk k Q) (widen l4LO Q)) (ov σ [(0, .slice At0 nt0 ct0), (1, .slice At1 nt1 ct1), (11, .int .i64 xt11)]) w := by kernel_rfl
theorem l4_snd : ∀ c, subC [0, 1, 0, 1, 1, 1, 1, 1, 1] body = some c → Snd Tryd.prog 87 c l4T := by
  refine loop_of (hT := hT) (D := D) (l := l4tb) (b := l4b) (lo := l4LO) (by kernel_rfl) (by
    intro x hx
    simp only [l4tb, List.not_mem_nil] at hx
    ) (by kernel_rfl) (by kernel_rfl) ?_ ?_
  · intro Q σ w h
    unfold l4Tk at h
    obtain ⟨At0, nt0, ct0, h0, hn⟩ := gSlice_elim h
    clear h
    have h := hn
    clear hn
    obtain ⟨At1, nt1, ct1, h1, hn⟩ := gSlice_elim h
    clear h
    have h := hn
    clear hn
    obtain ⟨xt11, h11, hn⟩ := gInt_elim h
    clear h
    have h := hn
    clear hn
    exact h
  · intro k Q σ w h
    unfold l4Tk at h
    obtain ⟨At0, nt0, ct0, h0, hn⟩ := gSlice_elim h
    clear h
    have h := hn
    clear hn
    obtain ⟨At1, nt1, ct1, h1, hn⟩ := gSlice_elim h
    clear h
    have h := hn
    clear hn
    obtain ⟨xt11, h11, hn⟩ := gInt_elim h
    clear h
    have h := hn
    clear hn
    rw [l4_eq (σ := σ)] at h
    have e : (ov σ [(0, .slice At0 nt0 ct0), (1, .slice At1 nt1 ct1), (11, .int .i64 xt11)]) = σ := ov_self (by simp [h0, h1, h11])
    rw [e] at h
    exact h
def tb : List (List Nat × Spec) := [([0, 1, 0, 1, 1], l0T), ([0, 1, 0, 1, 1, 1], l1T), ([0, 1, 0, 1, 0, 0, 1, 0, 0, 1, 0, 1, 1, 1, 1, 1], l3T), ([0, 1, 0, 1, 1, 1, 1, 1], l2T), ([0, 1, 0, 1, 1, 1, 1, 1, 1], l4T)]
theorem wp_eq (Aa0 : Option Addr) (na0 : Nat) (ca0 : Nat) (Aa1 : Option Addr) (na1 : Nat) (ca1 : Nat) (w : World) (Q : Ending → World → Prop) :
    wp Aa0 na0 ca0 Aa1 na1 ca1 w Q = codeW Tryd.prog hT 87 D (tab tb) [] body (topQ Tryd.prog hT 87 [.tmp 4] Q) (argsF [.slice Aa0 na0 ca0, .slice Aa1 na1 ca1]) w := by kernel_rfl
theorem ok (Aa0 : Option Addr) (na0 : Nat) (ca0 : Nat) (Aa1 : Option Addr) (na1 : Nat) (ca1 : Nat) (w : World) (Q : Ending → World → Prop) (h : wp Aa0 na0 ca0 Aa1 na1 ca1 w Q) : Calls Tryd.prog 58 #[.slice Aa0 na0 ca0, .slice Aa1 na1 ca1] w Q := by
  rw [wp_eq] at h
  exact calls_of_codeW (c := body) (rs := [.tmp 4]) Tryd.func58 (by kernel_rfl) (by kernel_rfl) (by kernel_rfl) (by kernel_rfl) (by kernel_rfl) (tab_snd (by
    intro x hx
    simp only [tb, List.mem_cons, List.not_mem_nil, or_false] at hx
    rcases hx with rfl | rfl | rfl | rfl | rfl
    · exact l0_snd
    · exact l1_snd
    · exact l3_snd
    · exact l2_snd
    · exact l4_snd)) (by kernel_rfl) h
end f_ref01_ApartAll
namespace f_ref09_Bodies
/-! skein/skeinref09.Bodies: function 59 -/
noncomputable def body : Code := (Tryd.f59.body).getD .skip
def l0 : Nat → Option Addr → Nat → Nat → Option Addr → Nat → Nat → Int → World → ((Option Addr) → Nat → Nat → World → Prop) → Prop
  | 0, _, _, _, _, _, _, _, _, _ => False
  | k + 1, At0, nt0, ct0, At3, nt3, ct3, xt4, w, K0 =>
    sel (decide (xt4 < (nt0 : Int))) (
    optB At0 fun a3 =>
    req (decide (0 ≤ xt4 ∧ xt4 < (nt0 : Int))) <|
    ldS w ((a3.add (xt4.toNat * 3)).add 2) fun A4 n4 c4 =>
    alW w (.cells #[.slice A4 n4 c4] 29) fun B5 w6 =>
    Runs Tryd.prog (Builtin.append_ #[49, 49] 49 #[.slice At3 nt3 ct3, .slice (some (⟨B5, 0, Option.none⟩ : Addr)) 1 1]) w6 fun v8 w7 => ∃ (A9 : Option Addr) (n9 : Nat) (c9 : Nat), v8 = (.slice A9 n9 c9) ∧ (
    l0 k At0 nt0 ct0 A9 n9 c9 (IntKind.i64.wrap (xt4 + (1 : Int))) w7 K0)) (
    K0 At3 nt3 ct3 w)
def wp (Aa0 : Option Addr) (na0 : Nat) (ca0 : Nat) (w : World) (Q : Ending → World → Prop) : Prop :=
  alW w (.cells #[] 29) fun B1 w2 =>
  ∃ k12 : Nat, l0 k12 Aa0 na0 ca0 (some (⟨B1, 0, Option.none⟩ : Addr)) 0 0 (0 : Int) w2 (fun (A10 : Option Addr) (n10 : Nat) (c10 : Nat) (w11 : World) => ∀ _ : Fr,
  Q (.returned (.slice A10 n10 c10)) w11)
def D : Nat → Option DH := dtab []
def l0LO : LO := ⟨[], [], [(0, [3])], []⟩
def l0Tk (k : Nat) : Spec := fun Q σ w =>
  gSlice (σ 0) fun At0 nt0 ct0 =>
  gSlice (σ 3) fun At3 nt3 ct3 =>
  gInt .i64 (σ 4) fun xt4 =>
  l0 k At0 nt0 ct0 At3 nt3 ct3 xt4 w (fun (Aq3 : Option Addr) (nq3 : Nat) (cq3 : Nat) (w : World) => ∀ d : Fr, Q (.exit 0) (ov d [(3, .slice Aq3 nq3 cq3)]) w)
def l0T : Spec := fun Q σ w => ∃ k, l0Tk k Q σ w
def l0tb : List (List Nat × Spec) := []
noncomputable def l0b : Code := (subC [0, 0, 1, 0, 1, 1] body).getD .skip
theorem l0_eq (k : Nat) (At0 : Option Addr) (nt0 : Nat) (ct0 : Nat) (At3 : Option Addr) (nt3 : Nat) (ct3 : Nat) (xt4 : Int) (Q : PQ) (σ : Fr) (w : World) :
    l0 (k + 1) At0 nt0 ct0 At3 nt3 ct3 xt4 w (fun (Aq3 : Option Addr) (nq3 : Nat) (cq3 : Nat) (w : World) => ∀ d : Fr, Q (.exit 0) (ov d [(3, .slice Aq3 nq3 cq3)]) w) = codeW Tryd.prog hT 21 D (tab l0tb) [0, 0, 1, 0, 1, 1] l0b (thenQ (l0Tk k Q) (widen l0LO Q)) (ov σ [(0, .slice At0 nt0 ct0), (3, .slice At3 nt3 ct3), (4, .int .i64 xt4)]) w := by kernel_rfl
theorem l0_snd : ∀ c, subC [0, 1, 0, 1, 1] body = some c → Snd Tryd.prog 21 c l0T := by
  refine loop_of (hT := hT) (D := D) (l := l0tb) (b := l0b) (lo := l0LO) (by kernel_rfl) (by
    intro x hx
    simp only [l0tb, List.not_mem_nil] at hx
    ) (by kernel_rfl) (by kernel_rfl) ?_ ?_
  · intro Q σ w h
    unfold l0Tk at h
    obtain ⟨At0, nt0, ct0, h0, hn⟩ := gSlice_elim h
    clear h
    have h := hn
    clear hn
    obtain ⟨At3, nt3, ct3, h3, hn⟩ := gSlice_elim h
    clear h
    have h := hn
    clear hn
    obtain ⟨xt4, h4, hn⟩ := gInt_elim h
    clear h
    have h := hn
    clear hn
    exact h
  · intro k Q σ w h
    unfold l0Tk at h
    obtain ⟨At0, nt0, ct0, h0, hn⟩ := gSlice_elim h
    clear h
    have h := hn
    clear hn
    obtain ⟨At3, nt3, ct3, h3, hn⟩ := gSlice_elim h
    clear h
    have h := hn
    clear hn
    obtain ⟨xt4, h4, hn⟩ := gInt_elim h
    clear h
    have h := hn
    clear hn
    rw [l0_eq (σ := σ)] at h
    have e : (ov σ [(0, .slice At0 nt0 ct0), (3, .slice At3 nt3 ct3), (4, .int .i64 xt4)]) = σ := ov_self (by simp [h0, h3, h4])
    rw [e] at h
    exact h
def tb : List (List Nat × Spec) := [([0, 1, 0, 1, 1], l0T)]
theorem wp_eq (Aa0 : Option Addr) (na0 : Nat) (ca0 : Nat) (w : World) (Q : Ending → World → Prop) :
    wp Aa0 na0 ca0 w Q = codeW Tryd.prog hT 21 D (tab tb) [] body (topQ Tryd.prog hT 21 [.tmp 2] Q) (argsF [.slice Aa0 na0 ca0]) w := by kernel_rfl
theorem ok (Aa0 : Option Addr) (na0 : Nat) (ca0 : Nat) (w : World) (Q : Ending → World → Prop) (h : wp Aa0 na0 ca0 w Q) : Calls Tryd.prog 59 #[.slice Aa0 na0 ca0] w Q := by
  rw [wp_eq] at h
  exact calls_of_codeW (c := body) (rs := [.tmp 2]) Tryd.func59 (by kernel_rfl) (by kernel_rfl) (by kernel_rfl) (by kernel_rfl) (by kernel_rfl) (tab_snd (by
    intro x hx
    simp only [tb, List.mem_cons, List.not_mem_nil, or_false] at hx
    subst hx
    exact l0_snd)) (by kernel_rfl) h
end f_ref09_Bodies
namespace f_ref01_Turned
/-! skein/skeinref01.Turned: function 78 -/
noncomputable def body : Code := (Tryd.f78.body).getD .skip
def l0 : Nat → Option Addr → Nat → Nat → Option Addr → Nat → Nat → Int → World → (World → Prop) → (Bool → World → Prop) → Prop
  | 0, _, _, _, _, _, _, _, _, _, _ => False
  | k + 1, At0, nt0, ct0, At1, nt1, ct1, xt5, w, K0, Kr =>
    sel (decide (xt5 < (nt1 : Int))) (
    drW w fun w1 =>
    optB At0 fun a3 =>
    req (decide (0 ≤ xt5 ∧ xt5 < (nt0 : Int))) <|
    ldI w1 (a3.add (xt5.toNat * 1)) .u8 fun x4 =>
    optB At1 fun a5 =>
    req (decide (0 ≤ xt5 ∧ xt5 < (nt1 : Int))) <|
    ldI w1 (a5.add (xt5.toNat * 1)) .u8 fun x6 =>
    sel (x4 != (bxor .u8 x6 (90 : Int))) (
    Kr false w1) (
    l0 k At0 nt0 ct0 At1 nt1 ct1 (IntKind.i64.wrap (xt5 + (1 : Int))) w1 K0 Kr)) (
    K0  w)
def wp (Aa0 : Option Addr) (na0 : Nat) (ca0 : Nat) (Aa1 : Option Addr) (na1 : Nat) (ca1 : Nat) (w : World) (Q : Ending → World → Prop) : Prop :=
  sel ((na0 : Int) != (na1 : Int)) (
  Q (.returned (.bool false)) w) (
  ∃ k10 : Nat, l0 k10 Aa0 na0 ca0 Aa1 na1 ca1 (0 : Int) w (fun (w7 : World) => ∀ _ : Fr,
  Q (.returned (.bool true)) w7) (fun (b8 : Bool) (w9 : World) => ∀ _ : Fr,
  Q (.returned (.bool b8)) w9))
def D : Nat → Option DH := dtab [(6, .simple [.fst 0, .fst 1, .fst 2, .fst 3, .fst 4, .fst 5, .fst 6, .fst 7, .fst 8] [.fst 9])]
def l0LO : LO := ⟨[], [4], [(0, [])], []⟩
def l0Tk (k : Nat) : Spec := fun Q σ w =>
  gSlice (σ 0) fun At0 nt0 ct0 =>
  gSlice (σ 1) fun At1 nt1 ct1 =>
  gInt .i64 (σ 5) fun xt5 =>
  l0 k At0 nt0 ct0 At1 nt1 ct1 xt5 w (fun (w : World) => ∀ d : Fr, Q (.exit 0) (ov d []) w) (fun (bq4 : Bool) (w : World) => ∀ d : Fr, Q .ret (ov d [(4, .bool bq4)]) w)
def l0T : Spec := fun Q σ w => ∃ k, l0Tk k Q σ w
def l0tb : List (List Nat × Spec) := []
noncomputable def l0b : Code := (subC [0, 0, 1, 0, 1, 1] body).getD .skip
theorem l0_eq (k : Nat) (At0 : Option Addr) (nt0 : Nat) (ct0 : Nat) (At1 : Option Addr) (nt1 : Nat) (ct1 : Nat) (xt5 : Int) (Q : PQ) (σ : Fr) (w : World) :
    l0 (k + 1) At0 nt0 ct0 At1 nt1 ct1 xt5 w (fun (w : World) => ∀ d : Fr, Q (.exit 0) (ov d []) w) (fun (bq4 : Bool) (w : World) => ∀ d : Fr, Q .ret (ov d [(4, .bool bq4)]) w) = codeW Tryd.prog hT 27 D (tab l0tb) [0, 0, 1, 0, 1, 1] l0b (thenQ (l0Tk k Q) (widen l0LO Q)) (ov σ [(0, .slice At0 nt0 ct0), (1, .slice At1 nt1 ct1), (5, .int .i64 xt5)]) w := by kernel_rfl
theorem l0_snd : ∀ c, subC [0, 1, 0, 1, 1] body = some c → Snd Tryd.prog 27 c l0T := by
  refine loop_of (hT := hT) (D := D) (l := l0tb) (b := l0b) (lo := l0LO) (by kernel_rfl) (by
    intro x hx
    simp only [l0tb, List.not_mem_nil] at hx
    ) (by kernel_rfl) (by kernel_rfl) ?_ ?_
  · intro Q σ w h
    unfold l0Tk at h
    obtain ⟨At0, nt0, ct0, h0, hn⟩ := gSlice_elim h
    clear h
    have h := hn
    clear hn
    obtain ⟨At1, nt1, ct1, h1, hn⟩ := gSlice_elim h
    clear h
    have h := hn
    clear hn
    obtain ⟨xt5, h5, hn⟩ := gInt_elim h
    clear h
    have h := hn
    clear hn
    exact h
  · intro k Q σ w h
    unfold l0Tk at h
    obtain ⟨At0, nt0, ct0, h0, hn⟩ := gSlice_elim h
    clear h
    have h := hn
    clear hn
    obtain ⟨At1, nt1, ct1, h1, hn⟩ := gSlice_elim h
    clear h
    have h := hn
    clear hn
    obtain ⟨xt5, h5, hn⟩ := gInt_elim h
    clear h
    have h := hn
    clear hn
    rw [l0_eq (σ := σ)] at h
    have e : (ov σ [(0, .slice At0 nt0 ct0), (1, .slice At1 nt1 ct1), (5, .int .i64 xt5)]) = σ := ov_self (by simp [h0, h1, h5])
    rw [e] at h
    exact h
def tb : List (List Nat × Spec) := [([0, 1, 0, 1, 1], l0T)]
theorem wp_eq (Aa0 : Option Addr) (na0 : Nat) (ca0 : Nat) (Aa1 : Option Addr) (na1 : Nat) (ca1 : Nat) (w : World) (Q : Ending → World → Prop) :
    wp Aa0 na0 ca0 Aa1 na1 ca1 w Q = codeW Tryd.prog hT 27 D (tab tb) [] body (topQ Tryd.prog hT 27 [.tmp 4] Q) (argsF [.slice Aa0 na0 ca0, .slice Aa1 na1 ca1]) w := by kernel_rfl
theorem ok (Aa0 : Option Addr) (na0 : Nat) (ca0 : Nat) (Aa1 : Option Addr) (na1 : Nat) (ca1 : Nat) (w : World) (Q : Ending → World → Prop) (h : wp Aa0 na0 ca0 Aa1 na1 ca1 w Q) : Calls Tryd.prog 78 #[.slice Aa0 na0 ca0, .slice Aa1 na1 ca1] w Q := by
  rw [wp_eq] at h
  exact calls_of_codeW (c := body) (rs := [.tmp 4]) Tryd.func78 (by kernel_rfl) (by kernel_rfl) (by kernel_rfl) (by kernel_rfl) (by kernel_rfl) (tab_snd (by
    intro x hx
    simp only [tb, List.mem_cons, List.not_mem_nil, or_false] at hx
    subst hx
    exact l0_snd)) (by kernel_rfl) h
end f_ref01_Turned
end Go.Proofs.YtpokaafedpnbdaaDoor.Rd
