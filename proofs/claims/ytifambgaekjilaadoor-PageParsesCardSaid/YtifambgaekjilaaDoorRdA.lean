/- The printed readings of some functions: each function's code reckoned by the kernel to its predicate transformer. -/
import Derived.Test.YtifambgaekjilaaDoorHint
namespace Go.Proofs.YtifambgaekjilaaDoor.Rd
open Go.Dn
set_option maxRecDepth 100000
set_option linter.unusedVariables false
namespace f_ref01_Wide
/-! skein/skeinref01.Wide: function 8 -/
noncomputable def body : Code := (Tryd.f8.body).getD .skip
def l0 : Nat → Option Addr → Nat → Nat → Int → World → ((Option Addr) → Nat → Nat → World → Prop) → Prop
  | 0, _, _, _, _, _, _ => False
  | k + 1, At3, nt3, ct3, xt4, w, K0 =>
    sel (decide (xt4 < (64 : Int))) (
    alW w (.cells #[.int .u8 (IntKind.u8.wrap (IntKind.i64.wrap ((208 : Int) + (xt4.tmod (9 : Int)))))] 5) fun B4 w5 =>
    Runs Tryd.prog (Builtin.append_ #[22, 22] 22 #[.slice At3 nt3 ct3, .slice (some (⟨B4, 0, Option.none⟩ : Addr)) 1 1]) w5 fun v7 w6 => ∃ (A8 : Option Addr) (n8 : Nat) (c8 : Nat), v7 = (.slice A8 n8 c8) ∧ (
    l0 k A8 n8 c8 (IntKind.i64.wrap (xt4 + (1 : Int))) w6 K0)) (
    K0 At3 nt3 ct3 w)
def wp (Aa0 : Option Addr) (na0 : Nat) (ca0 : Nat) (w : World) (Q : Ending → World → Prop) : Prop :=
  Calls Tryd.prog 30 #[.slice Aa0 na0 ca0] w fun e1 w2 => ∃ (A3 : Option Addr) (n3 : Nat) (c3 : Nat), e1 = .returned (.slice A3 n3 c3) ∧ (
  ∃ k11 : Nat, l0 k11 A3 n3 c3 (0 : Int) w2 (fun (A9 : Option Addr) (n9 : Nat) (c9 : Nat) (w10 : World) => ∀ _ : Fr,
  Q (.returned (.slice A9 n9 c9)) w10))
def D : Nat → Option DH := dtab []
def l0LO : LO := ⟨[], [], [(0, [3])], []⟩
def l0Tk (k : Nat) : Spec := fun Q σ w =>
  gSlice (σ 3) fun At3 nt3 ct3 =>
  gInt .i64 (σ 4) fun xt4 =>
  l0 k At3 nt3 ct3 xt4 w (fun (Aq3 : Option Addr) (nq3 : Nat) (cq3 : Nat) (w : World) => ∀ d : Fr, Q (.exit 0) (ov d [(3, .slice Aq3 nq3 cq3)]) w)
def l0T : Spec := fun Q σ w => ∃ k, l0Tk k Q σ w
def l0tb : List (List Nat × Spec) := []
noncomputable def l0b : Code := (subC [0, 0, 1, 0, 1, 1] body).getD .skip
theorem l0_eq (k : Nat) (At3 : Option Addr) (nt3 : Nat) (ct3 : Nat) (xt4 : Int) (Q : PQ) (σ : Fr) (w : World) :
    l0 (k + 1) At3 nt3 ct3 xt4 w (fun (Aq3 : Option Addr) (nq3 : Nat) (cq3 : Nat) (w : World) => ∀ d : Fr, Q (.exit 0) (ov d [(3, .slice Aq3 nq3 cq3)]) w) = codeW Tryd.prog hT 19 D (tab l0tb) [0, 0, 1, 0, 1, 1] l0b (thenQ (l0Tk k Q) (widen l0LO Q)) (ov σ [(3, .slice At3 nt3 ct3), (4, .int .i64 xt4)]) w := by kernel_rfl
theorem l0_snd : ∀ c, subC [0, 1, 0, 1, 1] body = some c → Snd Tryd.prog 19 c l0T := by
  refine loop_of (hT := hT) (D := D) (l := l0tb) (b := l0b) (lo := l0LO) (by kernel_rfl) (by
    intro x hx
    simp only [l0tb, List.not_mem_nil] at hx
    ) (by kernel_rfl) (by kernel_rfl) ?_ ?_
  · intro Q σ w h
    unfold l0Tk at h
    obtain ⟨At3, nt3, ct3, h3, hn⟩ := gSlice_elim h
    clear h
    have h := hn
    clear hn
    obtain ⟨xt4, h4, hn⟩ := gInt_elim h
    clear h
    have h := hn
    clear hn
    exact h
  · intro k Q σ w h
    unfold l0Tk at h
    obtain ⟨At3, nt3, ct3, h3, hn⟩ := gSlice_elim h
    clear h
    have h := hn
    clear hn
    obtain ⟨xt4, h4, hn⟩ := gInt_elim h
    clear h
    have h := hn
    clear hn
    rw [l0_eq (σ := σ)] at h
    have e : (ov σ [(3, .slice At3 nt3 ct3), (4, .int .i64 xt4)]) = σ := ov_self (by simp [h3, h4])
    rw [e] at h
    exact h
def tb : List (List Nat × Spec) := [([0, 1, 0, 1, 1], l0T)]
theorem wp_eq (Aa0 : Option Addr) (na0 : Nat) (ca0 : Nat) (w : World) (Q : Ending → World → Prop) :
    wp Aa0 na0 ca0 w Q = codeW Tryd.prog hT 19 D (tab tb) [] body (topQ Tryd.prog hT 19 [.tmp 2] Q) (argsF [.slice Aa0 na0 ca0]) w := by kernel_rfl
theorem ok (Aa0 : Option Addr) (na0 : Nat) (ca0 : Nat) (w : World) (Q : Ending → World → Prop) (h : wp Aa0 na0 ca0 w Q) : Calls Tryd.prog 8 #[.slice Aa0 na0 ca0] w Q := by
  rw [wp_eq] at h
  exact calls_of_codeW (c := body) (rs := [.tmp 2]) Tryd.func8 (by kernel_rfl) (by kernel_rfl) (by kernel_rfl) (by kernel_rfl) (by kernel_rfl) (tab_snd (by
    intro x hx
    simp only [tb, List.mem_cons, List.not_mem_nil, or_false] at hx
    subst hx
    exact l0_snd)) (by kernel_rfl) h
end f_ref01_Wide
namespace f_ref01_Intact
/-! skein/skeinref01.Intact: function 11 -/
noncomputable def body : Code := (Tryd.f11.body).getD .skip
def l0 : Nat → Option Addr → Nat → Nat → Option Addr → Nat → Nat → Int → World → (World → Prop) → (Bool → World → Prop) → Prop
  | 0, _, _, _, _, _, _, _, _, _, _ => False
  | k + 1, At0, nt0, ct0, At1, nt1, ct1, xt5, w, K0, Kr =>
    sel (decide (xt5 < (nt1 : Int))) (
    drW w fun w1 =>
    optB At0 fun a3 =>
    req (decide (0 ≤ xt5 ∧ xt5 < (nt0 : Int))) <|
    ldI w1 (a3.add (xt5.toNat * 1)) .u8 fun x4 =>
    optB At1 fun a5 =>
    req (decide (0 ≤ xt5 ∧ xt5 < (nt1 : Int))) <|
    ldI w1 (a5.add (xt5.toNat * 1)) .u8 fun x6 =>
    sel (x4 != x6) (
    Kr false w1) (
    l0 k At0 nt0 ct0 At1 nt1 ct1 (IntKind.i64.wrap (xt5 + (1 : Int))) w1 K0 Kr)) (
    K0  w)
def l1 : Nat → Option Addr → Nat → Nat → Option Addr → Nat → Nat → Int → World → (World → Prop) → (Bool → World → Prop) → Prop
  | 0, _, _, _, _, _, _, _, _, _, _ => False
  | k + 1, At0, nt0, ct0, At1, nt1, ct1, xt6, w, K2, Kr =>
    sel (decide (xt6 < (64 : Int))) (
    optB At0 fun a8 =>
    req (decide (0 ≤ (IntKind.i64.wrap ((nt1 : Int) + xt6)) ∧ (IntKind.i64.wrap ((nt1 : Int) + xt6)) < (nt0 : Int))) <|
    ldI w (a8.add ((IntKind.i64.wrap ((nt1 : Int) + xt6)).toNat * 1)) .u8 fun x9 =>
    sel (x9 != (IntKind.u8.wrap (IntKind.i64.wrap ((208 : Int) + (xt6.tmod (9 : Int)))))) (
    Kr false w) (
    l1 k At0 nt0 ct0 At1 nt1 ct1 (IntKind.i64.wrap (xt6 + (1 : Int))) w K2 Kr)) (
    K2  w)
def wp (Aa0 : Option Addr) (na0 : Nat) (ca0 : Nat) (Aa1 : Option Addr) (na1 : Nat) (ca1 : Nat) (w : World) (Q : Ending → World → Prop) : Prop :=
  sel ((na0 : Int) != (IntKind.i64.wrap ((na1 : Int) + (64 : Int)))) (
  Q (.returned (.bool false)) w) (
  ∃ k16 : Nat, l0 k16 Aa0 na0 ca0 Aa1 na1 ca1 (0 : Int) w (fun (w7 : World) => ∀ _ : Fr,
  ∃ k13 : Nat, l1 k13 Aa0 na0 ca0 Aa1 na1 ca1 (0 : Int) w7 (fun (w10 : World) => ∀ _ : Fr,
  Q (.returned (.bool true)) w10) (fun (b11 : Bool) (w12 : World) => ∀ _ : Fr,
  Q (.returned (.bool b11)) w12)) (fun (b14 : Bool) (w15 : World) => ∀ _ : Fr,
  Q (.returned (.bool b14)) w15))
def D : Nat → Option DH := dtab [(6, .simple [.fst 0, .fst 1, .fst 2, .fst 3, .fst 4, .fst 5, .fst 6, .fst 7] [.fst 8])]
def l0LO : LO := ⟨[], [4], [(0, [0, 1])], []⟩
def l0Tk (k : Nat) : Spec := fun Q σ w =>
  gSlice (σ 0) fun At0 nt0 ct0 =>
  gSlice (σ 1) fun At1 nt1 ct1 =>
  gInt .i64 (σ 5) fun xt5 =>
  l0 k At0 nt0 ct0 At1 nt1 ct1 xt5 w (fun (w : World) => ∀ d : Fr, Q (.exit 0) (ov d [(0, .slice At0 nt0 ct0), (1, .slice At1 nt1 ct1)]) w) (fun (bq4 : Bool) (w : World) => ∀ d : Fr, Q .ret (ov d [(4, .bool bq4)]) w)
def l0T : Spec := fun Q σ w => ∃ k, l0Tk k Q σ w
def l0tb : List (List Nat × Spec) := []
noncomputable def l0b : Code := (subC [0, 0, 1, 0, 1, 1] body).getD .skip
theorem l0_eq (k : Nat) (At0 : Option Addr) (nt0 : Nat) (ct0 : Nat) (At1 : Option Addr) (nt1 : Nat) (ct1 : Nat) (xt5 : Int) (Q : PQ) (σ : Fr) (w : World) :
    l0 (k + 1) At0 nt0 ct0 At1 nt1 ct1 xt5 w (fun (w : World) => ∀ d : Fr, Q (.exit 0) (ov d [(0, .slice At0 nt0 ct0), (1, .slice At1 nt1 ct1)]) w) (fun (bq4 : Bool) (w : World) => ∀ d : Fr, Q .ret (ov d [(4, .bool bq4)]) w) = codeW Tryd.prog hT 44 D (tab l0tb) [0, 0, 1, 0, 1, 1] l0b (thenQ (l0Tk k Q) (widen l0LO Q)) (ov σ [(0, .slice At0 nt0 ct0), (1, .slice At1 nt1 ct1), (5, .int .i64 xt5)]) w := by kernel_rfl
theorem l0_snd : ∀ c, subC [0, 1, 0, 1, 1] body = some c → Snd Tryd.prog 44 c l0T := by
  refine loop_of (hT := hT) (D := D) (l := l0tb) (b := l0b) (lo := l0LO) (by kernel_rfl) (by
    intro x hx
    simp only [l0tb, List.not_mem_nil] at hx
    ) (by kernel_rfl) (by kernel_rfl) ?_ ?_
  · intro Q σ w h
    unfold l0Tk at h
    obtain ⟨At0, nt0, ct0, h0, hn⟩ := gSlice_elim h
    clear h
    have h := hn
    clear hn
    obtain ⟨At1, nt1, ct1, h1, hn⟩ := gSlice_elim h
    clear h
    have h := hn
    clear hn
    obtain ⟨xt5, h5, hn⟩ := gInt_elim h
    clear h
    have h := hn
    clear hn
    exact h
  · intro k Q σ w h
    unfold l0Tk at h
    obtain ⟨At0, nt0, ct0, h0, hn⟩ := gSlice_elim h
    clear h
    have h := hn
    clear hn
    obtain ⟨At1, nt1, ct1, h1, hn⟩ := gSlice_elim h
    clear h
    have h := hn
    clear hn
    obtain ⟨xt5, h5, hn⟩ := gInt_elim h
    clear h
    have h := hn
    clear hn
    rw [l0_eq (σ := σ)] at h
    have e : (ov σ [(0, .slice At0 nt0 ct0), (1, .slice At1 nt1 ct1), (5, .int .i64 xt5)]) = σ := ov_self (by simp [h0, h1, h5])
    rw [e] at h
    exact h
def l1LO : LO := ⟨[], [4], [(2, [])], []⟩
def l1Tk (k : Nat) : Spec := fun Q σ w =>
  gSlice (σ 0) fun At0 nt0 ct0 =>
  gSlice (σ 1) fun At1 nt1 ct1 =>
  gInt .i64 (σ 6) fun xt6 =>
  l1 k At0 nt0 ct0 At1 nt1 ct1 xt6 w (fun (w : World) => ∀ d : Fr, Q (.exit 2) (ov d []) w) (fun (bq4 : Bool) (w : World) => ∀ d : Fr, Q .ret (ov d [(4, .bool bq4)]) w)
def l1T : Spec := fun Q σ w => ∃ k, l1Tk k Q σ w
def l1tb : List (List Nat × Spec) := []
noncomputable def l1b : Code := (subC [0, 0, 1, 0, 1, 1, 1] body).getD .skip
theorem l1_eq (k : Nat) (At0 : Option Addr) (nt0 : Nat) (ct0 : Nat) (At1 : Option Addr) (nt1 : Nat) (ct1 : Nat) (xt6 : Int) (Q : PQ) (σ : Fr) (w : World) :
    l1 (k + 1) At0 nt0 ct0 At1 nt1 ct1 xt6 w (fun (w : World) => ∀ d : Fr, Q (.exit 2) (ov d []) w) (fun (bq4 : Bool) (w : World) => ∀ d : Fr, Q .ret (ov d [(4, .bool bq4)]) w) = codeW Tryd.prog hT 44 D (tab l1tb) [0, 0, 1, 0, 1, 1, 1] l1b (thenQ (l1Tk k Q) (widen l1LO Q)) (ov σ [(0, .slice At0 nt0 ct0), (1, .slice At1 nt1 ct1), (6, .int .i64 xt6)]) w := by kernel_rfl
theorem l1_snd : ∀ c, subC [0, 1, 0, 1, 1, 1] body = some c → Snd Tryd.prog 44 c l1T := by
  refine loop_of (hT := hT) (D := D) (l := l1tb) (b := l1b) (lo := l1LO) (by kernel_rfl) (by
    intro x hx
    simp only [l1tb, List.not_mem_nil] at hx
    ) (by kernel_rfl) (by kernel_rfl) ?_ ?_
  · intro Q σ w h
    unfold l1Tk at h
    obtain ⟨At0, nt0, ct0, h0, hn⟩ := gSlice_elim h
    clear h
    have h := hn
    clear hn
    obtain ⟨At1, nt1, ct1, h1, hn⟩ := gSlice_elim h
    clear h
    have h := hn
    clear hn
    obtain ⟨xt6, h6, hn⟩ := gInt_elim h
    clear h
    have h := hn
    clear hn
    exact h
  · intro k Q σ w h
    unfold l1Tk at h
    obtain ⟨At0, nt0, ct0, h0, hn⟩ := gSlice_elim h
    clear h
    have h := hn
    clear hn
    obtain ⟨At1, nt1, ct1, h1, hn⟩ := gSlice_elim h
    clear h
    have h := hn
    clear hn
    obtain ⟨xt6, h6, hn⟩ := gInt_elim h
    clear h
    have h := hn
    clear hn
    rw [l1_eq (σ := σ)] at h
    have e : (ov σ [(0, .slice At0 nt0 ct0), (1, .slice At1 nt1 ct1), (6, .int .i64 xt6)]) = σ := ov_self (by simp [h0, h1, h6])
    rw [e] at h
    exact h
def tb : List (List Nat × Spec) := [([0, 1, 0, 1, 1], l0T), ([0, 1, 0, 1, 1, 1], l1T)]
theorem wp_eq (Aa0 : Option Addr) (na0 : Nat) (ca0 : Nat) (Aa1 : Option Addr) (na1 : Nat) (ca1 : Nat) (w : World) (Q : Ending → World → Prop) :
    wp Aa0 na0 ca0 Aa1 na1 ca1 w Q = codeW Tryd.prog hT 44 D (tab tb) [] body (topQ Tryd.prog hT 44 [.tmp 4] Q) (argsF [.slice Aa0 na0 ca0, .slice Aa1 na1 ca1]) w := by kernel_rfl
theorem ok (Aa0 : Option Addr) (na0 : Nat) (ca0 : Nat) (Aa1 : Option Addr) (na1 : Nat) (ca1 : Nat) (w : World) (Q : Ending → World → Prop) (h : wp Aa0 na0 ca0 Aa1 na1 ca1 w Q) : Calls Tryd.prog 11 #[.slice Aa0 na0 ca0, .slice Aa1 na1 ca1] w Q := by
  rw [wp_eq] at h
  exact calls_of_codeW (c := body) (rs := [.tmp 4]) Tryd.func11 (by kernel_rfl) (by kernel_rfl) (by kernel_rfl) (by kernel_rfl) (by kernel_rfl) (tab_snd (by
    intro x hx
    simp only [tb, List.mem_cons, List.not_mem_nil, or_false] at hx
    rcases hx with rfl | rfl
    · exact l0_snd
    · exact l1_snd)) (by kernel_rfl) h
end f_ref01_Intact
namespace f_ref01_Spoil
/-! skein/skeinref01.Spoil: function 12 -/
noncomputable def body : Code := (Tryd.f12.body).getD .skip
def l0 : Nat → Option Addr → Nat → Nat → Int → World → (World → Prop) → Prop
  | 0, _, _, _, _, _, _ => False
  | k + 1, At0, nt0, ct0, xt2, w, K0 =>
    sel (decide (xt2 < (nt0 : Int))) (
    optB At0 fun a1 =>
    req (decide (0 ≤ xt2 ∧ xt2 < (nt0 : Int))) <|
    ldI w (a1.add (xt2.toNat * 1)) .u8 fun x2 =>
    optB At0 fun a3 =>
    req (decide (0 ≤ xt2 ∧ xt2 < (nt0 : Int))) <|
    stW w (a3.add (xt2.toNat * 1)) (.int .u8 (bxor .u8 x2 (90 : Int))) fun w4 =>
    l0 k At0 nt0 ct0 (IntKind.i64.wrap (xt2 + (1 : Int))) w4 K0) (
    K0  w)
def wp (Aa0 : Option Addr) (na0 : Nat) (ca0 : Nat) (w : World) (Q : Ending → World → Prop) : Prop :=
  ∃ k6 : Nat, l0 k6 Aa0 na0 ca0 (0 : Int) w (fun (w5 : World) => ∀ _ : Fr,
  Q (.returned (.tuple #[])) w5)
def D : Nat → Option DH := dtab []
def l0LO : LO := ⟨[], [], [(0, [])], []⟩
def l0Tk (k : Nat) : Spec := fun Q σ w =>
  gSlice (σ 0) fun At0 nt0 ct0 =>
  gInt .i64 (σ 2) fun xt2 =>
  l0 k At0 nt0 ct0 xt2 w (fun (w : World) => ∀ d : Fr, Q (.exit 0) (ov d []) w)
def l0T : Spec := fun Q σ w => ∃ k, l0Tk k Q σ w
def l0tb : List (List Nat × Spec) := []
noncomputable def l0b : Code := (subC [0, 0, 1] body).getD .skip
theorem l0_eq (k : Nat) (At0 : Option Addr) (nt0 : Nat) (ct0 : Nat) (xt2 : Int) (Q : PQ) (σ : Fr) (w : World) :
    l0 (k + 1) At0 nt0 ct0 xt2 w (fun (w : World) => ∀ d : Fr, Q (.exit 0) (ov d []) w) = codeW Tryd.prog hT 17 D (tab l0tb) [0, 0, 1] l0b (thenQ (l0Tk k Q) (widen l0LO Q)) (ov σ [(0, .slice At0 nt0 ct0), (2, .int .i64 xt2)]) w := by kernel_rfl
theorem l0_snd : ∀ c, subC [0, 1] body = some c → Snd Tryd.prog 17 c l0T := by
  refine loop_of (hT := hT) (D := D) (l := l0tb) (b := l0b) (lo := l0LO) (by kernel_rfl) (by
    intro x hx
    simp only [l0tb, List.not_mem_nil] at hx
    ) (by kernel_rfl) (by kernel_rfl) ?_ ?_
  · intro Q σ w h
    unfold l0Tk at h
    obtain ⟨At0, nt0, ct0, h0, hn⟩ := gSlice_elim h
    clear h
    have h := hn
    clear hn
    obtain ⟨xt2, h2, hn⟩ := gInt_elim h
    clear h
    have h := hn
    clear hn
    exact h
  · intro k Q σ w h
    unfold l0Tk at h
    obtain ⟨At0, nt0, ct0, h0, hn⟩ := gSlice_elim h
    clear h
    have h := hn
    clear hn
    obtain ⟨xt2, h2, hn⟩ := gInt_elim h
    clear h
    have h := hn
    clear hn
    rw [l0_eq (σ := σ)] at h
    have e : (ov σ [(0, .slice At0 nt0 ct0), (2, .int .i64 xt2)]) = σ := ov_self (by simp [h0, h2])
    rw [e] at h
    exact h
def tb : List (List Nat × Spec) := [([0, 1], l0T)]
theorem wp_eq (Aa0 : Option Addr) (na0 : Nat) (ca0 : Nat) (w : World) (Q : Ending → World → Prop) :
    wp Aa0 na0 ca0 w Q = codeW Tryd.prog hT 17 D (tab tb) [] body (topQ Tryd.prog hT 17 [] Q) (argsF [.slice Aa0 na0 ca0]) w := by kernel_rfl
theorem ok (Aa0 : Option Addr) (na0 : Nat) (ca0 : Nat) (w : World) (Q : Ending → World → Prop) (h : wp Aa0 na0 ca0 w Q) : Calls Tryd.prog 12 #[.slice Aa0 na0 ca0] w Q := by
  rw [wp_eq] at h
  exact calls_of_codeW (c := body) (rs := []) Tryd.func12 (by kernel_rfl) (by kernel_rfl) (by kernel_rfl) (by kernel_rfl) (by kernel_rfl) (tab_snd (by
    intro x hx
    simp only [tb, List.mem_cons, List.not_mem_nil, or_false] at hx
    subst hx
    exact l0_snd)) (by kernel_rfl) h
end f_ref01_Spoil
namespace f_ref01_Same
/-! skein/skeinref01.Same: function 14 -/
noncomputable def body : Code := (Tryd.f14.body).getD .skip
def l0 : Nat → Option Addr → Nat → Nat → Option Addr → Nat → Nat → Int → World → (World → Prop) → (Bool → World → Prop) → Prop
  | 0, _, _, _, _, _, _, _, _, _, _ => False
  | k + 1, At0, nt0, ct0, At1, nt1, ct1, xt5, w, K0, Kr =>
    sel (decide (xt5 < (nt0 : Int))) (
    drW w fun w1 =>
    optB At0 fun a3 =>
    req (decide (0 ≤ xt5 ∧ xt5 < (nt0 : Int))) <|
    ldI w1 (a3.add (xt5.toNat * 1)) .u8 fun x4 =>
    optB At1 fun a5 =>
    req (decide (0 ≤ xt5 ∧ xt5 < (nt1 : Int))) <|
    ldI w1 (a5.add (xt5.toNat * 1)) .u8 fun x6 =>
    sel (x4 != x6) (
    Kr false w1) (
    l0 k At0 nt0 ct0 At1 nt1 ct1 (IntKind.i64.wrap (xt5 + (1 : Int))) w1 K0 Kr)) (
    K0  w)
def wp (Aa0 : Option Addr) (na0 : Nat) (ca0 : Nat) (Aa1 : Option Addr) (na1 : Nat) (ca1 : Nat) (w : World) (Q : Ending → World → Prop) : Prop :=
  sel ((na0 : Int) != (na1 : Int)) (
  Q (.returned (.bool false)) w) (
  ∃ k10 : Nat, l0 k10 Aa0 na0 ca0 Aa1 na1 ca1 (0 : Int) w (fun (w7 : World) => ∀ _ : Fr,
  Q (.returned (.bool true)) w7) (fun (b8 : Bool) (w9 : World) => ∀ _ : Fr,
  Q (.returned (.bool b8)) w9))
def D : Nat → Option DH := dtab [(6, .simple [.fst 0, .fst 1, .fst 2, .fst 3, .fst 4, .fst 5, .fst 6, .fst 7] [.fst 8])]
def l0LO : LO := ⟨[], [4], [(0, [])], []⟩
def l0Tk (k : Nat) : Spec := fun Q σ w =>
  gSlice (σ 0) fun At0 nt0 ct0 =>
  gSlice (σ 1) fun At1 nt1 ct1 =>
  gInt .i64 (σ 5) fun xt5 =>
  l0 k At0 nt0 ct0 At1 nt1 ct1 xt5 w (fun (w : World) => ∀ d : Fr, Q (.exit 0) (ov d []) w) (fun (bq4 : Bool) (w : World) => ∀ d : Fr, Q .ret (ov d [(4, .bool bq4)]) w)
def l0T : Spec := fun Q σ w => ∃ k, l0Tk k Q σ w
def l0tb : List (List Nat × Spec) := []
noncomputable def l0b : Code := (subC [0, 0, 1, 0, 1, 1] body).getD .skip
theorem l0_eq (k : Nat) (At0 : Option Addr) (nt0 : Nat) (ct0 : Nat) (At1 : Option Addr) (nt1 : Nat) (ct1 : Nat) (xt5 : Int) (Q : PQ) (σ : Fr) (w : World) :
    l0 (k + 1) At0 nt0 ct0 At1 nt1 ct1 xt5 w (fun (w : World) => ∀ d : Fr, Q (.exit 0) (ov d []) w) (fun (bq4 : Bool) (w : World) => ∀ d : Fr, Q .ret (ov d [(4, .bool bq4)]) w) = codeW Tryd.prog hT 26 D (tab l0tb) [0, 0, 1, 0, 1, 1] l0b (thenQ (l0Tk k Q) (widen l0LO Q)) (ov σ [(0, .slice At0 nt0 ct0), (1, .slice At1 nt1 ct1), (5, .int .i64 xt5)]) w := by kernel_rfl
theorem l0_snd : ∀ c, subC [0, 1, 0, 1, 1] body = some c → Snd Tryd.prog 26 c l0T := by
  refine loop_of (hT := hT) (D := D) (l := l0tb) (b := l0b) (lo := l0LO) (by kernel_rfl) (by
    intro x hx
    simp only [l0tb, List.not_mem_nil] at hx
    ) (by kernel_rfl) (by kernel_rfl) ?_ ?_
  · intro Q σ w h
    unfold l0Tk at h
    obtain ⟨At0, nt0, ct0, h0, hn⟩ := gSlice_elim h
    clear h
    have h := hn
    clear hn
    obtain ⟨At1, nt1, ct1, h1, hn⟩ := gSlice_elim h
    clear h
    have h := hn
    clear hn
    obtain ⟨xt5, h5, hn⟩ := gInt_elim h
    clear h
    have h := hn
    clear hn
    exact h
  · intro k Q σ w h
    unfold l0Tk at h
    obtain ⟨At0, nt0, ct0, h0, hn⟩ := gSlice_elim h
    clear h
    have h := hn
    clear hn
    obtain ⟨At1, nt1, ct1, h1, hn⟩ := gSlice_elim h
    clear h
    have h := hn
    clear hn
    obtain ⟨xt5, h5, hn⟩ := gInt_elim h
    clear h
    have h := hn
    clear hn
    rw [l0_eq (σ := σ)] at h
    have e : (ov σ [(0, .slice At0 nt0 ct0), (1, .slice At1 nt1 ct1), (5, .int .i64 xt5)]) = σ := ov_self (by simp [h0, h1, h5])
    rw [e] at h
    exact h
def tb : List (List Nat × Spec) := [([0, 1, 0, 1, 1], l0T)]
theorem wp_eq (Aa0 : Option Addr) (na0 : Nat) (ca0 : Nat) (Aa1 : Option Addr) (na1 : Nat) (ca1 : Nat) (w : World) (Q : Ending → World → Prop) :
    wp Aa0 na0 ca0 Aa1 na1 ca1 w Q = codeW Tryd.prog hT 26 D (tab tb) [] body (topQ Tryd.prog hT 26 [.tmp 4] Q) (argsF [.slice Aa0 na0 ca0, .slice Aa1 na1 ca1]) w := by kernel_rfl
theorem ok (Aa0 : Option Addr) (na0 : Nat) (ca0 : Nat) (Aa1 : Option Addr) (na1 : Nat) (ca1 : Nat) (w : World) (Q : Ending → World → Prop) (h : wp Aa0 na0 ca0 Aa1 na1 ca1 w Q) : Calls Tryd.prog 14 #[.slice Aa0 na0 ca0, .slice Aa1 na1 ca1] w Q := by
  rw [wp_eq] at h
  exact calls_of_codeW (c := body) (rs := [.tmp 4]) Tryd.func14 (by kernel_rfl) (by kernel_rfl) (by kernel_rfl) (by kernel_rfl) (by kernel_rfl) (tab_snd (by
    intro x hx
    simp only [tb, List.mem_cons, List.not_mem_nil, or_false] at hx
    subst hx
    exact l0_snd)) (by kernel_rfl) h
end f_ref01_Same
namespace f_ref01_Copy
/-! skein/skeinref01.Copy: function 30 -/
noncomputable def body : Code := (Tryd.f30.body).getD .skip
def l0 : Nat → Option Addr → Nat → Nat → Option Addr → Nat → Nat → Int → World → ((Option Addr) → Nat → Nat → World → Prop) → Prop
  | 0, _, _, _, _, _, _, _, _, _ => False
  | k + 1, At0, nt0, ct0, At3, nt3, ct3, xt4, w, K0 =>
    sel (decide (xt4 < (nt0 : Int))) (
    optB At0 fun a3 =>
    req (decide (0 ≤ xt4 ∧ xt4 < (nt0 : Int))) <|
    ldI w (a3.add (xt4.toNat * 1)) .u8 fun x4 =>
    alW w (.cells #[.int .u8 x4] 5) fun B5 w6 =>
    Runs Tryd.prog (Builtin.append_ #[22, 22] 22 #[.slice At3 nt3 ct3, .slice (some (⟨B5, 0, Option.none⟩ : Addr)) 1 1]) w6 fun v8 w7 => ∃ (A9 : Option Addr) (n9 : Nat) (c9 : Nat), v8 = (.slice A9 n9 c9) ∧ (
    l0 k At0 nt0 ct0 A9 n9 c9 (IntKind.i64.wrap (xt4 + (1 : Int))) w7 K0)) (
    K0 At3 nt3 ct3 w)
def wp (Aa0 : Option Addr) (na0 : Nat) (ca0 : Nat) (w : World) (Q : Ending → World → Prop) : Prop :=
  alW w (.cells #[] 5) fun B1 w2 =>
  ∃ k12 : Nat, l0 k12 Aa0 na0 ca0 (some (⟨B1, 0, Option.none⟩ : Addr)) 0 0 (0 : Int) w2 (fun (A10 : Option Addr) (n10 : Nat) (c10 : Nat) (w11 : World) => ∀ _ : Fr,
  Q (.returned (.slice A10 n10 c10)) w11)
def D : Nat → Option DH := dtab []
def l0LO : LO := ⟨[], [], [(0, [3])], []⟩
def l0Tk (k : Nat) : Spec := fun Q σ w =>
  gSlice (σ 0) fun At0 nt0 ct0 =>
  gSlice (σ 3) fun At3 nt3 ct3 =>
  gInt .i64 (σ 4) fun xt4 =>
  l0 k At0 nt0 ct0 At3 nt3 ct3 xt4 w (fun (Aq3 : Option Addr) (nq3 : Nat) (cq3 : Nat) (w : World) => ∀ d : Fr, Q (.exit 0) (ov d [(3, .slice Aq3 nq3 cq3)]) w)
def l0T : Spec := fun Q σ w => ∃ k, l0Tk k Q σ w
def l0tb : List (List Nat × Spec) := []
noncomputable def l0b : Code := (subC [0, 0, 1, 0, 1, 1] body).getD .skip
theorem l0_eq (k : Nat) (At0 : Option Addr) (nt0 : Nat) (ct0 : Nat) (At3 : Option Addr) (nt3 : Nat) (ct3 : Nat) (xt4 : Int) (Q : PQ) (σ : Fr) (w : World) :
    l0 (k + 1) At0 nt0 ct0 At3 nt3 ct3 xt4 w (fun (Aq3 : Option Addr) (nq3 : Nat) (cq3 : Nat) (w : World) => ∀ d : Fr, Q (.exit 0) (ov d [(3, .slice Aq3 nq3 cq3)]) w) = codeW Tryd.prog hT 20 D (tab l0tb) [0, 0, 1, 0, 1, 1] l0b (thenQ (l0Tk k Q) (widen l0LO Q)) (ov σ [(0, .slice At0 nt0 ct0), (3, .slice At3 nt3 ct3), (4, .int .i64 xt4)]) w := by kernel_rfl
theorem l0_snd : ∀ c, subC [0, 1, 0, 1, 1] body = some c → Snd Tryd.prog 20 c l0T := by
  refine loop_of (hT := hT) (D := D) (l := l0tb) (b := l0b) (lo := l0LO) (by kernel_rfl) (by
    intro x hx
    simp only [l0tb, List.not_mem_nil] at hx
    ) (by kernel_rfl) (by kernel_rfl) ?_ ?_
  · intro Q σ w h
    unfold l0Tk at h
    obtain ⟨At0, nt0, ct0, h0, hn⟩ := gSlice_elim h
    clear h
    have h := hn
    clear hn
    obtain ⟨At3, nt3, ct3, h3, hn⟩ := gSlice_elim h
    clear h
    have h := hn
    clear hn
    obtain ⟨xt4, h4, hn⟩ := gInt_elim h
    clear h
    have h := hn
    clear hn
    exact h
  · intro k Q σ w h
    unfold l0Tk at h
    obtain ⟨At0, nt0, ct0, h0, hn⟩ := gSlice_elim h
    clear h
    have h := hn
    clear hn
    obtain ⟨At3, nt3, ct3, h3, hn⟩ := gSlice_elim h
    clear h
    have h := hn
    clear hn
    obtain ⟨xt4, h4, hn⟩ := gInt_elim h
    clear h
    have h := hn
    clear hn
    rw [l0_eq (σ := σ)] at h
    have e : (ov σ [(0, .slice At0 nt0 ct0), (3, .slice At3 nt3 ct3), (4, .int .i64 xt4)]) = σ := ov_self (by simp [h0, h3, h4])
    rw [e] at h
    exact h
def tb : List (List Nat × Spec) := [([0, 1, 0, 1, 1], l0T)]
theorem wp_eq (Aa0 : Option Addr) (na0 : Nat) (ca0 : Nat) (w : World) (Q : Ending → World → Prop) :
    wp Aa0 na0 ca0 w Q = codeW Tryd.prog hT 20 D (tab tb) [] body (topQ Tryd.prog hT 20 [.tmp 2] Q) (argsF [.slice Aa0 na0 ca0]) w := by kernel_rfl
theorem ok (Aa0 : Option Addr) (na0 : Nat) (ca0 : Nat) (w : World) (Q : Ending → World → Prop) (h : wp Aa0 na0 ca0 w Q) : Calls Tryd.prog 30 #[.slice Aa0 na0 ca0] w Q := by
  rw [wp_eq] at h
  exact calls_of_codeW (c := body) (rs := [.tmp 2]) Tryd.func30 (by kernel_rfl) (by kernel_rfl) (by kernel_rfl) (by kernel_rfl) (by kernel_rfl) (tab_snd (by
    intro x hx
    simp only [tb, List.mem_cons, List.not_mem_nil, or_false] at hx
    subst hx
    exact l0_snd)) (by kernel_rfl) h
end f_ref01_Copy
namespace f_crc_Open
/-! skein/crc.Open: function 31 -/
noncomputable def body : Code := (Tryd.f31.body).getD .skip
def wp (Aa0 : Option Addr) (na0 : Nat) (ca0 : Nat) (w : World) (Q : Ending → World → Prop) : Prop :=
  drW w fun w1 =>
  ∃ S2 : World → Prop, S2 w1 ∧ (
  sel (decide ((na0 : Int) < (4 : Int))) (
  S2 w1 ∧ (
  S2 w1 ∧ (
  S2 w1 ∧ (
  Q (.returned (.tuple #[.slice none 0 0, .bool false])) w1)))) (
  req (decide (4 ≤ na0)) <|
  optB Aa0 fun a3 =>
  hdI S2 a3 .u8 fun x4 =>
  hdI S2 (a3.add 1) .u8 fun x5 =>
  hdI S2 (a3.add 2) .u8 fun x6 =>
  hdI S2 (a3.add 3) .u8 fun x7 =>
  req (decide (0 ≤ (4 : Int) ∧ (4 : Int) ≤ (na0 : Int))) <|
  alW w1 (.cells #[.slice (slA Aa0 4 ca0 1) (na0 - 4) (ca0 - 4)] 22) fun B8 w9 =>
  S2 w9 ∧ (
  Calls Tryd.prog 53 #[.slice (some (⟨B8, 0, Option.none⟩ : Addr)) 1 1] w9 fun e10 w11 => ∃ (x12 : Int), e10 = .returned (.int .u32 x12) ∧ (
  S2 w11 ∧ (
  Calls Tryd.prog 52 #[.int .u32 x12] w11 fun e13 w14 => ∃ (x15_0 : Int) (x15_1 : Int) (x15_2 : Int) (x15_3 : Int), e13 = .returned (.agg #[.int .u8 x15_0, .int .u8 x15_1, .int .u8 x15_2, .int .u8 x15_3]) ∧ (
  S2 w14 ∧ (
  sel (!((x4 == x15_0) && ((x5 == x15_1) && ((x6 == x15_2) && ((x7 == x15_3) && true))))) (
  Q (.returned (.tuple #[.slice none 0 0, .bool false])) w14) (
  req (decide (0 ≤ (4 : Int) ∧ (4 : Int) ≤ (na0 : Int))) <|
  Calls Tryd.prog 33 #[.slice (slA Aa0 4 ca0 1) (na0 - 4) (ca0 - 4)] w14 fun e16 w17 => ∃ (A18 : Option Addr) (n18 : Nat) (c18 : Nat), e16 = .returned (.slice A18 n18 c18) ∧ (
  Q (.returned (.tuple #[.slice A18 n18 c18, .bool true])) w17)))))))))
def D : Nat → Option DH := dtab [(1, .held [.fst 0, .fst 1, .fst 2, .fst 3, .fst 4, .fst 5, .fst 6, .fst 7, .fst 8, .eff 9, .eff 10, .eff 11] [.fst 12, .fst 13])]
def tb : List (List Nat × Spec) := []
theorem wp_eq (Aa0 : Option Addr) (na0 : Nat) (ca0 : Nat) (w : World) (Q : Ending → World → Prop) :
    wp Aa0 na0 ca0 w Q = codeW Tryd.prog hT 21 D (tab tb) [] body (topQ Tryd.prog hT 21 [.tmp 2, .tmp 3] Q) (argsF [.slice Aa0 na0 ca0]) w := by kernel_rfl
theorem ok (Aa0 : Option Addr) (na0 : Nat) (ca0 : Nat) (w : World) (Q : Ending → World → Prop) (h : wp Aa0 na0 ca0 w Q) : Calls Tryd.prog 31 #[.slice Aa0 na0 ca0] w Q := by
  rw [wp_eq] at h
  exact calls_of_codeW (c := body) (rs := [.tmp 2, .tmp 3]) Tryd.func31 (by kernel_rfl) (by kernel_rfl) (by kernel_rfl) (by kernel_rfl) (by kernel_rfl) (tab_snd (by
    intro x hx
    simp only [tb, List.not_mem_nil] at hx
    )) (by kernel_rfl) h
end f_crc_Open
namespace f_bytes_Clone
/-! bytes.Clone: function 33 -/
noncomputable def body : Code := (Tryd.f33.body).getD .skip
def wp (Aa0 : Option Addr) (na0 : Nat) (ca0 : Nat) (w : World) (Q : Ending → World → Prop) : Prop :=
  sel Aa0.isNone (
  Q (.returned (.slice none 0 0)) w) (
  alW w (.cells #[] 5) fun B1 w2 =>
  Runs Tryd.prog (Builtin.append_ #[22, 22] 22 #[.slice (some (⟨B1, 0, Option.none⟩ : Addr)) 0 0, .slice Aa0 na0 ca0]) w2 fun v4 w3 => ∃ (A5 : Option Addr) (n5 : Nat) (c5 : Nat), v4 = (.slice A5 n5 c5) ∧ (
  Q (.returned (.slice A5 n5 c5)) w3))
def D : Nat → Option DH := dtab []
def tb : List (List Nat × Spec) := []
theorem wp_eq (Aa0 : Option Addr) (na0 : Nat) (ca0 : Nat) (w : World) (Q : Ending → World → Prop) :
    wp Aa0 na0 ca0 w Q = codeW Tryd.prog hT 8 D (tab tb) [] body (topQ Tryd.prog hT 8 [.tmp 2] Q) (argsF [.slice Aa0 na0 ca0]) w := by kernel_rfl
theorem ok (Aa0 : Option Addr) (na0 : Nat) (ca0 : Nat) (w : World) (Q : Ending → World → Prop) (h : wp Aa0 na0 ca0 w Q) : Calls Tryd.prog 33 #[.slice Aa0 na0 ca0] w Q := by
  rw [wp_eq] at h
  exact calls_of_codeW (c := body) (rs := [.tmp 2]) Tryd.func33 (by kernel_rfl) (by kernel_rfl) (by kernel_rfl) (by kernel_rfl) (by kernel_rfl) (tab_snd (by
    intro x hx
    simp only [tb, List.not_mem_nil] at hx
    )) (by kernel_rfl) h
end f_bytes_Clone
namespace f_bytes_Trim
/-! bytes.Trim: function 34 -/
noncomputable def body : Code := (Tryd.f34.body).getD .skip
def wp (Aa0 : Option Addr) (na0 : Nat) (ca0 : Nat) (sa1 : ByteArray) (w : World) (Q : Ending → World → Prop) : Prop :=
  sel ((na0 : Int) == (0 : Int)) (
  Q (.returned (.slice none 0 0)) w) (
  sel (sa1.toList == (⟨#[]⟩ : ByteArray).toList) (
  Q (.returned (.slice Aa0 na0 ca0)) w) (
  sel ((sa1.size : Int) == (1 : Int)) (
  req (decide (0 ≤ (0 : Int) ∧ (0 : Int) < (sa1.size : Int))) <|
  sel (decide (((sa1.get! (0 : Int).toNat).toNat : Int) < (128 : Int))) (
  drW w fun w1 =>
  req (decide (0 ≤ (0 : Int) ∧ (0 : Int) < (sa1.size : Int))) <|
  req (decide (0 ≤ (0 : Int) ∧ (0 : Int) < (sa1.size : Int))) <|
  Calls Tryd.prog 56 #[.slice Aa0 na0 ca0, .int .u8 ((sa1.get! (0 : Int).toNat).toNat : Int)] w1 fun e3 w4 => ∃ (A5 : Option Addr) (n5 : Nat) (c5 : Nat), e3 = .returned (.slice A5 n5 c5) ∧ (
  Calls Tryd.prog 55 #[.slice A5 n5 c5, .int .u8 ((sa1.get! (0 : Int).toNat).toNat : Int)] w4 fun e6 w7 => ∃ (A8 : Option Addr) (n8 : Nat) (c8 : Nat), e6 = .returned (.slice A8 n8 c8) ∧ (
  Q (.returned (.slice A8 n8 c8)) w7))) (
  Calls Tryd.prog 57 #[.string sa1] w fun e9 w10 => ∃ (cs11_0 : Array Value) (b11_1 : Bool), e9 = .returned (.tuple #[.agg cs11_0, .bool b11_1]) ∧ (
  alW w10 (.cells (zeroCs Tryd.prog 87) 87) fun B12 w13 =>
  Runs Tryd.prog (Instr.storeAt 87 (.pointer (some (⟨B12, 0, Option.none⟩ : Addr))) (.agg cs11_0)) w13 fun _ w14 =>
  sel b11_1 (
  Calls Tryd.prog 59 #[.slice Aa0 na0 ca0, .pointer (some (⟨B12, 0, Option.none⟩ : Addr))] w14 fun e15 w16 => ∃ (A17 : Option Addr) (n17 : Nat) (c17 : Nat), e15 = .returned (.slice A17 n17 c17) ∧ (
  Calls Tryd.prog 58 #[.slice A17 n17 c17, .pointer (some (⟨B12, 0, Option.none⟩ : Addr))] w16 fun e18 w19 => ∃ (A20 : Option Addr) (n20 : Nat) (c20 : Nat), e18 = .returned (.slice A20 n20 c20) ∧ (
  Q (.returned (.slice A20 n20 c20)) w19))) (
  Calls Tryd.prog 61 #[.slice Aa0 na0 ca0, .string sa1] w14 fun e21 w22 => ∃ (A23 : Option Addr) (n23 : Nat) (c23 : Nat), e21 = .returned (.slice A23 n23 c23) ∧ (
  Calls Tryd.prog 60 #[.slice A23 n23 c23, .string sa1] w22 fun e24 w25 => ∃ (A26 : Option Addr) (n26 : Nat) (c26 : Nat), e24 = .returned (.slice A26 n26 c26) ∧ (
  Q (.returned (.slice A26 n26 c26)) w25)))))) (
  Calls Tryd.prog 57 #[.string sa1] w fun e27 w28 => ∃ (cs29_0 : Array Value) (b29_1 : Bool), e27 = .returned (.tuple #[.agg cs29_0, .bool b29_1]) ∧ (
  alW w28 (.cells (zeroCs Tryd.prog 87) 87) fun B30 w31 =>
  Runs Tryd.prog (Instr.storeAt 87 (.pointer (some (⟨B30, 0, Option.none⟩ : Addr))) (.agg cs29_0)) w31 fun _ w32 =>
  sel b29_1 (
  Calls Tryd.prog 59 #[.slice Aa0 na0 ca0, .pointer (some (⟨B30, 0, Option.none⟩ : Addr))] w32 fun e33 w34 => ∃ (A35 : Option Addr) (n35 : Nat) (c35 : Nat), e33 = .returned (.slice A35 n35 c35) ∧ (
  Calls Tryd.prog 58 #[.slice A35 n35 c35, .pointer (some (⟨B30, 0, Option.none⟩ : Addr))] w34 fun e36 w37 => ∃ (A38 : Option Addr) (n38 : Nat) (c38 : Nat), e36 = .returned (.slice A38 n38 c38) ∧ (
  Q (.returned (.slice A38 n38 c38)) w37))) (
  Calls Tryd.prog 61 #[.slice Aa0 na0 ca0, .string sa1] w32 fun e39 w40 => ∃ (A41 : Option Addr) (n41 : Nat) (c41 : Nat), e39 = .returned (.slice A41 n41 c41) ∧ (
  Calls Tryd.prog 60 #[.slice A41 n41 c41, .string sa1] w40 fun e42 w43 => ∃ (A44 : Option Addr) (n44 : Nat) (c44 : Nat), e42 = .returned (.slice A44 n44 c44) ∧ (
  Q (.returned (.slice A44 n44 c44)) w43)))))))
def D : Nat → Option DH := dtab [(6, .simple [] [.fst 0, .fst 1, .fst 2, .fst 4, .fst 5, .eff 3, .eff 6, .fst 7])]
def tb : List (List Nat × Spec) := []
theorem wp_eq (Aa0 : Option Addr) (na0 : Nat) (ca0 : Nat) (sa1 : ByteArray) (w : World) (Q : Ending → World → Prop) :
    wp Aa0 na0 ca0 sa1 w Q = codeW Tryd.prog hT 42 D (tab tb) [] body (topQ Tryd.prog hT 42 [.tmp 4] Q) (argsF [.slice Aa0 na0 ca0, .string sa1]) w := by kernel_rfl
theorem ok (Aa0 : Option Addr) (na0 : Nat) (ca0 : Nat) (sa1 : ByteArray) (w : World) (Q : Ending → World → Prop) (h : wp Aa0 na0 ca0 sa1 w Q) : Calls Tryd.prog 34 #[.slice Aa0 na0 ca0, .string sa1] w Q := by
  rw [wp_eq] at h
  exact calls_of_codeW (c := body) (rs := [.tmp 4]) Tryd.func34 (by kernel_rfl) (by kernel_rfl) (by kernel_rfl) (by kernel_rfl) (by kernel_rfl) (tab_snd (by
    intro x hx
    simp only [tb, List.not_mem_nil] at hx
    )) (by kernel_rfl) h
end f_bytes_Trim
namespace f_crc_Seal
/-! skein/crc.Seal: function 41 -/
noncomputable def body : Code := (Tryd.f41.body).getD .skip
def wp (Aa0 : Option Addr) (na0 : Nat) (ca0 : Nat) (w : World) (Q : Ending → World → Prop) : Prop :=
  alW w (.cells #[.slice Aa0 na0 ca0] 22) fun B1 w2 =>
  Calls Tryd.prog 53 #[.slice (some (⟨B1, 0, Option.none⟩ : Addr)) 1 1] w2 fun e3 w4 => ∃ (x5 : Int), e3 = .returned (.int .u32 x5) ∧ (
  Calls Tryd.prog 52 #[.int .u32 x5] w4 fun e6 w7 => ∃ (x8_0 : Int) (x8_1 : Int) (x8_2 : Int) (x8_3 : Int), e6 = .returned (.agg #[.int .u8 x8_0, .int .u8 x8_1, .int .u8 x8_2, .int .u8 x8_3]) ∧ (
  alW w7 (.cells #[.int .u8 (0 : Int), .int .u8 (0 : Int), .int .u8 (0 : Int), .int .u8 (0 : Int)] 79) fun B9 w10 =>
  stW w10 (⟨B9, 0, Option.none⟩ : Addr) (.int .u8 x8_0) fun w11 =>
  stW w11 ((⟨B9, 0, Option.none⟩ : Addr).add 1) (.int .u8 x8_1) fun w12 =>
  stW w12 ((⟨B9, 0, Option.none⟩ : Addr).add 2) (.int .u8 x8_2) fun w13 =>
  stW w13 ((⟨B9, 0, Option.none⟩ : Addr).add 3) (.int .u8 x8_3) fun w14 =>
  drW w14 fun w15 =>
  Runs Tryd.prog (Instr.makeSlice 22 (.int .i64 (0 : Int)) (.int .i64 (IntKind.i64.wrap ((na0 : Int) + (4 : Int))))) w15 fun v18 w17 => ∃ (A19 : Option Addr) (n19 : Nat) (c19 : Nat), v18 = (.slice A19 n19 c19) ∧ (
  Runs Tryd.prog (Builtin.append_ #[22, 22] 22 #[.slice A19 n19 c19, .slice (some (slB (⟨B9, 0, Option.none⟩ : Addr) 0 4 1)) (4 - 0) (4 - 0)]) w17 fun v21 w20 => ∃ (A22 : Option Addr) (n22 : Nat) (c22 : Nat), v21 = (.slice A22 n22 c22) ∧ (
  Runs Tryd.prog (Builtin.append_ #[22, 22] 22 #[.slice A22 n22 c22, .slice Aa0 na0 ca0]) w20 fun v24 w23 => ∃ (A25 : Option Addr) (n25 : Nat) (c25 : Nat), v24 = (.slice A25 n25 c25) ∧ (
  Q (.returned (.slice A25 n25 c25)) w23)))))
def D : Nat → Option DH := dtab [(2, .simple [] [.fst 0, .fst 1, .fst 2, .fst 4, .fst 6, .eff 3, .eff 5, .eff 7, .fst 8])]
def tb : List (List Nat × Spec) := []
theorem wp_eq (Aa0 : Option Addr) (na0 : Nat) (ca0 : Nat) (w : World) (Q : Ending → World → Prop) :
    wp Aa0 na0 ca0 w Q = codeW Tryd.prog hT 16 D (tab tb) [] body (topQ Tryd.prog hT 16 [.tmp 2] Q) (argsF [.slice Aa0 na0 ca0]) w := by kernel_rfl
theorem ok (Aa0 : Option Addr) (na0 : Nat) (ca0 : Nat) (w : World) (Q : Ending → World → Prop) (h : wp Aa0 na0 ca0 w Q) : Calls Tryd.prog 41 #[.slice Aa0 na0 ca0] w Q := by
  rw [wp_eq] at h
  exact calls_of_codeW (c := body) (rs := [.tmp 2]) Tryd.func41 (by kernel_rfl) (by kernel_rfl) (by kernel_rfl) (by kernel_rfl) (by kernel_rfl) (tab_snd (by
    intro x hx
    simp only [tb, List.not_mem_nil] at hx
    )) (by kernel_rfl) h
end f_crc_Seal
namespace f_ref01_Apart
/-! skein/skeinref01.Apart: function 49 -/
noncomputable def body : Code := (Tryd.f49.body).getD .skip
def l0 : Nat → Option Addr → Nat → Nat → Int → World → ((Option Addr) → Nat → Nat → World → Prop) → Prop
  | 0, _, _, _, _, _, _ => False
  | k + 1, At7, nt7, ct7, xt8, w, K0 =>
    sel (decide (xt8 < (70 : Int))) (
    alW w (.cells #[.int .u8 (IntKind.u8.wrap xt8)] 5) fun B9 w10 =>
    Runs Tryd.prog (Builtin.append_ #[22, 22] 22 #[.slice At7 nt7 ct7, .slice (some (⟨B9, 0, Option.none⟩ : Addr)) 1 1]) w10 fun v12 w11 => ∃ (A13 : Option Addr) (n13 : Nat) (c13 : Nat), v12 = (.slice A13 n13 c13) ∧ (
    l0 k A13 n13 c13 (IntKind.i64.wrap (xt8 + (1 : Int))) w11 K0)) (
    K0 At7 nt7 ct7 w)
def wp (Aa0 : Option Addr) (na0 : Nat) (ca0 : Nat) (Aa1 : Option Addr) (na1 : Nat) (ca1 : Nat) (Aa2 : Option Addr) (na2 : Nat) (ca2 : Nat) (w : World) (Q : Ending → World → Prop) : Prop :=
  Calls Tryd.prog 14 #[.slice Aa0 na0 ca0, .slice Aa2 na2 ca2] w fun e1 w2 => ∃ (b3 : Bool), e1 = .returned (.bool b3) ∧ (
  sel (!b3) (
  Q (.returned (.bool false)) w2) (
  Calls Tryd.prog 14 #[.slice Aa1 na1 ca1, .slice Aa2 na2 ca2] w2 fun e4 w5 => ∃ (b6 : Bool), e4 = .returned (.bool b6) ∧ (
  sel (!b6) (
  Q (.returned (.bool false)) w5) (
  Calls Tryd.prog 12 #[.slice Aa0 na0 ca0] w5 fun e7 w8 => e7 = .returned (.tuple #[]) ∧ (
  ∃ k22 : Nat, l0 k22 Aa0 na0 ca0 (0 : Int) w8 (fun (A14 : Option Addr) (n14 : Nat) (c14 : Nat) (w15 : World) => ∀ _ : Fr,
  sel ((n14 : Int) == (IntKind.i64.wrap ((na2 : Int) + (70 : Int)))) (
  Calls Tryd.prog 68 #[.slice Aa0 na0 ca0, .slice Aa2 na2 ca2] w15 fun e16 w17 => ∃ (b18 : Bool), e16 = .returned (.bool b18) ∧ (
  sel b18 (
  Calls Tryd.prog 14 #[.slice Aa1 na1 ca1, .slice Aa2 na2 ca2] w17 fun e19 w20 => ∃ (b21 : Bool), e19 = .returned (.bool b21) ∧ (
  Q (.returned (.bool b21)) w20)) (
  Q (.returned (.bool false)) w17))) (
  Q (.returned (.bool false)) w15)))))))
def D : Nat → Option DH := dtab []
def l0LO : LO := ⟨[], [], [(0, [0, 1, 2, 7])], []⟩
def l0Tk (k : Nat) : Spec := fun Q σ w =>
  gSlice (σ 7) fun At7 nt7 ct7 =>
  gInt .i64 (σ 8) fun xt8 =>
  l0 k At7 nt7 ct7 xt8 w (fun (Aq7 : Option Addr) (nq7 : Nat) (cq7 : Nat) (w : World) => ∀ d : Fr, Q (.exit 0) (ov d [(0, σ 0), (1, σ 1), (2, σ 2), (7, .slice Aq7 nq7 cq7)]) w)
def l0T : Spec := fun Q σ w => ∃ k, l0Tk k Q σ w
def l0tb : List (List Nat × Spec) := []
noncomputable def l0b : Code := (subC [0, 0, 1, 0, 1, 1, 1, 1] body).getD .skip
theorem l0_eq (k : Nat) (At7 : Option Addr) (nt7 : Nat) (ct7 : Nat) (xt8 : Int) (Q : PQ) (σ : Fr) (w : World) :
    l0 (k + 1) At7 nt7 ct7 xt8 w (fun (Aq7 : Option Addr) (nq7 : Nat) (cq7 : Nat) (w : World) => ∀ d : Fr, Q (.exit 0) (ov d [(0, σ 0), (1, σ 1), (2, σ 2), (7, .slice Aq7 nq7 cq7)]) w) = codeW Tryd.prog hT 47 D (tab l0tb) [0, 0, 1, 0, 1, 1, 1, 1] l0b (thenQ (l0Tk k Q) (widen l0LO Q)) (ov σ [(7, .slice At7 nt7 ct7), (8, .int .i64 xt8)]) w := by kernel_rfl
theorem l0_snd : ∀ c, subC [0, 1, 0, 1, 1, 1, 1] body = some c → Snd Tryd.prog 47 c l0T := by
  refine loop_of (hT := hT) (D := D) (l := l0tb) (b := l0b) (lo := l0LO) (by kernel_rfl) (by
    intro x hx
    simp only [l0tb, List.not_mem_nil] at hx
    ) (by kernel_rfl) (by kernel_rfl) ?_ ?_
  · intro Q σ w h
    unfold l0Tk at h
    obtain ⟨At7, nt7, ct7, h7, hn⟩ := gSlice_elim h
    clear h
    have h := hn
    clear hn
    obtain ⟨xt8, h8, hn⟩ := gInt_elim h
    clear h
    have h := hn
    clear hn
    exact h
  · intro k Q σ w h
    unfold l0Tk at h
    obtain ⟨At7, nt7, ct7, h7, hn⟩ := gSlice_elim h
    clear h
    have h := hn
    clear hn
    obtain ⟨xt8, h8, hn⟩ := gInt_elim h
    clear h
    have h := hn
    clear hn
    rw [l0_eq (σ := σ)] at h
    have e : (ov σ [(7, .slice At7 nt7 ct7), (8, .int .i64 xt8)]) = σ := ov_self (by simp [h7, h8])
    rw [e] at h
    exact h
def tb : List (List Nat × Spec) := [([0, 1, 0, 1, 1, 1, 1], l0T)]
theorem wp_eq (Aa0 : Option Addr) (na0 : Nat) (ca0 : Nat) (Aa1 : Option Addr) (na1 : Nat) (ca1 : Nat) (Aa2 : Option Addr) (na2 : Nat) (ca2 : Nat) (w : World) (Q : Ending → World → Prop) :
    wp Aa0 na0 ca0 Aa1 na1 ca1 Aa2 na2 ca2 w Q = codeW Tryd.prog hT 47 D (tab tb) [] body (topQ Tryd.prog hT 47 [.tmp 6] Q) (argsF [.slice Aa0 na0 ca0, .slice Aa1 na1 ca1, .slice Aa2 na2 ca2]) w := by kernel_rfl
theorem ok (Aa0 : Option Addr) (na0 : Nat) (ca0 : Nat) (Aa1 : Option Addr) (na1 : Nat) (ca1 : Nat) (Aa2 : Option Addr) (na2 : Nat) (ca2 : Nat) (w : World) (Q : Ending → World → Prop) (h : wp Aa0 na0 ca0 Aa1 na1 ca1 Aa2 na2 ca2 w Q) : Calls Tryd.prog 49 #[.slice Aa0 na0 ca0, .slice Aa1 na1 ca1, .slice Aa2 na2 ca2] w Q := by
  rw [wp_eq] at h
  exact calls_of_codeW (c := body) (rs := [.tmp 6]) Tryd.func49 (by kernel_rfl) (by kernel_rfl) (by kernel_rfl) (by kernel_rfl) (by kernel_rfl) (tab_snd (by
    intro x hx
    simp only [tb, List.mem_cons, List.not_mem_nil, or_false] at hx
    subst hx
    exact l0_snd)) (by kernel_rfl) h
end f_ref01_Apart
namespace f_crc_head
/-! skein/crc.head: function 52 -/
noncomputable def body : Code := (Tryd.f52.body).getD .skip
def wp (xa0 : Int) (w : World) (Q : Ending → World → Prop) : Prop :=
  alW w (.cells #[.int .u8 (0 : Int), .int .u8 (0 : Int), .int .u8 (0 : Int), .int .u8 (0 : Int)] 79) fun B1 w2 =>
  stW w2 (⟨B1, 0, Option.none⟩ : Addr) (.int .u8 (IntKind.u8.wrap xa0)) fun w3 =>
  stW w3 ((⟨B1, 0, Option.none⟩ : Addr).add 1) (.int .u8 (IntKind.u8.wrap (xa0.fdiv (2 ^ 8)))) fun w4 =>
  stW w4 ((⟨B1, 0, Option.none⟩ : Addr).add 2) (.int .u8 (IntKind.u8.wrap (xa0.fdiv (2 ^ 16)))) fun w5 =>
  stW w5 ((⟨B1, 0, Option.none⟩ : Addr).add 3) (.int .u8 (IntKind.u8.wrap (xa0.fdiv (2 ^ 24)))) fun w6 =>
  ldI w6 (⟨B1, 0, Option.none⟩ : Addr) .u8 fun x7 =>
  ldI w6 ((⟨B1, 0, Option.none⟩ : Addr).add 1) .u8 fun x8 =>
  ldI w6 ((⟨B1, 0, Option.none⟩ : Addr).add 2) .u8 fun x9 =>
  ldI w6 ((⟨B1, 0, Option.none⟩ : Addr).add 3) .u8 fun x10 =>
  Q (.returned (.agg #[.int .u8 x7, .int .u8 x8, .int .u8 x9, .int .u8 x10])) w6
def D : Nat → Option DH := dtab []
def tb : List (List Nat × Spec) := []
theorem wp_eq (xa0 : Int) (w : World) (Q : Ending → World → Prop) :
    wp xa0 w Q = codeW Tryd.prog hT 15 D (tab tb) [] body (topQ Tryd.prog hT 15 [.cell 2 79] Q) (argsF [.int .u32 xa0]) w := by kernel_rfl
theorem ok (xa0 : Int) (w : World) (Q : Ending → World → Prop) (h : wp xa0 w Q) : Calls Tryd.prog 52 #[.int .u32 xa0] w Q := by
  rw [wp_eq] at h
  exact calls_of_codeW (c := body) (rs := [.cell 2 79]) Tryd.func52 (by kernel_rfl) (by kernel_rfl) (by kernel_rfl) (by kernel_rfl) (by kernel_rfl) (tab_snd (by
    intro x hx
    simp only [tb, List.not_mem_nil] at hx
    )) (by kernel_rfl) h
end f_crc_head
namespace f_crc_Sum
/-! skein/crc.Sum: function 53 -/
noncomputable def body : Code := (Tryd.f53.body).getD .skip
def l2 : Nat → Int → Int → World → (Int → World → Prop) → Prop
  | 0, _, _, _, _ => False
  | k + 1, xt3, xt24, w, K4 =>
    sel (decide (xt24 < (8 : Int))) (
    Calls Tryd.prog 69 #[.int .u32 xt3] w fun e5 w6 => ∃ (x7 : Int), e5 = .returned (.int .u32 x7) ∧ (
    l2 k x7 (IntKind.i64.wrap (xt24 + (1 : Int))) w6 K4)) (
    K4 xt3 w)
def l1 : Nat → Int → Option Addr → Nat → Nat → Int → Int → World → (Int → World → Prop) → Prop
  | 0, _, _, _, _, _, _, _, _ => False
  | k + 1, xt3, At14, nt14, ct14, xt15, xt16, w, K2 =>
    sel (decide (xt16 < xt15)) (
    optB At14 fun a3 =>
    req (decide (0 ≤ xt16 ∧ xt16 < (nt14 : Int))) <|
    ldI w (a3.add (xt16.toNat * 1)) .u8 fun x4 =>
    ∃ k10 : Nat, l2 k10 (bxor .u32 xt3 (IntKind.u32.wrap x4)) (0 : Int) w (fun (x8 : Int) (w9 : World) => ∀ _ : Fr,
    l1 k x8 At14 nt14 ct14 xt15 (IntKind.i64.wrap (xt16 + (1 : Int))) w9 K2)) (
    K2 xt3 w)
def l0 : Nat → Int → Option Addr → Nat → Nat → Int → Int → World → (Int → World → Prop) → Prop
  | 0, _, _, _, _, _, _, _, _ => False
  | k + 1, xt3, At8, nt8, ct8, xt9, xt10, w, K0 =>
    sel (decide (xt10 < xt9)) (
    optB At8 fun a1 =>
    req (decide (0 ≤ xt10 ∧ xt10 < (nt8 : Int))) <|
    ldS w (a1.add (xt10.toNat * 1)) fun A2 n2 c2 =>
    ∃ k13 : Nat, l1 k13 xt3 A2 n2 c2 (n2 : Int) (0 : Int) w (fun (x11 : Int) (w12 : World) => ∀ _ : Fr,
    l0 k x11 At8 nt8 ct8 xt9 (IntKind.i64.wrap (xt10 + (1 : Int))) w12 K0)) (
    K0 xt3 w)
def wp (Aa0 : Option Addr) (na0 : Nat) (ca0 : Nat) (w : World) (Q : Ending → World → Prop) : Prop :=
  ∃ k16 : Nat, l0 k16 (4294967295 : Int) Aa0 na0 ca0 (na0 : Int) (0 : Int) w (fun (x14 : Int) (w15 : World) => ∀ _ : Fr,
  Q (.returned (.int .u32 (bxor .u32 (4294967295 : Int) x14))) w15)
def D : Nat → Option DH := dtab []
def l2LO : LO := ⟨[], [], [(4, [3, 8, 9, 10, 14, 15, 16])], []⟩
def l2Tk (k : Nat) : Spec := fun Q σ w =>
  gInt .u32 (σ 3) fun xt3 =>
  gInt .i64 (σ 24) fun xt24 =>
  l2 k xt3 xt24 w (fun (xq3 : Int) (w : World) => ∀ d : Fr, Q (.exit 4) (ov d [(3, .int .u32 xq3), (8, σ 8), (9, σ 9), (10, σ 10), (14, σ 14), (15, σ 15), (16, σ 16)]) w)
def l2T : Spec := fun Q σ w => ∃ k, l2Tk k Q σ w
def l2tb : List (List Nat × Spec) := []
noncomputable def l2b : Code := (subC [0, 0, 1, 1, 1, 0, 0, 1, 1, 0, 0, 1, 1, 0, 0, 1, 1, 0, 0, 1, 0, 1, 1] body).getD .skip
theorem l2_eq (k : Nat) (xt3 : Int) (xt24 : Int) (Q : PQ) (σ : Fr) (w : World) :
    l2 (k + 1) xt3 xt24 w (fun (xq3 : Int) (w : World) => ∀ d : Fr, Q (.exit 4) (ov d [(3, .int .u32 xq3), (8, σ 8), (9, σ 9), (10, σ 10), (14, σ 14), (15, σ 15), (16, σ 16)]) w) = codeW Tryd.prog hT 33 D (tab l2tb) [0, 0, 1, 1, 1, 0, 0, 1, 1, 0, 0, 1, 1, 0, 0, 1, 1, 0, 0, 1, 0, 1, 1] l2b (thenQ (l2Tk k Q) (widen l2LO Q)) (ov σ [(3, .int .u32 xt3), (24, .int .i64 xt24)]) w := by kernel_rfl
theorem l2_snd : ∀ c, subC [0, 1, 1, 1, 0, 0, 1, 1, 0, 0, 1, 1, 0, 0, 1, 1, 0, 0, 1, 0, 1, 1] body = some c → Snd Tryd.prog 33 c l2T := by
  refine loop_of (hT := hT) (D := D) (l := l2tb) (b := l2b) (lo := l2LO) (by kernel_rfl) (by
    intro x hx
    simp only [l2tb, List.not_mem_nil] at hx
    ) (by kernel_rfl) (by kernel_rfl) ?_ ?_
  · intro Q σ w h
    unfold l2Tk at h
    obtain ⟨xt3, h3, hn⟩ := gInt_elim h
    clear h
    have h := hn
    clear hn
    obtain ⟨xt24, h24, hn⟩ := gInt_elim h
    clear h
    have h := hn
    clear hn
    exact h
  · intro k Q σ w h
    unfold l2Tk at h
    obtain ⟨xt3, h3, hn⟩ := gInt_elim h
    clear h
    have h := hn
    clear hn
    obtain ⟨xt24, h24, hn⟩ := gInt_elim h
    clear h
    have h := hn
    clear hn
    rw [l2_eq (σ := σ)] at h
    have e : (ov σ [(3, .int .u32 xt3), (24, .int .i64 xt24)]) = σ := ov_self (by simp [h3, h24])
    rw [e] at h
    exact h
def l1LO : LO := ⟨[], [], [(2, [3, 8, 9, 10])], []⟩
def l1Tk (k : Nat) : Spec := fun Q σ w =>
  gInt .u32 (σ 3) fun xt3 =>
  gSlice (σ 14) fun At14 nt14 ct14 =>
  gInt .i64 (σ 15) fun xt15 =>
  gInt .i64 (σ 16) fun xt16 =>
  l1 k xt3 At14 nt14 ct14 xt15 xt16 w (fun (xq3 : Int) (w : World) => ∀ d : Fr, Q (.exit 2) (ov d [(3, .int .u32 xq3), (8, σ 8), (9, σ 9), (10, σ 10)]) w)
def l1T : Spec := fun Q σ w => ∃ k, l1Tk k Q σ w
def l1tb : List (List Nat × Spec) := [([0, 1, 1, 1, 0, 0, 1, 1, 0, 0, 1, 1, 0, 0, 1, 1, 0, 0, 1, 0, 1, 1], l2T)]
noncomputable def l1b : Code := (subC [0, 0, 1, 1, 0, 0, 1, 1, 0, 0, 1, 0, 1, 1] body).getD .skip
theorem l1_eq (k : Nat) (xt3 : Int) (At14 : Option Addr) (nt14 : Nat) (ct14 : Nat) (xt15 : Int) (xt16 : Int) (Q : PQ) (σ : Fr) (w : World) :
    l1 (k + 1) xt3 At14 nt14 ct14 xt15 xt16 w (fun (xq3 : Int) (w : World) => ∀ d : Fr, Q (.exit 2) (ov d [(3, .int .u32 xq3), (8, σ 8), (9, σ 9), (10, σ 10)]) w) = codeW Tryd.prog hT 33 D (tab l1tb) [0, 0, 1, 1, 0, 0, 1, 1, 0, 0, 1, 0, 1, 1] l1b (thenQ (l1Tk k Q) (widen l1LO Q)) (ov σ [(3, .int .u32 xt3), (14, .slice At14 nt14 ct14), (15, .int .i64 xt15), (16, .int .i64 xt16)]) w := by kernel_rfl
theorem l1_snd : ∀ c, subC [0, 1, 1, 0, 0, 1, 1, 0, 0, 1, 0, 1, 1] body = some c → Snd Tryd.prog 33 c l1T := by
  refine loop_of (hT := hT) (D := D) (l := l1tb) (b := l1b) (lo := l1LO) (by kernel_rfl) (by
    intro x hx
    simp only [l1tb, List.mem_cons, List.not_mem_nil, or_false] at hx
    subst hx
    exact l2_snd) (by kernel_rfl) (by kernel_rfl) ?_ ?_
  · intro Q σ w h
    unfold l1Tk at h
    obtain ⟨xt3, h3, hn⟩ := gInt_elim h
    clear h
    have h := hn
    clear hn
    obtain ⟨At14, nt14, ct14, h14, hn⟩ := gSlice_elim h
    clear h
    have h := hn
    clear hn
    obtain ⟨xt15, h15, hn⟩ := gInt_elim h
    clear h
    have h := hn
    clear hn
    obtain ⟨xt16, h16, hn⟩ := gInt_elim h
    clear h
    have h := hn
    clear hn
    exact h
  · intro k Q σ w h
    unfold l1Tk at h
    obtain ⟨xt3, h3, hn⟩ := gInt_elim h
    clear h
    have h := hn
    clear hn
    obtain ⟨At14, nt14, ct14, h14, hn⟩ := gSlice_elim h
    clear h
    have h := hn
    clear hn
    obtain ⟨xt15, h15, hn⟩ := gInt_elim h
    clear h
    have h := hn
    clear hn
    obtain ⟨xt16, h16, hn⟩ := gInt_elim h
    clear h
    have h := hn
    clear hn
    rw [l1_eq (σ := σ)] at h
    have e : (ov σ [(3, .int .u32 xt3), (14, .slice At14 nt14 ct14), (15, .int .i64 xt15), (16, .int .i64 xt16)]) = σ := ov_self (by simp [h3, h14, h15, h16])
    rw [e] at h
    exact h
def l0LO : LO := ⟨[], [], [(0, [3])], []⟩
def l0Tk (k : Nat) : Spec := fun Q σ w =>
  gInt .u32 (σ 3) fun xt3 =>
  gSlice (σ 8) fun At8 nt8 ct8 =>
  gInt .i64 (σ 9) fun xt9 =>
  gInt .i64 (σ 10) fun xt10 =>
  l0 k xt3 At8 nt8 ct8 xt9 xt10 w (fun (xq3 : Int) (w : World) => ∀ d : Fr, Q (.exit 0) (ov d [(3, .int .u32 xq3)]) w)
def l0T : Spec := fun Q σ w => ∃ k, l0Tk k Q σ w
def l0tb : List (List Nat × Spec) := [([0, 1, 1, 1, 0, 0, 1, 1, 0, 0, 1, 1, 0, 0, 1, 1, 0, 0, 1, 0, 1, 1], l2T), ([0, 1, 1, 0, 0, 1, 1, 0, 0, 1, 0, 1, 1], l1T)]
noncomputable def l0b : Code := (subC [0, 0, 1, 0, 1, 1] body).getD .skip
theorem l0_eq (k : Nat) (xt3 : Int) (At8 : Option Addr) (nt8 : Nat) (ct8 : Nat) (xt9 : Int) (xt10 : Int) (Q : PQ) (σ : Fr) (w : World) :
    l0 (k + 1) xt3 At8 nt8 ct8 xt9 xt10 w (fun (xq3 : Int) (w : World) => ∀ d : Fr, Q (.exit 0) (ov d [(3, .int .u32 xq3)]) w) = codeW Tryd.prog hT 33 D (tab l0tb) [0, 0, 1, 0, 1, 1] l0b (thenQ (l0Tk k Q) (widen l0LO Q)) (ov σ [(3, .int .u32 xt3), (8, .slice At8 nt8 ct8), (9, .int .i64 xt9), (10, .int .i64 xt10)]) w := by kernel_rfl
theorem l0_snd : ∀ c, subC [0, 1, 0, 1, 1] body = some c → Snd Tryd.prog 33 c l0T := by
  refine loop_of (hT := hT) (D := D) (l := l0tb) (b := l0b) (lo := l0LO) (by kernel_rfl) (by
    intro x hx
    simp only [l0tb, List.mem_cons, List.not_mem_nil, or_false] at hx
    rcases hx with rfl | rfl
    · exact l2_snd
    · exact l1_snd) (by kernel_rfl) (by kernel_rfl) ?_ ?_
  · intro Q σ w h
    unfold l0Tk at h
    obtain ⟨xt3, h3, hn⟩ := gInt_elim h
    clear h
    have h := hn
    clear hn
    obtain ⟨At8, nt8, ct8, h8, hn⟩ := gSlice_elim h
    clear h
    have h := hn
    clear hn
    obtain ⟨xt9, h9, hn⟩ := gInt_elim h
    clear h
    have h := hn
    clear hn
    obtain ⟨xt10, h10, hn⟩ := gInt_elim h
    clear h
    have h := hn
    clear hn
    exact h
  · intro k Q σ w h
    unfold l0Tk at h
    obtain ⟨xt3, h3, hn⟩ := gInt_elim h
    clear h
    have h := hn
    clear hn
    obtain ⟨At8, nt8, ct8, h8, hn⟩ := gSlice_elim h
    clear h
    have h := hn
    clear hn
    obtain ⟨xt9, h9, hn⟩ := gInt_elim h
    clear h
    have h := hn
    clear hn
    obtain ⟨xt10, h10, hn⟩ := gInt_elim h
    clear h
    have h := hn
    clear hn
    rw [l0_eq (σ := σ)] at h
    have e : (ov σ [(3, .int .u32 xt3), (8, .slice At8 nt8 ct8), (9, .int .i64 xt9), (10, .int .i64 xt10)]) = σ := ov_self (by simp [h3, h8, h9, h10])
    rw [e] at h
    exact h
def tb : List (List Nat × Spec) := [([0, 1, 1, 1, 0, 0, 1, 1, 0, 0, 1, 1, 0, 0, 1, 1, 0, 0, 1, 0, 1, 1], l2T), ([0, 1, 1, 0, 0, 1, 1, 0, 0, 1, 0, 1, 1], l1T), ([0, 1, 0, 1, 1], l0T)]
theorem wp_eq (Aa0 : Option Addr) (na0 : Nat) (ca0 : Nat) (w : World) (Q : Ending → World → Prop) :
    wp Aa0 na0 ca0 w Q = codeW Tryd.prog hT 33 D (tab tb) [] body (topQ Tryd.prog hT 33 [.tmp 2] Q) (argsF [.slice Aa0 na0 ca0]) w := by kernel_rfl
theorem ok (Aa0 : Option Addr) (na0 : Nat) (ca0 : Nat) (w : World) (Q : Ending → World → Prop) (h : wp Aa0 na0 ca0 w Q) : Calls Tryd.prog 53 #[.slice Aa0 na0 ca0] w Q := by
  rw [wp_eq] at h
  exact calls_of_codeW (c := body) (rs := [.tmp 2]) Tryd.func53 (by kernel_rfl) (by kernel_rfl) (by kernel_rfl) (by kernel_rfl) (by kernel_rfl) (tab_snd (by
    intro x hx
    simp only [tb, List.mem_cons, List.not_mem_nil, or_false] at hx
    rcases hx with rfl | rfl | rfl
    · exact l2_snd
    · exact l1_snd
    · exact l0_snd)) (by kernel_rfl) h
end f_crc_Sum
namespace f_bytes_trimLeftByte
/-! bytes.trimLeftByte: function 55 -/
noncomputable def body : Code := (Tryd.f55.body).getD .skip
def l0 : Nat → Option Addr → Nat → Nat → Int → World → ((Option Addr) → Nat → Nat → World → Prop) → Prop
  | 0, _, _, _, _, _, _ => False
  | k + 1, At0, nt0, ct0, xt1, w, K0 =>
    sel (decide ((nt0 : Int) > (0 : Int))) (
    optB At0 fun a1 =>
    req (decide (0 ≤ (0 : Int) ∧ (0 : Int) < (nt0 : Int))) <|
    ldI w (a1.add ((0 : Int).toNat * 1)) .u8 fun x2 =>
    sel (x2 == xt1) (
    req (decide (0 ≤ (1 : Int) ∧ (1 : Int) ≤ (nt0 : Int))) <|
    l0 k (slA At0 1 ct0 1) (nt0 - 1) (ct0 - 1) xt1 w K0) (
    K0 At0 nt0 ct0 w)) (
    K0 At0 nt0 ct0 w)
def wp (Aa0 : Option Addr) (na0 : Nat) (ca0 : Nat) (xa1 : Int) (w : World) (Q : Ending → World → Prop) : Prop :=
  ∃ k5 : Nat, l0 k5 Aa0 na0 ca0 xa1 w (fun (A3 : Option Addr) (n3 : Nat) (c3 : Nat) (w4 : World) => ∀ _ : Fr,
  sel ((n3 : Int) == (0 : Int)) (
  Q (.returned (.slice none 0 0)) w4) (
  Q (.returned (.slice A3 n3 c3)) w4))
def D : Nat → Option DH := dtab []
def l0LO : LO := ⟨[], [], [(0, [0])], []⟩
def l0Tk (k : Nat) : Spec := fun Q σ w =>
  gSlice (σ 0) fun At0 nt0 ct0 =>
  gInt .u8 (σ 1) fun xt1 =>
  l0 k At0 nt0 ct0 xt1 w (fun (Aq0 : Option Addr) (nq0 : Nat) (cq0 : Nat) (w : World) => ∀ d : Fr, Q (.exit 0) (ov d [(0, .slice Aq0 nq0 cq0)]) w)
def l0T : Spec := fun Q σ w => ∃ k, l0Tk k Q σ w
def l0tb : List (List Nat × Spec) := []
noncomputable def l0b : Code := (subC [0, 0, 0, 1] body).getD .skip
theorem l0_eq (k : Nat) (At0 : Option Addr) (nt0 : Nat) (ct0 : Nat) (xt1 : Int) (Q : PQ) (σ : Fr) (w : World) :
    l0 (k + 1) At0 nt0 ct0 xt1 w (fun (Aq0 : Option Addr) (nq0 : Nat) (cq0 : Nat) (w : World) => ∀ d : Fr, Q (.exit 0) (ov d [(0, .slice Aq0 nq0 cq0)]) w) = codeW Tryd.prog hT 21 D (tab l0tb) [0, 0, 0, 1] l0b (thenQ (l0Tk k Q) (widen l0LO Q)) (ov σ [(0, .slice At0 nt0 ct0), (1, .int .u8 xt1)]) w := by kernel_rfl
theorem l0_snd : ∀ c, subC [0, 0, 1] body = some c → Snd Tryd.prog 21 c l0T := by
  refine loop_of (hT := hT) (D := D) (l := l0tb) (b := l0b) (lo := l0LO) (by kernel_rfl) (by
    intro x hx
    simp only [l0tb, List.not_mem_nil] at hx
    ) (by kernel_rfl) (by kernel_rfl) ?_ ?_
  · intro Q σ w h
    unfold l0Tk at h
    obtain ⟨At0, nt0, ct0, h0, hn⟩ := gSlice_elim h
    clear h
    have h := hn
    clear hn
    obtain ⟨xt1, h1, hn⟩ := gInt_elim h
    clear h
    have h := hn
    clear hn
    exact h
  · intro k Q σ w h
    unfold l0Tk at h
    obtain ⟨At0, nt0, ct0, h0, hn⟩ := gSlice_elim h
    clear h
    have h := hn
    clear hn
    obtain ⟨xt1, h1, hn⟩ := gInt_elim h
    clear h
    have h := hn
    clear hn
    rw [l0_eq (σ := σ)] at h
    have e : (ov σ [(0, .slice At0 nt0 ct0), (1, .int .u8 xt1)]) = σ := ov_self (by simp [h0, h1])
    rw [e] at h
    exact h
def tb : List (List Nat × Spec) := [([0, 0, 1], l0T)]
theorem wp_eq (Aa0 : Option Addr) (na0 : Nat) (ca0 : Nat) (xa1 : Int) (w : World) (Q : Ending → World → Prop) :
    wp Aa0 na0 ca0 xa1 w Q = codeW Tryd.prog hT 21 D (tab tb) [] body (topQ Tryd.prog hT 21 [.tmp 4] Q) (argsF [.slice Aa0 na0 ca0, .int .u8 xa1]) w := by kernel_rfl
theorem ok (Aa0 : Option Addr) (na0 : Nat) (ca0 : Nat) (xa1 : Int) (w : World) (Q : Ending → World → Prop) (h : wp Aa0 na0 ca0 xa1 w Q) : Calls Tryd.prog 55 #[.slice Aa0 na0 ca0, .int .u8 xa1] w Q := by
  rw [wp_eq] at h
  exact calls_of_codeW (c := body) (rs := [.tmp 4]) Tryd.func55 (by kernel_rfl) (by kernel_rfl) (by kernel_rfl) (by kernel_rfl) (by kernel_rfl) (tab_snd (by
    intro x hx
    simp only [tb, List.mem_cons, List.not_mem_nil, or_false] at hx
    subst hx
    exact l0_snd)) (by kernel_rfl) h
end f_bytes_trimLeftByte
namespace f_bytes_trimRightByte
/-! bytes.trimRightByte: function 56 -/
noncomputable def body : Code := (Tryd.f56.body).getD .skip
def l0 : Nat → Option Addr → Nat → Nat → Int → World → ((Option Addr) → Nat → Nat → World → Prop) → Prop
  | 0, _, _, _, _, _, _ => False
  | k + 1, At0, nt0, ct0, xt1, w, K0 =>
    sel (decide ((nt0 : Int) > (0 : Int))) (
    optB At0 fun a1 =>
    req (decide (0 ≤ (IntKind.i64.wrap ((nt0 : Int) - (1 : Int))) ∧ (IntKind.i64.wrap ((nt0 : Int) - (1 : Int))) < (nt0 : Int))) <|
    ldI w (a1.add ((IntKind.i64.wrap ((nt0 : Int) - (1 : Int))).toNat * 1)) .u8 fun x2 =>
    sel (x2 == xt1) (
    req (decide (0 ≤ (IntKind.i64.wrap ((nt0 : Int) - (1 : Int))) ∧ (IntKind.i64.wrap ((nt0 : Int) - (1 : Int))) ≤ (ct0 : Int))) <|
    l0 k (slA At0 0 ct0 1) ((IntKind.i64.wrap ((nt0 : Int) - (1 : Int))).toNat - 0) (ct0 - 0) xt1 w K0) (
    K0 At0 nt0 ct0 w)) (
    K0 At0 nt0 ct0 w)
def wp (Aa0 : Option Addr) (na0 : Nat) (ca0 : Nat) (xa1 : Int) (w : World) (Q : Ending → World → Prop) : Prop :=
  ∃ k5 : Nat, l0 k5 Aa0 na0 ca0 xa1 w (fun (A3 : Option Addr) (n3 : Nat) (c3 : Nat) (w4 : World) => ∀ _ : Fr,
  Q (.returned (.slice A3 n3 c3)) w4)
def D : Nat → Option DH := dtab []
def l0LO : LO := ⟨[], [], [(0, [0])], []⟩
def l0Tk (k : Nat) : Spec := fun Q σ w =>
  gSlice (σ 0) fun At0 nt0 ct0 =>
  gInt .u8 (σ 1) fun xt1 =>
  l0 k At0 nt0 ct0 xt1 w (fun (Aq0 : Option Addr) (nq0 : Nat) (cq0 : Nat) (w : World) => ∀ d : Fr, Q (.exit 0) (ov d [(0, .slice Aq0 nq0 cq0)]) w)
def l0T : Spec := fun Q σ w => ∃ k, l0Tk k Q σ w
def l0tb : List (List Nat × Spec) := []
noncomputable def l0b : Code := (subC [0, 0, 0, 1] body).getD .skip
theorem l0_eq (k : Nat) (At0 : Option Addr) (nt0 : Nat) (ct0 : Nat) (xt1 : Int) (Q : PQ) (σ : Fr) (w : World) :
    l0 (k + 1) At0 nt0 ct0 xt1 w (fun (Aq0 : Option Addr) (nq0 : Nat) (cq0 : Nat) (w : World) => ∀ d : Fr, Q (.exit 0) (ov d [(0, .slice Aq0 nq0 cq0)]) w) = codeW Tryd.prog hT 24 D (tab l0tb) [0, 0, 0, 1] l0b (thenQ (l0Tk k Q) (widen l0LO Q)) (ov σ [(0, .slice At0 nt0 ct0), (1, .int .u8 xt1)]) w := by kernel_rfl
theorem l0_snd : ∀ c, subC [0, 0, 1] body = some c → Snd Tryd.prog 24 c l0T := by
  refine loop_of (hT := hT) (D := D) (l := l0tb) (b := l0b) (lo := l0LO) (by kernel_rfl) (by
    intro x hx
    simp only [l0tb, List.not_mem_nil] at hx
    ) (by kernel_rfl) (by kernel_rfl) ?_ ?_
  · intro Q σ w h
    unfold l0Tk at h
    obtain ⟨At0, nt0, ct0, h0, hn⟩ := gSlice_elim h
    clear h
    have h := hn
    clear hn
    obtain ⟨xt1, h1, hn⟩ := gInt_elim h
    clear h
    have h := hn
    clear hn
    exact h
  · intro k Q σ w h
    unfold l0Tk at h
    obtain ⟨At0, nt0, ct0, h0, hn⟩ := gSlice_elim h
    clear h
    have h := hn
    clear hn
    obtain ⟨xt1, h1, hn⟩ := gInt_elim h
    clear h
    have h := hn
    clear hn
    rw [l0_eq (σ := σ)] at h
    have e : (ov σ [(0, .slice At0 nt0 ct0), (1, .int .u8 xt1)]) = σ := ov_self (by simp [h0, h1])
    rw [e] at h
    exact h
def tb : List (List Nat × Spec) := [([0, 0, 1], l0T)]
theorem wp_eq (Aa0 : Option Addr) (na0 : Nat) (ca0 : Nat) (xa1 : Int) (w : World) (Q : Ending → World → Prop) :
    wp Aa0 na0 ca0 xa1 w Q = codeW Tryd.prog hT 24 D (tab tb) [] body (topQ Tryd.prog hT 24 [.tmp 4] Q) (argsF [.slice Aa0 na0 ca0, .int .u8 xa1]) w := by kernel_rfl
theorem ok (Aa0 : Option Addr) (na0 : Nat) (ca0 : Nat) (xa1 : Int) (w : World) (Q : Ending → World → Prop) (h : wp Aa0 na0 ca0 xa1 w Q) : Calls Tryd.prog 56 #[.slice Aa0 na0 ca0, .int .u8 xa1] w Q := by
  rw [wp_eq] at h
  exact calls_of_codeW (c := body) (rs := [.tmp 4]) Tryd.func56 (by kernel_rfl) (by kernel_rfl) (by kernel_rfl) (by kernel_rfl) (by kernel_rfl) (tab_snd (by
    intro x hx
    simp only [tb, List.mem_cons, List.not_mem_nil, or_false] at hx
    subst hx
    exact l0_snd)) (by kernel_rfl) h
end f_bytes_trimRightByte
namespace f_ref02_Seal
/-! skein/skeinref02.Seal: function 62 -/
noncomputable def body : Code := (Tryd.f62.body).getD .skip
def l0 : Nat → Option Addr → Nat → Nat → Int → Int → World → ((Option Addr) → Nat → Nat → World → Prop) → Prop
  | 0, _, _, _, _, _, _, _ => False
  | k + 1, At3, nt3, ct3, xt4, xt5, w, K0 =>
    sel (decide (xt5 < (4 : Int))) (
    alW w (.cells #[.int .u8 (IntKind.u8.wrap (xt4.tmod (256 : Int)))] 5) fun B6 w7 =>
    Runs Tryd.prog (Builtin.append_ #[22, 22] 22 #[.slice At3 nt3 ct3, .slice (some (⟨B6, 0, Option.none⟩ : Addr)) 1 1]) w7 fun v9 w8 => ∃ (A10 : Option Addr) (n10 : Nat) (c10 : Nat), v9 = (.slice A10 n10 c10) ∧ (
    l0 k A10 n10 c10 (IntKind.u32.wrap (xt4.tdiv (256 : Int))) (IntKind.i64.wrap (xt5 + (1 : Int))) w8 K0)) (
    K0 At3 nt3 ct3 w)
def wp (Aa0 : Option Addr) (na0 : Nat) (ca0 : Nat) (w : World) (Q : Ending → World → Prop) : Prop :=
  alW w (.cells #[] 5) fun B1 w2 =>
  Calls Tryd.prog 75 #[.slice Aa0 na0 ca0] w2 fun e3 w4 => ∃ (x5 : Int), e3 = .returned (.int .u32 x5) ∧ (
  ∃ k16 : Nat, l0 k16 (some (⟨B1, 0, Option.none⟩ : Addr)) 0 0 x5 (0 : Int) w4 (fun (A11 : Option Addr) (n11 : Nat) (c11 : Nat) (w12 : World) => ∀ _ : Fr,
  Calls Tryd.prog 64 #[.slice A11 n11 c11, .slice Aa0 na0 ca0] w12 fun e13 w14 => ∃ (A15 : Option Addr) (n15 : Nat) (c15 : Nat), e13 = .returned (.slice A15 n15 c15) ∧ (
  Q (.returned (.slice A15 n15 c15)) w14)))
def D : Nat → Option DH := dtab []
def l0LO : LO := ⟨[], [], [(0, [0, 3])], []⟩
def l0Tk (k : Nat) : Spec := fun Q σ w =>
  gSlice (σ 3) fun At3 nt3 ct3 =>
  gInt .u32 (σ 4) fun xt4 =>
  gInt .i64 (σ 5) fun xt5 =>
  l0 k At3 nt3 ct3 xt4 xt5 w (fun (Aq3 : Option Addr) (nq3 : Nat) (cq3 : Nat) (w : World) => ∀ d : Fr, Q (.exit 0) (ov d [(0, σ 0), (3, .slice Aq3 nq3 cq3)]) w)
def l0T : Spec := fun Q σ w => ∃ k, l0Tk k Q σ w
def l0tb : List (List Nat × Spec) := []
noncomputable def l0b : Code := (subC [0, 0, 1, 0, 1, 1, 1] body).getD .skip
theorem l0_eq (k : Nat) (At3 : Option Addr) (nt3 : Nat) (ct3 : Nat) (xt4 : Int) (xt5 : Int) (Q : PQ) (σ : Fr) (w : World) :
    l0 (k + 1) At3 nt3 ct3 xt4 xt5 w (fun (Aq3 : Option Addr) (nq3 : Nat) (cq3 : Nat) (w : World) => ∀ d : Fr, Q (.exit 0) (ov d [(0, σ 0), (3, .slice Aq3 nq3 cq3)]) w) = codeW Tryd.prog hT 24 D (tab l0tb) [0, 0, 1, 0, 1, 1, 1] l0b (thenQ (l0Tk k Q) (widen l0LO Q)) (ov σ [(3, .slice At3 nt3 ct3), (4, .int .u32 xt4), (5, .int .i64 xt5)]) w := by kernel_rfl
theorem l0_snd : ∀ c, subC [0, 1, 0, 1, 1, 1] body = some c → Snd Tryd.prog 24 c l0T := by
  refine loop_of (hT := hT) (D := D) (l := l0tb) (b := l0b) (lo := l0LO) (by kernel_rfl) (by
    intro x hx
    simp only [l0tb, List.not_mem_nil] at hx
    ) (by kernel_rfl) (by kernel_rfl) ?_ ?_
  · intro Q σ w h
    unfold l0Tk at h
    obtain ⟨At3, nt3, ct3, h3, hn⟩ := gSlice_elim h
    clear h
    have h := hn
    clear hn
    obtain ⟨xt4, h4, hn⟩ := gInt_elim h
    clear h
    have h := hn
    clear hn
    obtain ⟨xt5, h5, hn⟩ := gInt_elim h
    clear h
    have h := hn
    clear hn
    exact h
  · intro k Q σ w h
    unfold l0Tk at h
    obtain ⟨At3, nt3, ct3, h3, hn⟩ := gSlice_elim h
    clear h
    have h := hn
    clear hn
    obtain ⟨xt4, h4, hn⟩ := gInt_elim h
    clear h
    have h := hn
    clear hn
    obtain ⟨xt5, h5, hn⟩ := gInt_elim h
    clear h
    have h := hn
    clear hn
    rw [l0_eq (σ := σ)] at h
    have e : (ov σ [(3, .slice At3 nt3 ct3), (4, .int .u32 xt4), (5, .int .i64 xt5)]) = σ := ov_self (by simp [h3, h4, h5])
    rw [e] at h
    exact h
def tb : List (List Nat × Spec) := [([0, 1, 0, 1, 1, 1], l0T)]
theorem wp_eq (Aa0 : Option Addr) (na0 : Nat) (ca0 : Nat) (w : World) (Q : Ending → World → Prop) :
    wp Aa0 na0 ca0 w Q = codeW Tryd.prog hT 24 D (tab tb) [] body (topQ Tryd.prog hT 24 [.tmp 2] Q) (argsF [.slice Aa0 na0 ca0]) w := by kernel_rfl
theorem ok (Aa0 : Option Addr) (na0 : Nat) (ca0 : Nat) (w : World) (Q : Ending → World → Prop) (h : wp Aa0 na0 ca0 w Q) : Calls Tryd.prog 62 #[.slice Aa0 na0 ca0] w Q := by
  rw [wp_eq] at h
  exact calls_of_codeW (c := body) (rs := [.tmp 2]) Tryd.func62 (by kernel_rfl) (by kernel_rfl) (by kernel_rfl) (by kernel_rfl) (by kernel_rfl) (tab_snd (by
    intro x hx
    simp only [tb, List.mem_cons, List.not_mem_nil, or_false] at hx
    subst hx
    exact l0_snd)) (by kernel_rfl) h
end f_ref02_Seal
namespace f_ref01_Cat
/-! skein/skeinref01.Cat: function 64 -/
noncomputable def body : Code := (Tryd.f64.body).getD .skip
def l0 : Nat → Option Addr → Nat → Nat → Option Addr → Nat → Nat → Int → World → ((Option Addr) → Nat → Nat → World → Prop) → Prop
  | 0, _, _, _, _, _, _, _, _, _ => False
  | k + 1, At0, nt0, ct0, At5, nt5, ct5, xt6, w, K0 =>
    sel (decide (xt6 < (nt0 : Int))) (
    optB At0 fun a3 =>
    req (decide (0 ≤ xt6 ∧ xt6 < (nt0 : Int))) <|
    ldI w (a3.add (xt6.toNat * 1)) .u8 fun x4 =>
    alW w (.cells #[.int .u8 x4] 5) fun B5 w6 =>
    Runs Tryd.prog (Builtin.append_ #[22, 22] 22 #[.slice At5 nt5 ct5, .slice (some (⟨B5, 0, Option.none⟩ : Addr)) 1 1]) w6 fun v8 w7 => ∃ (A9 : Option Addr) (n9 : Nat) (c9 : Nat), v8 = (.slice A9 n9 c9) ∧ (
    l0 k At0 nt0 ct0 A9 n9 c9 (IntKind.i64.wrap (xt6 + (1 : Int))) w7 K0)) (
    K0 At5 nt5 ct5 w)
def l1 : Nat → Option Addr → Nat → Nat → Option Addr → Nat → Nat → Int → World → ((Option Addr) → Nat → Nat → World → Prop) → Prop
  | 0, _, _, _, _, _, _, _, _, _ => False
  | k + 1, At1, nt1, ct1, At5, nt5, ct5, xt7, w, K2 =>
    sel (decide (xt7 < (nt1 : Int))) (
    optB At1 fun a12 =>
    req (decide (0 ≤ xt7 ∧ xt7 < (nt1 : Int))) <|
    ldI w (a12.add (xt7.toNat * 1)) .u8 fun x13 =>
    alW w (.cells #[.int .u8 x13] 5) fun B14 w15 =>
    Runs Tryd.prog (Builtin.append_ #[22, 22] 22 #[.slice At5 nt5 ct5, .slice (some (⟨B14, 0, Option.none⟩ : Addr)) 1 1]) w15 fun v17 w16 => ∃ (A18 : Option Addr) (n18 : Nat) (c18 : Nat), v17 = (.slice A18 n18 c18) ∧ (
    l1 k At1 nt1 ct1 A18 n18 c18 (IntKind.i64.wrap (xt7 + (1 : Int))) w16 K2)) (
    K2 At5 nt5 ct5 w)
def wp (Aa0 : Option Addr) (na0 : Nat) (ca0 : Nat) (Aa1 : Option Addr) (na1 : Nat) (ca1 : Nat) (w : World) (Q : Ending → World → Prop) : Prop :=
  alW w (.cells #[] 5) fun B1 w2 =>
  ∃ k22 : Nat, l0 k22 Aa0 na0 ca0 (some (⟨B1, 0, Option.none⟩ : Addr)) 0 0 (0 : Int) w2 (fun (A10 : Option Addr) (n10 : Nat) (c10 : Nat) (w11 : World) => ∀ _ : Fr,
  ∃ k21 : Nat, l1 k21 Aa1 na1 ca1 A10 n10 c10 (0 : Int) w11 (fun (A19 : Option Addr) (n19 : Nat) (c19 : Nat) (w20 : World) => ∀ _ : Fr,
  Q (.returned (.slice A19 n19 c19)) w20))
def D : Nat → Option DH := dtab []
def l0LO : LO := ⟨[], [], [(0, [1, 5])], []⟩
def l0Tk (k : Nat) : Spec := fun Q σ w =>
  gSlice (σ 0) fun At0 nt0 ct0 =>
  gSlice (σ 5) fun At5 nt5 ct5 =>
  gInt .i64 (σ 6) fun xt6 =>
  l0 k At0 nt0 ct0 At5 nt5 ct5 xt6 w (fun (Aq5 : Option Addr) (nq5 : Nat) (cq5 : Nat) (w : World) => ∀ d : Fr, Q (.exit 0) (ov d [(1, σ 1), (5, .slice Aq5 nq5 cq5)]) w)
def l0T : Spec := fun Q σ w => ∃ k, l0Tk k Q σ w
def l0tb : List (List Nat × Spec) := []
noncomputable def l0b : Code := (subC [0, 0, 1, 0, 1, 1] body).getD .skip
theorem l0_eq (k : Nat) (At0 : Option Addr) (nt0 : Nat) (ct0 : Nat) (At5 : Option Addr) (nt5 : Nat) (ct5 : Nat) (xt6 : Int) (Q : PQ) (σ : Fr) (w : World) :
    l0 (k + 1) At0 nt0 ct0 At5 nt5 ct5 xt6 w (fun (Aq5 : Option Addr) (nq5 : Nat) (cq5 : Nat) (w : World) => ∀ d : Fr, Q (.exit 0) (ov d [(1, σ 1), (5, .slice Aq5 nq5 cq5)]) w) = codeW Tryd.prog hT 36 D (tab l0tb) [0, 0, 1, 0, 1, 1] l0b (thenQ (l0Tk k Q) (widen l0LO Q)) (ov σ [(0, .slice At0 nt0 ct0), (5, .slice At5 nt5 ct5), (6, .int .i64 xt6)]) w := by kernel_rfl
theorem l0_snd : ∀ c, subC [0, 1, 0, 1, 1] body = some c → Snd Tryd.prog 36 c l0T := by
  refine loop_of (hT := hT) (D := D) (l := l0tb) (b := l0b) (lo := l0LO) (by kernel_rfl) (by
    intro x hx
    simp only [l0tb, List.not_mem_nil] at hx
    ) (by kernel_rfl) (by kernel_rfl) ?_ ?_
  · intro Q σ w h
    unfold l0Tk at h
    obtain ⟨At0, nt0, ct0, h0, hn⟩ := gSlice_elim h
    clear h
    have h := hn
    clear hn
    obtain ⟨At5, nt5, ct5, h5, hn⟩ := gSlice_elim h
    clear h
    have h := hn
    clear hn
    obtain ⟨xt6, h6, hn⟩ := gInt_elim h
    clear h
    have h := hn
    clear hn
    exact h
  · intro k Q σ w h
    unfold l0Tk at h
    obtain ⟨At0, nt0, ct0, h0, hn⟩ := gSlice_elim h
    clear h
    have h := hn
    clear hn
    obtain ⟨At5, nt5, ct5, h5, hn⟩ := gSlice_elim h
    clear h
    have h := hn
    clear hn
    obtain ⟨xt6, h6, hn⟩ := gInt_elim h
    clear h
    have h := hn
    clear hn
    rw [l0_eq (σ := σ)] at h
    have e : (ov σ [(0, .slice At0 nt0 ct0), (5, .slice At5 nt5 ct5), (6, .int .i64 xt6)]) = σ := ov_self (by simp [h0, h5, h6])
    rw [e] at h
    exact h
def l1LO : LO := ⟨[], [], [(2, [5])], []⟩
def l1Tk (k : Nat) : Spec := fun Q σ w =>
  gSlice (σ 1) fun At1 nt1 ct1 =>
  gSlice (σ 5) fun At5 nt5 ct5 =>
  gInt .i64 (σ 7) fun xt7 =>
  l1 k At1 nt1 ct1 At5 nt5 ct5 xt7 w (fun (Aq5 : Option Addr) (nq5 : Nat) (cq5 : Nat) (w : World) => ∀ d : Fr, Q (.exit 2) (ov d [(5, .slice Aq5 nq5 cq5)]) w)
def l1T : Spec := fun Q σ w => ∃ k, l1Tk k Q σ w
def l1tb : List (List Nat × Spec) := []
noncomputable def l1b : Code := (subC [0, 0, 1, 0, 1, 1, 1] body).getD .skip
theorem l1_eq (k : Nat) (At1 : Option Addr) (nt1 : Nat) (ct1 : Nat) (At5 : Option Addr) (nt5 : Nat) (ct5 : Nat) (xt7 : Int) (Q : PQ) (σ : Fr) (w : World) :
    l1 (k + 1) At1 nt1 ct1 At5 nt5 ct5 xt7 w (fun (Aq5 : Option Addr) (nq5 : Nat) (cq5 : Nat) (w : World) => ∀ d : Fr, Q (.exit 2) (ov d [(5, .slice Aq5 nq5 cq5)]) w) = codeW Tryd.prog hT 36 D (tab l1tb) [0, 0, 1, 0, 1, 1, 1] l1b (thenQ (l1Tk k Q) (widen l1LO Q)) (ov σ [(1, .slice At1 nt1 ct1), (5, .slice At5 nt5 ct5), (7, .int .i64 xt7)]) w := by kernel_rfl
theorem l1_snd : ∀ c, subC [0, 1, 0, 1, 1, 1] body = some c → Snd Tryd.prog 36 c l1T := by
  refine loop_of (hT := hT) (D := D) (l := l1tb) (b := l1b) (lo := l1LO) (by kernel_rfl) (by
    intro x hx
    simp only [l1tb, List.not_mem_nil] at hx
    ) (by kernel_rfl) (by kernel_rfl) ?_ ?_
  · intro Q σ w h
    unfold l1Tk at h
    obtain ⟨At1, nt1, ct1, h1, hn⟩ := gSlice_elim h
    clear h
    have h := hn
    clear hn
    obtain ⟨At5, nt5, ct5, h5, hn⟩ := gSlice_elim h
    clear h
    have h := hn
    clear hn
    obtain ⟨xt7, h7, hn⟩ := gInt_elim h
    clear h
    have h := hn
    clear hn
    exact h
  · intro k Q σ w h
    unfold l1Tk at h
    obtain ⟨At1, nt1, ct1, h1, hn⟩ := gSlice_elim h
    clear h
    have h := hn
    clear hn
    obtain ⟨At5, nt5, ct5, h5, hn⟩ := gSlice_elim h
    clear h
    have h := hn
    clear hn
    obtain ⟨xt7, h7, hn⟩ := gInt_elim h
    clear h
    have h := hn
    clear hn
    rw [l1_eq (σ := σ)] at h
    have e : (ov σ [(1, .slice At1 nt1 ct1), (5, .slice At5 nt5 ct5), (7, .int .i64 xt7)]) = σ := ov_self (by simp [h1, h5, h7])
    rw [e] at h
    exact h
def tb : List (List Nat × Spec) := [([0, 1, 0, 1, 1], l0T), ([0, 1, 0, 1, 1, 1], l1T)]
theorem wp_eq (Aa0 : Option Addr) (na0 : Nat) (ca0 : Nat) (Aa1 : Option Addr) (na1 : Nat) (ca1 : Nat) (w : World) (Q : Ending → World → Prop) :
    wp Aa0 na0 ca0 Aa1 na1 ca1 w Q = codeW Tryd.prog hT 36 D (tab tb) [] body (topQ Tryd.prog hT 36 [.tmp 4] Q) (argsF [.slice Aa0 na0 ca0, .slice Aa1 na1 ca1]) w := by kernel_rfl
theorem ok (Aa0 : Option Addr) (na0 : Nat) (ca0 : Nat) (Aa1 : Option Addr) (na1 : Nat) (ca1 : Nat) (w : World) (Q : Ending → World → Prop) (h : wp Aa0 na0 ca0 Aa1 na1 ca1 w Q) : Calls Tryd.prog 64 #[.slice Aa0 na0 ca0, .slice Aa1 na1 ca1] w Q := by
  rw [wp_eq] at h
  exact calls_of_codeW (c := body) (rs := [.tmp 4]) Tryd.func64 (by kernel_rfl) (by kernel_rfl) (by kernel_rfl) (by kernel_rfl) (by kernel_rfl) (tab_snd (by
    intro x hx
    simp only [tb, List.mem_cons, List.not_mem_nil, or_false] at hx
    rcases hx with rfl | rfl
    · exact l0_snd
    · exact l1_snd)) (by kernel_rfl) h
end f_ref01_Cat
namespace f_ref01_Turned
/-! skein/skeinref01.Turned: function 68 -/
noncomputable def body : Code := (Tryd.f68.body).getD .skip
def l0 : Nat → Option Addr → Nat → Nat → Option Addr → Nat → Nat → Int → World → (World → Prop) → (Bool → World → Prop) → Prop
  | 0, _, _, _, _, _, _, _, _, _, _ => False
  | k + 1, At0, nt0, ct0, At1, nt1, ct1, xt5, w, K0, Kr =>
    sel (decide (xt5 < (nt1 : Int))) (
    drW w fun w1 =>
    optB At0 fun a3 =>
    req (decide (0 ≤ xt5 ∧ xt5 < (nt0 : Int))) <|
    ldI w1 (a3.add (xt5.toNat * 1)) .u8 fun x4 =>
    optB At1 fun a5 =>
    req (decide (0 ≤ xt5 ∧ xt5 < (nt1 : Int))) <|
    ldI w1 (a5.add (xt5.toNat * 1)) .u8 fun x6 =>
    sel (x4 != (bxor .u8 x6 (90 : Int))) (
    Kr false w1) (
    l0 k At0 nt0 ct0 At1 nt1 ct1 (IntKind.i64.wrap (xt5 + (1 : Int))) w1 K0 Kr)) (
    K0  w)
def wp (Aa0 : Option Addr) (na0 : Nat) (ca0 : Nat) (Aa1 : Option Addr) (na1 : Nat) (ca1 : Nat) (w : World) (Q : Ending → World → Prop) : Prop :=
  sel ((na0 : Int) != (na1 : Int)) (
  Q (.returned (.bool false)) w) (
  ∃ k10 : Nat, l0 k10 Aa0 na0 ca0 Aa1 na1 ca1 (0 : Int) w (fun (w7 : World) => ∀ _ : Fr,
  Q (.returned (.bool true)) w7) (fun (b8 : Bool) (w9 : World) => ∀ _ : Fr,
  Q (.returned (.bool b8)) w9))
def D : Nat → Option DH := dtab [(6, .simple [.fst 0, .fst 1, .fst 2, .fst 3, .fst 4, .fst 5, .fst 6, .fst 7, .fst 8] [.fst 9])]
def l0LO : LO := ⟨[], [4], [(0, [])], []⟩
def l0Tk (k : Nat) : Spec := fun Q σ w =>
  gSlice (σ 0) fun At0 nt0 ct0 =>
  gSlice (σ 1) fun At1 nt1 ct1 =>
  gInt .i64 (σ 5) fun xt5 =>
  l0 k At0 nt0 ct0 At1 nt1 ct1 xt5 w (fun (w : World) => ∀ d : Fr, Q (.exit 0) (ov d []) w) (fun (bq4 : Bool) (w : World) => ∀ d : Fr, Q .ret (ov d [(4, .bool bq4)]) w)
def l0T : Spec := fun Q σ w => ∃ k, l0Tk k Q σ w
def l0tb : List (List Nat × Spec) := []
noncomputable def l0b : Code := (subC [0, 0, 1, 0, 1, 1] body).getD .skip
theorem l0_eq (k : Nat) (At0 : Option Addr) (nt0 : Nat) (ct0 : Nat) (At1 : Option Addr) (nt1 : Nat) (ct1 : Nat) (xt5 : Int) (Q : PQ) (σ : Fr) (w : World) :
    l0 (k + 1) At0 nt0 ct0 At1 nt1 ct1 xt5 w (fun (w : World) => ∀ d : Fr, Q (.exit 0) (ov d []) w) (fun (bq4 : Bool) (w : World) => ∀ d : Fr, Q .ret (ov d [(4, .bool bq4)]) w) = codeW Tryd.prog hT 27 D (tab l0tb) [0, 0, 1, 0, 1, 1] l0b (thenQ (l0Tk k Q) (widen l0LO Q)) (ov σ [(0, .slice At0 nt0 ct0), (1, .slice At1 nt1 ct1), (5, .int .i64 xt5)]) w := by kernel_rfl
theorem l0_snd : ∀ c, subC [0, 1, 0, 1, 1] body = some c → Snd Tryd.prog 27 c l0T := by
  refine loop_of (hT := hT) (D := D) (l := l0tb) (b := l0b) (lo := l0LO) (by kernel_rfl) (by
    intro x hx
    simp only [l0tb, List.not_mem_nil] at hx
    ) (by kernel_rfl) (by kernel_rfl) ?_ ?_
  · intro Q σ w h
    unfold l0Tk at h
    obtain ⟨At0, nt0, ct0, h0, hn⟩ := gSlice_elim h
    clear h
    have h := hn
    clear hn
    obtain ⟨At1, nt1, ct1, h1, hn⟩ := gSlice_elim h
    clear h
    have h := hn
    clear hn
    obtain ⟨xt5, h5, hn⟩ := gInt_elim h
    clear h
    have h := hn
    clear hn
    exact h
  · intro k Q σ w h
    unfold l0Tk at h
    obtain ⟨At0, nt0, ct0, h0, hn⟩ := gSlice_elim h
    clear h
    have h := hn
    clear hn
    obtain ⟨At1, nt1, ct1, h1, hn⟩ := gSlice_elim h
    clear h
    have h := hn
    clear hn
    obtain ⟨xt5, h5, hn⟩ := gInt_elim h
    clear h
    have h := hn
    clear hn
    rw [l0_eq (σ := σ)] at h
    have e : (ov σ [(0, .slice At0 nt0 ct0), (1, .slice At1 nt1 ct1), (5, .int .i64 xt5)]) = σ := ov_self (by simp [h0, h1, h5])
    rw [e] at h
    exact h
def tb : List (List Nat × Spec) := [([0, 1, 0, 1, 1], l0T)]
theorem wp_eq (Aa0 : Option Addr) (na0 : Nat) (ca0 : Nat) (Aa1 : Option Addr) (na1 : Nat) (ca1 : Nat) (w : World) (Q : Ending → World → Prop) :
    wp Aa0 na0 ca0 Aa1 na1 ca1 w Q = codeW Tryd.prog hT 27 D (tab tb) [] body (topQ Tryd.prog hT 27 [.tmp 4] Q) (argsF [.slice Aa0 na0 ca0, .slice Aa1 na1 ca1]) w := by kernel_rfl
theorem ok (Aa0 : Option Addr) (na0 : Nat) (ca0 : Nat) (Aa1 : Option Addr) (na1 : Nat) (ca1 : Nat) (w : World) (Q : Ending → World → Prop) (h : wp Aa0 na0 ca0 Aa1 na1 ca1 w Q) : Calls Tryd.prog 68 #[.slice Aa0 na0 ca0, .slice Aa1 na1 ca1] w Q := by
  rw [wp_eq] at h
  exact calls_of_codeW (c := body) (rs := [.tmp 4]) Tryd.func68 (by kernel_rfl) (by kernel_rfl) (by kernel_rfl) (by kernel_rfl) (by kernel_rfl) (tab_snd (by
    intro x hx
    simp only [tb, List.mem_cons, List.not_mem_nil, or_false] at hx
    subst hx
    exact l0_snd)) (by kernel_rfl) h
end f_ref01_Turned
namespace f_crc_step
/-! skein/crc.step: function 69 -/
noncomputable def body : Code := (Tryd.f69.body).getD .skip
def wp (xa0 : Int) (w : World) (Q : Ending → World → Prop) : Prop :=
  Q (.returned (.int .u32 (bxor .u32 (xa0.fdiv (2 ^ 1)) (band .u32 (3988292384 : Int) (IntKind.u32.wrap (0 - (band .u32 xa0 (1 : Int)))))))) w
def D : Nat → Option DH := dtab []
def tb : List (List Nat × Spec) := []
theorem wp_eq (xa0 : Int) (w : World) (Q : Ending → World → Prop) :
    wp xa0 w Q = codeW Tryd.prog hT 10 D (tab tb) [] body (topQ Tryd.prog hT 10 [.tmp 2] Q) (argsF [.int .u32 xa0]) w := by kernel_rfl
theorem ok (xa0 : Int) (w : World) (Q : Ending → World → Prop) (h : wp xa0 w Q) : Calls Tryd.prog 69 #[.int .u32 xa0] w Q := by
  rw [wp_eq] at h
  exact calls_of_codeW (c := body) (rs := [.tmp 2]) Tryd.func69 (by kernel_rfl) (by kernel_rfl) (by kernel_rfl) (by kernel_rfl) (by kernel_rfl) (tab_snd (by
    intro x hx
    simp only [tb, List.not_mem_nil] at hx
    )) (by kernel_rfl) h
end f_crc_step
namespace f_ref02_Sum
/-! skein/skeinref02.Sum: function 75 -/
noncomputable def body : Code := (Tryd.f75.body).getD .skip
def l1 : Nat → Int → Int → World → (Int → World → Prop) → Prop
  | 0, _, _, _, _ => False
  | k + 1, xt3, xt5, w, K2 =>
    sel (decide (xt5 < (8 : Int))) (
    sel ((xt3.tmod (2 : Int)) == (1 : Int)) (
    l1 k (bxor .u32 (IntKind.u32.wrap (xt3.tdiv (2 : Int))) (3988292384 : Int)) (IntKind.i64.wrap (xt5 + (1 : Int))) w K2) (
    l1 k (IntKind.u32.wrap (xt3.tdiv (2 : Int))) (IntKind.i64.wrap (xt5 + (1 : Int))) w K2)) (
    K2 xt3 w)
def l0 : Nat → Option Addr → Nat → Nat → Int → Int → World → (Int → World → Prop) → Prop
  | 0, _, _, _, _, _, _, _ => False
  | k + 1, At0, nt0, ct0, xt3, xt4, w, K0 =>
    sel (decide (xt4 < (nt0 : Int))) (
    optB At0 fun a1 =>
    req (decide (0 ≤ xt4 ∧ xt4 < (nt0 : Int))) <|
    ldI w (a1.add (xt4.toNat * 1)) .u8 fun x2 =>
    ∃ k5 : Nat, l1 k5 (bxor .u32 xt3 (IntKind.u32.wrap x2)) (0 : Int) w (fun (x3 : Int) (w4 : World) => ∀ _ : Fr,
    l0 k At0 nt0 ct0 x3 (IntKind.i64.wrap (xt4 + (1 : Int))) w4 K0)) (
    K0 xt3 w)
def wp (Aa0 : Option Addr) (na0 : Nat) (ca0 : Nat) (w : World) (Q : Ending → World → Prop) : Prop :=
  ∃ k8 : Nat, l0 k8 Aa0 na0 ca0 (4294967295 : Int) (0 : Int) w (fun (x6 : Int) (w7 : World) => ∀ _ : Fr,
  Q (.returned (.int .u32 (bxor .u32 x6 (4294967295 : Int)))) w7)
def D : Nat → Option DH := dtab []
def l1LO : LO := ⟨[], [], [(2, [0, 3, 4])], []⟩
def l1Tk (k : Nat) : Spec := fun Q σ w =>
  gInt .u32 (σ 3) fun xt3 =>
  gInt .i64 (σ 5) fun xt5 =>
  l1 k xt3 xt5 w (fun (xq3 : Int) (w : World) => ∀ d : Fr, Q (.exit 2) (ov d [(0, σ 0), (3, .int .u32 xq3), (4, σ 4)]) w)
def l1T : Spec := fun Q σ w => ∃ k, l1Tk k Q σ w
def l1tb : List (List Nat × Spec) := []
noncomputable def l1b : Code := (subC [0, 0, 1, 1, 0, 0, 1, 0, 0, 1, 0, 1, 1] body).getD .skip
theorem l1_eq (k : Nat) (xt3 : Int) (xt5 : Int) (Q : PQ) (σ : Fr) (w : World) :
    l1 (k + 1) xt3 xt5 w (fun (xq3 : Int) (w : World) => ∀ d : Fr, Q (.exit 2) (ov d [(0, σ 0), (3, .int .u32 xq3), (4, σ 4)]) w) = codeW Tryd.prog hT 33 D (tab l1tb) [0, 0, 1, 1, 0, 0, 1, 0, 0, 1, 0, 1, 1] l1b (thenQ (l1Tk k Q) (widen l1LO Q)) (ov σ [(3, .int .u32 xt3), (5, .int .i64 xt5)]) w := by kernel_rfl
theorem l1_snd : ∀ c, subC [0, 1, 1, 0, 0, 1, 0, 0, 1, 0, 1, 1] body = some c → Snd Tryd.prog 33 c l1T := by
  refine loop_of (hT := hT) (D := D) (l := l1tb) (b := l1b) (lo := l1LO) (by kernel_rfl) (by
    intro x hx
    simp only [l1tb, List.not_mem_nil] at hx
    ) (by kernel_rfl) (by kernel_rfl) ?_ ?_
  · intro Q σ w h
    unfold l1Tk at h
    obtain ⟨xt3, h3, hn⟩ := gInt_elim h
    clear h
    have h := hn
    clear hn
    obtain ⟨xt5, h5, hn⟩ := gInt_elim h
    clear h
    have h := hn
    clear hn
    exact h
  · intro k Q σ w h
    unfold l1Tk at h
    obtain ⟨xt3, h3, hn⟩ := gInt_elim h
    clear h
    have h := hn
    clear hn
    obtain ⟨xt5, h5, hn⟩ := gInt_elim h
    clear h
    have h := hn
    clear hn
    rw [l1_eq (σ := σ)] at h
    have e : (ov σ [(3, .int .u32 xt3), (5, .int .i64 xt5)]) = σ := ov_self (by simp [h3, h5])
    rw [e] at h
    exact h
def l0LO : LO := ⟨[], [], [(0, [3])], []⟩
def l0Tk (k : Nat) : Spec := fun Q σ w =>
  gSlice (σ 0) fun At0 nt0 ct0 =>
  gInt .u32 (σ 3) fun xt3 =>
  gInt .i64 (σ 4) fun xt4 =>
  l0 k At0 nt0 ct0 xt3 xt4 w (fun (xq3 : Int) (w : World) => ∀ d : Fr, Q (.exit 0) (ov d [(3, .int .u32 xq3)]) w)
def l0T : Spec := fun Q σ w => ∃ k, l0Tk k Q σ w
def l0tb : List (List Nat × Spec) := [([0, 1, 1, 0, 0, 1, 0, 0, 1, 0, 1, 1], l1T)]
noncomputable def l0b : Code := (subC [0, 0, 1, 0, 1, 1] body).getD .skip
theorem l0_eq (k : Nat) (At0 : Option Addr) (nt0 : Nat) (ct0 : Nat) (xt3 : Int) (xt4 : Int) (Q : PQ) (σ : Fr) (w : World) :
    l0 (k + 1) At0 nt0 ct0 xt3 xt4 w (fun (xq3 : Int) (w : World) => ∀ d : Fr, Q (.exit 0) (ov d [(3, .int .u32 xq3)]) w) = codeW Tryd.prog hT 33 D (tab l0tb) [0, 0, 1, 0, 1, 1] l0b (thenQ (l0Tk k Q) (widen l0LO Q)) (ov σ [(0, .slice At0 nt0 ct0), (3, .int .u32 xt3), (4, .int .i64 xt4)]) w := by kernel_rfl
theorem l0_snd : ∀ c, subC [0, 1, 0, 1, 1] body = some c → Snd Tryd.prog 33 c l0T := by
  refine loop_of (hT := hT) (D := D) (l := l0tb) (b := l0b) (lo := l0LO) (by kernel_rfl) (by
    intro x hx
    simp only [l0tb, List.mem_cons, List.not_mem_nil, or_false] at hx
    subst hx
    exact l1_snd) (by kernel_rfl) (by kernel_rfl) ?_ ?_
  · intro Q σ w h
    unfold l0Tk at h
    obtain ⟨At0, nt0, ct0, h0, hn⟩ := gSlice_elim h
    clear h
    have h := hn
    clear hn
    obtain ⟨xt3, h3, hn⟩ := gInt_elim h
    clear h
    have h := hn
    clear hn
    obtain ⟨xt4, h4, hn⟩ := gInt_elim h
    clear h
    have h := hn
    clear hn
    exact h
  · intro k Q σ w h
    unfold l0Tk at h
    obtain ⟨At0, nt0, ct0, h0, hn⟩ := gSlice_elim h
    clear h
    have h := hn
    clear hn
    obtain ⟨xt3, h3, hn⟩ := gInt_elim h
    clear h
    have h := hn
    clear hn
    obtain ⟨xt4, h4, hn⟩ := gInt_elim h
    clear h
    have h := hn
    clear hn
    rw [l0_eq (σ := σ)] at h
    have e : (ov σ [(0, .slice At0 nt0 ct0), (3, .int .u32 xt3), (4, .int .i64 xt4)]) = σ := ov_self (by simp [h0, h3, h4])
    rw [e] at h
    exact h
def tb : List (List Nat × Spec) := [([0, 1, 1, 0, 0, 1, 0, 0, 1, 0, 1, 1], l1T), ([0, 1, 0, 1, 1], l0T)]
theorem wp_eq (Aa0 : Option Addr) (na0 : Nat) (ca0 : Nat) (w : World) (Q : Ending → World → Prop) :
    wp Aa0 na0 ca0 w Q = codeW Tryd.prog hT 33 D (tab tb) [] body (topQ Tryd.prog hT 33 [.tmp 2] Q) (argsF [.slice Aa0 na0 ca0]) w := by kernel_rfl
theorem ok (Aa0 : Option Addr) (na0 : Nat) (ca0 : Nat) (w : World) (Q : Ending → World → Prop) (h : wp Aa0 na0 ca0 w Q) : Calls Tryd.prog 75 #[.slice Aa0 na0 ca0] w Q := by
  rw [wp_eq] at h
  exact calls_of_codeW (c := body) (rs := [.tmp 2]) Tryd.func75 (by kernel_rfl) (by kernel_rfl) (by kernel_rfl) (by kernel_rfl) (by kernel_rfl) (tab_snd (by
    intro x hx
    simp only [tb, List.mem_cons, List.not_mem_nil, or_false] at hx
    rcases hx with rfl | rfl
    · exact l1_snd
    · exact l0_snd)) (by kernel_rfl) h
end f_ref02_Sum
namespace f_ref01_Piece
/-! skein/skeinref01.Piece: function 37 -/
noncomputable def body : Code := (Tryd.f37.body).getD .skip
def l1 : Nat → Option Addr → Nat → Nat → Int → Option Addr → Nat → Nat → Int → World → ((Option Addr) → Nat → Nat → World → Prop) → Prop
  | 0, _, _, _, _, _, _, _, _, _, _ => False
  | k + 1, At0, nt0, ct0, xt2, At7, nt7, ct7, xt8, w, K0 =>
    sel (decide (xt8 < (nt0 : Int))) (
    sel (decide (xt8 < xt2)) (
    optB At0 fun a3 =>
    req (decide (0 ≤ xt8 ∧ xt8 < (nt0 : Int))) <|
    ldI w (a3.add (xt8.toNat * 1)) .u8 fun x4 =>
    alW w (.cells #[.int .u8 x4] 5) fun B5 w6 =>
    Runs Tryd.prog (Builtin.append_ #[22, 22] 22 #[.slice At7 nt7 ct7, .slice (some (⟨B5, 0, Option.none⟩ : Addr)) 1 1]) w6 fun v8 w7 => ∃ (A9 : Option Addr) (n9 : Nat) (c9 : Nat), v8 = (.slice A9 n9 c9) ∧ (
    l1 k At0 nt0 ct0 xt2 A9 n9 c9 (IntKind.i64.wrap (xt8 + (1 : Int))) w7 K0)) (
    K0 At7 nt7 ct7 w)) (
    K0 At7 nt7 ct7 w)
def j0 (At0 : Option Addr) (nt0 : Nat) (ct0 : Nat) (xt1 : Int) (xt2 : Int) (At7 : Option Addr) (nt7 : Nat) (ct7 : Nat) (w : World) (Kr : (Option Addr) → Nat → Nat → World → Prop) : Prop :=
  ∃ k12 : Nat, l1 k12 At0 nt0 ct0 xt2 At7 nt7 ct7 xt1 w (fun (A10 : Option Addr) (n10 : Nat) (c10 : Nat) (w11 : World) => ∀ _ : Fr,
  Kr A10 n10 c10 w11)
def wp (Aa0 : Option Addr) (na0 : Nat) (ca0 : Nat) (xa1 : Int) (xa2 : Int) (w : World) (Q : Ending → World → Prop) : Prop :=
  alW w (.cells #[] 5) fun B1 w2 =>
  sel (decide (xa1 < (0 : Int))) (
  j0 Aa0 na0 ca0 (0 : Int) xa2 (some (⟨B1, 0, Option.none⟩ : Addr)) 0 0 w2 (fun (A13 : Option Addr) (n13 : Nat) (c13 : Nat) (w14 : World) => ∀ _ : Fr,
  Q (.returned (.slice A13 n13 c13)) w14)) (
  j0 Aa0 na0 ca0 xa1 xa2 (some (⟨B1, 0, Option.none⟩ : Addr)) 0 0 w2 (fun (A15 : Option Addr) (n15 : Nat) (c15 : Nat) (w16 : World) => ∀ _ : Fr,
  Q (.returned (.slice A15 n15 c15)) w16))
def D : Nat → Option DH := dtab []
def l1LO : LO := ⟨[], [], [(0, [7])], []⟩
def l1Tk (k : Nat) : Spec := fun Q σ w =>
  gSlice (σ 0) fun At0 nt0 ct0 =>
  gInt .i64 (σ 2) fun xt2 =>
  gSlice (σ 7) fun At7 nt7 ct7 =>
  gInt .i64 (σ 8) fun xt8 =>
  l1 k At0 nt0 ct0 xt2 At7 nt7 ct7 xt8 w (fun (Aq7 : Option Addr) (nq7 : Nat) (cq7 : Nat) (w : World) => ∀ d : Fr, Q (.exit 0) (ov d [(7, .slice Aq7 nq7 cq7)]) w)
def l1T : Spec := fun Q σ w => ∃ k, l1Tk k Q σ w
def l1tb : List (List Nat × Spec) := []
noncomputable def l1b : Code := (subC [0, 0, 1, 0, 1, 1, 1] body).getD .skip
theorem l1_eq (k : Nat) (At0 : Option Addr) (nt0 : Nat) (ct0 : Nat) (xt2 : Int) (At7 : Option Addr) (nt7 : Nat) (ct7 : Nat) (xt8 : Int) (Q : PQ) (σ : Fr) (w : World) :
    l1 (k + 1) At0 nt0 ct0 xt2 At7 nt7 ct7 xt8 w (fun (Aq7 : Option Addr) (nq7 : Nat) (cq7 : Nat) (w : World) => ∀ d : Fr, Q (.exit 0) (ov d [(7, .slice Aq7 nq7 cq7)]) w) = codeW Tryd.prog hT 32 D (tab l1tb) [0, 0, 1, 0, 1, 1, 1] l1b (thenQ (l1Tk k Q) (widen l1LO Q)) (ov σ [(0, .slice At0 nt0 ct0), (2, .int .i64 xt2), (7, .slice At7 nt7 ct7), (8, .int .i64 xt8)]) w := by kernel_rfl
theorem l1_snd : ∀ c, subC [0, 1, 0, 1, 1, 1] body = some c → Snd Tryd.prog 32 c l1T := by
  refine loop_of (hT := hT) (D := D) (l := l1tb) (b := l1b) (lo := l1LO) (by kernel_rfl) (by
    intro x hx
    simp only [l1tb, List.not_mem_nil] at hx
    ) (by kernel_rfl) (by kernel_rfl) ?_ ?_
  · intro Q σ w h
    unfold l1Tk at h
    obtain ⟨At0, nt0, ct0, h0, hn⟩ := gSlice_elim h
    clear h
    have h := hn
    clear hn
    obtain ⟨xt2, h2, hn⟩ := gInt_elim h
    clear h
    have h := hn
    clear hn
    obtain ⟨At7, nt7, ct7, h7, hn⟩ := gSlice_elim h
    clear h
    have h := hn
    clear hn
    obtain ⟨xt8, h8, hn⟩ := gInt_elim h
    clear h
    have h := hn
    clear hn
    exact h
  · intro k Q σ w h
    unfold l1Tk at h
    obtain ⟨At0, nt0, ct0, h0, hn⟩ := gSlice_elim h
    clear h
    have h := hn
    clear hn
    obtain ⟨xt2, h2, hn⟩ := gInt_elim h
    clear h
    have h := hn
    clear hn
    obtain ⟨At7, nt7, ct7, h7, hn⟩ := gSlice_elim h
    clear h
    have h := hn
    clear hn
    obtain ⟨xt8, h8, hn⟩ := gInt_elim h
    clear h
    have h := hn
    clear hn
    rw [l1_eq (σ := σ)] at h
    have e : (ov σ [(0, .slice At0 nt0 ct0), (2, .int .i64 xt2), (7, .slice At7 nt7 ct7), (8, .int .i64 xt8)]) = σ := ov_self (by simp [h0, h2, h7, h8])
    rw [e] at h
    exact h
def j0LO : LO := ⟨[], [6], [], []⟩
def j0T : Spec := fun Q σ w =>
  gSlice (σ 0) fun At0 nt0 ct0 =>
  gInt .i64 (σ 1) fun xt1 =>
  gInt .i64 (σ 2) fun xt2 =>
  gSlice (σ 7) fun At7 nt7 ct7 =>
  j0 At0 nt0 ct0 xt1 xt2 At7 nt7 ct7 w (fun (Aq6 : Option Addr) (nq6 : Nat) (cq6 : Nat) (w : World) => ∀ d : Fr, Q .ret (ov d [(6, .slice Aq6 nq6 cq6)]) w)
def j0tb : List (List Nat × Spec) := [([0, 1, 0, 1, 1, 1], l1T)]
noncomputable def j0b : Code := (subC [1, 1, 1] body).getD .skip
theorem j0_eq (At0 : Option Addr) (nt0 : Nat) (ct0 : Nat) (xt1 : Int) (xt2 : Int) (At7 : Option Addr) (nt7 : Nat) (ct7 : Nat) (Q : PQ) (σ : Fr) (w : World) :
    j0 At0 nt0 ct0 xt1 xt2 At7 nt7 ct7 w (fun (Aq6 : Option Addr) (nq6 : Nat) (cq6 : Nat) (w : World) => ∀ d : Fr, Q .ret (ov d [(6, .slice Aq6 nq6 cq6)]) w) = codeW Tryd.prog hT 32 D (tab j0tb) [1, 1, 1] j0b (widen j0LO Q) (ov σ [(0, .slice At0 nt0 ct0), (1, .int .i64 xt1), (2, .int .i64 xt2), (7, .slice At7 nt7 ct7)]) w := by kernel_rfl
theorem j0_snd : ∀ c, subC [1, 1, 1] body = some c → Snd Tryd.prog 32 c j0T := by
  refine cut_of (hT := hT) (D := D) (l := j0tb) (b := j0b) (lo := j0LO) (by kernel_rfl) (by
    intro x hx
    simp only [j0tb, List.mem_cons, List.not_mem_nil, or_false] at hx
    subst hx
    exact l1_snd) (by kernel_rfl) (by kernel_rfl) ?_
  intro Q σ w h
  unfold j0T at h
  obtain ⟨At0, nt0, ct0, h0, hn⟩ := gSlice_elim h
  clear h
  have h := hn
  clear hn
  obtain ⟨xt1, h1, hn⟩ := gInt_elim h
  clear h
  have h := hn
  clear hn
  obtain ⟨xt2, h2, hn⟩ := gInt_elim h
  clear h
  have h := hn
  clear hn
  obtain ⟨At7, nt7, ct7, h7, hn⟩ := gSlice_elim h
  clear h
  have h := hn
  clear hn
  rw [j0_eq (σ := σ)] at h
  have e : (ov σ [(0, .slice At0 nt0 ct0), (1, .int .i64 xt1), (2, .int .i64 xt2), (7, .slice At7 nt7 ct7)]) = σ := ov_self (by simp [h0, h1, h2, h7])
  rw [e] at h
  exact h
def tb : List (List Nat × Spec) := [([0, 1, 0, 1, 1, 1], l1T), ([1, 1, 1], j0T)]
theorem wp_eq (Aa0 : Option Addr) (na0 : Nat) (ca0 : Nat) (xa1 : Int) (xa2 : Int) (w : World) (Q : Ending → World → Prop) :
    wp Aa0 na0 ca0 xa1 xa2 w Q = codeW Tryd.prog hT 32 D (tab tb) [] body (topQ Tryd.prog hT 32 [.tmp 6] Q) (argsF [.slice Aa0 na0 ca0, .int .i64 xa1, .int .i64 xa2]) w := by kernel_rfl
theorem ok (Aa0 : Option Addr) (na0 : Nat) (ca0 : Nat) (xa1 : Int) (xa2 : Int) (w : World) (Q : Ending → World → Prop) (h : wp Aa0 na0 ca0 xa1 xa2 w Q) : Calls Tryd.prog 37 #[.slice Aa0 na0 ca0, .int .i64 xa1, .int .i64 xa2] w Q := by
  rw [wp_eq] at h
  exact calls_of_codeW (c := body) (rs := [.tmp 6]) Tryd.func37 (by kernel_rfl) (by kernel_rfl) (by kernel_rfl) (by kernel_rfl) (by kernel_rfl) (tab_snd (by
    intro x hx
    simp only [tb, List.mem_cons, List.not_mem_nil, or_false] at hx
    rcases hx with rfl | rfl
    · exact l1_snd
    · exact j0_snd)) (by kernel_rfl) h
end f_ref01_Piece
namespace f_ref02_Open
/-! skein/skeinref02.Open: function 35 -/
noncomputable def body : Code := (Tryd.f35.body).getD .skip
def wp (Aa0 : Option Addr) (na0 : Nat) (ca0 : Nat) (w : World) (Q : Ending → World → Prop) : Prop :=
  sel (decide ((na0 : Int) < (4 : Int))) (
  Q (.returned (.tuple #[.slice none 0 0, .bool false])) w) (
  Calls Tryd.prog 37 #[.slice Aa0 na0 ca0, .int .i64 (4 : Int), .int .i64 (na0 : Int)] w fun e1 w2 => ∃ (A3 : Option Addr) (n3 : Nat) (c3 : Nat), e1 = .returned (.slice A3 n3 c3) ∧ (
  Calls Tryd.prog 62 #[.slice A3 n3 c3] w2 fun e4 w5 => ∃ (A6 : Option Addr) (n6 : Nat) (c6 : Nat), e4 = .returned (.slice A6 n6 c6) ∧ (
  Calls Tryd.prog 14 #[.slice A6 n6 c6, .slice Aa0 na0 ca0] w5 fun e7 w8 => ∃ (b9 : Bool), e7 = .returned (.bool b9) ∧ (
  sel (!b9) (
  Q (.returned (.tuple #[.slice none 0 0, .bool false])) w8) (
  Q (.returned (.tuple #[.slice A3 n3 c3, .bool true])) w8)))))
def D : Nat → Option DH := dtab []
def tb : List (List Nat × Spec) := []
theorem wp_eq (Aa0 : Option Addr) (na0 : Nat) (ca0 : Nat) (w : World) (Q : Ending → World → Prop) :
    wp Aa0 na0 ca0 w Q = codeW Tryd.prog hT 18 D (tab tb) [] body (topQ Tryd.prog hT 18 [.tmp 2, .tmp 3] Q) (argsF [.slice Aa0 na0 ca0]) w := by kernel_rfl
theorem ok (Aa0 : Option Addr) (na0 : Nat) (ca0 : Nat) (w : World) (Q : Ending → World → Prop) (h : wp Aa0 na0 ca0 w Q) : Calls Tryd.prog 35 #[.slice Aa0 na0 ca0] w Q := by
  rw [wp_eq] at h
  exact calls_of_codeW (c := body) (rs := [.tmp 2, .tmp 3]) Tryd.func35 (by kernel_rfl) (by kernel_rfl) (by kernel_rfl) (by kernel_rfl) (by kernel_rfl) (tab_snd (by
    intro x hx
    simp only [tb, List.not_mem_nil] at hx
    )) (by kernel_rfl) h
end f_ref02_Open
namespace f_slices_Backward_byte_byte_Back
/-! slices.Backward[[]byte,byte]: function 54 -/
noncomputable def body : Code := (Tryd.f54.body).getD .skip
def wp (Aa0 : Option Addr) (na0 : Nat) (ca0 : Nat) (w : World) (Q : Ending → World → Prop) : Prop :=
  alW w (.cells #[.slice Aa0 na0 ca0] 22) fun B1 w2 =>
  Q (.returned (.func (.func 70) #[] #[.pointer (some (⟨B1, 0, Option.none⟩ : Addr))])) w2
def D : Nat → Option DH := dtab []
def tb : List (List Nat × Spec) := []
theorem wp_eq (Aa0 : Option Addr) (na0 : Nat) (ca0 : Nat) (w : World) (Q : Ending → World → Prop) :
    wp Aa0 na0 ca0 w Q = codeW Tryd.prog hT 4 D (tab tb) [] body (topQ Tryd.prog hT 4 [.tmp 2] Q) (argsF [.slice Aa0 na0 ca0]) w := by kernel_rfl
theorem ok (Aa0 : Option Addr) (na0 : Nat) (ca0 : Nat) (w : World) (Q : Ending → World → Prop) (h : wp Aa0 na0 ca0 w Q) : Calls Tryd.prog 54 #[.slice Aa0 na0 ca0] w Q := by
  rw [wp_eq] at h
  exact calls_of_codeW (c := body) (rs := [.tmp 2]) Tryd.func54 (by kernel_rfl) (by kernel_rfl) (by kernel_rfl) (by kernel_rfl) (by kernel_rfl) (tab_snd (by
    intro x hx
    simp only [tb, List.not_mem_nil] at hx
    )) (by kernel_rfl) h
end f_slices_Backward_byte_byte_Back
end Go.Proofs.YtifambgaekjilaaDoor.Rd
