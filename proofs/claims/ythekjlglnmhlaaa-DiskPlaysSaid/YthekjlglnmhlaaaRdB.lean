/- The printed readings of some functions: each function's code reckoned by the kernel to its predicate transformer. -/
import Derived.Test.YthekjlglnmhlaaaHint
namespace Go.Proofs.Ythekjlglnmhlaaa.Rd
open Go.Dn
set_option maxRecDepth 100000
set_option linter.unusedVariables false
namespace f_ref01_Copy
/-! skein/skeinref01.Copy: function 19 -/
noncomputable def body : Code := (Try.f19.body).getD .skip
def l0 : Nat → Option Addr → Nat → Nat → Option Addr → Nat → Nat → Int → World → ((Option Addr) → Nat → Nat → World → Prop) → Prop
  | 0, _, _, _, _, _, _, _, _, _ => False
  | k + 1, At0, nt0, ct0, At3, nt3, ct3, xt4, w, K0 =>
    sel (decide (xt4 < (nt0 : Int))) (
    optB At0 fun a3 =>
    req (decide (0 ≤ xt4 ∧ xt4 < (nt0 : Int))) <|
    ldI w (a3.add (xt4.toNat * 1)) .u8 fun x4 =>
    alW w (.cells #[.int .u8 x4] 5) fun B5 w6 =>
    Runs Try.prog (Builtin.append_ #[35, 35] 35 #[.slice At3 nt3 ct3, .slice (some (⟨B5, 0, Option.none⟩ : Addr)) 1 1]) w6 fun v8 w7 => ∃ (A9 : Option Addr) (n9 : Nat) (c9 : Nat), v8 = (.slice A9 n9 c9) ∧ (
    l0 k At0 nt0 ct0 A9 n9 c9 (IntKind.i64.wrap (xt4 + (1 : Int))) w7 K0)) (
    K0 At3 nt3 ct3 w)
def wp (Aa0 : Option Addr) (na0 : Nat) (ca0 : Nat) (w : World) (Q : Ending → World → Prop) : Prop :=
  alW w (.cells #[] 5) fun B1 w2 =>
  ∃ k12 : Nat, l0 k12 Aa0 na0 ca0 (some (⟨B1, 0, Option.none⟩ : Addr)) 0 0 (0 : Int) w2 (fun (A10 : Option Addr) (n10 : Nat) (c10 : Nat) (w11 : World) => ∀ _ : Fr,
  Q (.returned (.slice A10 n10 c10)) w11)
def D : Nat → Option DH := dtab []
def l0LO : LO := ⟨[], [], [(0, [3])], []⟩
def l0Tk (k : Nat) : Spec := fun Q σ w =>
  gSlice (σ 0) fun At0 nt0 ct0 =>
  gSlice (σ 3) fun At3 nt3 ct3 =>
  gInt .i64 (σ 4) fun xt4 =>
  l0 k At0 nt0 ct0 At3 nt3 ct3 xt4 w (fun (Aq3 : Option Addr) (nq3 : Nat) (cq3 : Nat) (w : World) => ∀ d : Fr, Q (.exit 0) (ov d [(3, .slice Aq3 nq3 cq3)]) w)
def l0T : Spec := fun Q σ w => ∃ k, l0Tk k Q σ w
def l0tb : List (List Nat × Spec) := []
noncomputable def l0b : Code := (subC [0, 0, 1, 0, 1, 1] body).getD .skip
theorem l0_eq (k : Nat) (At0 : Option Addr) (nt0 : Nat) (ct0 : Nat) (At3 : Option Addr) (nt3 : Nat) (ct3 : Nat) (xt4 : Int) (Q : PQ) (σ : Fr) (w : World) :
    l0 (k + 1) At0 nt0 ct0 At3 nt3 ct3 xt4 w (fun (Aq3 : Option Addr) (nq3 : Nat) (cq3 : Nat) (w : World) => ∀ d : Fr, Q (.exit 0) (ov d [(3, .slice Aq3 nq3 cq3)]) w) = codeW Try.prog hT 20 D (tab l0tb) [0, 0, 1, 0, 1, 1] l0b (thenQ (l0Tk k Q) (widen l0LO Q)) (ov σ [(0, .slice At0 nt0 ct0), (3, .slice At3 nt3 ct3), (4, .int .i64 xt4)]) w := by kernel_rfl
theorem l0_snd : ∀ c, subC [0, 1, 0, 1, 1] body = some c → Snd Try.prog 20 c l0T := by
  refine loop_of (hT := hT) (D := D) (l := l0tb) (b := l0b) (lo := l0LO) (by kernel_rfl) (by
    intro x hx
    simp only [l0tb, List.not_mem_nil] at hx
    ) (by kernel_rfl) (by kernel_rfl) ?_ ?_
  · intro Q σ w h
    unfold l0Tk at h
    obtain ⟨At0, nt0, ct0, h0, hn⟩ := gSlice_elim h
    clear h
    have h := hn
    clear hn
    obtain ⟨At3, nt3, ct3, h3, hn⟩ := gSlice_elim h
    clear h
    have h := hn
    clear hn
    obtain ⟨xt4, h4, hn⟩ := gInt_elim h
    clear h
    have h := hn
    clear hn
    exact h
  · intro k Q σ w h
    unfold l0Tk at h
    obtain ⟨At0, nt0, ct0, h0, hn⟩ := gSlice_elim h
    clear h
    have h := hn
    clear hn
    obtain ⟨At3, nt3, ct3, h3, hn⟩ := gSlice_elim h
    clear h
    have h := hn
    clear hn
    obtain ⟨xt4, h4, hn⟩ := gInt_elim h
    clear h
    have h := hn
    clear hn
    rw [l0_eq (σ := σ)] at h
    have e : (ov σ [(0, .slice At0 nt0 ct0), (3, .slice At3 nt3 ct3), (4, .int .i64 xt4)]) = σ := ov_self (by simp [h0, h3, h4])
    rw [e] at h
    exact h
def tb : List (List Nat × Spec) := [([0, 1, 0, 1, 1], l0T)]
theorem wp_eq (Aa0 : Option Addr) (na0 : Nat) (ca0 : Nat) (w : World) (Q : Ending → World → Prop) :
    wp Aa0 na0 ca0 w Q = codeW Try.prog hT 20 D (tab tb) [] body (topQ Try.prog hT 20 [.tmp 2] Q) (argsF [.slice Aa0 na0 ca0]) w := by kernel_rfl
theorem ok (Aa0 : Option Addr) (na0 : Nat) (ca0 : Nat) (w : World) (Q : Ending → World → Prop) (h : wp Aa0 na0 ca0 w Q) : Calls Try.prog 19 #[.slice Aa0 na0 ca0] w Q := by
  rw [wp_eq] at h
  exact calls_of_codeW (c := body) (rs := [.tmp 2]) Try.func19 (by kernel_rfl) (by kernel_rfl) (by kernel_rfl) (by kernel_rfl) (by kernel_rfl) (tab_snd (by
    intro x hx
    simp only [tb, List.mem_cons, List.not_mem_nil, or_false] at hx
    subst hx
    exact l0_snd)) (by kernel_rfl) h
end f_ref01_Copy
namespace f_ref01_Same
/-! skein/skeinref01.Same: function 22 -/
noncomputable def body : Code := (Try.f22.body).getD .skip
def l0 : Nat → Option Addr → Nat → Nat → Option Addr → Nat → Nat → Int → World → (World → Prop) → (Bool → World → Prop) → Prop
  | 0, _, _, _, _, _, _, _, _, _, _ => False
  | k + 1, At0, nt0, ct0, At1, nt1, ct1, xt5, w, K0, Kr =>
    sel (decide (xt5 < (nt0 : Int))) (
    drW w fun w1 =>
    optB At0 fun a3 =>
    req (decide (0 ≤ xt5 ∧ xt5 < (nt0 : Int))) <|
    ldI w1 (a3.add (xt5.toNat * 1)) .u8 fun x4 =>
    optB At1 fun a5 =>
    req (decide (0 ≤ xt5 ∧ xt5 < (nt1 : Int))) <|
    ldI w1 (a5.add (xt5.toNat * 1)) .u8 fun x6 =>
    sel (x4 != x6) (
    Kr false w1) (
    l0 k At0 nt0 ct0 At1 nt1 ct1 (IntKind.i64.wrap (xt5 + (1 : Int))) w1 K0 Kr)) (
    K0  w)
def wp (Aa0 : Option Addr) (na0 : Nat) (ca0 : Nat) (Aa1 : Option Addr) (na1 : Nat) (ca1 : Nat) (w : World) (Q : Ending → World → Prop) : Prop :=
  sel ((na0 : Int) != (na1 : Int)) (
  Q (.returned (.bool false)) w) (
  ∃ k10 : Nat, l0 k10 Aa0 na0 ca0 Aa1 na1 ca1 (0 : Int) w (fun (w7 : World) => ∀ _ : Fr,
  Q (.returned (.bool true)) w7) (fun (b8 : Bool) (w9 : World) => ∀ _ : Fr,
  Q (.returned (.bool b8)) w9))
def D : Nat → Option DH := dtab [(6, .simple [.fst 0, .fst 1, .fst 2, .fst 3, .fst 4, .fst 5, .fst 6, .fst 7] [.fst 8])]
def l0LO : LO := ⟨[], [4], [(0, [])], []⟩
def l0Tk (k : Nat) : Spec := fun Q σ w =>
  gSlice (σ 0) fun At0 nt0 ct0 =>
  gSlice (σ 1) fun At1 nt1 ct1 =>
  gInt .i64 (σ 5) fun xt5 =>
  l0 k At0 nt0 ct0 At1 nt1 ct1 xt5 w (fun (w : World) => ∀ d : Fr, Q (.exit 0) (ov d []) w) (fun (bq4 : Bool) (w : World) => ∀ d : Fr, Q .ret (ov d [(4, .bool bq4)]) w)
def l0T : Spec := fun Q σ w => ∃ k, l0Tk k Q σ w
def l0tb : List (List Nat × Spec) := []
noncomputable def l0b : Code := (subC [0, 0, 1, 0, 1, 1] body).getD .skip
theorem l0_eq (k : Nat) (At0 : Option Addr) (nt0 : Nat) (ct0 : Nat) (At1 : Option Addr) (nt1 : Nat) (ct1 : Nat) (xt5 : Int) (Q : PQ) (σ : Fr) (w : World) :
    l0 (k + 1) At0 nt0 ct0 At1 nt1 ct1 xt5 w (fun (w : World) => ∀ d : Fr, Q (.exit 0) (ov d []) w) (fun (bq4 : Bool) (w : World) => ∀ d : Fr, Q .ret (ov d [(4, .bool bq4)]) w) = codeW Try.prog hT 26 D (tab l0tb) [0, 0, 1, 0, 1, 1] l0b (thenQ (l0Tk k Q) (widen l0LO Q)) (ov σ [(0, .slice At0 nt0 ct0), (1, .slice At1 nt1 ct1), (5, .int .i64 xt5)]) w := by kernel_rfl
theorem l0_snd : ∀ c, subC [0, 1, 0, 1, 1] body = some c → Snd Try.prog 26 c l0T := by
  refine loop_of (hT := hT) (D := D) (l := l0tb) (b := l0b) (lo := l0LO) (by kernel_rfl) (by
    intro x hx
    simp only [l0tb, List.not_mem_nil] at hx
    ) (by kernel_rfl) (by kernel_rfl) ?_ ?_
  · intro Q σ w h
    unfold l0Tk at h
    obtain ⟨At0, nt0, ct0, h0, hn⟩ := gSlice_elim h
    clear h
    have h := hn
    clear hn
    obtain ⟨At1, nt1, ct1, h1, hn⟩ := gSlice_elim h
    clear h
    have h := hn
    clear hn
    obtain ⟨xt5, h5, hn⟩ := gInt_elim h
    clear h
    have h := hn
    clear hn
    exact h
  · intro k Q σ w h
    unfold l0Tk at h
    obtain ⟨At0, nt0, ct0, h0, hn⟩ := gSlice_elim h
    clear h
    have h := hn
    clear hn
    obtain ⟨At1, nt1, ct1, h1, hn⟩ := gSlice_elim h
    clear h
    have h := hn
    clear hn
    obtain ⟨xt5, h5, hn⟩ := gInt_elim h
    clear h
    have h := hn
    clear hn
    rw [l0_eq (σ := σ)] at h
    have e : (ov σ [(0, .slice At0 nt0 ct0), (1, .slice At1 nt1 ct1), (5, .int .i64 xt5)]) = σ := ov_self (by simp [h0, h1, h5])
    rw [e] at h
    exact h
def tb : List (List Nat × Spec) := [([0, 1, 0, 1, 1], l0T)]
theorem wp_eq (Aa0 : Option Addr) (na0 : Nat) (ca0 : Nat) (Aa1 : Option Addr) (na1 : Nat) (ca1 : Nat) (w : World) (Q : Ending → World → Prop) :
    wp Aa0 na0 ca0 Aa1 na1 ca1 w Q = codeW Try.prog hT 26 D (tab tb) [] body (topQ Try.prog hT 26 [.tmp 4] Q) (argsF [.slice Aa0 na0 ca0, .slice Aa1 na1 ca1]) w := by kernel_rfl
theorem ok (Aa0 : Option Addr) (na0 : Nat) (ca0 : Nat) (Aa1 : Option Addr) (na1 : Nat) (ca1 : Nat) (w : World) (Q : Ending → World → Prop) (h : wp Aa0 na0 ca0 Aa1 na1 ca1 w Q) : Calls Try.prog 22 #[.slice Aa0 na0 ca0, .slice Aa1 na1 ca1] w Q := by
  rw [wp_eq] at h
  exact calls_of_codeW (c := body) (rs := [.tmp 4]) Try.func22 (by kernel_rfl) (by kernel_rfl) (by kernel_rfl) (by kernel_rfl) (by kernel_rfl) (tab_snd (by
    intro x hx
    simp only [tb, List.mem_cons, List.not_mem_nil, or_false] at hx
    subst hx
    exact l0_snd)) (by kernel_rfl) h
end f_ref01_Same
namespace f_ref01_Piece
/-! skein/skeinref01.Piece: function 23 -/
noncomputable def body : Code := (Try.f23.body).getD .skip
def l1 : Nat → Option Addr → Nat → Nat → Int → Option Addr → Nat → Nat → Int → World → ((Option Addr) → Nat → Nat → World → Prop) → Prop
  | 0, _, _, _, _, _, _, _, _, _, _ => False
  | k + 1, At0, nt0, ct0, xt2, At7, nt7, ct7, xt8, w, K0 =>
    sel (decide (xt8 < (nt0 : Int))) (
    sel (decide (xt8 < xt2)) (
    optB At0 fun a3 =>
    req (decide (0 ≤ xt8 ∧ xt8 < (nt0 : Int))) <|
    ldI w (a3.add (xt8.toNat * 1)) .u8 fun x4 =>
    alW w (.cells #[.int .u8 x4] 5) fun B5 w6 =>
    Runs Try.prog (Builtin.append_ #[35, 35] 35 #[.slice At7 nt7 ct7, .slice (some (⟨B5, 0, Option.none⟩ : Addr)) 1 1]) w6 fun v8 w7 => ∃ (A9 : Option Addr) (n9 : Nat) (c9 : Nat), v8 = (.slice A9 n9 c9) ∧ (
    l1 k At0 nt0 ct0 xt2 A9 n9 c9 (IntKind.i64.wrap (xt8 + (1 : Int))) w7 K0)) (
    K0 At7 nt7 ct7 w)) (
    K0 At7 nt7 ct7 w)
def j0 (At0 : Option Addr) (nt0 : Nat) (ct0 : Nat) (xt1 : Int) (xt2 : Int) (At7 : Option Addr) (nt7 : Nat) (ct7 : Nat) (w : World) (Kr : (Option Addr) → Nat → Nat → World → Prop) : Prop :=
  ∃ k12 : Nat, l1 k12 At0 nt0 ct0 xt2 At7 nt7 ct7 xt1 w (fun (A10 : Option Addr) (n10 : Nat) (c10 : Nat) (w11 : World) => ∀ _ : Fr,
  Kr A10 n10 c10 w11)
def wp (Aa0 : Option Addr) (na0 : Nat) (ca0 : Nat) (xa1 : Int) (xa2 : Int) (w : World) (Q : Ending → World → Prop) : Prop :=
  alW w (.cells #[] 5) fun B1 w2 =>
  sel (decide (xa1 < (0 : Int))) (
  j0 Aa0 na0 ca0 (0 : Int) xa2 (some (⟨B1, 0, Option.none⟩ : Addr)) 0 0 w2 (fun (A13 : Option Addr) (n13 : Nat) (c13 : Nat) (w14 : World) => ∀ _ : Fr,
  Q (.returned (.slice A13 n13 c13)) w14)) (
  j0 Aa0 na0 ca0 xa1 xa2 (some (⟨B1, 0, Option.none⟩ : Addr)) 0 0 w2 (fun (A15 : Option Addr) (n15 : Nat) (c15 : Nat) (w16 : World) => ∀ _ : Fr,
  Q (.returned (.slice A15 n15 c15)) w16))
def D : Nat → Option DH := dtab []
def l1LO : LO := ⟨[], [], [(0, [7])], []⟩
def l1Tk (k : Nat) : Spec := fun Q σ w =>
  gSlice (σ 0) fun At0 nt0 ct0 =>
  gInt .i64 (σ 2) fun xt2 =>
  gSlice (σ 7) fun At7 nt7 ct7 =>
  gInt .i64 (σ 8) fun xt8 =>
  l1 k At0 nt0 ct0 xt2 At7 nt7 ct7 xt8 w (fun (Aq7 : Option Addr) (nq7 : Nat) (cq7 : Nat) (w : World) => ∀ d : Fr, Q (.exit 0) (ov d [(7, .slice Aq7 nq7 cq7)]) w)
def l1T : Spec := fun Q σ w => ∃ k, l1Tk k Q σ w
def l1tb : List (List Nat × Spec) := []
noncomputable def l1b : Code := (subC [0, 0, 1, 0, 1, 1, 1] body).getD .skip
theorem l1_eq (k : Nat) (At0 : Option Addr) (nt0 : Nat) (ct0 : Nat) (xt2 : Int) (At7 : Option Addr) (nt7 : Nat) (ct7 : Nat) (xt8 : Int) (Q : PQ) (σ : Fr) (w : World) :
    l1 (k + 1) At0 nt0 ct0 xt2 At7 nt7 ct7 xt8 w (fun (Aq7 : Option Addr) (nq7 : Nat) (cq7 : Nat) (w : World) => ∀ d : Fr, Q (.exit 0) (ov d [(7, .slice Aq7 nq7 cq7)]) w) = codeW Try.prog hT 32 D (tab l1tb) [0, 0, 1, 0, 1, 1, 1] l1b (thenQ (l1Tk k Q) (widen l1LO Q)) (ov σ [(0, .slice At0 nt0 ct0), (2, .int .i64 xt2), (7, .slice At7 nt7 ct7), (8, .int .i64 xt8)]) w := by kernel_rfl
theorem l1_snd : ∀ c, subC [0, 1, 0, 1, 1, 1] body = some c → Snd Try.prog 32 c l1T := by
  refine loop_of (hT := hT) (D := D) (l := l1tb) (b := l1b) (lo := l1LO) (by kernel_rfl) (by
    intro x hx
    simp only [l1tb, List.not_mem_nil] at hx
    ) (by kernel_rfl) (by kernel_rfl) ?_ ?_
  · intro Q σ w h
    unfold l1Tk at h
    obtain ⟨At0, nt0, ct0, h0, hn⟩ := gSlice_elim h
    clear h
    have h := hn
    clear hn
    obtain ⟨xt2, h2, hn⟩ := gInt_elim h
    clear h
    have h := hn
    clear hn
    obtain ⟨At7, nt7, ct7, h7, hn⟩ := gSlice_elim h
    clear h
    have h := hn
    clear hn
    obtain ⟨xt8, h8, hn⟩ := gInt_elim h
    clear h
    have h := hn
    clear hn
    exact h
  · intro k Q σ w h
    unfold l1Tk at h
    obtain ⟨At0, nt0, ct0, h0, hn⟩ := gSlice_elim h
    clear h
    have h := hn
    clear hn
    obtain ⟨xt2, h2, hn⟩ := gInt_elim h
    clear h
    have h := hn
    clear hn
    obtain ⟨At7, nt7, ct7, h7, hn⟩ := gSlice_elim h
    clear h
    have h := hn
    clear hn
    obtain ⟨xt8, h8, hn⟩ := gInt_elim h
    clear h
    have h := hn
    clear hn
    rw [l1_eq (σ := σ)] at h
    have e : (ov σ [(0, .slice At0 nt0 ct0), (2, .int .i64 xt2), (7, .slice At7 nt7 ct7), (8, .int .i64 xt8)]) = σ := ov_self (by simp [h0, h2, h7, h8])
    rw [e] at h
    exact h
def j0LO : LO := ⟨[], [6], [], []⟩
def j0T : Spec := fun Q σ w =>
  gSlice (σ 0) fun At0 nt0 ct0 =>
  gInt .i64 (σ 1) fun xt1 =>
  gInt .i64 (σ 2) fun xt2 =>
  gSlice (σ 7) fun At7 nt7 ct7 =>
  j0 At0 nt0 ct0 xt1 xt2 At7 nt7 ct7 w (fun (Aq6 : Option Addr) (nq6 : Nat) (cq6 : Nat) (w : World) => ∀ d : Fr, Q .ret (ov d [(6, .slice Aq6 nq6 cq6)]) w)
def j0tb : List (List Nat × Spec) := [([0, 1, 0, 1, 1, 1], l1T)]
noncomputable def j0b : Code := (subC [1, 1, 1] body).getD .skip
theorem j0_eq (At0 : Option Addr) (nt0 : Nat) (ct0 : Nat) (xt1 : Int) (xt2 : Int) (At7 : Option Addr) (nt7 : Nat) (ct7 : Nat) (Q : PQ) (σ : Fr) (w : World) :
    j0 At0 nt0 ct0 xt1 xt2 At7 nt7 ct7 w (fun (Aq6 : Option Addr) (nq6 : Nat) (cq6 : Nat) (w : World) => ∀ d : Fr, Q .ret (ov d [(6, .slice Aq6 nq6 cq6)]) w) = codeW Try.prog hT 32 D (tab j0tb) [1, 1, 1] j0b (widen j0LO Q) (ov σ [(0, .slice At0 nt0 ct0), (1, .int .i64 xt1), (2, .int .i64 xt2), (7, .slice At7 nt7 ct7)]) w := by kernel_rfl
theorem j0_snd : ∀ c, subC [1, 1, 1] body = some c → Snd Try.prog 32 c j0T := by
  refine cut_of (hT := hT) (D := D) (l := j0tb) (b := j0b) (lo := j0LO) (by kernel_rfl) (by
    intro x hx
    simp only [j0tb, List.mem_cons, List.not_mem_nil, or_false] at hx
    subst hx
    exact l1_snd) (by kernel_rfl) (by kernel_rfl) ?_
  intro Q σ w h
  unfold j0T at h
  obtain ⟨At0, nt0, ct0, h0, hn⟩ := gSlice_elim h
  clear h
  have h := hn
  clear hn
  obtain ⟨xt1, h1, hn⟩ := gInt_elim h
  clear h
  have h := hn
  clear hn
  obtain ⟨xt2, h2, hn⟩ := gInt_elim h
  clear h
  have h := hn
  clear hn
  obtain ⟨At7, nt7, ct7, h7, hn⟩ := gSlice_elim h
  clear h
  have h := hn
  clear hn
  rw [j0_eq (σ := σ)] at h
  have e : (ov σ [(0, .slice At0 nt0 ct0), (1, .int .i64 xt1), (2, .int .i64 xt2), (7, .slice At7 nt7 ct7)]) = σ := ov_self (by simp [h0, h1, h2, h7])
  rw [e] at h
  exact h
def tb : List (List Nat × Spec) := [([0, 1, 0, 1, 1, 1], l1T), ([1, 1, 1], j0T)]
theorem wp_eq (Aa0 : Option Addr) (na0 : Nat) (ca0 : Nat) (xa1 : Int) (xa2 : Int) (w : World) (Q : Ending → World → Prop) :
    wp Aa0 na0 ca0 xa1 xa2 w Q = codeW Try.prog hT 32 D (tab tb) [] body (topQ Try.prog hT 32 [.tmp 6] Q) (argsF [.slice Aa0 na0 ca0, .int .i64 xa1, .int .i64 xa2]) w := by kernel_rfl
theorem ok (Aa0 : Option Addr) (na0 : Nat) (ca0 : Nat) (xa1 : Int) (xa2 : Int) (w : World) (Q : Ending → World → Prop) (h : wp Aa0 na0 ca0 xa1 xa2 w Q) : Calls Try.prog 23 #[.slice Aa0 na0 ca0, .int .i64 xa1, .int .i64 xa2] w Q := by
  rw [wp_eq] at h
  exact calls_of_codeW (c := body) (rs := [.tmp 6]) Try.func23 (by kernel_rfl) (by kernel_rfl) (by kernel_rfl) (by kernel_rfl) (by kernel_rfl) (tab_snd (by
    intro x hx
    simp only [tb, List.mem_cons, List.not_mem_nil, or_false] at hx
    rcases hx with rfl | rfl
    · exact l1_snd
    · exact j0_snd)) (by kernel_rfl) h
end f_ref01_Piece
namespace f_ref01_SameInts
/-! skein/skeinref01.SameInts: function 28 -/
noncomputable def body : Code := (Try.f28.body).getD .skip
def l0 : Nat → Option Addr → Nat → Nat → Option Addr → Nat → Nat → Int → World → (World → Prop) → (Bool → World → Prop) → Prop
  | 0, _, _, _, _, _, _, _, _, _, _ => False
  | k + 1, At0, nt0, ct0, At1, nt1, ct1, xt5, w, K0, Kr =>
    sel (decide (xt5 < (nt0 : Int))) (
    drW w fun w1 =>
    optB At0 fun a3 =>
    req (decide (0 ≤ xt5 ∧ xt5 < (nt0 : Int))) <|
    ldI w1 (a3.add (xt5.toNat * 1)) .i64 fun x4 =>
    optB At1 fun a5 =>
    req (decide (0 ≤ xt5 ∧ xt5 < (nt1 : Int))) <|
    ldI w1 (a5.add (xt5.toNat * 1)) .i64 fun x6 =>
    sel (x4 != x6) (
    Kr false w1) (
    l0 k At0 nt0 ct0 At1 nt1 ct1 (IntKind.i64.wrap (xt5 + (1 : Int))) w1 K0 Kr)) (
    K0  w)
def wp (Aa0 : Option Addr) (na0 : Nat) (ca0 : Nat) (Aa1 : Option Addr) (na1 : Nat) (ca1 : Nat) (w : World) (Q : Ending → World → Prop) : Prop :=
  sel ((na0 : Int) != (na1 : Int)) (
  Q (.returned (.bool false)) w) (
  ∃ k10 : Nat, l0 k10 Aa0 na0 ca0 Aa1 na1 ca1 (0 : Int) w (fun (w7 : World) => ∀ _ : Fr,
  Q (.returned (.bool true)) w7) (fun (b8 : Bool) (w9 : World) => ∀ _ : Fr,
  Q (.returned (.bool b8)) w9))
def D : Nat → Option DH := dtab [(6, .simple [.fst 0, .fst 1, .fst 2, .fst 3, .fst 4, .fst 5, .fst 6, .fst 7] [.fst 8])]
def l0LO : LO := ⟨[], [4], [(0, [])], []⟩
def l0Tk (k : Nat) : Spec := fun Q σ w =>
  gSlice (σ 0) fun At0 nt0 ct0 =>
  gSlice (σ 1) fun At1 nt1 ct1 =>
  gInt .i64 (σ 5) fun xt5 =>
  l0 k At0 nt0 ct0 At1 nt1 ct1 xt5 w (fun (w : World) => ∀ d : Fr, Q (.exit 0) (ov d []) w) (fun (bq4 : Bool) (w : World) => ∀ d : Fr, Q .ret (ov d [(4, .bool bq4)]) w)
def l0T : Spec := fun Q σ w => ∃ k, l0Tk k Q σ w
def l0tb : List (List Nat × Spec) := []
noncomputable def l0b : Code := (subC [0, 0, 1, 0, 1, 1] body).getD .skip
theorem l0_eq (k : Nat) (At0 : Option Addr) (nt0 : Nat) (ct0 : Nat) (At1 : Option Addr) (nt1 : Nat) (ct1 : Nat) (xt5 : Int) (Q : PQ) (σ : Fr) (w : World) :
    l0 (k + 1) At0 nt0 ct0 At1 nt1 ct1 xt5 w (fun (w : World) => ∀ d : Fr, Q (.exit 0) (ov d []) w) (fun (bq4 : Bool) (w : World) => ∀ d : Fr, Q .ret (ov d [(4, .bool bq4)]) w) = codeW Try.prog hT 26 D (tab l0tb) [0, 0, 1, 0, 1, 1] l0b (thenQ (l0Tk k Q) (widen l0LO Q)) (ov σ [(0, .slice At0 nt0 ct0), (1, .slice At1 nt1 ct1), (5, .int .i64 xt5)]) w := by kernel_rfl
theorem l0_snd : ∀ c, subC [0, 1, 0, 1, 1] body = some c → Snd Try.prog 26 c l0T := by
  refine loop_of (hT := hT) (D := D) (l := l0tb) (b := l0b) (lo := l0LO) (by kernel_rfl) (by
    intro x hx
    simp only [l0tb, List.not_mem_nil] at hx
    ) (by kernel_rfl) (by kernel_rfl) ?_ ?_
  · intro Q σ w h
    unfold l0Tk at h
    obtain ⟨At0, nt0, ct0, h0, hn⟩ := gSlice_elim h
    clear h
    have h := hn
    clear hn
    obtain ⟨At1, nt1, ct1, h1, hn⟩ := gSlice_elim h
    clear h
    have h := hn
    clear hn
    obtain ⟨xt5, h5, hn⟩ := gInt_elim h
    clear h
    have h := hn
    clear hn
    exact h
  · intro k Q σ w h
    unfold l0Tk at h
    obtain ⟨At0, nt0, ct0, h0, hn⟩ := gSlice_elim h
    clear h
    have h := hn
    clear hn
    obtain ⟨At1, nt1, ct1, h1, hn⟩ := gSlice_elim h
    clear h
    have h := hn
    clear hn
    obtain ⟨xt5, h5, hn⟩ := gInt_elim h
    clear h
    have h := hn
    clear hn
    rw [l0_eq (σ := σ)] at h
    have e : (ov σ [(0, .slice At0 nt0 ct0), (1, .slice At1 nt1 ct1), (5, .int .i64 xt5)]) = σ := ov_self (by simp [h0, h1, h5])
    rw [e] at h
    exact h
def tb : List (List Nat × Spec) := [([0, 1, 0, 1, 1], l0T)]
theorem wp_eq (Aa0 : Option Addr) (na0 : Nat) (ca0 : Nat) (Aa1 : Option Addr) (na1 : Nat) (ca1 : Nat) (w : World) (Q : Ending → World → Prop) :
    wp Aa0 na0 ca0 Aa1 na1 ca1 w Q = codeW Try.prog hT 26 D (tab tb) [] body (topQ Try.prog hT 26 [.tmp 4] Q) (argsF [.slice Aa0 na0 ca0, .slice Aa1 na1 ca1]) w := by kernel_rfl
theorem ok (Aa0 : Option Addr) (na0 : Nat) (ca0 : Nat) (Aa1 : Option Addr) (na1 : Nat) (ca1 : Nat) (w : World) (Q : Ending → World → Prop) (h : wp Aa0 na0 ca0 Aa1 na1 ca1 w Q) : Calls Try.prog 28 #[.slice Aa0 na0 ca0, .slice Aa1 na1 ca1] w Q := by
  rw [wp_eq] at h
  exact calls_of_codeW (c := body) (rs := [.tmp 4]) Try.func28 (by kernel_rfl) (by kernel_rfl) (by kernel_rfl) (by kernel_rfl) (by kernel_rfl) (tab_snd (by
    intro x hx
    simp only [tb, List.mem_cons, List.not_mem_nil, or_false] at hx
    subst hx
    exact l0_snd)) (by kernel_rfl) h
end f_ref01_SameInts
namespace f_ref01_Wide
/-! skein/skeinref01.Wide: function 29 -/
noncomputable def body : Code := (Try.f29.body).getD .skip
def l0 : Nat → Option Addr → Nat → Nat → Int → World → ((Option Addr) → Nat → Nat → World → Prop) → Prop
  | 0, _, _, _, _, _, _ => False
  | k + 1, At3, nt3, ct3, xt4, w, K0 =>
    sel (decide (xt4 < (64 : Int))) (
    alW w (.cells #[.int .u8 (IntKind.u8.wrap (IntKind.i64.wrap ((208 : Int) + (xt4.tmod (9 : Int)))))] 5) fun B4 w5 =>
    Runs Try.prog (Builtin.append_ #[35, 35] 35 #[.slice At3 nt3 ct3, .slice (some (⟨B4, 0, Option.none⟩ : Addr)) 1 1]) w5 fun v7 w6 => ∃ (A8 : Option Addr) (n8 : Nat) (c8 : Nat), v7 = (.slice A8 n8 c8) ∧ (
    l0 k A8 n8 c8 (IntKind.i64.wrap (xt4 + (1 : Int))) w6 K0)) (
    K0 At3 nt3 ct3 w)
def wp (Aa0 : Option Addr) (na0 : Nat) (ca0 : Nat) (w : World) (Q : Ending → World → Prop) : Prop :=
  Calls Try.prog 19 #[.slice Aa0 na0 ca0] w fun e1 w2 => ∃ (A3 : Option Addr) (n3 : Nat) (c3 : Nat), e1 = .returned (.slice A3 n3 c3) ∧ (
  ∃ k11 : Nat, l0 k11 A3 n3 c3 (0 : Int) w2 (fun (A9 : Option Addr) (n9 : Nat) (c9 : Nat) (w10 : World) => ∀ _ : Fr,
  Q (.returned (.slice A9 n9 c9)) w10))
def D : Nat → Option DH := dtab []
def l0LO : LO := ⟨[], [], [(0, [3])], []⟩
def l0Tk (k : Nat) : Spec := fun Q σ w =>
  gSlice (σ 3) fun At3 nt3 ct3 =>
  gInt .i64 (σ 4) fun xt4 =>
  l0 k At3 nt3 ct3 xt4 w (fun (Aq3 : Option Addr) (nq3 : Nat) (cq3 : Nat) (w : World) => ∀ d : Fr, Q (.exit 0) (ov d [(3, .slice Aq3 nq3 cq3)]) w)
def l0T : Spec := fun Q σ w => ∃ k, l0Tk k Q σ w
def l0tb : List (List Nat × Spec) := []
noncomputable def l0b : Code := (subC [0, 0, 1, 0, 1, 1] body).getD .skip
theorem l0_eq (k : Nat) (At3 : Option Addr) (nt3 : Nat) (ct3 : Nat) (xt4 : Int) (Q : PQ) (σ : Fr) (w : World) :
    l0 (k + 1) At3 nt3 ct3 xt4 w (fun (Aq3 : Option Addr) (nq3 : Nat) (cq3 : Nat) (w : World) => ∀ d : Fr, Q (.exit 0) (ov d [(3, .slice Aq3 nq3 cq3)]) w) = codeW Try.prog hT 19 D (tab l0tb) [0, 0, 1, 0, 1, 1] l0b (thenQ (l0Tk k Q) (widen l0LO Q)) (ov σ [(3, .slice At3 nt3 ct3), (4, .int .i64 xt4)]) w := by kernel_rfl
theorem l0_snd : ∀ c, subC [0, 1, 0, 1, 1] body = some c → Snd Try.prog 19 c l0T := by
  refine loop_of (hT := hT) (D := D) (l := l0tb) (b := l0b) (lo := l0LO) (by kernel_rfl) (by
    intro x hx
    simp only [l0tb, List.not_mem_nil] at hx
    ) (by kernel_rfl) (by kernel_rfl) ?_ ?_
  · intro Q σ w h
    unfold l0Tk at h
    obtain ⟨At3, nt3, ct3, h3, hn⟩ := gSlice_elim h
    clear h
    have h := hn
    clear hn
    obtain ⟨xt4, h4, hn⟩ := gInt_elim h
    clear h
    have h := hn
    clear hn
    exact h
  · intro k Q σ w h
    unfold l0Tk at h
    obtain ⟨At3, nt3, ct3, h3, hn⟩ := gSlice_elim h
    clear h
    have h := hn
    clear hn
    obtain ⟨xt4, h4, hn⟩ := gInt_elim h
    clear h
    have h := hn
    clear hn
    rw [l0_eq (σ := σ)] at h
    have e : (ov σ [(3, .slice At3 nt3 ct3), (4, .int .i64 xt4)]) = σ := ov_self (by simp [h3, h4])
    rw [e] at h
    exact h
def tb : List (List Nat × Spec) := [([0, 1, 0, 1, 1], l0T)]
theorem wp_eq (Aa0 : Option Addr) (na0 : Nat) (ca0 : Nat) (w : World) (Q : Ending → World → Prop) :
    wp Aa0 na0 ca0 w Q = codeW Try.prog hT 19 D (tab tb) [] body (topQ Try.prog hT 19 [.tmp 2] Q) (argsF [.slice Aa0 na0 ca0]) w := by kernel_rfl
theorem ok (Aa0 : Option Addr) (na0 : Nat) (ca0 : Nat) (w : World) (Q : Ending → World → Prop) (h : wp Aa0 na0 ca0 w Q) : Calls Try.prog 29 #[.slice Aa0 na0 ca0] w Q := by
  rw [wp_eq] at h
  exact calls_of_codeW (c := body) (rs := [.tmp 2]) Try.func29 (by kernel_rfl) (by kernel_rfl) (by kernel_rfl) (by kernel_rfl) (by kernel_rfl) (tab_snd (by
    intro x hx
    simp only [tb, List.mem_cons, List.not_mem_nil, or_false] at hx
    subst hx
    exact l0_snd)) (by kernel_rfl) h
end f_ref01_Wide
namespace f_ref01_Intact
/-! skein/skeinref01.Intact: function 30 -/
noncomputable def body : Code := (Try.f30.body).getD .skip
def l0 : Nat → Option Addr → Nat → Nat → Option Addr → Nat → Nat → Int → World → (World → Prop) → (Bool → World → Prop) → Prop
  | 0, _, _, _, _, _, _, _, _, _, _ => False
  | k + 1, At0, nt0, ct0, At1, nt1, ct1, xt5, w, K0, Kr =>
    sel (decide (xt5 < (nt1 : Int))) (
    drW w fun w1 =>
    optB At0 fun a3 =>
    req (decide (0 ≤ xt5 ∧ xt5 < (nt0 : Int))) <|
    ldI w1 (a3.add (xt5.toNat * 1)) .u8 fun x4 =>
    optB At1 fun a5 =>
    req (decide (0 ≤ xt5 ∧ xt5 < (nt1 : Int))) <|
    ldI w1 (a5.add (xt5.toNat * 1)) .u8 fun x6 =>
    sel (x4 != x6) (
    Kr false w1) (
    l0 k At0 nt0 ct0 At1 nt1 ct1 (IntKind.i64.wrap (xt5 + (1 : Int))) w1 K0 Kr)) (
    K0  w)
def l1 : Nat → Option Addr → Nat → Nat → Option Addr → Nat → Nat → Int → World → (World → Prop) → (Bool → World → Prop) → Prop
  | 0, _, _, _, _, _, _, _, _, _, _ => False
  | k + 1, At0, nt0, ct0, At1, nt1, ct1, xt6, w, K2, Kr =>
    sel (decide (xt6 < (64 : Int))) (
    optB At0 fun a8 =>
    req (decide (0 ≤ (IntKind.i64.wrap ((nt1 : Int) + xt6)) ∧ (IntKind.i64.wrap ((nt1 : Int) + xt6)) < (nt0 : Int))) <|
    ldI w (a8.add ((IntKind.i64.wrap ((nt1 : Int) + xt6)).toNat * 1)) .u8 fun x9 =>
    sel (x9 != (IntKind.u8.wrap (IntKind.i64.wrap ((208 : Int) + (xt6.tmod (9 : Int)))))) (
    Kr false w) (
    l1 k At0 nt0 ct0 At1 nt1 ct1 (IntKind.i64.wrap (xt6 + (1 : Int))) w K2 Kr)) (
    K2  w)
def wp (Aa0 : Option Addr) (na0 : Nat) (ca0 : Nat) (Aa1 : Option Addr) (na1 : Nat) (ca1 : Nat) (w : World) (Q : Ending → World → Prop) : Prop :=
  sel ((na0 : Int) != (IntKind.i64.wrap ((na1 : Int) + (64 : Int)))) (
  Q (.returned (.bool false)) w) (
  ∃ k16 : Nat, l0 k16 Aa0 na0 ca0 Aa1 na1 ca1 (0 : Int) w (fun (w7 : World) => ∀ _ : Fr,
  ∃ k13 : Nat, l1 k13 Aa0 na0 ca0 Aa1 na1 ca1 (0 : Int) w7 (fun (w10 : World) => ∀ _ : Fr,
  Q (.returned (.bool true)) w10) (fun (b11 : Bool) (w12 : World) => ∀ _ : Fr,
  Q (.returned (.bool b11)) w12)) (fun (b14 : Bool) (w15 : World) => ∀ _ : Fr,
  Q (.returned (.bool b14)) w15))
def D : Nat → Option DH := dtab [(6, .simple [.fst 0, .fst 1, .fst 2, .fst 3, .fst 4, .fst 5, .fst 6, .fst 7] [.fst 8])]
def l0LO : LO := ⟨[], [4], [(0, [0, 1])], []⟩
def l0Tk (k : Nat) : Spec := fun Q σ w =>
  gSlice (σ 0) fun At0 nt0 ct0 =>
  gSlice (σ 1) fun At1 nt1 ct1 =>
  gInt .i64 (σ 5) fun xt5 =>
  l0 k At0 nt0 ct0 At1 nt1 ct1 xt5 w (fun (w : World) => ∀ d : Fr, Q (.exit 0) (ov d [(0, .slice At0 nt0 ct0), (1, .slice At1 nt1 ct1)]) w) (fun (bq4 : Bool) (w : World) => ∀ d : Fr, Q .ret (ov d [(4, .bool bq4)]) w)
def l0T : Spec := fun Q σ w => ∃ k, l0Tk k Q σ w
def l0tb : List (List Nat × Spec) := []
noncomputable def l0b : Code := (subC [0, 0, 1, 0, 1, 1] body).getD .skip
theorem l0_eq (k : Nat) (At0 : Option Addr) (nt0 : Nat) (ct0 : Nat) (At1 : Option Addr) (nt1 : Nat) (ct1 : Nat) (xt5 : Int) (Q : PQ) (σ : Fr) (w : World) :
    l0 (k + 1) At0 nt0 ct0 At1 nt1 ct1 xt5 w (fun (w : World) => ∀ d : Fr, Q (.exit 0) (ov d [(0, .slice At0 nt0 ct0), (1, .slice At1 nt1 ct1)]) w) (fun (bq4 : Bool) (w : World) => ∀ d : Fr, Q .ret (ov d [(4, .bool bq4)]) w) = codeW Try.prog hT 44 D (tab l0tb) [0, 0, 1, 0, 1, 1] l0b (thenQ (l0Tk k Q) (widen l0LO Q)) (ov σ [(0, .slice At0 nt0 ct0), (1, .slice At1 nt1 ct1), (5, .int .i64 xt5)]) w := by kernel_rfl
theorem l0_snd : ∀ c, subC [0, 1, 0, 1, 1] body = some c → Snd Try.prog 44 c l0T := by
  refine loop_of (hT := hT) (D := D) (l := l0tb) (b := l0b) (lo := l0LO) (by kernel_rfl) (by
    intro x hx
    simp only [l0tb, List.not_mem_nil] at hx
    ) (by kernel_rfl) (by kernel_rfl) ?_ ?_
  · intro Q σ w h
    unfold l0Tk at h
    obtain ⟨At0, nt0, ct0, h0, hn⟩ := gSlice_elim h
    clear h
    have h := hn
    clear hn
    obtain ⟨At1, nt1, ct1, h1, hn⟩ := gSlice_elim h
    clear h
    have h := hn
    clear hn
    obtain ⟨xt5, h5, hn⟩ := gInt_elim h
    clear h
    have h := hn
    clear hn
    exact h
  · intro k Q σ w h
    unfold l0Tk at h
    obtain ⟨At0, nt0, ct0, h0, hn⟩ := gSlice_elim h
    clear h
    have h := hn
    clear hn
    obtain ⟨At1, nt1, ct1, h1, hn⟩ := gSlice_elim h
    clear h
    have h := hn
    clear hn
    obtain ⟨xt5, h5, hn⟩ := gInt_elim h
    clear h
    have h := hn
    clear hn
    rw [l0_eq (σ := σ)] at h
    have e : (ov σ [(0, .slice At0 nt0 ct0), (1, .slice At1 nt1 ct1), (5, .int .i64 xt5)]) = σ := ov_self (by simp [h0, h1, h5])
    rw [e] at h
    exact h
def l1LO : LO := ⟨[], [4], [(2, [])], []⟩
def l1Tk (k : Nat) : Spec := fun Q σ w =>
  gSlice (σ 0) fun At0 nt0 ct0 =>
  gSlice (σ 1) fun At1 nt1 ct1 =>
  gInt .i64 (σ 6) fun xt6 =>
  l1 k At0 nt0 ct0 At1 nt1 ct1 xt6 w (fun (w : World) => ∀ d : Fr, Q (.exit 2) (ov d []) w) (fun (bq4 : Bool) (w : World) => ∀ d : Fr, Q .ret (ov d [(4, .bool bq4)]) w)
def l1T : Spec := fun Q σ w => ∃ k, l1Tk k Q σ w
def l1tb : List (List Nat × Spec) := []
noncomputable def l1b : Code := (subC [0, 0, 1, 0, 1, 1, 1] body).getD .skip
theorem l1_eq (k : Nat) (At0 : Option Addr) (nt0 : Nat) (ct0 : Nat) (At1 : Option Addr) (nt1 : Nat) (ct1 : Nat) (xt6 : Int) (Q : PQ) (σ : Fr) (w : World) :
    l1 (k + 1) At0 nt0 ct0 At1 nt1 ct1 xt6 w (fun (w : World) => ∀ d : Fr, Q (.exit 2) (ov d []) w) (fun (bq4 : Bool) (w : World) => ∀ d : Fr, Q .ret (ov d [(4, .bool bq4)]) w) = codeW Try.prog hT 44 D (tab l1tb) [0, 0, 1, 0, 1, 1, 1] l1b (thenQ (l1Tk k Q) (widen l1LO Q)) (ov σ [(0, .slice At0 nt0 ct0), (1, .slice At1 nt1 ct1), (6, .int .i64 xt6)]) w := by kernel_rfl
theorem l1_snd : ∀ c, subC [0, 1, 0, 1, 1, 1] body = some c → Snd Try.prog 44 c l1T := by
  refine loop_of (hT := hT) (D := D) (l := l1tb) (b := l1b) (lo := l1LO) (by kernel_rfl) (by
    intro x hx
    simp only [l1tb, List.not_mem_nil] at hx
    ) (by kernel_rfl) (by kernel_rfl) ?_ ?_
  · intro Q σ w h
    unfold l1Tk at h
    obtain ⟨At0, nt0, ct0, h0, hn⟩ := gSlice_elim h
    clear h
    have h := hn
    clear hn
    obtain ⟨At1, nt1, ct1, h1, hn⟩ := gSlice_elim h
    clear h
    have h := hn
    clear hn
    obtain ⟨xt6, h6, hn⟩ := gInt_elim h
    clear h
    have h := hn
    clear hn
    exact h
  · intro k Q σ w h
    unfold l1Tk at h
    obtain ⟨At0, nt0, ct0, h0, hn⟩ := gSlice_elim h
    clear h
    have h := hn
    clear hn
    obtain ⟨At1, nt1, ct1, h1, hn⟩ := gSlice_elim h
    clear h
    have h := hn
    clear hn
    obtain ⟨xt6, h6, hn⟩ := gInt_elim h
    clear h
    have h := hn
    clear hn
    rw [l1_eq (σ := σ)] at h
    have e : (ov σ [(0, .slice At0 nt0 ct0), (1, .slice At1 nt1 ct1), (6, .int .i64 xt6)]) = σ := ov_self (by simp [h0, h1, h6])
    rw [e] at h
    exact h
def tb : List (List Nat × Spec) := [([0, 1, 0, 1, 1], l0T), ([0, 1, 0, 1, 1, 1], l1T)]
theorem wp_eq (Aa0 : Option Addr) (na0 : Nat) (ca0 : Nat) (Aa1 : Option Addr) (na1 : Nat) (ca1 : Nat) (w : World) (Q : Ending → World → Prop) :
    wp Aa0 na0 ca0 Aa1 na1 ca1 w Q = codeW Try.prog hT 44 D (tab tb) [] body (topQ Try.prog hT 44 [.tmp 4] Q) (argsF [.slice Aa0 na0 ca0, .slice Aa1 na1 ca1]) w := by kernel_rfl
theorem ok (Aa0 : Option Addr) (na0 : Nat) (ca0 : Nat) (Aa1 : Option Addr) (na1 : Nat) (ca1 : Nat) (w : World) (Q : Ending → World → Prop) (h : wp Aa0 na0 ca0 Aa1 na1 ca1 w Q) : Calls Try.prog 30 #[.slice Aa0 na0 ca0, .slice Aa1 na1 ca1] w Q := by
  rw [wp_eq] at h
  exact calls_of_codeW (c := body) (rs := [.tmp 4]) Try.func30 (by kernel_rfl) (by kernel_rfl) (by kernel_rfl) (by kernel_rfl) (by kernel_rfl) (tab_snd (by
    intro x hx
    simp only [tb, List.mem_cons, List.not_mem_nil, or_false] at hx
    rcases hx with rfl | rfl
    · exact l0_snd
    · exact l1_snd)) (by kernel_rfl) h
end f_ref01_Intact
namespace f_ref01_Spoil
/-! skein/skeinref01.Spoil: function 31 -/
noncomputable def body : Code := (Try.f31.body).getD .skip
def l0 : Nat → Option Addr → Nat → Nat → Int → World → (World → Prop) → Prop
  | 0, _, _, _, _, _, _ => False
  | k + 1, At0, nt0, ct0, xt2, w, K0 =>
    sel (decide (xt2 < (nt0 : Int))) (
    optB At0 fun a1 =>
    req (decide (0 ≤ xt2 ∧ xt2 < (nt0 : Int))) <|
    ldI w (a1.add (xt2.toNat * 1)) .u8 fun x2 =>
    optB At0 fun a3 =>
    req (decide (0 ≤ xt2 ∧ xt2 < (nt0 : Int))) <|
    stW w (a3.add (xt2.toNat * 1)) (.int .u8 (bxor .u8 x2 (90 : Int))) fun w4 =>
    l0 k At0 nt0 ct0 (IntKind.i64.wrap (xt2 + (1 : Int))) w4 K0) (
    K0  w)
def wp (Aa0 : Option Addr) (na0 : Nat) (ca0 : Nat) (w : World) (Q : Ending → World → Prop) : Prop :=
  ∃ k6 : Nat, l0 k6 Aa0 na0 ca0 (0 : Int) w (fun (w5 : World) => ∀ _ : Fr,
  Q (.returned (.tuple #[])) w5)
def D : Nat → Option DH := dtab []
def l0LO : LO := ⟨[], [], [(0, [])], []⟩
def l0Tk (k : Nat) : Spec := fun Q σ w =>
  gSlice (σ 0) fun At0 nt0 ct0 =>
  gInt .i64 (σ 2) fun xt2 =>
  l0 k At0 nt0 ct0 xt2 w (fun (w : World) => ∀ d : Fr, Q (.exit 0) (ov d []) w)
def l0T : Spec := fun Q σ w => ∃ k, l0Tk k Q σ w
def l0tb : List (List Nat × Spec) := []
noncomputable def l0b : Code := (subC [0, 0, 1] body).getD .skip
theorem l0_eq (k : Nat) (At0 : Option Addr) (nt0 : Nat) (ct0 : Nat) (xt2 : Int) (Q : PQ) (σ : Fr) (w : World) :
    l0 (k + 1) At0 nt0 ct0 xt2 w (fun (w : World) => ∀ d : Fr, Q (.exit 0) (ov d []) w) = codeW Try.prog hT 17 D (tab l0tb) [0, 0, 1] l0b (thenQ (l0Tk k Q) (widen l0LO Q)) (ov σ [(0, .slice At0 nt0 ct0), (2, .int .i64 xt2)]) w := by kernel_rfl
theorem l0_snd : ∀ c, subC [0, 1] body = some c → Snd Try.prog 17 c l0T := by
  refine loop_of (hT := hT) (D := D) (l := l0tb) (b := l0b) (lo := l0LO) (by kernel_rfl) (by
    intro x hx
    simp only [l0tb, List.not_mem_nil] at hx
    ) (by kernel_rfl) (by kernel_rfl) ?_ ?_
  · intro Q σ w h
    unfold l0Tk at h
    obtain ⟨At0, nt0, ct0, h0, hn⟩ := gSlice_elim h
    clear h
    have h := hn
    clear hn
    obtain ⟨xt2, h2, hn⟩ := gInt_elim h
    clear h
    have h := hn
    clear hn
    exact h
  · intro k Q σ w h
    unfold l0Tk at h
    obtain ⟨At0, nt0, ct0, h0, hn⟩ := gSlice_elim h
    clear h
    have h := hn
    clear hn
    obtain ⟨xt2, h2, hn⟩ := gInt_elim h
    clear h
    have h := hn
    clear hn
    rw [l0_eq (σ := σ)] at h
    have e : (ov σ [(0, .slice At0 nt0 ct0), (2, .int .i64 xt2)]) = σ := ov_self (by simp [h0, h2])
    rw [e] at h
    exact h
def tb : List (List Nat × Spec) := [([0, 1], l0T)]
theorem wp_eq (Aa0 : Option Addr) (na0 : Nat) (ca0 : Nat) (w : World) (Q : Ending → World → Prop) :
    wp Aa0 na0 ca0 w Q = codeW Try.prog hT 17 D (tab tb) [] body (topQ Try.prog hT 17 [] Q) (argsF [.slice Aa0 na0 ca0]) w := by kernel_rfl
theorem ok (Aa0 : Option Addr) (na0 : Nat) (ca0 : Nat) (w : World) (Q : Ending → World → Prop) (h : wp Aa0 na0 ca0 w Q) : Calls Try.prog 31 #[.slice Aa0 na0 ca0] w Q := by
  rw [wp_eq] at h
  exact calls_of_codeW (c := body) (rs := []) Try.func31 (by kernel_rfl) (by kernel_rfl) (by kernel_rfl) (by kernel_rfl) (by kernel_rfl) (tab_snd (by
    intro x hx
    simp only [tb, List.mem_cons, List.not_mem_nil, or_false] at hx
    subst hx
    exact l0_snd)) (by kernel_rfl) h
end f_ref01_Spoil
namespace f_ref01_Has
/-! skein/skeinref01.Has: function 35 -/
noncomputable def body : Code := (Try.f35.body).getD .skip
def l0 : Nat → Option Addr → Nat → Nat → Int → Int → World → (World → Prop) → (Bool → World → Prop) → Prop
  | 0, _, _, _, _, _, _, _, _ => False
  | k + 1, At0, nt0, ct0, xt1, xt5, w, K0, Kr =>
    sel (decide (xt5 < (nt0 : Int))) (
    optB At0 fun a1 =>
    req (decide (0 ≤ xt5 ∧ xt5 < (nt0 : Int))) <|
    ldI w (a1.add (xt5.toNat * 1)) .i64 fun x2 =>
    sel (x2 == xt1) (
    Kr true w) (
    l0 k At0 nt0 ct0 xt1 (IntKind.i64.wrap (xt5 + (1 : Int))) w K0 Kr)) (
    K0  w)
def wp (Aa0 : Option Addr) (na0 : Nat) (ca0 : Nat) (xa1 : Int) (w : World) (Q : Ending → World → Prop) : Prop :=
  ∃ k6 : Nat, l0 k6 Aa0 na0 ca0 xa1 (0 : Int) w (fun (w3 : World) => ∀ _ : Fr,
  Q (.returned (.bool false)) w3) (fun (b4 : Bool) (w5 : World) => ∀ _ : Fr,
  Q (.returned (.bool b4)) w5)
def D : Nat → Option DH := dtab []
def l0LO : LO := ⟨[], [4], [(0, [])], []⟩
def l0Tk (k : Nat) : Spec := fun Q σ w =>
  gSlice (σ 0) fun At0 nt0 ct0 =>
  gInt .i64 (σ 1) fun xt1 =>
  gInt .i64 (σ 5) fun xt5 =>
  l0 k At0 nt0 ct0 xt1 xt5 w (fun (w : World) => ∀ d : Fr, Q (.exit 0) (ov d []) w) (fun (bq4 : Bool) (w : World) => ∀ d : Fr, Q .ret (ov d [(4, .bool bq4)]) w)
def l0T : Spec := fun Q σ w => ∃ k, l0Tk k Q σ w
def l0tb : List (List Nat × Spec) := []
noncomputable def l0b : Code := (subC [0, 0, 1, 0, 1] body).getD .skip
theorem l0_eq (k : Nat) (At0 : Option Addr) (nt0 : Nat) (ct0 : Nat) (xt1 : Int) (xt5 : Int) (Q : PQ) (σ : Fr) (w : World) :
    l0 (k + 1) At0 nt0 ct0 xt1 xt5 w (fun (w : World) => ∀ d : Fr, Q (.exit 0) (ov d []) w) (fun (bq4 : Bool) (w : World) => ∀ d : Fr, Q .ret (ov d [(4, .bool bq4)]) w) = codeW Try.prog hT 18 D (tab l0tb) [0, 0, 1, 0, 1] l0b (thenQ (l0Tk k Q) (widen l0LO Q)) (ov σ [(0, .slice At0 nt0 ct0), (1, .int .i64 xt1), (5, .int .i64 xt5)]) w := by kernel_rfl
theorem l0_snd : ∀ c, subC [0, 1, 0, 1] body = some c → Snd Try.prog 18 c l0T := by
  refine loop_of (hT := hT) (D := D) (l := l0tb) (b := l0b) (lo := l0LO) (by kernel_rfl) (by
    intro x hx
    simp only [l0tb, List.not_mem_nil] at hx
    ) (by kernel_rfl) (by kernel_rfl) ?_ ?_
  · intro Q σ w h
    unfold l0Tk at h
    obtain ⟨At0, nt0, ct0, h0, hn⟩ := gSlice_elim h
    clear h
    have h := hn
    clear hn
    obtain ⟨xt1, h1, hn⟩ := gInt_elim h
    clear h
    have h := hn
    clear hn
    obtain ⟨xt5, h5, hn⟩ := gInt_elim h
    clear h
    have h := hn
    clear hn
    exact h
  · intro k Q σ w h
    unfold l0Tk at h
    obtain ⟨At0, nt0, ct0, h0, hn⟩ := gSlice_elim h
    clear h
    have h := hn
    clear hn
    obtain ⟨xt1, h1, hn⟩ := gInt_elim h
    clear h
    have h := hn
    clear hn
    obtain ⟨xt5, h5, hn⟩ := gInt_elim h
    clear h
    have h := hn
    clear hn
    rw [l0_eq (σ := σ)] at h
    have e : (ov σ [(0, .slice At0 nt0 ct0), (1, .int .i64 xt1), (5, .int .i64 xt5)]) = σ := ov_self (by simp [h0, h1, h5])
    rw [e] at h
    exact h
def tb : List (List Nat × Spec) := [([0, 1, 0, 1], l0T)]
theorem wp_eq (Aa0 : Option Addr) (na0 : Nat) (ca0 : Nat) (xa1 : Int) (w : World) (Q : Ending → World → Prop) :
    wp Aa0 na0 ca0 xa1 w Q = codeW Try.prog hT 18 D (tab tb) [] body (topQ Try.prog hT 18 [.tmp 4] Q) (argsF [.slice Aa0 na0 ca0, .int .i64 xa1]) w := by kernel_rfl
theorem ok (Aa0 : Option Addr) (na0 : Nat) (ca0 : Nat) (xa1 : Int) (w : World) (Q : Ending → World → Prop) (h : wp Aa0 na0 ca0 xa1 w Q) : Calls Try.prog 35 #[.slice Aa0 na0 ca0, .int .i64 xa1] w Q := by
  rw [wp_eq] at h
  exact calls_of_codeW (c := body) (rs := [.tmp 4]) Try.func35 (by kernel_rfl) (by kernel_rfl) (by kernel_rfl) (by kernel_rfl) (by kernel_rfl) (tab_snd (by
    intro x hx
    simp only [tb, List.mem_cons, List.not_mem_nil, or_false] at hx
    subst hx
    exact l0_snd)) (by kernel_rfl) h
end f_ref01_Has
namespace f_ref01_Apart
/-! skein/skeinref01.Apart: function 46 -/
noncomputable def body : Code := (Try.f46.body).getD .skip
def l0 : Nat → Option Addr → Nat → Nat → Int → World → ((Option Addr) → Nat → Nat → World → Prop) → Prop
  | 0, _, _, _, _, _, _ => False
  | k + 1, At7, nt7, ct7, xt8, w, K0 =>
    sel (decide (xt8 < (70 : Int))) (
    alW w (.cells #[.int .u8 (IntKind.u8.wrap xt8)] 5) fun B9 w10 =>
    Runs Try.prog (Builtin.append_ #[35, 35] 35 #[.slice At7 nt7 ct7, .slice (some (⟨B9, 0, Option.none⟩ : Addr)) 1 1]) w10 fun v12 w11 => ∃ (A13 : Option Addr) (n13 : Nat) (c13 : Nat), v12 = (.slice A13 n13 c13) ∧ (
    l0 k A13 n13 c13 (IntKind.i64.wrap (xt8 + (1 : Int))) w11 K0)) (
    K0 At7 nt7 ct7 w)
def wp (Aa0 : Option Addr) (na0 : Nat) (ca0 : Nat) (Aa1 : Option Addr) (na1 : Nat) (ca1 : Nat) (Aa2 : Option Addr) (na2 : Nat) (ca2 : Nat) (w : World) (Q : Ending → World → Prop) : Prop :=
  Calls Try.prog 22 #[.slice Aa0 na0 ca0, .slice Aa2 na2 ca2] w fun e1 w2 => ∃ (b3 : Bool), e1 = .returned (.bool b3) ∧ (
  sel (!b3) (
  Q (.returned (.bool false)) w2) (
  Calls Try.prog 22 #[.slice Aa1 na1 ca1, .slice Aa2 na2 ca2] w2 fun e4 w5 => ∃ (b6 : Bool), e4 = .returned (.bool b6) ∧ (
  sel (!b6) (
  Q (.returned (.bool false)) w5) (
  Calls Try.prog 31 #[.slice Aa0 na0 ca0] w5 fun e7 w8 => e7 = .returned (.tuple #[]) ∧ (
  ∃ k22 : Nat, l0 k22 Aa0 na0 ca0 (0 : Int) w8 (fun (A14 : Option Addr) (n14 : Nat) (c14 : Nat) (w15 : World) => ∀ _ : Fr,
  sel ((n14 : Int) == (IntKind.i64.wrap ((na2 : Int) + (70 : Int)))) (
  Calls Try.prog 58 #[.slice Aa0 na0 ca0, .slice Aa2 na2 ca2] w15 fun e16 w17 => ∃ (b18 : Bool), e16 = .returned (.bool b18) ∧ (
  sel b18 (
  Calls Try.prog 22 #[.slice Aa1 na1 ca1, .slice Aa2 na2 ca2] w17 fun e19 w20 => ∃ (b21 : Bool), e19 = .returned (.bool b21) ∧ (
  Q (.returned (.bool b21)) w20)) (
  Q (.returned (.bool false)) w17))) (
  Q (.returned (.bool false)) w15)))))))
def D : Nat → Option DH := dtab []
def l0LO : LO := ⟨[], [], [(0, [0, 1, 2, 7])], []⟩
def l0Tk (k : Nat) : Spec := fun Q σ w =>
  gSlice (σ 7) fun At7 nt7 ct7 =>
  gInt .i64 (σ 8) fun xt8 =>
  l0 k At7 nt7 ct7 xt8 w (fun (Aq7 : Option Addr) (nq7 : Nat) (cq7 : Nat) (w : World) => ∀ d : Fr, Q (.exit 0) (ov d [(0, σ 0), (1, σ 1), (2, σ 2), (7, .slice Aq7 nq7 cq7)]) w)
def l0T : Spec := fun Q σ w => ∃ k, l0Tk k Q σ w
def l0tb : List (List Nat × Spec) := []
noncomputable def l0b : Code := (subC [0, 0, 1, 0, 1, 1, 1, 1] body).getD .skip
theorem l0_eq (k : Nat) (At7 : Option Addr) (nt7 : Nat) (ct7 : Nat) (xt8 : Int) (Q : PQ) (σ : Fr) (w : World) :
    l0 (k + 1) At7 nt7 ct7 xt8 w (fun (Aq7 : Option Addr) (nq7 : Nat) (cq7 : Nat) (w : World) => ∀ d : Fr, Q (.exit 0) (ov d [(0, σ 0), (1, σ 1), (2, σ 2), (7, .slice Aq7 nq7 cq7)]) w) = codeW Try.prog hT 47 D (tab l0tb) [0, 0, 1, 0, 1, 1, 1, 1] l0b (thenQ (l0Tk k Q) (widen l0LO Q)) (ov σ [(7, .slice At7 nt7 ct7), (8, .int .i64 xt8)]) w := by kernel_rfl
theorem l0_snd : ∀ c, subC [0, 1, 0, 1, 1, 1, 1] body = some c → Snd Try.prog 47 c l0T := by
  refine loop_of (hT := hT) (D := D) (l := l0tb) (b := l0b) (lo := l0LO) (by kernel_rfl) (by
    intro x hx
    simp only [l0tb, List.not_mem_nil] at hx
    ) (by kernel_rfl) (by kernel_rfl) ?_ ?_
  · intro Q σ w h
    unfold l0Tk at h
    obtain ⟨At7, nt7, ct7, h7, hn⟩ := gSlice_elim h
    clear h
    have h := hn
    clear hn
    obtain ⟨xt8, h8, hn⟩ := gInt_elim h
    clear h
    have h := hn
    clear hn
    exact h
  · intro k Q σ w h
    unfold l0Tk at h
    obtain ⟨At7, nt7, ct7, h7, hn⟩ := gSlice_elim h
    clear h
    have h := hn
    clear hn
    obtain ⟨xt8, h8, hn⟩ := gInt_elim h
    clear h
    have h := hn
    clear hn
    rw [l0_eq (σ := σ)] at h
    have e : (ov σ [(7, .slice At7 nt7 ct7), (8, .int .i64 xt8)]) = σ := ov_self (by simp [h7, h8])
    rw [e] at h
    exact h
def tb : List (List Nat × Spec) := [([0, 1, 0, 1, 1, 1, 1], l0T)]
theorem wp_eq (Aa0 : Option Addr) (na0 : Nat) (ca0 : Nat) (Aa1 : Option Addr) (na1 : Nat) (ca1 : Nat) (Aa2 : Option Addr) (na2 : Nat) (ca2 : Nat) (w : World) (Q : Ending → World → Prop) :
    wp Aa0 na0 ca0 Aa1 na1 ca1 Aa2 na2 ca2 w Q = codeW Try.prog hT 47 D (tab tb) [] body (topQ Try.prog hT 47 [.tmp 6] Q) (argsF [.slice Aa0 na0 ca0, .slice Aa1 na1 ca1, .slice Aa2 na2 ca2]) w := by kernel_rfl
theorem ok (Aa0 : Option Addr) (na0 : Nat) (ca0 : Nat) (Aa1 : Option Addr) (na1 : Nat) (ca1 : Nat) (Aa2 : Option Addr) (na2 : Nat) (ca2 : Nat) (w : World) (Q : Ending → World → Prop) (h : wp Aa0 na0 ca0 Aa1 na1 ca1 Aa2 na2 ca2 w Q) : Calls Try.prog 46 #[.slice Aa0 na0 ca0, .slice Aa1 na1 ca1, .slice Aa2 na2 ca2] w Q := by
  rw [wp_eq] at h
  exact calls_of_codeW (c := body) (rs := [.tmp 6]) Try.func46 (by kernel_rfl) (by kernel_rfl) (by kernel_rfl) (by kernel_rfl) (by kernel_rfl) (tab_snd (by
    intro x hx
    simp only [tb, List.mem_cons, List.not_mem_nil, or_false] at hx
    subst hx
    exact l0_snd)) (by kernel_rfl) h
end f_ref01_Apart
namespace f_ref01_Turned
/-! skein/skeinref01.Turned: function 58 -/
noncomputable def body : Code := (Try.f58.body).getD .skip
def l0 : Nat → Option Addr → Nat → Nat → Option Addr → Nat → Nat → Int → World → (World → Prop) → (Bool → World → Prop) → Prop
  | 0, _, _, _, _, _, _, _, _, _, _ => False
  | k + 1, At0, nt0, ct0, At1, nt1, ct1, xt5, w, K0, Kr =>
    sel (decide (xt5 < (nt1 : Int))) (
    drW w fun w1 =>
    optB At0 fun a3 =>
    req (decide (0 ≤ xt5 ∧ xt5 < (nt0 : Int))) <|
    ldI w1 (a3.add (xt5.toNat * 1)) .u8 fun x4 =>
    optB At1 fun a5 =>
    req (decide (0 ≤ xt5 ∧ xt5 < (nt1 : Int))) <|
    ldI w1 (a5.add (xt5.toNat * 1)) .u8 fun x6 =>
    sel (x4 != (bxor .u8 x6 (90 : Int))) (
    Kr false w1) (
    l0 k At0 nt0 ct0 At1 nt1 ct1 (IntKind.i64.wrap (xt5 + (1 : Int))) w1 K0 Kr)) (
    K0  w)
def wp (Aa0 : Option Addr) (na0 : Nat) (ca0 : Nat) (Aa1 : Option Addr) (na1 : Nat) (ca1 : Nat) (w : World) (Q : Ending → World → Prop) : Prop :=
  sel ((na0 : Int) != (na1 : Int)) (
  Q (.returned (.bool false)) w) (
  ∃ k10 : Nat, l0 k10 Aa0 na0 ca0 Aa1 na1 ca1 (0 : Int) w (fun (w7 : World) => ∀ _ : Fr,
  Q (.returned (.bool true)) w7) (fun (b8 : Bool) (w9 : World) => ∀ _ : Fr,
  Q (.returned (.bool b8)) w9))
def D : Nat → Option DH := dtab [(6, .simple [.fst 0, .fst 1, .fst 2, .fst 3, .fst 4, .fst 5, .fst 6, .fst 7, .fst 8] [.fst 9])]
def l0LO : LO := ⟨[], [4], [(0, [])], []⟩
def l0Tk (k : Nat) : Spec := fun Q σ w =>
  gSlice (σ 0) fun At0 nt0 ct0 =>
  gSlice (σ 1) fun At1 nt1 ct1 =>
  gInt .i64 (σ 5) fun xt5 =>
  l0 k At0 nt0 ct0 At1 nt1 ct1 xt5 w (fun (w : World) => ∀ d : Fr, Q (.exit 0) (ov d []) w) (fun (bq4 : Bool) (w : World) => ∀ d : Fr, Q .ret (ov d [(4, .bool bq4)]) w)
def l0T : Spec := fun Q σ w => ∃ k, l0Tk k Q σ w
def l0tb : List (List Nat × Spec) := []
noncomputable def l0b : Code := (subC [0, 0, 1, 0, 1, 1] body).getD .skip
theorem l0_eq (k : Nat) (At0 : Option Addr) (nt0 : Nat) (ct0 : Nat) (At1 : Option Addr) (nt1 : Nat) (ct1 : Nat) (xt5 : Int) (Q : PQ) (σ : Fr) (w : World) :
    l0 (k + 1) At0 nt0 ct0 At1 nt1 ct1 xt5 w (fun (w : World) => ∀ d : Fr, Q (.exit 0) (ov d []) w) (fun (bq4 : Bool) (w : World) => ∀ d : Fr, Q .ret (ov d [(4, .bool bq4)]) w) = codeW Try.prog hT 27 D (tab l0tb) [0, 0, 1, 0, 1, 1] l0b (thenQ (l0Tk k Q) (widen l0LO Q)) (ov σ [(0, .slice At0 nt0 ct0), (1, .slice At1 nt1 ct1), (5, .int .i64 xt5)]) w := by kernel_rfl
theorem l0_snd : ∀ c, subC [0, 1, 0, 1, 1] body = some c → Snd Try.prog 27 c l0T := by
  refine loop_of (hT := hT) (D := D) (l := l0tb) (b := l0b) (lo := l0LO) (by kernel_rfl) (by
    intro x hx
    simp only [l0tb, List.not_mem_nil] at hx
    ) (by kernel_rfl) (by kernel_rfl) ?_ ?_
  · intro Q σ w h
    unfold l0Tk at h
    obtain ⟨At0, nt0, ct0, h0, hn⟩ := gSlice_elim h
    clear h
    have h := hn
    clear hn
    obtain ⟨At1, nt1, ct1, h1, hn⟩ := gSlice_elim h
    clear h
    have h := hn
    clear hn
    obtain ⟨xt5, h5, hn⟩ := gInt_elim h
    clear h
    have h := hn
    clear hn
    exact h
  · intro k Q σ w h
    unfold l0Tk at h
    obtain ⟨At0, nt0, ct0, h0, hn⟩ := gSlice_elim h
    clear h
    have h := hn
    clear hn
    obtain ⟨At1, nt1, ct1, h1, hn⟩ := gSlice_elim h
    clear h
    have h := hn
    clear hn
    obtain ⟨xt5, h5, hn⟩ := gInt_elim h
    clear h
    have h := hn
    clear hn
    rw [l0_eq (σ := σ)] at h
    have e : (ov σ [(0, .slice At0 nt0 ct0), (1, .slice At1 nt1 ct1), (5, .int .i64 xt5)]) = σ := ov_self (by simp [h0, h1, h5])
    rw [e] at h
    exact h
def tb : List (List Nat × Spec) := [([0, 1, 0, 1, 1], l0T)]
theorem wp_eq (Aa0 : Option Addr) (na0 : Nat) (ca0 : Nat) (Aa1 : Option Addr) (na1 : Nat) (ca1 : Nat) (w : World) (Q : Ending → World → Prop) :
    wp Aa0 na0 ca0 Aa1 na1 ca1 w Q = codeW Try.prog hT 27 D (tab tb) [] body (topQ Try.prog hT 27 [.tmp 4] Q) (argsF [.slice Aa0 na0 ca0, .slice Aa1 na1 ca1]) w := by kernel_rfl
theorem ok (Aa0 : Option Addr) (na0 : Nat) (ca0 : Nat) (Aa1 : Option Addr) (na1 : Nat) (ca1 : Nat) (w : World) (Q : Ending → World → Prop) (h : wp Aa0 na0 ca0 Aa1 na1 ca1 w Q) : Calls Try.prog 58 #[.slice Aa0 na0 ca0, .slice Aa1 na1 ca1] w Q := by
  rw [wp_eq] at h
  exact calls_of_codeW (c := body) (rs := [.tmp 4]) Try.func58 (by kernel_rfl) (by kernel_rfl) (by kernel_rfl) (by kernel_rfl) (by kernel_rfl) (tab_snd (by
    intro x hx
    simp only [tb, List.mem_cons, List.not_mem_nil, or_false] at hx
    subst hx
    exact l0_snd)) (by kernel_rfl) h
end f_ref01_Turned
namespace f_ref07_New
/-! skein/skeinref07.New: function 11 -/
noncomputable def body : Code := (Try.f11.body).getD .skip
def l1 : Nat → Int → Addr → Int → World → (World → Prop) → Prop
  | 0, _, _, _, _, _ => False
  | k + 1, xt0, at3, xt4, w, K0 =>
    sel (decide (xt4 < xt0)) (
    drW w fun w9 =>
    ∃ S10 : World → Prop, S10 w9 ∧ (
    hdS S10 at3 fun A11 n11 c11 =>
    Calls Try.prog 36 #[.slice none 0 0] w9 fun e12 w13 => ∃ (A14 : Option Addr) (n14 : Nat) (c14 : Nat), e12 = .returned (.slice A14 n14 c14) ∧ (
    S10 w13 ∧ (
    alW w13 (.cells #[.slice A14 n14 c14, .slice none 0 0, .bool false] 70) fun B15 w16 =>
    S10 w16 ∧ (
    Runs Try.prog (Builtin.append_ #[25, 25] 25 #[.slice A11 n11 c11, .slice (some (⟨B15, 0, Option.none⟩ : Addr)) 1 1]) w16 fun v18 w17 => ∃ (A19 : Option Addr) (n19 : Nat) (c19 : Nat), v18 = (.slice A19 n19 c19) ∧ (
    stW w17 at3 (.slice A19 n19 c19) fun w20 =>
    l1 k xt0 at3 (IntKind.i64.wrap (xt4 + (1 : Int))) w20 K0)))))) (
    K0  w)
def j0 (xt0 : Int) (at2 : Addr) (w : World) (Kr : World → Prop) : Prop :=
  alW w (.cells #[.slice none 0 0, .slice none 0 0, .int .i64 (0 : Int), .bool false] 28) fun B3 w4 =>
  stW w4 (⟨B3, 0, Option.none⟩ : Addr) (.slice none 0 0) fun w5 =>
  stW w5 ((⟨B3, 0, Option.none⟩ : Addr).add 1) (.slice none 0 0) fun w6 =>
  stW w6 ((⟨B3, 0, Option.none⟩ : Addr).add 2) (.int .i64 (0 : Int)) fun w7 =>
  stW w7 ((⟨B3, 0, Option.none⟩ : Addr).add 3) (.bool false) fun w8 =>
  ∃ k30 : Nat, l1 k30 xt0 (⟨B3, 0, Option.none⟩ : Addr) (0 : Int) w8 (fun (w21 : World) => ∀ _ : Fr,
  ldS w21 (⟨B3, 0, Option.none⟩ : Addr) fun A22 n22 c22 =>
  ldS w21 ((⟨B3, 0, Option.none⟩ : Addr).add 1) fun A23 n23 c23 =>
  ldI w21 ((⟨B3, 0, Option.none⟩ : Addr).add 2) .i64 fun x24 =>
  ldB w21 ((⟨B3, 0, Option.none⟩ : Addr).add 3) fun b25 =>
  stW w21 at2 (.slice A22 n22 c22) fun w26 =>
  stW w26 (at2.add 1) (.slice A23 n23 c23) fun w27 =>
  stW w27 (at2.add 2) (.int .i64 x24) fun w28 =>
  stW w28 (at2.add 3) (.bool b25) fun w29 =>
  Kr  w29)
def wp (xa0 : Int) (w : World) (Q : Ending → World → Prop) : Prop :=
  alW w (.cells #[.slice none 0 0, .slice none 0 0, .int .i64 (0 : Int), .bool false] 28) fun B1 w2 =>
  sel (decide (xa0 > (4096 : Int))) (
  j0 (4096 : Int) (⟨B1, 0, Option.none⟩ : Addr) w2 (fun (w31 : World) => ∀ _ : Fr,
  ldS w31 (⟨B1, 0, Option.none⟩ : Addr) fun A32 n32 c32 =>
  ldS w31 ((⟨B1, 0, Option.none⟩ : Addr).add 1) fun A33 n33 c33 =>
  ldI w31 ((⟨B1, 0, Option.none⟩ : Addr).add 2) .i64 fun x34 =>
  ldB w31 ((⟨B1, 0, Option.none⟩ : Addr).add 3) fun b35 =>
  Q (.returned (.agg #[.slice A32 n32 c32, .slice A33 n33 c33, .int .i64 x34, .bool b35])) w31)) (
  j0 xa0 (⟨B1, 0, Option.none⟩ : Addr) w2 (fun (w36 : World) => ∀ _ : Fr,
  ldS w36 (⟨B1, 0, Option.none⟩ : Addr) fun A37 n37 c37 =>
  ldS w36 ((⟨B1, 0, Option.none⟩ : Addr).add 1) fun A38 n38 c38 =>
  ldI w36 ((⟨B1, 0, Option.none⟩ : Addr).add 2) .i64 fun x39 =>
  ldB w36 ((⟨B1, 0, Option.none⟩ : Addr).add 3) fun b40 =>
  Q (.returned (.agg #[.slice A37 n37 c37, .slice A38 n38 c38, .int .i64 x39, .bool b40])) w36))
def D : Nat → Option DH := dtab [(7, .held [.fst 0, .fst 1, .eff 2, .fst 3, .eff 4] [.eff 5, .fst 6, .eff 7])]
def l1LO : LO := ⟨[], [], [(0, [2, 3])], []⟩
def l1Tk (k : Nat) : Spec := fun Q σ w =>
  gInt .i64 (σ 0) fun xt0 =>
  gAd (σ 3) fun at3 =>
  gInt .i64 (σ 4) fun xt4 =>
  l1 k xt0 at3 xt4 w (fun (w : World) => ∀ d : Fr, Q (.exit 0) (ov d [(2, σ 2), (3, .pointer (some at3))]) w)
def l1T : Spec := fun Q σ w => ∃ k, l1Tk k Q σ w
def l1tb : List (List Nat × Spec) := []
noncomputable def l1b : Code := (subC [0, 0, 1, 0, 1, 1, 1] body).getD .skip
theorem l1_eq (k : Nat) (xt0 : Int) (at3 : Addr) (xt4 : Int) (Q : PQ) (σ : Fr) (w : World) :
    l1 (k + 1) xt0 at3 xt4 w (fun (w : World) => ∀ d : Fr, Q (.exit 0) (ov d [(2, σ 2), (3, .pointer (some at3))]) w) = codeW Try.prog hT 21 D (tab l1tb) [0, 0, 1, 0, 1, 1, 1] l1b (thenQ (l1Tk k Q) (widen l1LO Q)) (ov σ [(0, .int .i64 xt0), (3, .pointer (some at3)), (4, .int .i64 xt4)]) w := by kernel_rfl
theorem l1_snd : ∀ c, subC [0, 1, 0, 1, 1, 1] body = some c → Snd Try.prog 21 c l1T := by
  refine loop_of (hT := hT) (D := D) (l := l1tb) (b := l1b) (lo := l1LO) (by kernel_rfl) (by
    intro x hx
    simp only [l1tb, List.not_mem_nil] at hx
    ) (by kernel_rfl) (by kernel_rfl) ?_ ?_
  · intro Q σ w h
    unfold l1Tk at h
    obtain ⟨xt0, h0, hn⟩ := gInt_elim h
    clear h
    have h := hn
    clear hn
    obtain ⟨at3, h3, hn⟩ := gAd_elim h
    clear h
    have h := hn
    clear hn
    obtain ⟨xt4, h4, hn⟩ := gInt_elim h
    clear h
    have h := hn
    clear hn
    exact h
  · intro k Q σ w h
    unfold l1Tk at h
    obtain ⟨xt0, h0, hn⟩ := gInt_elim h
    clear h
    have h := hn
    clear hn
    obtain ⟨at3, h3, hn⟩ := gAd_elim h
    clear h
    have h := hn
    clear hn
    obtain ⟨xt4, h4, hn⟩ := gInt_elim h
    clear h
    have h := hn
    clear hn
    rw [l1_eq (σ := σ)] at h
    have e : (ov σ [(0, .int .i64 xt0), (3, .pointer (some at3)), (4, .int .i64 xt4)]) = σ := ov_self (by simp [h0, h3, h4])
    rw [e] at h
    exact h
def j0LO : LO := ⟨[], [2], [], []⟩
def j0T : Spec := fun Q σ w =>
  gInt .i64 (σ 0) fun xt0 =>
  gAd (σ 2) fun at2 =>
  j0 xt0 at2 w (fun (w : World) => ∀ d : Fr, Q .ret (ov d [(2, .pointer (some at2))]) w)
def j0tb : List (List Nat × Spec) := [([0, 1, 0, 1, 1, 1], l1T)]
noncomputable def j0b : Code := (subC [1, 1] body).getD .skip
theorem j0_eq (xt0 : Int) (at2 : Addr) (Q : PQ) (σ : Fr) (w : World) :
    j0 xt0 at2 w (fun (w : World) => ∀ d : Fr, Q .ret (ov d [(2, .pointer (some at2))]) w) = codeW Try.prog hT 21 D (tab j0tb) [1, 1] j0b (widen j0LO Q) (ov σ [(0, .int .i64 xt0), (2, .pointer (some at2))]) w := by kernel_rfl
theorem j0_snd : ∀ c, subC [1, 1] body = some c → Snd Try.prog 21 c j0T := by
  refine cut_of (hT := hT) (D := D) (l := j0tb) (b := j0b) (lo := j0LO) (by kernel_rfl) (by
    intro x hx
    simp only [j0tb, List.mem_cons, List.not_mem_nil, or_false] at hx
    subst hx
    exact l1_snd) (by kernel_rfl) (by kernel_rfl) ?_
  intro Q σ w h
  unfold j0T at h
  obtain ⟨xt0, h0, hn⟩ := gInt_elim h
  clear h
  have h := hn
  clear hn
  obtain ⟨at2, h2, hn⟩ := gAd_elim h
  clear h
  have h := hn
  clear hn
  rw [j0_eq (σ := σ)] at h
  have e : (ov σ [(0, .int .i64 xt0), (2, .pointer (some at2))]) = σ := ov_self (by simp [h0, h2])
  rw [e] at h
  exact h
def tb : List (List Nat × Spec) := [([0, 1, 0, 1, 1, 1], l1T), ([1, 1], j0T)]
theorem wp_eq (xa0 : Int) (w : World) (Q : Ending → World → Prop) :
    wp xa0 w Q = codeW Try.prog hT 21 D (tab tb) [] body (topQ Try.prog hT 21 [.cell 2 28] Q) (argsF [.int .i64 xa0]) w := by kernel_rfl
theorem ok (xa0 : Int) (w : World) (Q : Ending → World → Prop) (h : wp xa0 w Q) : Calls Try.prog 11 #[.int .i64 xa0] w Q := by
  rw [wp_eq] at h
  exact calls_of_codeW (c := body) (rs := [.cell 2 28]) Try.func11 (by kernel_rfl) (by kernel_rfl) (by kernel_rfl) (by kernel_rfl) (by kernel_rfl) (tab_snd (by
    intro x hx
    simp only [tb, List.mem_cons, List.not_mem_nil, or_false] at hx
    rcases hx with rfl | rfl
    · exact l1_snd
    · exact j0_snd)) (by kernel_rfl) h
end f_ref07_New
namespace f_ref07_Load
/-! skein/skeinref07.Load: function 32 -/
noncomputable def body : Code := (Try.f32.body).getD .skip
def l0 : Nat → Option Addr → Nat → Nat → Addr → Int → World → (World → Prop) → Prop
  | 0, _, _, _, _, _, _, _ => False
  | k + 1, At0, nt0, ct0, at3, xt4, w, K0 =>
    sel (decide (xt4 < (4096 : Int))) (
    sel (decide ((IntKind.i64.wrap (xt4 * (512 : Int))) < (nt0 : Int))) (
    drW w fun w9 =>
    ∃ S10 : World → Prop, S10 w9 ∧ (
    hdS S10 at3 fun A11 n11 c11 =>
    Calls Try.prog 23 #[.slice At0 nt0 ct0, .int .i64 (IntKind.i64.wrap (xt4 * (512 : Int))), .int .i64 (IntKind.i64.wrap ((IntKind.i64.wrap (xt4 + (1 : Int))) * (512 : Int)))] w9 fun e12 w13 => ∃ (A14 : Option Addr) (n14 : Nat) (c14 : Nat), e12 = .returned (.slice A14 n14 c14) ∧ (
    S10 w13 ∧ (
    Calls Try.prog 36 #[.slice A14 n14 c14] w13 fun e15 w16 => ∃ (A17 : Option Addr) (n17 : Nat) (c17 : Nat), e15 = .returned (.slice A17 n17 c17) ∧ (
    S10 w16 ∧ (
    alW w16 (.cells #[.slice A17 n17 c17, .slice none 0 0, .bool false] 70) fun B18 w19 =>
    S10 w19 ∧ (
    Runs Try.prog (Builtin.append_ #[25, 25] 25 #[.slice A11 n11 c11, .slice (some (⟨B18, 0, Option.none⟩ : Addr)) 1 1]) w19 fun v21 w20 => ∃ (A22 : Option Addr) (n22 : Nat) (c22 : Nat), v21 = (.slice A22 n22 c22) ∧ (
    stW w20 at3 (.slice A22 n22 c22) fun w23 =>
    l0 k At0 nt0 ct0 at3 (IntKind.i64.wrap (xt4 + (1 : Int))) w23 K0)))))))) (
    K0  w)) (
    K0  w)
def wp (Aa0 : Option Addr) (na0 : Nat) (ca0 : Nat) (w : World) (Q : Ending → World → Prop) : Prop :=
  alW w (.cells #[.slice none 0 0, .slice none 0 0, .int .i64 (0 : Int), .bool false] 28) fun B1 w2 =>
  alW w2 (.cells #[.slice none 0 0, .slice none 0 0, .int .i64 (0 : Int), .bool false] 28) fun B3 w4 =>
  stW w4 (⟨B3, 0, Option.none⟩ : Addr) (.slice none 0 0) fun w5 =>
  stW w5 ((⟨B3, 0, Option.none⟩ : Addr).add 1) (.slice none 0 0) fun w6 =>
  stW w6 ((⟨B3, 0, Option.none⟩ : Addr).add 2) (.int .i64 (0 : Int)) fun w7 =>
  stW w7 ((⟨B3, 0, Option.none⟩ : Addr).add 3) (.bool false) fun w8 =>
  ∃ k37 : Nat, l0 k37 Aa0 na0 ca0 (⟨B3, 0, Option.none⟩ : Addr) (0 : Int) w8 (fun (w24 : World) => ∀ _ : Fr,
  ldS w24 (⟨B3, 0, Option.none⟩ : Addr) fun A25 n25 c25 =>
  ldS w24 ((⟨B3, 0, Option.none⟩ : Addr).add 1) fun A26 n26 c26 =>
  ldI w24 ((⟨B3, 0, Option.none⟩ : Addr).add 2) .i64 fun x27 =>
  ldB w24 ((⟨B3, 0, Option.none⟩ : Addr).add 3) fun b28 =>
  stW w24 (⟨B1, 0, Option.none⟩ : Addr) (.slice A25 n25 c25) fun w29 =>
  stW w29 ((⟨B1, 0, Option.none⟩ : Addr).add 1) (.slice A26 n26 c26) fun w30 =>
  stW w30 ((⟨B1, 0, Option.none⟩ : Addr).add 2) (.int .i64 x27) fun w31 =>
  stW w31 ((⟨B1, 0, Option.none⟩ : Addr).add 3) (.bool b28) fun w32 =>
  ldS w32 (⟨B1, 0, Option.none⟩ : Addr) fun A33 n33 c33 =>
  ldS w32 ((⟨B1, 0, Option.none⟩ : Addr).add 1) fun A34 n34 c34 =>
  ldI w32 ((⟨B1, 0, Option.none⟩ : Addr).add 2) .i64 fun x35 =>
  ldB w32 ((⟨B1, 0, Option.none⟩ : Addr).add 3) fun b36 =>
  Q (.returned (.agg #[.slice A33 n33 c33, .slice A34 n34 c34, .int .i64 x35, .bool b36])) w32)
def D : Nat → Option DH := dtab [(5, .held [.fst 0, .fst 1, .fst 2, .fst 3, .fst 4, .fst 5, .fst 6, .fst 7, .eff 8, .eff 9, .fst 10, .eff 11] [.eff 12, .fst 13, .eff 14])]
def l0LO : LO := ⟨[], [], [(0, [2, 3])], []⟩
def l0Tk (k : Nat) : Spec := fun Q σ w =>
  gSlice (σ 0) fun At0 nt0 ct0 =>
  gAd (σ 3) fun at3 =>
  gInt .i64 (σ 4) fun xt4 =>
  l0 k At0 nt0 ct0 at3 xt4 w (fun (w : World) => ∀ d : Fr, Q (.exit 0) (ov d [(2, σ 2), (3, .pointer (some at3))]) w)
def l0T : Spec := fun Q σ w => ∃ k, l0Tk k Q σ w
def l0tb : List (List Nat × Spec) := []
noncomputable def l0b : Code := (subC [0, 0, 1, 0, 1, 1] body).getD .skip
theorem l0_eq (k : Nat) (At0 : Option Addr) (nt0 : Nat) (ct0 : Nat) (at3 : Addr) (xt4 : Int) (Q : PQ) (σ : Fr) (w : World) :
    l0 (k + 1) At0 nt0 ct0 at3 xt4 w (fun (w : World) => ∀ d : Fr, Q (.exit 0) (ov d [(2, σ 2), (3, .pointer (some at3))]) w) = codeW Try.prog hT 32 D (tab l0tb) [0, 0, 1, 0, 1, 1] l0b (thenQ (l0Tk k Q) (widen l0LO Q)) (ov σ [(0, .slice At0 nt0 ct0), (3, .pointer (some at3)), (4, .int .i64 xt4)]) w := by kernel_rfl
theorem l0_snd : ∀ c, subC [0, 1, 0, 1, 1] body = some c → Snd Try.prog 32 c l0T := by
  refine loop_of (hT := hT) (D := D) (l := l0tb) (b := l0b) (lo := l0LO) (by kernel_rfl) (by
    intro x hx
    simp only [l0tb, List.not_mem_nil] at hx
    ) (by kernel_rfl) (by kernel_rfl) ?_ ?_
  · intro Q σ w h
    unfold l0Tk at h
    obtain ⟨At0, nt0, ct0, h0, hn⟩ := gSlice_elim h
    clear h
    have h := hn
    clear hn
    obtain ⟨at3, h3, hn⟩ := gAd_elim h
    clear h
    have h := hn
    clear hn
    obtain ⟨xt4, h4, hn⟩ := gInt_elim h
    clear h
    have h := hn
    clear hn
    exact h
  · intro k Q σ w h
    unfold l0Tk at h
    obtain ⟨At0, nt0, ct0, h0, hn⟩ := gSlice_elim h
    clear h
    have h := hn
    clear hn
    obtain ⟨at3, h3, hn⟩ := gAd_elim h
    clear h
    have h := hn
    clear hn
    obtain ⟨xt4, h4, hn⟩ := gInt_elim h
    clear h
    have h := hn
    clear hn
    rw [l0_eq (σ := σ)] at h
    have e : (ov σ [(0, .slice At0 nt0 ct0), (3, .pointer (some at3)), (4, .int .i64 xt4)]) = σ := ov_self (by simp [h0, h3, h4])
    rw [e] at h
    exact h
def tb : List (List Nat × Spec) := [([0, 1, 0, 1, 1], l0T)]
theorem wp_eq (Aa0 : Option Addr) (na0 : Nat) (ca0 : Nat) (w : World) (Q : Ending → World → Prop) :
    wp Aa0 na0 ca0 w Q = codeW Try.prog hT 32 D (tab tb) [] body (topQ Try.prog hT 32 [.cell 2 28] Q) (argsF [.slice Aa0 na0 ca0]) w := by kernel_rfl
theorem ok (Aa0 : Option Addr) (na0 : Nat) (ca0 : Nat) (w : World) (Q : Ending → World → Prop) (h : wp Aa0 na0 ca0 w Q) : Calls Try.prog 32 #[.slice Aa0 na0 ca0] w Q := by
  rw [wp_eq] at h
  exact calls_of_codeW (c := body) (rs := [.cell 2 28]) Try.func32 (by kernel_rfl) (by kernel_rfl) (by kernel_rfl) (by kernel_rfl) (by kernel_rfl) (tab_snd (by
    intro x hx
    simp only [tb, List.mem_cons, List.not_mem_nil, or_false] at hx
    subst hx
    exact l0_snd)) (by kernel_rfl) h
end f_ref07_Load
namespace f_ref07_full
/-! skein/skeinref07.full: function 36 -/
noncomputable def body : Code := (Try.f36.body).getD .skip
def l0 : Nat → Option Addr → Nat → Nat → World → ((Option Addr) → Nat → Nat → World → Prop) → Prop
  | 0, _, _, _, _, _ => False
  | k + 1, At3, nt3, ct3, w, K0 =>
    sel (decide ((nt3 : Int) < (512 : Int))) (
    alW w (.cells #[.int .u8 (0 : Int)] 5) fun B4 w5 =>
    Runs Try.prog (Builtin.append_ #[35, 35] 35 #[.slice At3 nt3 ct3, .slice (some (⟨B4, 0, Option.none⟩ : Addr)) 1 1]) w5 fun v7 w6 => ∃ (A8 : Option Addr) (n8 : Nat) (c8 : Nat), v7 = (.slice A8 n8 c8) ∧ (
    l0 k A8 n8 c8 w6 K0)) (
    K0 At3 nt3 ct3 w)
def wp (Aa0 : Option Addr) (na0 : Nat) (ca0 : Nat) (w : World) (Q : Ending → World → Prop) : Prop :=
  Calls Try.prog 23 #[.slice Aa0 na0 ca0, .int .i64 (0 : Int), .int .i64 (512 : Int)] w fun e1 w2 => ∃ (A3 : Option Addr) (n3 : Nat) (c3 : Nat), e1 = .returned (.slice A3 n3 c3) ∧ (
  ∃ k11 : Nat, l0 k11 A3 n3 c3 w2 (fun (A9 : Option Addr) (n9 : Nat) (c9 : Nat) (w10 : World) => ∀ _ : Fr,
  Q (.returned (.slice A9 n9 c9)) w10))
def D : Nat → Option DH := dtab []
def l0LO : LO := ⟨[], [], [(0, [3])], []⟩
def l0Tk (k : Nat) : Spec := fun Q σ w =>
  gSlice (σ 3) fun At3 nt3 ct3 =>
  l0 k At3 nt3 ct3 w (fun (Aq3 : Option Addr) (nq3 : Nat) (cq3 : Nat) (w : World) => ∀ d : Fr, Q (.exit 0) (ov d [(3, .slice Aq3 nq3 cq3)]) w)
def l0T : Spec := fun Q σ w => ∃ k, l0Tk k Q σ w
def l0tb : List (List Nat × Spec) := []
noncomputable def l0b : Code := (subC [0, 0, 0, 1, 1] body).getD .skip
theorem l0_eq (k : Nat) (At3 : Option Addr) (nt3 : Nat) (ct3 : Nat) (Q : PQ) (σ : Fr) (w : World) :
    l0 (k + 1) At3 nt3 ct3 w (fun (Aq3 : Option Addr) (nq3 : Nat) (cq3 : Nat) (w : World) => ∀ d : Fr, Q (.exit 0) (ov d [(3, .slice Aq3 nq3 cq3)]) w) = codeW Try.prog hT 13 D (tab l0tb) [0, 0, 0, 1, 1] l0b (thenQ (l0Tk k Q) (widen l0LO Q)) (ov σ [(3, .slice At3 nt3 ct3)]) w := by kernel_rfl
theorem l0_snd : ∀ c, subC [0, 0, 1, 1] body = some c → Snd Try.prog 13 c l0T := by
  refine loop_of (hT := hT) (D := D) (l := l0tb) (b := l0b) (lo := l0LO) (by kernel_rfl) (by
    intro x hx
    simp only [l0tb, List.not_mem_nil] at hx
    ) (by kernel_rfl) (by kernel_rfl) ?_ ?_
  · intro Q σ w h
    unfold l0Tk at h
    obtain ⟨At3, nt3, ct3, h3, hn⟩ := gSlice_elim h
    clear h
    have h := hn
    clear hn
    exact h
  · intro k Q σ w h
    unfold l0Tk at h
    obtain ⟨At3, nt3, ct3, h3, hn⟩ := gSlice_elim h
    clear h
    have h := hn
    clear hn
    rw [l0_eq (σ := σ)] at h
    have e : (ov σ [(3, .slice At3 nt3 ct3)]) = σ := ov_self (by simp [h3])
    rw [e] at h
    exact h
def tb : List (List Nat × Spec) := [([0, 0, 1, 1], l0T)]
theorem wp_eq (Aa0 : Option Addr) (na0 : Nat) (ca0 : Nat) (w : World) (Q : Ending → World → Prop) :
    wp Aa0 na0 ca0 w Q = codeW Try.prog hT 13 D (tab tb) [] body (topQ Try.prog hT 13 [.tmp 2] Q) (argsF [.slice Aa0 na0 ca0]) w := by kernel_rfl
theorem ok (Aa0 : Option Addr) (na0 : Nat) (ca0 : Nat) (w : World) (Q : Ending → World → Prop) (h : wp Aa0 na0 ca0 w Q) : Calls Try.prog 36 #[.slice Aa0 na0 ca0] w Q := by
  rw [wp_eq] at h
  exact calls_of_codeW (c := body) (rs := [.tmp 2]) Try.func36 (by kernel_rfl) (by kernel_rfl) (by kernel_rfl) (by kernel_rfl) (by kernel_rfl) (tab_snd (by
    intro x hx
    simp only [tb, List.mem_cons, List.not_mem_nil, or_false] at hx
    subst hx
    exact l0_snd)) (by kernel_rfl) h
end f_ref07_full
namespace f_ref07_Read
/-! skein/skeinref07.Read: function 45 -/
noncomputable def body : Code := (Try.f45.body).getD .skip
def wp (Aa0_0 : Option Addr) (na0_0 : Nat) (ca0_0 : Nat) (Aa0_1 : Option Addr) (na0_1 : Nat) (ca0_1 : Nat) (xa0_2 : Int) (ba0_3 : Bool) (xa1 : Int) (w : World) (Q : Ending → World → Prop) : Prop :=
  alW w (.cells #[.slice Aa0_0 na0_0 ca0_0, .slice Aa0_1 na0_1 ca0_1, .int .i64 xa0_2, .bool ba0_3] 28) fun B1 w2 =>
  ldB w2 ((⟨B1, 0, Option.none⟩ : Addr).add 3) fun b3 =>
  sel b3 (
  Q (.returned (.tuple #[.slice none 0 0, .int .i64 (70 : Int)])) w2) (
  sel (decide (xa1 < (0 : Int))) (
  Q (.returned (.tuple #[.slice none 0 0, .int .i64 (1 : Int)])) w2) (
  ldS w2 (⟨B1, 0, Option.none⟩ : Addr) fun A4 n4 c4 =>
  sel (decide (xa1 ≥ (n4 : Int))) (
  Q (.returned (.tuple #[.slice none 0 0, .int .i64 (1 : Int)])) w2) (
  ldS w2 (⟨B1, 0, Option.none⟩ : Addr) fun A5 n5 c5 =>
  optB A5 fun a6 =>
  req (decide (0 ≤ xa1 ∧ xa1 < (n5 : Int))) <|
  ldS w2 (a6.add (xa1.toNat * 3)) fun A7 n7 c7 =>
  ldS w2 ((a6.add (xa1.toNat * 3)).add 1) fun A8 n8 c8 =>
  ldB w2 ((a6.add (xa1.toNat * 3)).add 2) fun b9 =>
  Calls Try.prog 57 #[.agg #[.slice A7 n7 c7, .slice A8 n8 c8, .bool b9]] w2 fun e10 w11 => ∃ (A12 : Option Addr) (n12 : Nat) (c12 : Nat), e10 = .returned (.slice A12 n12 c12) ∧ (
  Calls Try.prog 19 #[.slice A12 n12 c12] w11 fun e13 w14 => ∃ (A15 : Option Addr) (n15 : Nat) (c15 : Nat), e13 = .returned (.slice A15 n15 c15) ∧ (
  Q (.returned (.tuple #[.slice A15 n15 c15, .int .i64 (0 : Int)])) w14)))))
def D : Nat → Option DH := dtab []
def tb : List (List Nat × Spec) := []
theorem wp_eq (Aa0_0 : Option Addr) (na0_0 : Nat) (ca0_0 : Nat) (Aa0_1 : Option Addr) (na0_1 : Nat) (ca0_1 : Nat) (xa0_2 : Int) (ba0_3 : Bool) (xa1 : Int) (w : World) (Q : Ending → World → Prop) :
    wp Aa0_0 na0_0 ca0_0 Aa0_1 na0_1 ca0_1 xa0_2 ba0_3 xa1 w Q = codeW Try.prog hT 24 D (tab tb) [] body (topQ Try.prog hT 24 [.tmp 4, .tmp 5] Q) (argsF [.agg #[.slice Aa0_0 na0_0 ca0_0, .slice Aa0_1 na0_1 ca0_1, .int .i64 xa0_2, .bool ba0_3], .int .i64 xa1]) w := by cases ba0_3 <;> kernel_rfl
theorem ok (Aa0_0 : Option Addr) (na0_0 : Nat) (ca0_0 : Nat) (Aa0_1 : Option Addr) (na0_1 : Nat) (ca0_1 : Nat) (xa0_2 : Int) (ba0_3 : Bool) (xa1 : Int) (w : World) (Q : Ending → World → Prop) (h : wp Aa0_0 na0_0 ca0_0 Aa0_1 na0_1 ca0_1 xa0_2 ba0_3 xa1 w Q) : Calls Try.prog 45 #[.agg #[.slice Aa0_0 na0_0 ca0_0, .slice Aa0_1 na0_1 ca0_1, .int .i64 xa0_2, .bool ba0_3], .int .i64 xa1] w Q := by
  rw [wp_eq] at h
  exact calls_of_codeW (c := body) (rs := [.tmp 4, .tmp 5]) Try.func45 (by kernel_rfl) (by kernel_rfl) (by kernel_rfl) (by kernel_rfl) (by kernel_rfl) (tab_snd (by
    intro x hx
    simp only [tb, List.not_mem_nil] at hx
    )) (by kernel_rfl) h
end f_ref07_Read
namespace f_ref07_Write
/-! skein/skeinref07.Write: function 47 -/
noncomputable def body : Code := (Try.f47.body).getD .skip
def wp (Aa0_0 : Option Addr) (na0_0 : Nat) (ca0_0 : Nat) (Aa0_1 : Option Addr) (na0_1 : Nat) (ca0_1 : Nat) (xa0_2 : Int) (ba0_3 : Bool) (xa1 : Int) (Aa2 : Option Addr) (na2 : Nat) (ca2 : Nat) (w : World) (Q : Ending → World → Prop) : Prop :=
  alW w (.cells #[.slice Aa0_0 na0_0 ca0_0, .slice Aa0_1 na0_1 ca0_1, .int .i64 xa0_2, .bool ba0_3] 28) fun B1 w2 =>
  alW w2 (.cells #[.slice none 0 0, .slice none 0 0, .int .i64 (0 : Int), .bool false] 28) fun B3 w4 =>
  ldB w4 ((⟨B1, 0, Option.none⟩ : Addr).add 3) fun b5 =>
  sel b5 (
  ldS w4 (⟨B1, 0, Option.none⟩ : Addr) fun A6 n6 c6 =>
  ldS w4 ((⟨B1, 0, Option.none⟩ : Addr).add 1) fun A7 n7 c7 =>
  ldI w4 ((⟨B1, 0, Option.none⟩ : Addr).add 2) .i64 fun x8 =>
  ldB w4 ((⟨B1, 0, Option.none⟩ : Addr).add 3) fun b9 =>
  stW w4 (⟨B3, 0, Option.none⟩ : Addr) (.slice A6 n6 c6) fun w10 =>
  stW w10 ((⟨B3, 0, Option.none⟩ : Addr).add 1) (.slice A7 n7 c7) fun w11 =>
  stW w11 ((⟨B3, 0, Option.none⟩ : Addr).add 2) (.int .i64 x8) fun w12 =>
  stW w12 ((⟨B3, 0, Option.none⟩ : Addr).add 3) (.bool b9) fun w13 =>
  ldS w13 (⟨B3, 0, Option.none⟩ : Addr) fun A14 n14 c14 =>
  ldS w13 ((⟨B3, 0, Option.none⟩ : Addr).add 1) fun A15 n15 c15 =>
  ldI w13 ((⟨B3, 0, Option.none⟩ : Addr).add 2) .i64 fun x16 =>
  ldB w13 ((⟨B3, 0, Option.none⟩ : Addr).add 3) fun b17 =>
  Q (.returned (.tuple #[.agg #[.slice A14 n14 c14, .slice A15 n15 c15, .int .i64 x16, .bool b17], .int .i64 (70 : Int)])) w13) (
  sel (decide (xa1 < (0 : Int))) (
  ldS w4 (⟨B1, 0, Option.none⟩ : Addr) fun A18 n18 c18 =>
  ldS w4 ((⟨B1, 0, Option.none⟩ : Addr).add 1) fun A19 n19 c19 =>
  ldI w4 ((⟨B1, 0, Option.none⟩ : Addr).add 2) .i64 fun x20 =>
  ldB w4 ((⟨B1, 0, Option.none⟩ : Addr).add 3) fun b21 =>
  stW w4 (⟨B3, 0, Option.none⟩ : Addr) (.slice A18 n18 c18) fun w22 =>
  stW w22 ((⟨B3, 0, Option.none⟩ : Addr).add 1) (.slice A19 n19 c19) fun w23 =>
  stW w23 ((⟨B3, 0, Option.none⟩ : Addr).add 2) (.int .i64 x20) fun w24 =>
  stW w24 ((⟨B3, 0, Option.none⟩ : Addr).add 3) (.bool b21) fun w25 =>
  ldS w25 (⟨B3, 0, Option.none⟩ : Addr) fun A26 n26 c26 =>
  ldS w25 ((⟨B3, 0, Option.none⟩ : Addr).add 1) fun A27 n27 c27 =>
  ldI w25 ((⟨B3, 0, Option.none⟩ : Addr).add 2) .i64 fun x28 =>
  ldB w25 ((⟨B3, 0, Option.none⟩ : Addr).add 3) fun b29 =>
  Q (.returned (.tuple #[.agg #[.slice A26 n26 c26, .slice A27 n27 c27, .int .i64 x28, .bool b29], .int .i64 (1 : Int)])) w25) (
  ldS w4 (⟨B1, 0, Option.none⟩ : Addr) fun A30 n30 c30 =>
  sel (decide (xa1 ≥ (n30 : Int))) (
  ldS w4 (⟨B1, 0, Option.none⟩ : Addr) fun A31 n31 c31 =>
  ldS w4 ((⟨B1, 0, Option.none⟩ : Addr).add 1) fun A32 n32 c32 =>
  ldI w4 ((⟨B1, 0, Option.none⟩ : Addr).add 2) .i64 fun x33 =>
  ldB w4 ((⟨B1, 0, Option.none⟩ : Addr).add 3) fun b34 =>
  stW w4 (⟨B3, 0, Option.none⟩ : Addr) (.slice A31 n31 c31) fun w35 =>
  stW w35 ((⟨B3, 0, Option.none⟩ : Addr).add 1) (.slice A32 n32 c32) fun w36 =>
  stW w36 ((⟨B3, 0, Option.none⟩ : Addr).add 2) (.int .i64 x33) fun w37 =>
  stW w37 ((⟨B3, 0, Option.none⟩ : Addr).add 3) (.bool b34) fun w38 =>
  ldS w38 (⟨B3, 0, Option.none⟩ : Addr) fun A39 n39 c39 =>
  ldS w38 ((⟨B3, 0, Option.none⟩ : Addr).add 1) fun A40 n40 c40 =>
  ldI w38 ((⟨B3, 0, Option.none⟩ : Addr).add 2) .i64 fun x41 =>
  ldB w38 ((⟨B3, 0, Option.none⟩ : Addr).add 3) fun b42 =>
  Q (.returned (.tuple #[.agg #[.slice A39 n39 c39, .slice A40 n40 c40, .int .i64 x41, .bool b42], .int .i64 (1 : Int)])) w38) (
  sel (decide ((na2 : Int) > (512 : Int))) (
  ldS w4 (⟨B1, 0, Option.none⟩ : Addr) fun A43 n43 c43 =>
  ldS w4 ((⟨B1, 0, Option.none⟩ : Addr).add 1) fun A44 n44 c44 =>
  ldI w4 ((⟨B1, 0, Option.none⟩ : Addr).add 2) .i64 fun x45 =>
  ldB w4 ((⟨B1, 0, Option.none⟩ : Addr).add 3) fun b46 =>
  stW w4 (⟨B3, 0, Option.none⟩ : Addr) (.slice A43 n43 c43) fun w47 =>
  stW w47 ((⟨B3, 0, Option.none⟩ : Addr).add 1) (.slice A44 n44 c44) fun w48 =>
  stW w48 ((⟨B3, 0, Option.none⟩ : Addr).add 2) (.int .i64 x45) fun w49 =>
  stW w49 ((⟨B3, 0, Option.none⟩ : Addr).add 3) (.bool b46) fun w50 =>
  ldS w50 (⟨B3, 0, Option.none⟩ : Addr) fun A51 n51 c51 =>
  ldS w50 ((⟨B3, 0, Option.none⟩ : Addr).add 1) fun A52 n52 c52 =>
  ldI w50 ((⟨B3, 0, Option.none⟩ : Addr).add 2) .i64 fun x53 =>
  ldB w50 ((⟨B3, 0, Option.none⟩ : Addr).add 3) fun b54 =>
  Q (.returned (.tuple #[.agg #[.slice A51 n51 c51, .slice A52 n52 c52, .int .i64 x53, .bool b54], .int .i64 (1 : Int)])) w50) (
  ldI w4 ((⟨B1, 0, Option.none⟩ : Addr).add 2) .i64 fun x55 =>
  stW w4 ((⟨B1, 0, Option.none⟩ : Addr).add 2) (.int .i64 (IntKind.i64.wrap (x55 + (1 : Int)))) fun w56 =>
  ldS w56 (⟨B1, 0, Option.none⟩ : Addr) fun A57 n57 c57 =>
  ldS w56 ((⟨B1, 0, Option.none⟩ : Addr).add 1) fun A58 n58 c58 =>
  ldI w56 ((⟨B1, 0, Option.none⟩ : Addr).add 2) .i64 fun x59 =>
  ldB w56 ((⟨B1, 0, Option.none⟩ : Addr).add 3) fun b60 =>
  Calls Try.prog 59 #[.agg #[.slice A57 n57 c57, .slice A58 n58 c58, .int .i64 x59, .bool b60]] w56 fun e61 w62 => ∃ (x63 : Int), e61 = .returned (.int .i64 x63) ∧ (
  sel (x63 == (1 : Int)) (
  ldS w62 (⟨B1, 0, Option.none⟩ : Addr) fun A64 n64 c64 =>
  ldS w62 ((⟨B1, 0, Option.none⟩ : Addr).add 1) fun A65 n65 c65 =>
  ldI w62 ((⟨B1, 0, Option.none⟩ : Addr).add 2) .i64 fun x66 =>
  ldB w62 ((⟨B1, 0, Option.none⟩ : Addr).add 3) fun b67 =>
  stW w62 (⟨B3, 0, Option.none⟩ : Addr) (.slice A64 n64 c64) fun w68 =>
  stW w68 ((⟨B3, 0, Option.none⟩ : Addr).add 1) (.slice A65 n65 c65) fun w69 =>
  stW w69 ((⟨B3, 0, Option.none⟩ : Addr).add 2) (.int .i64 x66) fun w70 =>
  stW w70 ((⟨B3, 0, Option.none⟩ : Addr).add 3) (.bool b67) fun w71 =>
  ldS w71 (⟨B3, 0, Option.none⟩ : Addr) fun A72 n72 c72 =>
  ldS w71 ((⟨B3, 0, Option.none⟩ : Addr).add 1) fun A73 n73 c73 =>
  ldI w71 ((⟨B3, 0, Option.none⟩ : Addr).add 2) .i64 fun x74 =>
  ldB w71 ((⟨B3, 0, Option.none⟩ : Addr).add 3) fun b75 =>
  Q (.returned (.tuple #[.agg #[.slice A72 n72 c72, .slice A73 n73 c73, .int .i64 x74, .bool b75], .int .i64 (71 : Int)])) w71) (
  sel (x63 == (2 : Int)) (
  stW w62 ((⟨B1, 0, Option.none⟩ : Addr).add 3) (.bool true) fun w76 =>
  ldS w76 (⟨B1, 0, Option.none⟩ : Addr) fun A77 n77 c77 =>
  ldS w76 ((⟨B1, 0, Option.none⟩ : Addr).add 1) fun A78 n78 c78 =>
  ldI w76 ((⟨B1, 0, Option.none⟩ : Addr).add 2) .i64 fun x79 =>
  ldB w76 ((⟨B1, 0, Option.none⟩ : Addr).add 3) fun b80 =>
  stW w76 (⟨B3, 0, Option.none⟩ : Addr) (.slice A77 n77 c77) fun w81 =>
  stW w81 ((⟨B3, 0, Option.none⟩ : Addr).add 1) (.slice A78 n78 c78) fun w82 =>
  stW w82 ((⟨B3, 0, Option.none⟩ : Addr).add 2) (.int .i64 x79) fun w83 =>
  stW w83 ((⟨B3, 0, Option.none⟩ : Addr).add 3) (.bool b80) fun w84 =>
  ldS w84 (⟨B3, 0, Option.none⟩ : Addr) fun A85 n85 c85 =>
  ldS w84 ((⟨B3, 0, Option.none⟩ : Addr).add 1) fun A86 n86 c86 =>
  ldI w84 ((⟨B3, 0, Option.none⟩ : Addr).add 2) .i64 fun x87 =>
  ldB w84 ((⟨B3, 0, Option.none⟩ : Addr).add 3) fun b88 =>
  Q (.returned (.tuple #[.agg #[.slice A85 n85 c85, .slice A86 n86 c86, .int .i64 x87, .bool b88], .int .i64 (70 : Int)])) w84) (
  drW w62 fun w89 =>
  ∃ S90 : World → Prop, S90 w89 ∧ (
  hdS S90 (⟨B1, 0, Option.none⟩ : Addr) fun A91 n91 c91 =>
  hdS S90 ((⟨B1, 0, Option.none⟩ : Addr).add 1) fun A92 n92 c92 =>
  hdI S90 ((⟨B1, 0, Option.none⟩ : Addr).add 2) .i64 fun x93 =>
  hdB S90 ((⟨B1, 0, Option.none⟩ : Addr).add 3) fun b94 =>
  hdS S90 (⟨B1, 0, Option.none⟩ : Addr) fun A95 n95 c95 =>
  optB A95 fun a96 =>
  req (decide (0 ≤ xa1 ∧ xa1 < (n95 : Int))) <|
  hdS S90 (a96.add (xa1.toNat * 3)) fun A97 n97 c97 =>
  Calls Try.prog 36 #[.slice Aa2 na2 ca2] w89 fun e98 w99 => ∃ (A100 : Option Addr) (n100 : Nat) (c100 : Nat), e98 = .returned (.slice A100 n100 c100) ∧ (
  S90 w99 ∧ (
  Calls Try.prog 60 #[.agg #[.slice A91 n91 c91, .slice A92 n92 c92, .int .i64 x93, .bool b94], .int .i64 xa1, .agg #[.slice A97 n97 c97, .slice A100 n100 c100, .bool true]] w99 fun e101 w102 => ∃ (A103_0 : Option Addr) (n103_0 : Nat) (c103_0 : Nat) (A103_1 : Option Addr) (n103_1 : Nat) (c103_1 : Nat) (x103_2 : Int) (b103_3 : Bool), e101 = .returned (.agg #[.slice A103_0 n103_0 c103_0, .slice A103_1 n103_1 c103_1, .int .i64 x103_2, .bool b103_3]) ∧ (
  stW w102 (⟨B1, 0, Option.none⟩ : Addr) (.slice A103_0 n103_0 c103_0) fun w104 =>
  stW w104 ((⟨B1, 0, Option.none⟩ : Addr).add 1) (.slice A103_1 n103_1 c103_1) fun w105 =>
  stW w105 ((⟨B1, 0, Option.none⟩ : Addr).add 2) (.int .i64 x103_2) fun w106 =>
  stW w106 ((⟨B1, 0, Option.none⟩ : Addr).add 3) (.bool b103_3) fun w107 =>
  sel (x63 == (3 : Int)) (
  stW w107 ((⟨B1, 0, Option.none⟩ : Addr).add 3) (.bool true) fun w108 =>
  ldS w108 (⟨B1, 0, Option.none⟩ : Addr) fun A109 n109 c109 =>
  ldS w108 ((⟨B1, 0, Option.none⟩ : Addr).add 1) fun A110 n110 c110 =>
  ldI w108 ((⟨B1, 0, Option.none⟩ : Addr).add 2) .i64 fun x111 =>
  ldB w108 ((⟨B1, 0, Option.none⟩ : Addr).add 3) fun b112 =>
  stW w108 (⟨B3, 0, Option.none⟩ : Addr) (.slice A109 n109 c109) fun w113 =>
  stW w113 ((⟨B3, 0, Option.none⟩ : Addr).add 1) (.slice A110 n110 c110) fun w114 =>
  stW w114 ((⟨B3, 0, Option.none⟩ : Addr).add 2) (.int .i64 x111) fun w115 =>
  stW w115 ((⟨B3, 0, Option.none⟩ : Addr).add 3) (.bool b112) fun w116 =>
  ldS w116 (⟨B3, 0, Option.none⟩ : Addr) fun A117 n117 c117 =>
  ldS w116 ((⟨B3, 0, Option.none⟩ : Addr).add 1) fun A118 n118 c118 =>
  ldI w116 ((⟨B3, 0, Option.none⟩ : Addr).add 2) .i64 fun x119 =>
  ldB w116 ((⟨B3, 0, Option.none⟩ : Addr).add 3) fun b120 =>
  Q (.returned (.tuple #[.agg #[.slice A117 n117 c117, .slice A118 n118 c118, .int .i64 x119, .bool b120], .int .i64 (70 : Int)])) w116) (
  ldS w107 (⟨B1, 0, Option.none⟩ : Addr) fun A121 n121 c121 =>
  ldS w107 ((⟨B1, 0, Option.none⟩ : Addr).add 1) fun A122 n122 c122 =>
  ldI w107 ((⟨B1, 0, Option.none⟩ : Addr).add 2) .i64 fun x123 =>
  ldB w107 ((⟨B1, 0, Option.none⟩ : Addr).add 3) fun b124 =>
  stW w107 (⟨B3, 0, Option.none⟩ : Addr) (.slice A121 n121 c121) fun w125 =>
  stW w125 ((⟨B3, 0, Option.none⟩ : Addr).add 1) (.slice A122 n122 c122) fun w126 =>
  stW w126 ((⟨B3, 0, Option.none⟩ : Addr).add 2) (.int .i64 x123) fun w127 =>
  stW w127 ((⟨B3, 0, Option.none⟩ : Addr).add 3) (.bool b124) fun w128 =>
  ldS w128 (⟨B3, 0, Option.none⟩ : Addr) fun A129 n129 c129 =>
  ldS w128 ((⟨B3, 0, Option.none⟩ : Addr).add 1) fun A130 n130 c130 =>
  ldI w128 ((⟨B3, 0, Option.none⟩ : Addr).add 2) .i64 fun x131 =>
  ldB w128 ((⟨B3, 0, Option.none⟩ : Addr).add 3) fun b132 =>
  Q (.returned (.tuple #[.agg #[.slice A129 n129 c129, .slice A130 n130 c130, .int .i64 x131, .bool b132], .int .i64 (0 : Int)])) w128))))))))))))
def D : Nat → Option DH := dtab [(12, .held [.fst 0, .fst 1, .fst 2, .fst 3, .fst 4, .fst 5, .fst 6, .fst 7, .fst 8, .eff 9, .fst 10] [.eff 11, .eff 12])]
def tb : List (List Nat × Spec) := []
theorem wp_eq (Aa0_0 : Option Addr) (na0_0 : Nat) (ca0_0 : Nat) (Aa0_1 : Option Addr) (na0_1 : Nat) (ca0_1 : Nat) (xa0_2 : Int) (ba0_3 : Bool) (xa1 : Int) (Aa2 : Option Addr) (na2 : Nat) (ca2 : Nat) (w : World) (Q : Ending → World → Prop) :
    wp Aa0_0 na0_0 ca0_0 Aa0_1 na0_1 ca0_1 xa0_2 ba0_3 xa1 Aa2 na2 ca2 w Q = codeW Try.prog hT 57 D (tab tb) [] body (topQ Try.prog hT 57 [.cell 6 28, .tmp 7] Q) (argsF [.agg #[.slice Aa0_0 na0_0 ca0_0, .slice Aa0_1 na0_1 ca0_1, .int .i64 xa0_2, .bool ba0_3], .int .i64 xa1, .slice Aa2 na2 ca2]) w := by cases ba0_3 <;> kernel_rfl
theorem ok (Aa0_0 : Option Addr) (na0_0 : Nat) (ca0_0 : Nat) (Aa0_1 : Option Addr) (na0_1 : Nat) (ca0_1 : Nat) (xa0_2 : Int) (ba0_3 : Bool) (xa1 : Int) (Aa2 : Option Addr) (na2 : Nat) (ca2 : Nat) (w : World) (Q : Ending → World → Prop) (h : wp Aa0_0 na0_0 ca0_0 Aa0_1 na0_1 ca0_1 xa0_2 ba0_3 xa1 Aa2 na2 ca2 w Q) : Calls Try.prog 47 #[.agg #[.slice Aa0_0 na0_0 ca0_0, .slice Aa0_1 na0_1 ca0_1, .int .i64 xa0_2, .bool ba0_3], .int .i64 xa1, .slice Aa2 na2 ca2] w Q := by
  rw [wp_eq] at h
  exact calls_of_codeW (c := body) (rs := [.cell 6 28, .tmp 7]) Try.func47 (by kernel_rfl) (by kernel_rfl) (by kernel_rfl) (by kernel_rfl) (by kernel_rfl) (tab_snd (by
    intro x hx
    simp only [tb, List.not_mem_nil] at hx
    )) (by kernel_rfl) h
end f_ref07_Write
namespace f_ref07_Sync
/-! skein/skeinref07.Sync: function 48 -/
noncomputable def body : Code := (Try.f48.body).getD .skip
def wp (Aa0_0 : Option Addr) (na0_0 : Nat) (ca0_0 : Nat) (Aa0_1 : Option Addr) (na0_1 : Nat) (ca0_1 : Nat) (xa0_2 : Int) (ba0_3 : Bool) (w : World) (Q : Ending → World → Prop) : Prop :=
  alW w (.cells #[.slice Aa0_0 na0_0 ca0_0, .slice Aa0_1 na0_1 ca0_1, .int .i64 xa0_2, .bool ba0_3] 28) fun B1 w2 =>
  alW w2 (.cells #[.slice none 0 0, .slice none 0 0, .int .i64 (0 : Int), .bool false] 28) fun B3 w4 =>
  ldB w4 ((⟨B1, 0, Option.none⟩ : Addr).add 3) fun b5 =>
  sel b5 (
  ldS w4 (⟨B1, 0, Option.none⟩ : Addr) fun A6 n6 c6 =>
  ldS w4 ((⟨B1, 0, Option.none⟩ : Addr).add 1) fun A7 n7 c7 =>
  ldI w4 ((⟨B1, 0, Option.none⟩ : Addr).add 2) .i64 fun x8 =>
  ldB w4 ((⟨B1, 0, Option.none⟩ : Addr).add 3) fun b9 =>
  stW w4 (⟨B3, 0, Option.none⟩ : Addr) (.slice A6 n6 c6) fun w10 =>
  stW w10 ((⟨B3, 0, Option.none⟩ : Addr).add 1) (.slice A7 n7 c7) fun w11 =>
  stW w11 ((⟨B3, 0, Option.none⟩ : Addr).add 2) (.int .i64 x8) fun w12 =>
  stW w12 ((⟨B3, 0, Option.none⟩ : Addr).add 3) (.bool b9) fun w13 =>
  ldS w13 (⟨B3, 0, Option.none⟩ : Addr) fun A14 n14 c14 =>
  ldS w13 ((⟨B3, 0, Option.none⟩ : Addr).add 1) fun A15 n15 c15 =>
  ldI w13 ((⟨B3, 0, Option.none⟩ : Addr).add 2) .i64 fun x16 =>
  ldB w13 ((⟨B3, 0, Option.none⟩ : Addr).add 3) fun b17 =>
  Q (.returned (.tuple #[.agg #[.slice A14 n14 c14, .slice A15 n15 c15, .int .i64 x16, .bool b17], .int .i64 (70 : Int)])) w13) (
  ldI w4 ((⟨B1, 0, Option.none⟩ : Addr).add 2) .i64 fun x18 =>
  stW w4 ((⟨B1, 0, Option.none⟩ : Addr).add 2) (.int .i64 (IntKind.i64.wrap (x18 + (1 : Int)))) fun w19 =>
  ldS w19 (⟨B1, 0, Option.none⟩ : Addr) fun A20 n20 c20 =>
  ldS w19 ((⟨B1, 0, Option.none⟩ : Addr).add 1) fun A21 n21 c21 =>
  ldI w19 ((⟨B1, 0, Option.none⟩ : Addr).add 2) .i64 fun x22 =>
  ldB w19 ((⟨B1, 0, Option.none⟩ : Addr).add 3) fun b23 =>
  Calls Try.prog 59 #[.agg #[.slice A20 n20 c20, .slice A21 n21 c21, .int .i64 x22, .bool b23]] w19 fun e24 w25 => ∃ (x26 : Int), e24 = .returned (.int .i64 x26) ∧ (
  sel (x26 == (1 : Int)) (
  ldS w25 (⟨B1, 0, Option.none⟩ : Addr) fun A27 n27 c27 =>
  ldS w25 ((⟨B1, 0, Option.none⟩ : Addr).add 1) fun A28 n28 c28 =>
  ldI w25 ((⟨B1, 0, Option.none⟩ : Addr).add 2) .i64 fun x29 =>
  ldB w25 ((⟨B1, 0, Option.none⟩ : Addr).add 3) fun b30 =>
  stW w25 (⟨B3, 0, Option.none⟩ : Addr) (.slice A27 n27 c27) fun w31 =>
  stW w31 ((⟨B3, 0, Option.none⟩ : Addr).add 1) (.slice A28 n28 c28) fun w32 =>
  stW w32 ((⟨B3, 0, Option.none⟩ : Addr).add 2) (.int .i64 x29) fun w33 =>
  stW w33 ((⟨B3, 0, Option.none⟩ : Addr).add 3) (.bool b30) fun w34 =>
  ldS w34 (⟨B3, 0, Option.none⟩ : Addr) fun A35 n35 c35 =>
  ldS w34 ((⟨B3, 0, Option.none⟩ : Addr).add 1) fun A36 n36 c36 =>
  ldI w34 ((⟨B3, 0, Option.none⟩ : Addr).add 2) .i64 fun x37 =>
  ldB w34 ((⟨B3, 0, Option.none⟩ : Addr).add 3) fun b38 =>
  Q (.returned (.tuple #[.agg #[.slice A35 n35 c35, .slice A36 n36 c36, .int .i64 x37, .bool b38], .int .i64 (71 : Int)])) w34) (
  sel (x26 == (2 : Int)) (
  stW w25 ((⟨B1, 0, Option.none⟩ : Addr).add 3) (.bool true) fun w39 =>
  ldS w39 (⟨B1, 0, Option.none⟩ : Addr) fun A40 n40 c40 =>
  ldS w39 ((⟨B1, 0, Option.none⟩ : Addr).add 1) fun A41 n41 c41 =>
  ldI w39 ((⟨B1, 0, Option.none⟩ : Addr).add 2) .i64 fun x42 =>
  ldB w39 ((⟨B1, 0, Option.none⟩ : Addr).add 3) fun b43 =>
  stW w39 (⟨B3, 0, Option.none⟩ : Addr) (.slice A40 n40 c40) fun w44 =>
  stW w44 ((⟨B3, 0, Option.none⟩ : Addr).add 1) (.slice A41 n41 c41) fun w45 =>
  stW w45 ((⟨B3, 0, Option.none⟩ : Addr).add 2) (.int .i64 x42) fun w46 =>
  stW w46 ((⟨B3, 0, Option.none⟩ : Addr).add 3) (.bool b43) fun w47 =>
  ldS w47 (⟨B3, 0, Option.none⟩ : Addr) fun A48 n48 c48 =>
  ldS w47 ((⟨B3, 0, Option.none⟩ : Addr).add 1) fun A49 n49 c49 =>
  ldI w47 ((⟨B3, 0, Option.none⟩ : Addr).add 2) .i64 fun x50 =>
  ldB w47 ((⟨B3, 0, Option.none⟩ : Addr).add 3) fun b51 =>
  Q (.returned (.tuple #[.agg #[.slice A48 n48 c48, .slice A49 n49 c49, .int .i64 x50, .bool b51], .int .i64 (70 : Int)])) w47) (
  ldS w25 (⟨B1, 0, Option.none⟩ : Addr) fun A52 n52 c52 =>
  Calls Try.prog 61 #[.slice A52 n52 c52] w25 fun e53 w54 => ∃ (A55 : Option Addr) (n55 : Nat) (c55 : Nat), e53 = .returned (.slice A55 n55 c55) ∧ (
  stW w54 (⟨B1, 0, Option.none⟩ : Addr) (.slice A55 n55 c55) fun w56 =>
  sel (x26 == (3 : Int)) (
  stW w56 ((⟨B1, 0, Option.none⟩ : Addr).add 3) (.bool true) fun w57 =>
  ldS w57 (⟨B1, 0, Option.none⟩ : Addr) fun A58 n58 c58 =>
  ldS w57 ((⟨B1, 0, Option.none⟩ : Addr).add 1) fun A59 n59 c59 =>
  ldI w57 ((⟨B1, 0, Option.none⟩ : Addr).add 2) .i64 fun x60 =>
  ldB w57 ((⟨B1, 0, Option.none⟩ : Addr).add 3) fun b61 =>
  stW w57 (⟨B3, 0, Option.none⟩ : Addr) (.slice A58 n58 c58) fun w62 =>
  stW w62 ((⟨B3, 0, Option.none⟩ : Addr).add 1) (.slice A59 n59 c59) fun w63 =>
  stW w63 ((⟨B3, 0, Option.none⟩ : Addr).add 2) (.int .i64 x60) fun w64 =>
  stW w64 ((⟨B3, 0, Option.none⟩ : Addr).add 3) (.bool b61) fun w65 =>
  ldS w65 (⟨B3, 0, Option.none⟩ : Addr) fun A66 n66 c66 =>
  ldS w65 ((⟨B3, 0, Option.none⟩ : Addr).add 1) fun A67 n67 c67 =>
  ldI w65 ((⟨B3, 0, Option.none⟩ : Addr).add 2) .i64 fun x68 =>
  ldB w65 ((⟨B3, 0, Option.none⟩ : Addr).add 3) fun b69 =>
  Q (.returned (.tuple #[.agg #[.slice A66 n66 c66, .slice A67 n67 c67, .int .i64 x68, .bool b69], .int .i64 (70 : Int)])) w65) (
  ldS w56 (⟨B1, 0, Option.none⟩ : Addr) fun A70 n70 c70 =>
  ldS w56 ((⟨B1, 0, Option.none⟩ : Addr).add 1) fun A71 n71 c71 =>
  ldI w56 ((⟨B1, 0, Option.none⟩ : Addr).add 2) .i64 fun x72 =>
  ldB w56 ((⟨B1, 0, Option.none⟩ : Addr).add 3) fun b73 =>
  stW w56 (⟨B3, 0, Option.none⟩ : Addr) (.slice A70 n70 c70) fun w74 =>
  stW w74 ((⟨B3, 0, Option.none⟩ : Addr).add 1) (.slice A71 n71 c71) fun w75 =>
  stW w75 ((⟨B3, 0, Option.none⟩ : Addr).add 2) (.int .i64 x72) fun w76 =>
  stW w76 ((⟨B3, 0, Option.none⟩ : Addr).add 3) (.bool b73) fun w77 =>
  ldS w77 (⟨B3, 0, Option.none⟩ : Addr) fun A78 n78 c78 =>
  ldS w77 ((⟨B3, 0, Option.none⟩ : Addr).add 1) fun A79 n79 c79 =>
  ldI w77 ((⟨B3, 0, Option.none⟩ : Addr).add 2) .i64 fun x80 =>
  ldB w77 ((⟨B3, 0, Option.none⟩ : Addr).add 3) fun b81 =>
  Q (.returned (.tuple #[.agg #[.slice A78 n78 c78, .slice A79 n79 c79, .int .i64 x80, .bool b81], .int .i64 (0 : Int)])) w77))))))
def D : Nat → Option DH := dtab []
def tb : List (List Nat × Spec) := []
theorem wp_eq (Aa0_0 : Option Addr) (na0_0 : Nat) (ca0_0 : Nat) (Aa0_1 : Option Addr) (na0_1 : Nat) (ca0_1 : Nat) (xa0_2 : Int) (ba0_3 : Bool) (w : World) (Q : Ending → World → Prop) :
    wp Aa0_0 na0_0 ca0_0 Aa0_1 na0_1 ca0_1 xa0_2 ba0_3 w Q = codeW Try.prog hT 30 D (tab tb) [] body (topQ Try.prog hT 30 [.cell 2 28, .tmp 3] Q) (argsF [.agg #[.slice Aa0_0 na0_0 ca0_0, .slice Aa0_1 na0_1 ca0_1, .int .i64 xa0_2, .bool ba0_3]]) w := by cases ba0_3 <;> kernel_rfl
theorem ok (Aa0_0 : Option Addr) (na0_0 : Nat) (ca0_0 : Nat) (Aa0_1 : Option Addr) (na0_1 : Nat) (ca0_1 : Nat) (xa0_2 : Int) (ba0_3 : Bool) (w : World) (Q : Ending → World → Prop) (h : wp Aa0_0 na0_0 ca0_0 Aa0_1 na0_1 ca0_1 xa0_2 ba0_3 w Q) : Calls Try.prog 48 #[.agg #[.slice Aa0_0 na0_0 ca0_0, .slice Aa0_1 na0_1 ca0_1, .int .i64 xa0_2, .bool ba0_3]] w Q := by
  rw [wp_eq] at h
  exact calls_of_codeW (c := body) (rs := [.cell 2 28, .tmp 3]) Try.func48 (by kernel_rfl) (by kernel_rfl) (by kernel_rfl) (by kernel_rfl) (by kernel_rfl) (tab_snd (by
    intro x hx
    simp only [tb, List.not_mem_nil] at hx
    )) (by kernel_rfl) h
end f_ref07_Sync
namespace f_ref07_On
/-! skein/skeinref07.On: function 49 -/
noncomputable def body : Code := (Try.f49.body).getD .skip
def l0 : Nat → Option Addr → Nat → Nat → Addr → Option Addr → Nat → Nat → Int → World → ((Option Addr) → Nat → Nat → World → Prop) → Prop
  | 0, _, _, _, _, _, _, _, _, _, _ => False
  | k + 1, At1, nt1, ct1, at2, At5, nt5, ct5, xt6, w, K0 =>
    ldS w at2 fun A7 n7 c7 =>
    sel (decide (xt6 < (n7 : Int))) (
    ldS w at2 fun A8 n8 c8 =>
    optB A8 fun a9 =>
    req (decide (0 ≤ xt6 ∧ xt6 < (n8 : Int))) <|
    ldS w (a9.add (xt6.toNat * 3)) fun A10 n10 c10 =>
    alW w (.cells #[.slice none 0 0, .slice none 0 0, .bool false] 70) fun B11 w12 =>
    stW w12 (⟨B11, 0, Option.none⟩ : Addr) (.slice A10 n10 c10) fun w13 =>
    stW w13 ((⟨B11, 0, Option.none⟩ : Addr).add 1) (.slice none 0 0) fun w14 =>
    stW w14 ((⟨B11, 0, Option.none⟩ : Addr).add 2) (.bool false) fun w15 =>
    Calls Try.prog 35 #[.slice At1 nt1 ct1, .int .i64 xt6] w15 fun e16 w17 => ∃ (b18 : Bool), e16 = .returned (.bool b18) ∧ (
    sel b18 (
    ldS w17 at2 fun A19 n19 c19 =>
    optB A19 fun a20 =>
    req (decide (0 ≤ xt6 ∧ xt6 < (n19 : Int))) <|
    ldS w17 (a20.add (xt6.toNat * 3)) fun A21 n21 c21 =>
    ldS w17 ((a20.add (xt6.toNat * 3)).add 1) fun A22 n22 c22 =>
    ldB w17 ((a20.add (xt6.toNat * 3)).add 2) fun b23 =>
    Calls Try.prog 57 #[.agg #[.slice A21 n21 c21, .slice A22 n22 c22, .bool b23]] w17 fun e24 w25 => ∃ (A26 : Option Addr) (n26 : Nat) (c26 : Nat), e24 = .returned (.slice A26 n26 c26) ∧ (
    stW w25 (⟨B11, 0, Option.none⟩ : Addr) (.slice A26 n26 c26) fun w27 =>
    ldS w27 (⟨B11, 0, Option.none⟩ : Addr) fun A28 n28 c28 =>
    ldS w27 ((⟨B11, 0, Option.none⟩ : Addr).add 1) fun A29 n29 c29 =>
    ldB w27 ((⟨B11, 0, Option.none⟩ : Addr).add 2) fun b30 =>
    alW w27 (.cells #[.slice A28 n28 c28, .slice A29 n29 c29, .bool b30] 70) fun B31 w32 =>
    Runs Try.prog (Builtin.append_ #[25, 25] 25 #[.slice At5 nt5 ct5, .slice (some (⟨B31, 0, Option.none⟩ : Addr)) 1 1]) w32 fun v34 w33 => ∃ (A35 : Option Addr) (n35 : Nat) (c35 : Nat), v34 = (.slice A35 n35 c35) ∧ (
    l0 k At1 nt1 ct1 at2 A35 n35 c35 (IntKind.i64.wrap (xt6 + (1 : Int))) w33 K0))) (
    ldS w17 (⟨B11, 0, Option.none⟩ : Addr) fun A36 n36 c36 =>
    ldS w17 ((⟨B11, 0, Option.none⟩ : Addr).add 1) fun A37 n37 c37 =>
    ldB w17 ((⟨B11, 0, Option.none⟩ : Addr).add 2) fun b38 =>
    alW w17 (.cells #[.slice A36 n36 c36, .slice A37 n37 c37, .bool b38] 70) fun B39 w40 =>
    Runs Try.prog (Builtin.append_ #[25, 25] 25 #[.slice At5 nt5 ct5, .slice (some (⟨B39, 0, Option.none⟩ : Addr)) 1 1]) w40 fun v42 w41 => ∃ (A43 : Option Addr) (n43 : Nat) (c43 : Nat), v42 = (.slice A43 n43 c43) ∧ (
    l0 k At1 nt1 ct1 at2 A43 n43 c43 (IntKind.i64.wrap (xt6 + (1 : Int))) w41 K0)))) (
    K0 At5 nt5 ct5 w)
def wp (Aa0_0 : Option Addr) (na0_0 : Nat) (ca0_0 : Nat) (Aa0_1 : Option Addr) (na0_1 : Nat) (ca0_1 : Nat) (xa0_2 : Int) (ba0_3 : Bool) (Aa1 : Option Addr) (na1 : Nat) (ca1 : Nat) (w : World) (Q : Ending → World → Prop) : Prop :=
  alW w (.cells #[.slice Aa0_0 na0_0 ca0_0, .slice Aa0_1 na0_1 ca0_1, .int .i64 xa0_2, .bool ba0_3] 28) fun B1 w2 =>
  alW w2 (.cells #[.slice none 0 0, .slice none 0 0, .int .i64 (0 : Int), .bool false] 28) fun B3 w4 =>
  alW w4 (.cells #[] 70) fun B5 w6 =>
  ∃ k60 : Nat, l0 k60 Aa1 na1 ca1 (⟨B1, 0, Option.none⟩ : Addr) (some (⟨B5, 0, Option.none⟩ : Addr)) 0 0 (0 : Int) w6 (fun (A44 : Option Addr) (n44 : Nat) (c44 : Nat) (w45 : World) => ∀ _ : Fr,
  stW w45 (⟨B1, 0, Option.none⟩ : Addr) (.slice A44 n44 c44) fun w46 =>
  stW w46 ((⟨B1, 0, Option.none⟩ : Addr).add 3) (.bool false) fun w47 =>
  ldS w47 (⟨B1, 0, Option.none⟩ : Addr) fun A48 n48 c48 =>
  ldS w47 ((⟨B1, 0, Option.none⟩ : Addr).add 1) fun A49 n49 c49 =>
  ldI w47 ((⟨B1, 0, Option.none⟩ : Addr).add 2) .i64 fun x50 =>
  ldB w47 ((⟨B1, 0, Option.none⟩ : Addr).add 3) fun b51 =>
  stW w47 (⟨B3, 0, Option.none⟩ : Addr) (.slice A48 n48 c48) fun w52 =>
  stW w52 ((⟨B3, 0, Option.none⟩ : Addr).add 1) (.slice A49 n49 c49) fun w53 =>
  stW w53 ((⟨B3, 0, Option.none⟩ : Addr).add 2) (.int .i64 x50) fun w54 =>
  stW w54 ((⟨B3, 0, Option.none⟩ : Addr).add 3) (.bool b51) fun w55 =>
  ldS w55 (⟨B3, 0, Option.none⟩ : Addr) fun A56 n56 c56 =>
  ldS w55 ((⟨B3, 0, Option.none⟩ : Addr).add 1) fun A57 n57 c57 =>
  ldI w55 ((⟨B3, 0, Option.none⟩ : Addr).add 2) .i64 fun x58 =>
  ldB w55 ((⟨B3, 0, Option.none⟩ : Addr).add 3) fun b59 =>
  Q (.returned (.agg #[.slice A56 n56 c56, .slice A57 n57 c57, .int .i64 x58, .bool b59])) w55)
def D : Nat → Option DH := dtab []
def l0LO : LO := ⟨[], [], [(0, [2, 4, 5])], []⟩
def l0Tk (k : Nat) : Spec := fun Q σ w =>
  gSlice (σ 1) fun At1 nt1 ct1 =>
  gAd (σ 2) fun at2 =>
  gSlice (σ 5) fun At5 nt5 ct5 =>
  gInt .i64 (σ 6) fun xt6 =>
  l0 k At1 nt1 ct1 at2 At5 nt5 ct5 xt6 w (fun (Aq5 : Option Addr) (nq5 : Nat) (cq5 : Nat) (w : World) => ∀ d : Fr, Q (.exit 0) (ov d [(2, .pointer (some at2)), (4, σ 4), (5, .slice Aq5 nq5 cq5)]) w)
def l0T : Spec := fun Q σ w => ∃ k, l0Tk k Q σ w
def l0tb : List (List Nat × Spec) := []
noncomputable def l0b : Code := (subC [0, 0, 1, 0, 1, 1] body).getD .skip
theorem l0_eq (k : Nat) (At1 : Option Addr) (nt1 : Nat) (ct1 : Nat) (at2 : Addr) (At5 : Option Addr) (nt5 : Nat) (ct5 : Nat) (xt6 : Int) (Q : PQ) (σ : Fr) (w : World) :
    l0 (k + 1) At1 nt1 ct1 at2 At5 nt5 ct5 xt6 w (fun (Aq5 : Option Addr) (nq5 : Nat) (cq5 : Nat) (w : World) => ∀ d : Fr, Q (.exit 0) (ov d [(2, .pointer (some at2)), (4, σ 4), (5, .slice Aq5 nq5 cq5)]) w) = codeW Try.prog hT 41 D (tab l0tb) [0, 0, 1, 0, 1, 1] l0b (thenQ (l0Tk k Q) (widen l0LO Q)) (ov σ [(1, .slice At1 nt1 ct1), (2, .pointer (some at2)), (5, .slice At5 nt5 ct5), (6, .int .i64 xt6)]) w := by kernel_rfl
theorem l0_snd : ∀ c, subC [0, 1, 0, 1, 1] body = some c → Snd Try.prog 41 c l0T := by
  refine loop_of (hT := hT) (D := D) (l := l0tb) (b := l0b) (lo := l0LO) (by kernel_rfl) (by
    intro x hx
    simp only [l0tb, List.not_mem_nil] at hx
    ) (by kernel_rfl) (by kernel_rfl) ?_ ?_
  · intro Q σ w h
    unfold l0Tk at h
    obtain ⟨At1, nt1, ct1, h1, hn⟩ := gSlice_elim h
    clear h
    have h := hn
    clear hn
    obtain ⟨at2, h2, hn⟩ := gAd_elim h
    clear h
    have h := hn
    clear hn
    obtain ⟨At5, nt5, ct5, h5, hn⟩ := gSlice_elim h
    clear h
    have h := hn
    clear hn
    obtain ⟨xt6, h6, hn⟩ := gInt_elim h
    clear h
    have h := hn
    clear hn
    exact h
  · intro k Q σ w h
    unfold l0Tk at h
    obtain ⟨At1, nt1, ct1, h1, hn⟩ := gSlice_elim h
    clear h
    have h := hn
    clear hn
    obtain ⟨at2, h2, hn⟩ := gAd_elim h
    clear h
    have h := hn
    clear hn
    obtain ⟨At5, nt5, ct5, h5, hn⟩ := gSlice_elim h
    clear h
    have h := hn
    clear hn
    obtain ⟨xt6, h6, hn⟩ := gInt_elim h
    clear h
    have h := hn
    clear hn
    rw [l0_eq (σ := σ)] at h
    have e : (ov σ [(1, .slice At1 nt1 ct1), (2, .pointer (some at2)), (5, .slice At5 nt5 ct5), (6, .int .i64 xt6)]) = σ := ov_self (by simp [h1, h2, h5, h6])
    rw [e] at h
    exact h
def tb : List (List Nat × Spec) := [([0, 1, 0, 1, 1], l0T)]
theorem wp_eq (Aa0_0 : Option Addr) (na0_0 : Nat) (ca0_0 : Nat) (Aa0_1 : Option Addr) (na0_1 : Nat) (ca0_1 : Nat) (xa0_2 : Int) (ba0_3 : Bool) (Aa1 : Option Addr) (na1 : Nat) (ca1 : Nat) (w : World) (Q : Ending → World → Prop) :
    wp Aa0_0 na0_0 ca0_0 Aa0_1 na0_1 ca0_1 xa0_2 ba0_3 Aa1 na1 ca1 w Q = codeW Try.prog hT 41 D (tab tb) [] body (topQ Try.prog hT 41 [.cell 4 28] Q) (argsF [.agg #[.slice Aa0_0 na0_0 ca0_0, .slice Aa0_1 na0_1 ca0_1, .int .i64 xa0_2, .bool ba0_3], .slice Aa1 na1 ca1]) w := by cases ba0_3 <;> kernel_rfl
theorem ok (Aa0_0 : Option Addr) (na0_0 : Nat) (ca0_0 : Nat) (Aa0_1 : Option Addr) (na0_1 : Nat) (ca0_1 : Nat) (xa0_2 : Int) (ba0_3 : Bool) (Aa1 : Option Addr) (na1 : Nat) (ca1 : Nat) (w : World) (Q : Ending → World → Prop) (h : wp Aa0_0 na0_0 ca0_0 Aa0_1 na0_1 ca0_1 xa0_2 ba0_3 Aa1 na1 ca1 w Q) : Calls Try.prog 49 #[.agg #[.slice Aa0_0 na0_0 ca0_0, .slice Aa0_1 na0_1 ca0_1, .int .i64 xa0_2, .bool ba0_3], .slice Aa1 na1 ca1] w Q := by
  rw [wp_eq] at h
  exact calls_of_codeW (c := body) (rs := [.cell 4 28]) Try.func49 (by kernel_rfl) (by kernel_rfl) (by kernel_rfl) (by kernel_rfl) (by kernel_rfl) (tab_snd (by
    intro x hx
    simp only [tb, List.mem_cons, List.not_mem_nil, or_false] at hx
    subst hx
    exact l0_snd)) (by kernel_rfl) h
end f_ref07_On
namespace f_ref07_Loose
/-! skein/skeinref07.Loose: function 50 -/
noncomputable def body : Code := (Try.f50.body).getD .skip
def l0 : Nat → Addr → Option Addr → Nat → Nat → Int → World → ((Option Addr) → Nat → Nat → World → Prop) → Prop
  | 0, _, _, _, _, _, _, _ => False
  | k + 1, at1, At3, nt3, ct3, xt4, w, K0 =>
    ldS w at1 fun A5 n5 c5 =>
    sel (decide (xt4 < (n5 : Int))) (
    ldS w at1 fun A6 n6 c6 =>
    optB A6 fun a7 =>
    req (decide (0 ≤ xt4 ∧ xt4 < (n6 : Int))) <|
    ldB w ((a7.add (xt4.toNat * 3)).add 2) fun b8 =>
    sel b8 (
    alW w (.cells #[.int .i64 xt4] 3) fun B9 w10 =>
    Runs Try.prog (Builtin.append_ #[31, 31] 31 #[.slice At3 nt3 ct3, .slice (some (⟨B9, 0, Option.none⟩ : Addr)) 1 1]) w10 fun v12 w11 => ∃ (A13 : Option Addr) (n13 : Nat) (c13 : Nat), v12 = (.slice A13 n13 c13) ∧ (
    l0 k at1 A13 n13 c13 (IntKind.i64.wrap (xt4 + (1 : Int))) w11 K0)) (
    l0 k at1 At3 nt3 ct3 (IntKind.i64.wrap (xt4 + (1 : Int))) w K0)) (
    K0 At3 nt3 ct3 w)
def wp (Aa0_0 : Option Addr) (na0_0 : Nat) (ca0_0 : Nat) (Aa0_1 : Option Addr) (na0_1 : Nat) (ca0_1 : Nat) (xa0_2 : Int) (ba0_3 : Bool) (w : World) (Q : Ending → World → Prop) : Prop :=
  alW w (.cells #[.slice Aa0_0 na0_0 ca0_0, .slice Aa0_1 na0_1 ca0_1, .int .i64 xa0_2, .bool ba0_3] 28) fun B1 w2 =>
  alW w2 (.cells #[] 3) fun B3 w4 =>
  ∃ k16 : Nat, l0 k16 (⟨B1, 0, Option.none⟩ : Addr) (some (⟨B3, 0, Option.none⟩ : Addr)) 0 0 (0 : Int) w4 (fun (A14 : Option Addr) (n14 : Nat) (c14 : Nat) (w15 : World) => ∀ _ : Fr,
  Q (.returned (.slice A14 n14 c14)) w15)
def D : Nat → Option DH := dtab []
def l0LO : LO := ⟨[], [], [(0, [3])], []⟩
def l0Tk (k : Nat) : Spec := fun Q σ w =>
  gAd (σ 1) fun at1 =>
  gSlice (σ 3) fun At3 nt3 ct3 =>
  gInt .i64 (σ 4) fun xt4 =>
  l0 k at1 At3 nt3 ct3 xt4 w (fun (Aq3 : Option Addr) (nq3 : Nat) (cq3 : Nat) (w : World) => ∀ d : Fr, Q (.exit 0) (ov d [(3, .slice Aq3 nq3 cq3)]) w)
def l0T : Spec := fun Q σ w => ∃ k, l0Tk k Q σ w
def l0tb : List (List Nat × Spec) := []
noncomputable def l0b : Code := (subC [0, 0, 1, 0, 1, 1] body).getD .skip
theorem l0_eq (k : Nat) (at1 : Addr) (At3 : Option Addr) (nt3 : Nat) (ct3 : Nat) (xt4 : Int) (Q : PQ) (σ : Fr) (w : World) :
    l0 (k + 1) at1 At3 nt3 ct3 xt4 w (fun (Aq3 : Option Addr) (nq3 : Nat) (cq3 : Nat) (w : World) => ∀ d : Fr, Q (.exit 0) (ov d [(3, .slice Aq3 nq3 cq3)]) w) = codeW Try.prog hT 24 D (tab l0tb) [0, 0, 1, 0, 1, 1] l0b (thenQ (l0Tk k Q) (widen l0LO Q)) (ov σ [(1, .pointer (some at1)), (3, .slice At3 nt3 ct3), (4, .int .i64 xt4)]) w := by kernel_rfl
theorem l0_snd : ∀ c, subC [0, 1, 0, 1, 1] body = some c → Snd Try.prog 24 c l0T := by
  refine loop_of (hT := hT) (D := D) (l := l0tb) (b := l0b) (lo := l0LO) (by kernel_rfl) (by
    intro x hx
    simp only [l0tb, List.not_mem_nil] at hx
    ) (by kernel_rfl) (by kernel_rfl) ?_ ?_
  · intro Q σ w h
    unfold l0Tk at h
    obtain ⟨at1, h1, hn⟩ := gAd_elim h
    clear h
    have h := hn
    clear hn
    obtain ⟨At3, nt3, ct3, h3, hn⟩ := gSlice_elim h
    clear h
    have h := hn
    clear hn
    obtain ⟨xt4, h4, hn⟩ := gInt_elim h
    clear h
    have h := hn
    clear hn
    exact h
  · intro k Q σ w h
    unfold l0Tk at h
    obtain ⟨at1, h1, hn⟩ := gAd_elim h
    clear h
    have h := hn
    clear hn
    obtain ⟨At3, nt3, ct3, h3, hn⟩ := gSlice_elim h
    clear h
    have h := hn
    clear hn
    obtain ⟨xt4, h4, hn⟩ := gInt_elim h
    clear h
    have h := hn
    clear hn
    rw [l0_eq (σ := σ)] at h
    have e : (ov σ [(1, .pointer (some at1)), (3, .slice At3 nt3 ct3), (4, .int .i64 xt4)]) = σ := ov_self (by simp [h1, h3, h4])
    rw [e] at h
    exact h
def tb : List (List Nat × Spec) := [([0, 1, 0, 1, 1], l0T)]
theorem wp_eq (Aa0_0 : Option Addr) (na0_0 : Nat) (ca0_0 : Nat) (Aa0_1 : Option Addr) (na0_1 : Nat) (ca0_1 : Nat) (xa0_2 : Int) (ba0_3 : Bool) (w : World) (Q : Ending → World → Prop) :
    wp Aa0_0 na0_0 ca0_0 Aa0_1 na0_1 ca0_1 xa0_2 ba0_3 w Q = codeW Try.prog hT 24 D (tab tb) [] body (topQ Try.prog hT 24 [.tmp 2] Q) (argsF [.agg #[.slice Aa0_0 na0_0 ca0_0, .slice Aa0_1 na0_1 ca0_1, .int .i64 xa0_2, .bool ba0_3]]) w := by cases ba0_3 <;> kernel_rfl
theorem ok (Aa0_0 : Option Addr) (na0_0 : Nat) (ca0_0 : Nat) (Aa0_1 : Option Addr) (na0_1 : Nat) (ca0_1 : Nat) (xa0_2 : Int) (ba0_3 : Bool) (w : World) (Q : Ending → World → Prop) (h : wp Aa0_0 na0_0 ca0_0 Aa0_1 na0_1 ca0_1 xa0_2 ba0_3 w Q) : Calls Try.prog 50 #[.agg #[.slice Aa0_0 na0_0 ca0_0, .slice Aa0_1 na0_1 ca0_1, .int .i64 xa0_2, .bool ba0_3]] w Q := by
  rw [wp_eq] at h
  exact calls_of_codeW (c := body) (rs := [.tmp 2]) Try.func50 (by kernel_rfl) (by kernel_rfl) (by kernel_rfl) (by kernel_rfl) (by kernel_rfl) (tab_snd (by
    intro x hx
    simp only [tb, List.mem_cons, List.not_mem_nil, or_false] at hx
    subst hx
    exact l0_snd)) (by kernel_rfl) h
end f_ref07_Loose
namespace f_ref07_All
/-! skein/skeinref07.All: function 51 -/
noncomputable def body : Code := (Try.f51.body).getD .skip
def l1 : Nat → Option Addr → Nat → Nat → Option Addr → Nat → Nat → Int → World → ((Option Addr) → Nat → Nat → World → Prop) → Prop
  | 0, _, _, _, _, _, _, _, _, _ => False
  | k + 1, At3, nt3, ct3, At5, nt5, ct5, xt6, w, K2 =>
    sel (decide (xt6 < (nt5 : Int))) (
    optB At5 fun a14 =>
    req (decide (0 ≤ xt6 ∧ xt6 < (nt5 : Int))) <|
    ldI w (a14.add (xt6.toNat * 1)) .u8 fun x15 =>
    alW w (.cells #[.int .u8 x15] 5) fun B16 w17 =>
    Runs Try.prog (Builtin.append_ #[35, 35] 35 #[.slice At3 nt3 ct3, .slice (some (⟨B16, 0, Option.none⟩ : Addr)) 1 1]) w17 fun v19 w18 => ∃ (A20 : Option Addr) (n20 : Nat) (c20 : Nat), v19 = (.slice A20 n20 c20) ∧ (
    l1 k A20 n20 c20 At5 nt5 ct5 (IntKind.i64.wrap (xt6 + (1 : Int))) w18 K2)) (
    K2 At3 nt3 ct3 w)
def l0 : Nat → Addr → Option Addr → Nat → Nat → Int → World → ((Option Addr) → Nat → Nat → World → Prop) → Prop
  | 0, _, _, _, _, _, _, _ => False
  | k + 1, at1, At3, nt3, ct3, xt4, w, K0 =>
    ldS w at1 fun A5 n5 c5 =>
    sel (decide (xt4 < (n5 : Int))) (
    ldS w at1 fun A6 n6 c6 =>
    optB A6 fun a7 =>
    req (decide (0 ≤ xt4 ∧ xt4 < (n6 : Int))) <|
    ldS w (a7.add (xt4.toNat * 3)) fun A8 n8 c8 =>
    ldS w ((a7.add (xt4.toNat * 3)).add 1) fun A9 n9 c9 =>
    ldB w ((a7.add (xt4.toNat * 3)).add 2) fun b10 =>
    Calls Try.prog 57 #[.agg #[.slice A8 n8 c8, .slice A9 n9 c9, .bool b10]] w fun e11 w12 => ∃ (A13 : Option Addr) (n13 : Nat) (c13 : Nat), e11 = .returned (.slice A13 n13 c13) ∧ (
    ∃ k23 : Nat, l1 k23 At3 nt3 ct3 A13 n13 c13 (0 : Int) w12 (fun (A21 : Option Addr) (n21 : Nat) (c21 : Nat) (w22 : World) => ∀ _ : Fr,
    l0 k at1 A21 n21 c21 (IntKind.i64.wrap (xt4 + (1 : Int))) w22 K0))) (
    K0 At3 nt3 ct3 w)
def wp (Aa0_0 : Option Addr) (na0_0 : Nat) (ca0_0 : Nat) (Aa0_1 : Option Addr) (na0_1 : Nat) (ca0_1 : Nat) (xa0_2 : Int) (ba0_3 : Bool) (w : World) (Q : Ending → World → Prop) : Prop :=
  alW w (.cells #[.slice Aa0_0 na0_0 ca0_0, .slice Aa0_1 na0_1 ca0_1, .int .i64 xa0_2, .bool ba0_3] 28) fun B1 w2 =>
  alW w2 (.cells #[] 5) fun B3 w4 =>
  ∃ k26 : Nat, l0 k26 (⟨B1, 0, Option.none⟩ : Addr) (some (⟨B3, 0, Option.none⟩ : Addr)) 0 0 (0 : Int) w4 (fun (A24 : Option Addr) (n24 : Nat) (c24 : Nat) (w25 : World) => ∀ _ : Fr,
  Q (.returned (.slice A24 n24 c24)) w25)
def D : Nat → Option DH := dtab []
def l1LO : LO := ⟨[], [], [(2, [1, 3, 4])], []⟩
def l1Tk (k : Nat) : Spec := fun Q σ w =>
  gSlice (σ 3) fun At3 nt3 ct3 =>
  gSlice (σ 5) fun At5 nt5 ct5 =>
  gInt .i64 (σ 6) fun xt6 =>
  l1 k At3 nt3 ct3 At5 nt5 ct5 xt6 w (fun (Aq3 : Option Addr) (nq3 : Nat) (cq3 : Nat) (w : World) => ∀ d : Fr, Q (.exit 2) (ov d [(1, σ 1), (3, .slice Aq3 nq3 cq3), (4, σ 4)]) w)
def l1T : Spec := fun Q σ w => ∃ k, l1Tk k Q σ w
def l1tb : List (List Nat × Spec) := []
noncomputable def l1b : Code := (subC [0, 0, 1, 1, 0, 0, 1, 0, 0, 1, 0, 1, 1] body).getD .skip
theorem l1_eq (k : Nat) (At3 : Option Addr) (nt3 : Nat) (ct3 : Nat) (At5 : Option Addr) (nt5 : Nat) (ct5 : Nat) (xt6 : Int) (Q : PQ) (σ : Fr) (w : World) :
    l1 (k + 1) At3 nt3 ct3 At5 nt5 ct5 xt6 w (fun (Aq3 : Option Addr) (nq3 : Nat) (cq3 : Nat) (w : World) => ∀ d : Fr, Q (.exit 2) (ov d [(1, σ 1), (3, .slice Aq3 nq3 cq3), (4, σ 4)]) w) = codeW Try.prog hT 35 D (tab l1tb) [0, 0, 1, 1, 0, 0, 1, 0, 0, 1, 0, 1, 1] l1b (thenQ (l1Tk k Q) (widen l1LO Q)) (ov σ [(3, .slice At3 nt3 ct3), (5, .slice At5 nt5 ct5), (6, .int .i64 xt6)]) w := by kernel_rfl
theorem l1_snd : ∀ c, subC [0, 1, 1, 0, 0, 1, 0, 0, 1, 0, 1, 1] body = some c → Snd Try.prog 35 c l1T := by
  refine loop_of (hT := hT) (D := D) (l := l1tb) (b := l1b) (lo := l1LO) (by kernel_rfl) (by
    intro x hx
    simp only [l1tb, List.not_mem_nil] at hx
    ) (by kernel_rfl) (by kernel_rfl) ?_ ?_
  · intro Q σ w h
    unfold l1Tk at h
    obtain ⟨At3, nt3, ct3, h3, hn⟩ := gSlice_elim h
    clear h
    have h := hn
    clear hn
    obtain ⟨At5, nt5, ct5, h5, hn⟩ := gSlice_elim h
    clear h
    have h := hn
    clear hn
    obtain ⟨xt6, h6, hn⟩ := gInt_elim h
    clear h
    have h := hn
    clear hn
    exact h
  · intro k Q σ w h
    unfold l1Tk at h
    obtain ⟨At3, nt3, ct3, h3, hn⟩ := gSlice_elim h
    clear h
    have h := hn
    clear hn
    obtain ⟨At5, nt5, ct5, h5, hn⟩ := gSlice_elim h
    clear h
    have h := hn
    clear hn
    obtain ⟨xt6, h6, hn⟩ := gInt_elim h
    clear h
    have h := hn
    clear hn
    rw [l1_eq (σ := σ)] at h
    have e : (ov σ [(3, .slice At3 nt3 ct3), (5, .slice At5 nt5 ct5), (6, .int .i64 xt6)]) = σ := ov_self (by simp [h3, h5, h6])
    rw [e] at h
    exact h
def l0LO : LO := ⟨[], [], [(0, [3])], []⟩
def l0Tk (k : Nat) : Spec := fun Q σ w =>
  gAd (σ 1) fun at1 =>
  gSlice (σ 3) fun At3 nt3 ct3 =>
  gInt .i64 (σ 4) fun xt4 =>
  l0 k at1 At3 nt3 ct3 xt4 w (fun (Aq3 : Option Addr) (nq3 : Nat) (cq3 : Nat) (w : World) => ∀ d : Fr, Q (.exit 0) (ov d [(3, .slice Aq3 nq3 cq3)]) w)
def l0T : Spec := fun Q σ w => ∃ k, l0Tk k Q σ w
def l0tb : List (List Nat × Spec) := [([0, 1, 1, 0, 0, 1, 0, 0, 1, 0, 1, 1], l1T)]
noncomputable def l0b : Code := (subC [0, 0, 1, 0, 1, 1] body).getD .skip
theorem l0_eq (k : Nat) (at1 : Addr) (At3 : Option Addr) (nt3 : Nat) (ct3 : Nat) (xt4 : Int) (Q : PQ) (σ : Fr) (w : World) :
    l0 (k + 1) at1 At3 nt3 ct3 xt4 w (fun (Aq3 : Option Addr) (nq3 : Nat) (cq3 : Nat) (w : World) => ∀ d : Fr, Q (.exit 0) (ov d [(3, .slice Aq3 nq3 cq3)]) w) = codeW Try.prog hT 35 D (tab l0tb) [0, 0, 1, 0, 1, 1] l0b (thenQ (l0Tk k Q) (widen l0LO Q)) (ov σ [(1, .pointer (some at1)), (3, .slice At3 nt3 ct3), (4, .int .i64 xt4)]) w := by kernel_rfl
theorem l0_snd : ∀ c, subC [0, 1, 0, 1, 1] body = some c → Snd Try.prog 35 c l0T := by
  refine loop_of (hT := hT) (D := D) (l := l0tb) (b := l0b) (lo := l0LO) (by kernel_rfl) (by
    intro x hx
    simp only [l0tb, List.mem_cons, List.not_mem_nil, or_false] at hx
    subst hx
    exact l1_snd) (by kernel_rfl) (by kernel_rfl) ?_ ?_
  · intro Q σ w h
    unfold l0Tk at h
    obtain ⟨at1, h1, hn⟩ := gAd_elim h
    clear h
    have h := hn
    clear hn
    obtain ⟨At3, nt3, ct3, h3, hn⟩ := gSlice_elim h
    clear h
    have h := hn
    clear hn
    obtain ⟨xt4, h4, hn⟩ := gInt_elim h
    clear h
    have h := hn
    clear hn
    exact h
  · intro k Q σ w h
    unfold l0Tk at h
    obtain ⟨at1, h1, hn⟩ := gAd_elim h
    clear h
    have h := hn
    clear hn
    obtain ⟨At3, nt3, ct3, h3, hn⟩ := gSlice_elim h
    clear h
    have h := hn
    clear hn
    obtain ⟨xt4, h4, hn⟩ := gInt_elim h
    clear h
    have h := hn
    clear hn
    rw [l0_eq (σ := σ)] at h
    have e : (ov σ [(1, .pointer (some at1)), (3, .slice At3 nt3 ct3), (4, .int .i64 xt4)]) = σ := ov_self (by simp [h1, h3, h4])
    rw [e] at h
    exact h
def tb : List (List Nat × Spec) := [([0, 1, 1, 0, 0, 1, 0, 0, 1, 0, 1, 1], l1T), ([0, 1, 0, 1, 1], l0T)]
theorem wp_eq (Aa0_0 : Option Addr) (na0_0 : Nat) (ca0_0 : Nat) (Aa0_1 : Option Addr) (na0_1 : Nat) (ca0_1 : Nat) (xa0_2 : Int) (ba0_3 : Bool) (w : World) (Q : Ending → World → Prop) :
    wp Aa0_0 na0_0 ca0_0 Aa0_1 na0_1 ca0_1 xa0_2 ba0_3 w Q = codeW Try.prog hT 35 D (tab tb) [] body (topQ Try.prog hT 35 [.tmp 2] Q) (argsF [.agg #[.slice Aa0_0 na0_0 ca0_0, .slice Aa0_1 na0_1 ca0_1, .int .i64 xa0_2, .bool ba0_3]]) w := by cases ba0_3 <;> kernel_rfl
theorem ok (Aa0_0 : Option Addr) (na0_0 : Nat) (ca0_0 : Nat) (Aa0_1 : Option Addr) (na0_1 : Nat) (ca0_1 : Nat) (xa0_2 : Int) (ba0_3 : Bool) (w : World) (Q : Ending → World → Prop) (h : wp Aa0_0 na0_0 ca0_0 Aa0_1 na0_1 ca0_1 xa0_2 ba0_3 w Q) : Calls Try.prog 51 #[.agg #[.slice Aa0_0 na0_0 ca0_0, .slice Aa0_1 na0_1 ca0_1, .int .i64 xa0_2, .bool ba0_3]] w Q := by
  rw [wp_eq] at h
  exact calls_of_codeW (c := body) (rs := [.tmp 2]) Try.func51 (by kernel_rfl) (by kernel_rfl) (by kernel_rfl) (by kernel_rfl) (by kernel_rfl) (tab_snd (by
    intro x hx
    simp only [tb, List.mem_cons, List.not_mem_nil, or_false] at hx
    rcases hx with rfl | rfl
    · exact l1_snd
    · exact l0_snd)) (by kernel_rfl) h
end f_ref07_All
namespace f_ref07_Safe
/-! skein/skeinref07.Safe: function 52 -/
noncomputable def body : Code := (Try.f52.body).getD .skip
def l1 : Nat → Option Addr → Nat → Nat → Option Addr → Nat → Nat → Int → World → ((Option Addr) → Nat → Nat → World → Prop) → Prop
  | 0, _, _, _, _, _, _, _, _, _ => False
  | k + 1, At3, nt3, ct3, At5, nt5, ct5, xt6, w, K2 =>
    sel (decide (xt6 < (nt5 : Int))) (
    optB At5 fun a9 =>
    req (decide (0 ≤ xt6 ∧ xt6 < (nt5 : Int))) <|
    ldI w (a9.add (xt6.toNat * 1)) .u8 fun x10 =>
    alW w (.cells #[.int .u8 x10] 5) fun B11 w12 =>
    Runs Try.prog (Builtin.append_ #[35, 35] 35 #[.slice At3 nt3 ct3, .slice (some (⟨B11, 0, Option.none⟩ : Addr)) 1 1]) w12 fun v14 w13 => ∃ (A15 : Option Addr) (n15 : Nat) (c15 : Nat), v14 = (.slice A15 n15 c15) ∧ (
    l1 k A15 n15 c15 At5 nt5 ct5 (IntKind.i64.wrap (xt6 + (1 : Int))) w13 K2)) (
    K2 At3 nt3 ct3 w)
def l0 : Nat → Addr → Option Addr → Nat → Nat → Int → World → ((Option Addr) → Nat → Nat → World → Prop) → Prop
  | 0, _, _, _, _, _, _, _ => False
  | k + 1, at1, At3, nt3, ct3, xt4, w, K0 =>
    ldS w at1 fun A5 n5 c5 =>
    sel (decide (xt4 < (n5 : Int))) (
    ldS w at1 fun A6 n6 c6 =>
    optB A6 fun a7 =>
    req (decide (0 ≤ xt4 ∧ xt4 < (n6 : Int))) <|
    ldS w (a7.add (xt4.toNat * 3)) fun A8 n8 c8 =>
    ∃ k18 : Nat, l1 k18 At3 nt3 ct3 A8 n8 c8 (0 : Int) w (fun (A16 : Option Addr) (n16 : Nat) (c16 : Nat) (w17 : World) => ∀ _ : Fr,
    l0 k at1 A16 n16 c16 (IntKind.i64.wrap (xt4 + (1 : Int))) w17 K0)) (
    K0 At3 nt3 ct3 w)
def wp (Aa0_0 : Option Addr) (na0_0 : Nat) (ca0_0 : Nat) (Aa0_1 : Option Addr) (na0_1 : Nat) (ca0_1 : Nat) (xa0_2 : Int) (ba0_3 : Bool) (w : World) (Q : Ending → World → Prop) : Prop :=
  alW w (.cells #[.slice Aa0_0 na0_0 ca0_0, .slice Aa0_1 na0_1 ca0_1, .int .i64 xa0_2, .bool ba0_3] 28) fun B1 w2 =>
  alW w2 (.cells #[] 5) fun B3 w4 =>
  ∃ k21 : Nat, l0 k21 (⟨B1, 0, Option.none⟩ : Addr) (some (⟨B3, 0, Option.none⟩ : Addr)) 0 0 (0 : Int) w4 (fun (A19 : Option Addr) (n19 : Nat) (c19 : Nat) (w20 : World) => ∀ _ : Fr,
  Q (.returned (.slice A19 n19 c19)) w20)
def D : Nat → Option DH := dtab []
def l1LO : LO := ⟨[], [], [(2, [1, 3, 4])], []⟩
def l1Tk (k : Nat) : Spec := fun Q σ w =>
  gSlice (σ 3) fun At3 nt3 ct3 =>
  gSlice (σ 5) fun At5 nt5 ct5 =>
  gInt .i64 (σ 6) fun xt6 =>
  l1 k At3 nt3 ct3 At5 nt5 ct5 xt6 w (fun (Aq3 : Option Addr) (nq3 : Nat) (cq3 : Nat) (w : World) => ∀ d : Fr, Q (.exit 2) (ov d [(1, σ 1), (3, .slice Aq3 nq3 cq3), (4, σ 4)]) w)
def l1T : Spec := fun Q σ w => ∃ k, l1Tk k Q σ w
def l1tb : List (List Nat × Spec) := []
noncomputable def l1b : Code := (subC [0, 0, 1, 1, 0, 0, 1, 0, 0, 1, 0, 1, 1] body).getD .skip
theorem l1_eq (k : Nat) (At3 : Option Addr) (nt3 : Nat) (ct3 : Nat) (At5 : Option Addr) (nt5 : Nat) (ct5 : Nat) (xt6 : Int) (Q : PQ) (σ : Fr) (w : World) :
    l1 (k + 1) At3 nt3 ct3 At5 nt5 ct5 xt6 w (fun (Aq3 : Option Addr) (nq3 : Nat) (cq3 : Nat) (w : World) => ∀ d : Fr, Q (.exit 2) (ov d [(1, σ 1), (3, .slice Aq3 nq3 cq3), (4, σ 4)]) w) = codeW Try.prog hT 35 D (tab l1tb) [0, 0, 1, 1, 0, 0, 1, 0, 0, 1, 0, 1, 1] l1b (thenQ (l1Tk k Q) (widen l1LO Q)) (ov σ [(3, .slice At3 nt3 ct3), (5, .slice At5 nt5 ct5), (6, .int .i64 xt6)]) w := by kernel_rfl
theorem l1_snd : ∀ c, subC [0, 1, 1, 0, 0, 1, 0, 0, 1, 0, 1, 1] body = some c → Snd Try.prog 35 c l1T := by
  refine loop_of (hT := hT) (D := D) (l := l1tb) (b := l1b) (lo := l1LO) (by kernel_rfl) (by
    intro x hx
    simp only [l1tb, List.not_mem_nil] at hx
    ) (by kernel_rfl) (by kernel_rfl) ?_ ?_
  · intro Q σ w h
    unfold l1Tk at h
    obtain ⟨At3, nt3, ct3, h3, hn⟩ := gSlice_elim h
    clear h
    have h := hn
    clear hn
    obtain ⟨At5, nt5, ct5, h5, hn⟩ := gSlice_elim h
    clear h
    have h := hn
    clear hn
    obtain ⟨xt6, h6, hn⟩ := gInt_elim h
    clear h
    have h := hn
    clear hn
    exact h
  · intro k Q σ w h
    unfold l1Tk at h
    obtain ⟨At3, nt3, ct3, h3, hn⟩ := gSlice_elim h
    clear h
    have h := hn
    clear hn
    obtain ⟨At5, nt5, ct5, h5, hn⟩ := gSlice_elim h
    clear h
    have h := hn
    clear hn
    obtain ⟨xt6, h6, hn⟩ := gInt_elim h
    clear h
    have h := hn
    clear hn
    rw [l1_eq (σ := σ)] at h
    have e : (ov σ [(3, .slice At3 nt3 ct3), (5, .slice At5 nt5 ct5), (6, .int .i64 xt6)]) = σ := ov_self (by simp [h3, h5, h6])
    rw [e] at h
    exact h
def l0LO : LO := ⟨[], [], [(0, [3])], []⟩
def l0Tk (k : Nat) : Spec := fun Q σ w =>
  gAd (σ 1) fun at1 =>
  gSlice (σ 3) fun At3 nt3 ct3 =>
  gInt .i64 (σ 4) fun xt4 =>
  l0 k at1 At3 nt3 ct3 xt4 w (fun (Aq3 : Option Addr) (nq3 : Nat) (cq3 : Nat) (w : World) => ∀ d : Fr, Q (.exit 0) (ov d [(3, .slice Aq3 nq3 cq3)]) w)
def l0T : Spec := fun Q σ w => ∃ k, l0Tk k Q σ w
def l0tb : List (List Nat × Spec) := [([0, 1, 1, 0, 0, 1, 0, 0, 1, 0, 1, 1], l1T)]
noncomputable def l0b : Code := (subC [0, 0, 1, 0, 1, 1] body).getD .skip
theorem l0_eq (k : Nat) (at1 : Addr) (At3 : Option Addr) (nt3 : Nat) (ct3 : Nat) (xt4 : Int) (Q : PQ) (σ : Fr) (w : World) :
    l0 (k + 1) at1 At3 nt3 ct3 xt4 w (fun (Aq3 : Option Addr) (nq3 : Nat) (cq3 : Nat) (w : World) => ∀ d : Fr, Q (.exit 0) (ov d [(3, .slice Aq3 nq3 cq3)]) w) = codeW Try.prog hT 35 D (tab l0tb) [0, 0, 1, 0, 1, 1] l0b (thenQ (l0Tk k Q) (widen l0LO Q)) (ov σ [(1, .pointer (some at1)), (3, .slice At3 nt3 ct3), (4, .int .i64 xt4)]) w := by kernel_rfl
theorem l0_snd : ∀ c, subC [0, 1, 0, 1, 1] body = some c → Snd Try.prog 35 c l0T := by
  refine loop_of (hT := hT) (D := D) (l := l0tb) (b := l0b) (lo := l0LO) (by kernel_rfl) (by
    intro x hx
    simp only [l0tb, List.mem_cons, List.not_mem_nil, or_false] at hx
    subst hx
    exact l1_snd) (by kernel_rfl) (by kernel_rfl) ?_ ?_
  · intro Q σ w h
    unfold l0Tk at h
    obtain ⟨at1, h1, hn⟩ := gAd_elim h
    clear h
    have h := hn
    clear hn
    obtain ⟨At3, nt3, ct3, h3, hn⟩ := gSlice_elim h
    clear h
    have h := hn
    clear hn
    obtain ⟨xt4, h4, hn⟩ := gInt_elim h
    clear h
    have h := hn
    clear hn
    exact h
  · intro k Q σ w h
    unfold l0Tk at h
    obtain ⟨at1, h1, hn⟩ := gAd_elim h
    clear h
    have h := hn
    clear hn
    obtain ⟨At3, nt3, ct3, h3, hn⟩ := gSlice_elim h
    clear h
    have h := hn
    clear hn
    obtain ⟨xt4, h4, hn⟩ := gInt_elim h
    clear h
    have h := hn
    clear hn
    rw [l0_eq (σ := σ)] at h
    have e : (ov σ [(1, .pointer (some at1)), (3, .slice At3 nt3 ct3), (4, .int .i64 xt4)]) = σ := ov_self (by simp [h1, h3, h4])
    rw [e] at h
    exact h
def tb : List (List Nat × Spec) := [([0, 1, 1, 0, 0, 1, 0, 0, 1, 0, 1, 1], l1T), ([0, 1, 0, 1, 1], l0T)]
theorem wp_eq (Aa0_0 : Option Addr) (na0_0 : Nat) (ca0_0 : Nat) (Aa0_1 : Option Addr) (na0_1 : Nat) (ca0_1 : Nat) (xa0_2 : Int) (ba0_3 : Bool) (w : World) (Q : Ending → World → Prop) :
    wp Aa0_0 na0_0 ca0_0 Aa0_1 na0_1 ca0_1 xa0_2 ba0_3 w Q = codeW Try.prog hT 35 D (tab tb) [] body (topQ Try.prog hT 35 [.tmp 2] Q) (argsF [.agg #[.slice Aa0_0 na0_0 ca0_0, .slice Aa0_1 na0_1 ca0_1, .int .i64 xa0_2, .bool ba0_3]]) w := by cases ba0_3 <;> kernel_rfl
theorem ok (Aa0_0 : Option Addr) (na0_0 : Nat) (ca0_0 : Nat) (Aa0_1 : Option Addr) (na0_1 : Nat) (ca0_1 : Nat) (xa0_2 : Int) (ba0_3 : Bool) (w : World) (Q : Ending → World → Prop) (h : wp Aa0_0 na0_0 ca0_0 Aa0_1 na0_1 ca0_1 xa0_2 ba0_3 w Q) : Calls Try.prog 52 #[.agg #[.slice Aa0_0 na0_0 ca0_0, .slice Aa0_1 na0_1 ca0_1, .int .i64 xa0_2, .bool ba0_3]] w Q := by
  rw [wp_eq] at h
  exact calls_of_codeW (c := body) (rs := [.tmp 2]) Try.func52 (by kernel_rfl) (by kernel_rfl) (by kernel_rfl) (by kernel_rfl) (by kernel_rfl) (tab_snd (by
    intro x hx
    simp only [tb, List.mem_cons, List.not_mem_nil, or_false] at hx
    rcases hx with rfl | rfl
    · exact l1_snd
    · exact l0_snd)) (by kernel_rfl) h
end f_ref07_Safe
namespace f_ref07_has
/-! skein/skeinref07.has: function 57 -/
noncomputable def body : Code := (Try.f57.body).getD .skip
def wp (Aa0_0 : Option Addr) (na0_0 : Nat) (ca0_0 : Nat) (Aa0_1 : Option Addr) (na0_1 : Nat) (ca0_1 : Nat) (ba0_2 : Bool) (w : World) (Q : Ending → World → Prop) : Prop :=
  alW w (.cells #[.slice Aa0_0 na0_0 ca0_0, .slice Aa0_1 na0_1 ca0_1, .bool ba0_2] 70) fun B1 w2 =>
  ldB w2 ((⟨B1, 0, Option.none⟩ : Addr).add 2) fun b3 =>
  sel b3 (
  ldS w2 ((⟨B1, 0, Option.none⟩ : Addr).add 1) fun A4 n4 c4 =>
  Q (.returned (.slice A4 n4 c4)) w2) (
  ldS w2 (⟨B1, 0, Option.none⟩ : Addr) fun A5 n5 c5 =>
  Q (.returned (.slice A5 n5 c5)) w2)
def D : Nat → Option DH := dtab []
def tb : List (List Nat × Spec) := []
theorem wp_eq (Aa0_0 : Option Addr) (na0_0 : Nat) (ca0_0 : Nat) (Aa0_1 : Option Addr) (na0_1 : Nat) (ca0_1 : Nat) (ba0_2 : Bool) (w : World) (Q : Ending → World → Prop) :
    wp Aa0_0 na0_0 ca0_0 Aa0_1 na0_1 ca0_1 ba0_2 w Q = codeW Try.prog hT 9 D (tab tb) [] body (topQ Try.prog hT 9 [.tmp 2] Q) (argsF [.agg #[.slice Aa0_0 na0_0 ca0_0, .slice Aa0_1 na0_1 ca0_1, .bool ba0_2]]) w := by cases ba0_2 <;> kernel_rfl
theorem ok (Aa0_0 : Option Addr) (na0_0 : Nat) (ca0_0 : Nat) (Aa0_1 : Option Addr) (na0_1 : Nat) (ca0_1 : Nat) (ba0_2 : Bool) (w : World) (Q : Ending → World → Prop) (h : wp Aa0_0 na0_0 ca0_0 Aa0_1 na0_1 ca0_1 ba0_2 w Q) : Calls Try.prog 57 #[.agg #[.slice Aa0_0 na0_0 ca0_0, .slice Aa0_1 na0_1 ca0_1, .bool ba0_2]] w Q := by
  rw [wp_eq] at h
  exact calls_of_codeW (c := body) (rs := [.tmp 2]) Try.func57 (by kernel_rfl) (by kernel_rfl) (by kernel_rfl) (by kernel_rfl) (by kernel_rfl) (tab_snd (by
    intro x hx
    simp only [tb, List.not_mem_nil] at hx
    )) (by kernel_rfl) h
end f_ref07_has
namespace f_ref07_fate
/-! skein/skeinref07.fate: function 59 -/
noncomputable def body : Code := (Try.f59.body).getD .skip
def l0 : Nat → Addr → Int → World → (World → Prop) → (Int → World → Prop) → Prop
  | 0, _, _, _, _, _ => False
  | k + 1, at1, xt3, w, K0, Kr =>
    ldS w (at1.add 1) fun A3 n3 c3 =>
    sel (decide (xt3 < (n3 : Int))) (
    drW w fun w4 =>
    ldS w4 (at1.add 1) fun A6 n6 c6 =>
    optB A6 fun a7 =>
    req (decide (0 ≤ xt3 ∧ xt3 < (n6 : Int))) <|
    ldI w4 (a7.add (xt3.toNat * 2)) .i64 fun x8 =>
    ldI w4 (at1.add 2) .i64 fun x9 =>
    sel (x8 == x9) (
    ldS w4 (at1.add 1) fun A10 n10 c10 =>
    optB A10 fun a11 =>
    req (decide (0 ≤ xt3 ∧ xt3 < (n10 : Int))) <|
    ldI w4 ((a11.add (xt3.toNat * 2)).add 1) .i64 fun x12 =>
    sel (decide (x12 ≥ (1 : Int))) (
    ldS w4 (at1.add 1) fun A13 n13 c13 =>
    optB A13 fun a14 =>
    req (decide (0 ≤ xt3 ∧ xt3 < (n13 : Int))) <|
    ldI w4 ((a14.add (xt3.toNat * 2)).add 1) .i64 fun x15 =>
    sel (decide (x15 ≤ (3 : Int))) (
    ldS w4 (at1.add 1) fun A16 n16 c16 =>
    optB A16 fun a17 =>
    req (decide (0 ≤ xt3 ∧ xt3 < (n16 : Int))) <|
    ldI w4 ((a17.add (xt3.toNat * 2)).add 1) .i64 fun x18 =>
    Kr x18 w4) (
    l0 k at1 (IntKind.i64.wrap (xt3 + (1 : Int))) w4 K0 Kr)) (
    l0 k at1 (IntKind.i64.wrap (xt3 + (1 : Int))) w4 K0 Kr)) (
    l0 k at1 (IntKind.i64.wrap (xt3 + (1 : Int))) w4 K0 Kr)) (
    K0  w)
def wp (Aa0_0 : Option Addr) (na0_0 : Nat) (ca0_0 : Nat) (Aa0_1 : Option Addr) (na0_1 : Nat) (ca0_1 : Nat) (xa0_2 : Int) (ba0_3 : Bool) (w : World) (Q : Ending → World → Prop) : Prop :=
  alW w (.cells #[.slice Aa0_0 na0_0 ca0_0, .slice Aa0_1 na0_1 ca0_1, .int .i64 xa0_2, .bool ba0_3] 28) fun B1 w2 =>
  ∃ k22 : Nat, l0 k22 (⟨B1, 0, Option.none⟩ : Addr) (0 : Int) w2 (fun (w19 : World) => ∀ _ : Fr,
  Q (.returned (.int .i64 (0 : Int))) w19) (fun (x20 : Int) (w21 : World) => ∀ _ : Fr,
  Q (.returned (.int .i64 x20)) w21)
def D : Nat → Option DH := dtab [(4, .simple [.fst 0, .fst 1, .fst 2, .fst 3, .fst 4, .fst 5, .fst 6, .fst 7, .fst 8, .fst 9, .fst 10, .fst 11, .fst 12, .fst 13, .fst 14, .fst 15, .fst 16, .fst 17, .fst 18, .fst 19, .fst 20, .fst 21, .fst 22, .fst 23, .fst 24] [.fst 25, .fst 26])]
def l0LO : LO := ⟨[], [2], [(0, [])], []⟩
def l0Tk (k : Nat) : Spec := fun Q σ w =>
  gAd (σ 1) fun at1 =>
  gInt .i64 (σ 3) fun xt3 =>
  l0 k at1 xt3 w (fun (w : World) => ∀ d : Fr, Q (.exit 0) (ov d []) w) (fun (xq2 : Int) (w : World) => ∀ d : Fr, Q .ret (ov d [(2, .int .i64 xq2)]) w)
def l0T : Spec := fun Q σ w => ∃ k, l0Tk k Q σ w
def l0tb : List (List Nat × Spec) := []
noncomputable def l0b : Code := (subC [0, 0, 1, 0, 1] body).getD .skip
theorem l0_eq (k : Nat) (at1 : Addr) (xt3 : Int) (Q : PQ) (σ : Fr) (w : World) :
    l0 (k + 1) at1 xt3 w (fun (w : World) => ∀ d : Fr, Q (.exit 0) (ov d []) w) (fun (xq2 : Int) (w : World) => ∀ d : Fr, Q .ret (ov d [(2, .int .i64 xq2)]) w) = codeW Try.prog hT 44 D (tab l0tb) [0, 0, 1, 0, 1] l0b (thenQ (l0Tk k Q) (widen l0LO Q)) (ov σ [(1, .pointer (some at1)), (3, .int .i64 xt3)]) w := by kernel_rfl
theorem l0_snd : ∀ c, subC [0, 1, 0, 1] body = some c → Snd Try.prog 44 c l0T := by
  refine loop_of (hT := hT) (D := D) (l := l0tb) (b := l0b) (lo := l0LO) (by kernel_rfl) (by
    intro x hx
    simp only [l0tb, List.not_mem_nil] at hx
    ) (by kernel_rfl) (by kernel_rfl) ?_ ?_
  · intro Q σ w h
    unfold l0Tk at h
    obtain ⟨at1, h1, hn⟩ := gAd_elim h
    clear h
    have h := hn
    clear hn
    obtain ⟨xt3, h3, hn⟩ := gInt_elim h
    clear h
    have h := hn
    clear hn
    exact h
  · intro k Q σ w h
    unfold l0Tk at h
    obtain ⟨at1, h1, hn⟩ := gAd_elim h
    clear h
    have h := hn
    clear hn
    obtain ⟨xt3, h3, hn⟩ := gInt_elim h
    clear h
    have h := hn
    clear hn
    rw [l0_eq (σ := σ)] at h
    have e : (ov σ [(1, .pointer (some at1)), (3, .int .i64 xt3)]) = σ := ov_self (by simp [h1, h3])
    rw [e] at h
    exact h
def tb : List (List Nat × Spec) := [([0, 1, 0, 1], l0T)]
theorem wp_eq (Aa0_0 : Option Addr) (na0_0 : Nat) (ca0_0 : Nat) (Aa0_1 : Option Addr) (na0_1 : Nat) (ca0_1 : Nat) (xa0_2 : Int) (ba0_3 : Bool) (w : World) (Q : Ending → World → Prop) :
    wp Aa0_0 na0_0 ca0_0 Aa0_1 na0_1 ca0_1 xa0_2 ba0_3 w Q = codeW Try.prog hT 44 D (tab tb) [] body (topQ Try.prog hT 44 [.tmp 2] Q) (argsF [.agg #[.slice Aa0_0 na0_0 ca0_0, .slice Aa0_1 na0_1 ca0_1, .int .i64 xa0_2, .bool ba0_3]]) w := by cases ba0_3 <;> kernel_rfl
theorem ok (Aa0_0 : Option Addr) (na0_0 : Nat) (ca0_0 : Nat) (Aa0_1 : Option Addr) (na0_1 : Nat) (ca0_1 : Nat) (xa0_2 : Int) (ba0_3 : Bool) (w : World) (Q : Ending → World → Prop) (h : wp Aa0_0 na0_0 ca0_0 Aa0_1 na0_1 ca0_1 xa0_2 ba0_3 w Q) : Calls Try.prog 59 #[.agg #[.slice Aa0_0 na0_0 ca0_0, .slice Aa0_1 na0_1 ca0_1, .int .i64 xa0_2, .bool ba0_3]] w Q := by
  rw [wp_eq] at h
  exact calls_of_codeW (c := body) (rs := [.tmp 2]) Try.func59 (by kernel_rfl) (by kernel_rfl) (by kernel_rfl) (by kernel_rfl) (by kernel_rfl) (tab_snd (by
    intro x hx
    simp only [tb, List.mem_cons, List.not_mem_nil, or_false] at hx
    subst hx
    exact l0_snd)) (by kernel_rfl) h
end f_ref07_fate
namespace f_ref07_put
/-! skein/skeinref07.put: function 60 -/
noncomputable def body : Code := (Try.f60.body).getD .skip
def l0 : Nat → Int → Addr → Addr → Option Addr → Nat → Nat → Int → World → ((Option Addr) → Nat → Nat → World → Prop) → Prop
  | 0, _, _, _, _, _, _, _, _, _ => False
  | k + 1, xt1, at3, at5, At7, nt7, ct7, xt8, w, K0 =>
    ldS w at3 fun A9 n9 c9 =>
    sel (decide (xt8 < (n9 : Int))) (
    sel (xt8 == xt1) (
    ldS w at5 fun A10 n10 c10 =>
    ldS w (at5.add 1) fun A11 n11 c11 =>
    ldB w (at5.add 2) fun b12 =>
    alW w (.cells #[.slice A10 n10 c10, .slice A11 n11 c11, .bool b12] 70) fun B13 w14 =>
    Runs Try.prog (Builtin.append_ #[25, 25] 25 #[.slice At7 nt7 ct7, .slice (some (⟨B13, 0, Option.none⟩ : Addr)) 1 1]) w14 fun v16 w15 => ∃ (A17 : Option Addr) (n17 : Nat) (c17 : Nat), v16 = (.slice A17 n17 c17) ∧ (
    l0 k xt1 at3 at5 A17 n17 c17 (IntKind.i64.wrap (xt8 + (1 : Int))) w15 K0)) (
    ldS w at3 fun A18 n18 c18 =>
    optB A18 fun a19 =>
    req (decide (0 ≤ xt8 ∧ xt8 < (n18 : Int))) <|
    ldS w (a19.add (xt8.toNat * 3)) fun A20 n20 c20 =>
    ldS w ((a19.add (xt8.toNat * 3)).add 1) fun A21 n21 c21 =>
    ldB w ((a19.add (xt8.toNat * 3)).add 2) fun b22 =>
    alW w (.cells #[.slice A20 n20 c20, .slice A21 n21 c21, .bool b22] 70) fun B23 w24 =>
    Runs Try.prog (Builtin.append_ #[25, 25] 25 #[.slice At7 nt7 ct7, .slice (some (⟨B23, 0, Option.none⟩ : Addr)) 1 1]) w24 fun v26 w25 => ∃ (A27 : Option Addr) (n27 : Nat) (c27 : Nat), v26 = (.slice A27 n27 c27) ∧ (
    l0 k xt1 at3 at5 A27 n27 c27 (IntKind.i64.wrap (xt8 + (1 : Int))) w25 K0))) (
    K0 At7 nt7 ct7 w)
def wp (Aa0_0 : Option Addr) (na0_0 : Nat) (ca0_0 : Nat) (Aa0_1 : Option Addr) (na0_1 : Nat) (ca0_1 : Nat) (xa0_2 : Int) (ba0_3 : Bool) (xa1 : Int) (Aa2_0 : Option Addr) (na2_0 : Nat) (ca2_0 : Nat) (Aa2_1 : Option Addr) (na2_1 : Nat) (ca2_1 : Nat) (ba2_2 : Bool) (w : World) (Q : Ending → World → Prop) : Prop :=
  alW w (.cells #[.slice Aa0_0 na0_0 ca0_0, .slice Aa0_1 na0_1 ca0_1, .int .i64 xa0_2, .bool ba0_3] 28) fun B1 w2 =>
  alW w2 (.cells #[.slice Aa2_0 na2_0 ca2_0, .slice Aa2_1 na2_1 ca2_1, .bool ba2_2] 70) fun B3 w4 =>
  alW w4 (.cells #[.slice none 0 0, .slice none 0 0, .int .i64 (0 : Int), .bool false] 28) fun B5 w6 =>
  alW w6 (.cells #[] 70) fun B7 w8 =>
  ∃ k43 : Nat, l0 k43 xa1 (⟨B1, 0, Option.none⟩ : Addr) (⟨B3, 0, Option.none⟩ : Addr) (some (⟨B7, 0, Option.none⟩ : Addr)) 0 0 (0 : Int) w8 (fun (A28 : Option Addr) (n28 : Nat) (c28 : Nat) (w29 : World) => ∀ _ : Fr,
  stW w29 (⟨B1, 0, Option.none⟩ : Addr) (.slice A28 n28 c28) fun w30 =>
  ldS w30 (⟨B1, 0, Option.none⟩ : Addr) fun A31 n31 c31 =>
  ldS w30 ((⟨B1, 0, Option.none⟩ : Addr).add 1) fun A32 n32 c32 =>
  ldI w30 ((⟨B1, 0, Option.none⟩ : Addr).add 2) .i64 fun x33 =>
  ldB w30 ((⟨B1, 0, Option.none⟩ : Addr).add 3) fun b34 =>
  stW w30 (⟨B5, 0, Option.none⟩ : Addr) (.slice A31 n31 c31) fun w35 =>
  stW w35 ((⟨B5, 0, Option.none⟩ : Addr).add 1) (.slice A32 n32 c32) fun w36 =>
  stW w36 ((⟨B5, 0, Option.none⟩ : Addr).add 2) (.int .i64 x33) fun w37 =>
  stW w37 ((⟨B5, 0, Option.none⟩ : Addr).add 3) (.bool b34) fun w38 =>
  ldS w38 (⟨B5, 0, Option.none⟩ : Addr) fun A39 n39 c39 =>
  ldS w38 ((⟨B5, 0, Option.none⟩ : Addr).add 1) fun A40 n40 c40 =>
  ldI w38 ((⟨B5, 0, Option.none⟩ : Addr).add 2) .i64 fun x41 =>
  ldB w38 ((⟨B5, 0, Option.none⟩ : Addr).add 3) fun b42 =>
  Q (.returned (.agg #[.slice A39 n39 c39, .slice A40 n40 c40, .int .i64 x41, .bool b42])) w38)
def D : Nat → Option DH := dtab []
def l0LO : LO := ⟨[], [], [(0, [3, 6, 7])], []⟩
def l0Tk (k : Nat) : Spec := fun Q σ w =>
  gInt .i64 (σ 1) fun xt1 =>
  gAd (σ 3) fun at3 =>
  gAd (σ 5) fun at5 =>
  gSlice (σ 7) fun At7 nt7 ct7 =>
  gInt .i64 (σ 8) fun xt8 =>
  l0 k xt1 at3 at5 At7 nt7 ct7 xt8 w (fun (Aq7 : Option Addr) (nq7 : Nat) (cq7 : Nat) (w : World) => ∀ d : Fr, Q (.exit 0) (ov d [(3, .pointer (some at3)), (6, σ 6), (7, .slice Aq7 nq7 cq7)]) w)
def l0T : Spec := fun Q σ w => ∃ k, l0Tk k Q σ w
def l0tb : List (List Nat × Spec) := []
noncomputable def l0b : Code := (subC [0, 0, 1, 0, 1, 1] body).getD .skip
theorem l0_eq (k : Nat) (xt1 : Int) (at3 : Addr) (at5 : Addr) (At7 : Option Addr) (nt7 : Nat) (ct7 : Nat) (xt8 : Int) (Q : PQ) (σ : Fr) (w : World) :
    l0 (k + 1) xt1 at3 at5 At7 nt7 ct7 xt8 w (fun (Aq7 : Option Addr) (nq7 : Nat) (cq7 : Nat) (w : World) => ∀ d : Fr, Q (.exit 0) (ov d [(3, .pointer (some at3)), (6, σ 6), (7, .slice Aq7 nq7 cq7)]) w) = codeW Try.prog hT 35 D (tab l0tb) [0, 0, 1, 0, 1, 1] l0b (thenQ (l0Tk k Q) (widen l0LO Q)) (ov σ [(1, .int .i64 xt1), (3, .pointer (some at3)), (5, .pointer (some at5)), (7, .slice At7 nt7 ct7), (8, .int .i64 xt8)]) w := by kernel_rfl
theorem l0_snd : ∀ c, subC [0, 1, 0, 1, 1] body = some c → Snd Try.prog 35 c l0T := by
  refine loop_of (hT := hT) (D := D) (l := l0tb) (b := l0b) (lo := l0LO) (by kernel_rfl) (by
    intro x hx
    simp only [l0tb, List.not_mem_nil] at hx
    ) (by kernel_rfl) (by kernel_rfl) ?_ ?_
  · intro Q σ w h
    unfold l0Tk at h
    obtain ⟨xt1, h1, hn⟩ := gInt_elim h
    clear h
    have h := hn
    clear hn
    obtain ⟨at3, h3, hn⟩ := gAd_elim h
    clear h
    have h := hn
    clear hn
    obtain ⟨at5, h5, hn⟩ := gAd_elim h
    clear h
    have h := hn
    clear hn
    obtain ⟨At7, nt7, ct7, h7, hn⟩ := gSlice_elim h
    clear h
    have h := hn
    clear hn
    obtain ⟨xt8, h8, hn⟩ := gInt_elim h
    clear h
    have h := hn
    clear hn
    exact h
  · intro k Q σ w h
    unfold l0Tk at h
    obtain ⟨xt1, h1, hn⟩ := gInt_elim h
    clear h
    have h := hn
    clear hn
    obtain ⟨at3, h3, hn⟩ := gAd_elim h
    clear h
    have h := hn
    clear hn
    obtain ⟨at5, h5, hn⟩ := gAd_elim h
    clear h
    have h := hn
    clear hn
    obtain ⟨At7, nt7, ct7, h7, hn⟩ := gSlice_elim h
    clear h
    have h := hn
    clear hn
    obtain ⟨xt8, h8, hn⟩ := gInt_elim h
    clear h
    have h := hn
    clear hn
    rw [l0_eq (σ := σ)] at h
    have e : (ov σ [(1, .int .i64 xt1), (3, .pointer (some at3)), (5, .pointer (some at5)), (7, .slice At7 nt7 ct7), (8, .int .i64 xt8)]) = σ := ov_self (by simp [h1, h3, h5, h7, h8])
    rw [e] at h
    exact h
def tb : List (List Nat × Spec) := [([0, 1, 0, 1, 1], l0T)]
theorem wp_eq (Aa0_0 : Option Addr) (na0_0 : Nat) (ca0_0 : Nat) (Aa0_1 : Option Addr) (na0_1 : Nat) (ca0_1 : Nat) (xa0_2 : Int) (ba0_3 : Bool) (xa1 : Int) (Aa2_0 : Option Addr) (na2_0 : Nat) (ca2_0 : Nat) (Aa2_1 : Option Addr) (na2_1 : Nat) (ca2_1 : Nat) (ba2_2 : Bool) (w : World) (Q : Ending → World → Prop) :
    wp Aa0_0 na0_0 ca0_0 Aa0_1 na0_1 ca0_1 xa0_2 ba0_3 xa1 Aa2_0 na2_0 ca2_0 Aa2_1 na2_1 ca2_1 ba2_2 w Q = codeW Try.prog hT 35 D (tab tb) [] body (topQ Try.prog hT 35 [.cell 6 28] Q) (argsF [.agg #[.slice Aa0_0 na0_0 ca0_0, .slice Aa0_1 na0_1 ca0_1, .int .i64 xa0_2, .bool ba0_3], .int .i64 xa1, .agg #[.slice Aa2_0 na2_0 ca2_0, .slice Aa2_1 na2_1 ca2_1, .bool ba2_2]]) w := by cases ba0_3 <;> cases ba2_2 <;> kernel_rfl
theorem ok (Aa0_0 : Option Addr) (na0_0 : Nat) (ca0_0 : Nat) (Aa0_1 : Option Addr) (na0_1 : Nat) (ca0_1 : Nat) (xa0_2 : Int) (ba0_3 : Bool) (xa1 : Int) (Aa2_0 : Option Addr) (na2_0 : Nat) (ca2_0 : Nat) (Aa2_1 : Option Addr) (na2_1 : Nat) (ca2_1 : Nat) (ba2_2 : Bool) (w : World) (Q : Ending → World → Prop) (h : wp Aa0_0 na0_0 ca0_0 Aa0_1 na0_1 ca0_1 xa0_2 ba0_3 xa1 Aa2_0 na2_0 ca2_0 Aa2_1 na2_1 ca2_1 ba2_2 w Q) : Calls Try.prog 60 #[.agg #[.slice Aa0_0 na0_0 ca0_0, .slice Aa0_1 na0_1 ca0_1, .int .i64 xa0_2, .bool ba0_3], .int .i64 xa1, .agg #[.slice Aa2_0 na2_0 ca2_0, .slice Aa2_1 na2_1 ca2_1, .bool ba2_2]] w Q := by
  rw [wp_eq] at h
  exact calls_of_codeW (c := body) (rs := [.cell 6 28]) Try.func60 (by kernel_rfl) (by kernel_rfl) (by kernel_rfl) (by kernel_rfl) (by kernel_rfl) (tab_snd (by
    intro x hx
    simp only [tb, List.mem_cons, List.not_mem_nil, or_false] at hx
    subst hx
    exact l0_snd)) (by kernel_rfl) h
end f_ref07_put
namespace f_ref07_settled
/-! skein/skeinref07.settled: function 61 -/
noncomputable def body : Code := (Try.f61.body).getD .skip
def l0 : Nat → Option Addr → Nat → Nat → Option Addr → Nat → Nat → Int → World → ((Option Addr) → Nat → Nat → World → Prop) → Prop
  | 0, _, _, _, _, _, _, _, _, _ => False
  | k + 1, At0, nt0, ct0, At3, nt3, ct3, xt4, w, K0 =>
    sel (decide (xt4 < (nt0 : Int))) (
    optB At0 fun a3 =>
    req (decide (0 ≤ xt4 ∧ xt4 < (nt0 : Int))) <|
    ldS w (a3.add (xt4.toNat * 3)) fun A4 n4 c4 =>
    ldS w ((a3.add (xt4.toNat * 3)).add 1) fun A5 n5 c5 =>
    ldB w ((a3.add (xt4.toNat * 3)).add 2) fun b6 =>
    Calls Try.prog 57 #[.agg #[.slice A4 n4 c4, .slice A5 n5 c5, .bool b6]] w fun e7 w8 => ∃ (A9 : Option Addr) (n9 : Nat) (c9 : Nat), e7 = .returned (.slice A9 n9 c9) ∧ (
    alW w8 (.cells #[.slice A9 n9 c9, .slice none 0 0, .bool false] 70) fun B10 w11 =>
    Runs Try.prog (Builtin.append_ #[25, 25] 25 #[.slice At3 nt3 ct3, .slice (some (⟨B10, 0, Option.none⟩ : Addr)) 1 1]) w11 fun v13 w12 => ∃ (A14 : Option Addr) (n14 : Nat) (c14 : Nat), v13 = (.slice A14 n14 c14) ∧ (
    l0 k At0 nt0 ct0 A14 n14 c14 (IntKind.i64.wrap (xt4 + (1 : Int))) w12 K0))) (
    K0 At3 nt3 ct3 w)
def wp (Aa0 : Option Addr) (na0 : Nat) (ca0 : Nat) (w : World) (Q : Ending → World → Prop) : Prop :=
  alW w (.cells #[] 70) fun B1 w2 =>
  ∃ k17 : Nat, l0 k17 Aa0 na0 ca0 (some (⟨B1, 0, Option.none⟩ : Addr)) 0 0 (0 : Int) w2 (fun (A15 : Option Addr) (n15 : Nat) (c15 : Nat) (w16 : World) => ∀ _ : Fr,
  Q (.returned (.slice A15 n15 c15)) w16)
def D : Nat → Option DH := dtab []
def l0LO : LO := ⟨[], [], [(0, [3])], []⟩
def l0Tk (k : Nat) : Spec := fun Q σ w =>
  gSlice (σ 0) fun At0 nt0 ct0 =>
  gSlice (σ 3) fun At3 nt3 ct3 =>
  gInt .i64 (σ 4) fun xt4 =>
  l0 k At0 nt0 ct0 At3 nt3 ct3 xt4 w (fun (Aq3 : Option Addr) (nq3 : Nat) (cq3 : Nat) (w : World) => ∀ d : Fr, Q (.exit 0) (ov d [(3, .slice Aq3 nq3 cq3)]) w)
def l0T : Spec := fun Q σ w => ∃ k, l0Tk k Q σ w
def l0tb : List (List Nat × Spec) := []
noncomputable def l0b : Code := (subC [0, 0, 1, 0, 1, 1] body).getD .skip
theorem l0_eq (k : Nat) (At0 : Option Addr) (nt0 : Nat) (ct0 : Nat) (At3 : Option Addr) (nt3 : Nat) (ct3 : Nat) (xt4 : Int) (Q : PQ) (σ : Fr) (w : World) :
    l0 (k + 1) At0 nt0 ct0 At3 nt3 ct3 xt4 w (fun (Aq3 : Option Addr) (nq3 : Nat) (cq3 : Nat) (w : World) => ∀ d : Fr, Q (.exit 0) (ov d [(3, .slice Aq3 nq3 cq3)]) w) = codeW Try.prog hT 22 D (tab l0tb) [0, 0, 1, 0, 1, 1] l0b (thenQ (l0Tk k Q) (widen l0LO Q)) (ov σ [(0, .slice At0 nt0 ct0), (3, .slice At3 nt3 ct3), (4, .int .i64 xt4)]) w := by kernel_rfl
theorem l0_snd : ∀ c, subC [0, 1, 0, 1, 1] body = some c → Snd Try.prog 22 c l0T := by
  refine loop_of (hT := hT) (D := D) (l := l0tb) (b := l0b) (lo := l0LO) (by kernel_rfl) (by
    intro x hx
    simp only [l0tb, List.not_mem_nil] at hx
    ) (by kernel_rfl) (by kernel_rfl) ?_ ?_
  · intro Q σ w h
    unfold l0Tk at h
    obtain ⟨At0, nt0, ct0, h0, hn⟩ := gSlice_elim h
    clear h
    have h := hn
    clear hn
    obtain ⟨At3, nt3, ct3, h3, hn⟩ := gSlice_elim h
    clear h
    have h := hn
    clear hn
    obtain ⟨xt4, h4, hn⟩ := gInt_elim h
    clear h
    have h := hn
    clear hn
    exact h
  · intro k Q σ w h
    unfold l0Tk at h
    obtain ⟨At0, nt0, ct0, h0, hn⟩ := gSlice_elim h
    clear h
    have h := hn
    clear hn
    obtain ⟨At3, nt3, ct3, h3, hn⟩ := gSlice_elim h
    clear h
    have h := hn
    clear hn
    obtain ⟨xt4, h4, hn⟩ := gInt_elim h
    clear h
    have h := hn
    clear hn
    rw [l0_eq (σ := σ)] at h
    have e : (ov σ [(0, .slice At0 nt0 ct0), (3, .slice At3 nt3 ct3), (4, .int .i64 xt4)]) = σ := ov_self (by simp [h0, h3, h4])
    rw [e] at h
    exact h
def tb : List (List Nat × Spec) := [([0, 1, 0, 1, 1], l0T)]
theorem wp_eq (Aa0 : Option Addr) (na0 : Nat) (ca0 : Nat) (w : World) (Q : Ending → World → Prop) :
    wp Aa0 na0 ca0 w Q = codeW Try.prog hT 22 D (tab tb) [] body (topQ Try.prog hT 22 [.tmp 2] Q) (argsF [.slice Aa0 na0 ca0]) w := by kernel_rfl
theorem ok (Aa0 : Option Addr) (na0 : Nat) (ca0 : Nat) (w : World) (Q : Ending → World → Prop) (h : wp Aa0 na0 ca0 w Q) : Calls Try.prog 61 #[.slice Aa0 na0 ca0] w Q := by
  rw [wp_eq] at h
  exact calls_of_codeW (c := body) (rs := [.tmp 2]) Try.func61 (by kernel_rfl) (by kernel_rfl) (by kernel_rfl) (by kernel_rfl) (by kernel_rfl) (tab_snd (by
    intro x hx
    simp only [tb, List.mem_cons, List.not_mem_nil, or_false] at hx
    subst hx
    exact l0_snd)) (by kernel_rfl) h
end f_ref07_settled
end Go.Proofs.Ythekjlglnmhlaaa.Rd
