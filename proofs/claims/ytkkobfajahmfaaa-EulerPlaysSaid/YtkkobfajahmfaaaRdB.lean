/- The printed readings of some functions: each function's code reckoned by the kernel to its predicate transformer. -/
import Derived.Test.YtkkobfajahmfaaaHint
namespace Go.Proofs.Ytkkobfajahmfaaa.Rd
open Go.Dn
set_option maxRecDepth 100000
set_option linter.unusedVariables false
namespace f_ref01_SameInts
/-! skein/skeinref01.SameInts: function 13 -/
noncomputable def body : Code := (Try.f13.body).getD .skip
def l0 : Nat → Option Addr → Nat → Nat → Option Addr → Nat → Nat → Int → World → (World → Prop) → (Bool → World → Prop) → Prop
  | 0, _, _, _, _, _, _, _, _, _, _ => False
  | k + 1, At0, nt0, ct0, At1, nt1, ct1, xt5, w, K0, Kr =>
    sel (decide (xt5 < (nt0 : Int))) (
    drW w fun w1 =>
    optB At0 fun a3 =>
    req (decide (0 ≤ xt5 ∧ xt5 < (nt0 : Int))) <|
    ldI w1 (a3.add (xt5.toNat * 1)) .i64 fun x4 =>
    optB At1 fun a5 =>
    req (decide (0 ≤ xt5 ∧ xt5 < (nt1 : Int))) <|
    ldI w1 (a5.add (xt5.toNat * 1)) .i64 fun x6 =>
    sel (x4 != x6) (
    Kr false w1) (
    l0 k At0 nt0 ct0 At1 nt1 ct1 (IntKind.i64.wrap (xt5 + (1 : Int))) w1 K0 Kr)) (
    K0  w)
def wp (Aa0 : Option Addr) (na0 : Nat) (ca0 : Nat) (Aa1 : Option Addr) (na1 : Nat) (ca1 : Nat) (w : World) (Q : Ending → World → Prop) : Prop :=
  sel ((na0 : Int) != (na1 : Int)) (
  Q (.returned (.bool false)) w) (
  ∃ k10 : Nat, l0 k10 Aa0 na0 ca0 Aa1 na1 ca1 (0 : Int) w (fun (w7 : World) => ∀ _ : Fr,
  Q (.returned (.bool true)) w7) (fun (b8 : Bool) (w9 : World) => ∀ _ : Fr,
  Q (.returned (.bool b8)) w9))
def D : Nat → Option DH := dtab [(6, .simple [.fst 0, .fst 1, .fst 2, .fst 3, .fst 4, .fst 5, .fst 6, .fst 7] [.fst 8])]
def l0LO : LO := ⟨[], [4], [(0, [])], []⟩
def l0Tk (k : Nat) : Spec := fun Q σ w =>
  gSlice (σ 0) fun At0 nt0 ct0 =>
  gSlice (σ 1) fun At1 nt1 ct1 =>
  gInt .i64 (σ 5) fun xt5 =>
  l0 k At0 nt0 ct0 At1 nt1 ct1 xt5 w (fun (w : World) => ∀ d : Fr, Q (.exit 0) (ov d []) w) (fun (bq4 : Bool) (w : World) => ∀ d : Fr, Q .ret (ov d [(4, .bool bq4)]) w)
def l0T : Spec := fun Q σ w => ∃ k, l0Tk k Q σ w
def l0tb : List (List Nat × Spec) := []
noncomputable def l0b : Code := (subC [0, 0, 1, 0, 1, 1] body).getD .skip
theorem l0_eq (k : Nat) (At0 : Option Addr) (nt0 : Nat) (ct0 : Nat) (At1 : Option Addr) (nt1 : Nat) (ct1 : Nat) (xt5 : Int) (Q : PQ) (σ : Fr) (w : World) :
    l0 (k + 1) At0 nt0 ct0 At1 nt1 ct1 xt5 w (fun (w : World) => ∀ d : Fr, Q (.exit 0) (ov d []) w) (fun (bq4 : Bool) (w : World) => ∀ d : Fr, Q .ret (ov d [(4, .bool bq4)]) w) = codeW Try.prog hT 26 D (tab l0tb) [0, 0, 1, 0, 1, 1] l0b (thenQ (l0Tk k Q) (widen l0LO Q)) (ov σ [(0, .slice At0 nt0 ct0), (1, .slice At1 nt1 ct1), (5, .int .i64 xt5)]) w := by kernel_rfl
theorem l0_snd : ∀ c, subC [0, 1, 0, 1, 1] body = some c → Snd Try.prog 26 c l0T := by
  refine loop_of (hT := hT) (D := D) (l := l0tb) (b := l0b) (lo := l0LO) (by kernel_rfl) (by
    intro x hx
    simp only [l0tb, List.not_mem_nil] at hx
    ) (by kernel_rfl) (by kernel_rfl) ?_ ?_
  · intro Q σ w h
    unfold l0Tk at h
    obtain ⟨At0, nt0, ct0, h0, hn⟩ := gSlice_elim h
    clear h
    have h := hn
    clear hn
    obtain ⟨At1, nt1, ct1, h1, hn⟩ := gSlice_elim h
    clear h
    have h := hn
    clear hn
    obtain ⟨xt5, h5, hn⟩ := gInt_elim h
    clear h
    have h := hn
    clear hn
    exact h
  · intro k Q σ w h
    unfold l0Tk at h
    obtain ⟨At0, nt0, ct0, h0, hn⟩ := gSlice_elim h
    clear h
    have h := hn
    clear hn
    obtain ⟨At1, nt1, ct1, h1, hn⟩ := gSlice_elim h
    clear h
    have h := hn
    clear hn
    obtain ⟨xt5, h5, hn⟩ := gInt_elim h
    clear h
    have h := hn
    clear hn
    rw [l0_eq (σ := σ)] at h
    have e : (ov σ [(0, .slice At0 nt0 ct0), (1, .slice At1 nt1 ct1), (5, .int .i64 xt5)]) = σ := ov_self (by simp [h0, h1, h5])
    rw [e] at h
    exact h
def tb : List (List Nat × Spec) := [([0, 1, 0, 1, 1], l0T)]
theorem wp_eq (Aa0 : Option Addr) (na0 : Nat) (ca0 : Nat) (Aa1 : Option Addr) (na1 : Nat) (ca1 : Nat) (w : World) (Q : Ending → World → Prop) :
    wp Aa0 na0 ca0 Aa1 na1 ca1 w Q = codeW Try.prog hT 26 D (tab tb) [] body (topQ Try.prog hT 26 [.tmp 4] Q) (argsF [.slice Aa0 na0 ca0, .slice Aa1 na1 ca1]) w := by kernel_rfl
theorem ok (Aa0 : Option Addr) (na0 : Nat) (ca0 : Nat) (Aa1 : Option Addr) (na1 : Nat) (ca1 : Nat) (w : World) (Q : Ending → World → Prop) (h : wp Aa0 na0 ca0 Aa1 na1 ca1 w Q) : Calls Try.prog 13 #[.slice Aa0 na0 ca0, .slice Aa1 na1 ca1] w Q := by
  rw [wp_eq] at h
  exact calls_of_codeW (c := body) (rs := [.tmp 4]) Try.func13 (by kernel_rfl) (by kernel_rfl) (by kernel_rfl) (by kernel_rfl) (by kernel_rfl) (tab_snd (by
    intro x hx
    simp only [tb, List.mem_cons, List.not_mem_nil, or_false] at hx
    subst hx
    exact l0_snd)) (by kernel_rfl) h
end f_ref01_SameInts
namespace f_ref01_CopyInts
/-! skein/skeinref01.CopyInts: function 14 -/
noncomputable def body : Code := (Try.f14.body).getD .skip
def l0 : Nat → Option Addr → Nat → Nat → Option Addr → Nat → Nat → Int → World → ((Option Addr) → Nat → Nat → World → Prop) → Prop
  | 0, _, _, _, _, _, _, _, _, _ => False
  | k + 1, At0, nt0, ct0, At3, nt3, ct3, xt4, w, K0 =>
    sel (decide (xt4 < (nt0 : Int))) (
    optB At0 fun a3 =>
    req (decide (0 ≤ xt4 ∧ xt4 < (nt0 : Int))) <|
    ldI w (a3.add (xt4.toNat * 1)) .i64 fun x4 =>
    alW w (.cells #[.int .i64 x4] 3) fun B5 w6 =>
    Runs Try.prog (Builtin.append_ #[22, 22] 22 #[.slice At3 nt3 ct3, .slice (some (⟨B5, 0, Option.none⟩ : Addr)) 1 1]) w6 fun v8 w7 => ∃ (A9 : Option Addr) (n9 : Nat) (c9 : Nat), v8 = (.slice A9 n9 c9) ∧ (
    l0 k At0 nt0 ct0 A9 n9 c9 (IntKind.i64.wrap (xt4 + (1 : Int))) w7 K0)) (
    K0 At3 nt3 ct3 w)
def wp (Aa0 : Option Addr) (na0 : Nat) (ca0 : Nat) (w : World) (Q : Ending → World → Prop) : Prop :=
  alW w (.cells #[] 3) fun B1 w2 =>
  ∃ k12 : Nat, l0 k12 Aa0 na0 ca0 (some (⟨B1, 0, Option.none⟩ : Addr)) 0 0 (0 : Int) w2 (fun (A10 : Option Addr) (n10 : Nat) (c10 : Nat) (w11 : World) => ∀ _ : Fr,
  Q (.returned (.slice A10 n10 c10)) w11)
def D : Nat → Option DH := dtab []
def l0LO : LO := ⟨[], [], [(0, [3])], []⟩
def l0Tk (k : Nat) : Spec := fun Q σ w =>
  gSlice (σ 0) fun At0 nt0 ct0 =>
  gSlice (σ 3) fun At3 nt3 ct3 =>
  gInt .i64 (σ 4) fun xt4 =>
  l0 k At0 nt0 ct0 At3 nt3 ct3 xt4 w (fun (Aq3 : Option Addr) (nq3 : Nat) (cq3 : Nat) (w : World) => ∀ d : Fr, Q (.exit 0) (ov d [(3, .slice Aq3 nq3 cq3)]) w)
def l0T : Spec := fun Q σ w => ∃ k, l0Tk k Q σ w
def l0tb : List (List Nat × Spec) := []
noncomputable def l0b : Code := (subC [0, 0, 1, 0, 1, 1] body).getD .skip
theorem l0_eq (k : Nat) (At0 : Option Addr) (nt0 : Nat) (ct0 : Nat) (At3 : Option Addr) (nt3 : Nat) (ct3 : Nat) (xt4 : Int) (Q : PQ) (σ : Fr) (w : World) :
    l0 (k + 1) At0 nt0 ct0 At3 nt3 ct3 xt4 w (fun (Aq3 : Option Addr) (nq3 : Nat) (cq3 : Nat) (w : World) => ∀ d : Fr, Q (.exit 0) (ov d [(3, .slice Aq3 nq3 cq3)]) w) = codeW Try.prog hT 20 D (tab l0tb) [0, 0, 1, 0, 1, 1] l0b (thenQ (l0Tk k Q) (widen l0LO Q)) (ov σ [(0, .slice At0 nt0 ct0), (3, .slice At3 nt3 ct3), (4, .int .i64 xt4)]) w := by kernel_rfl
theorem l0_snd : ∀ c, subC [0, 1, 0, 1, 1] body = some c → Snd Try.prog 20 c l0T := by
  refine loop_of (hT := hT) (D := D) (l := l0tb) (b := l0b) (lo := l0LO) (by kernel_rfl) (by
    intro x hx
    simp only [l0tb, List.not_mem_nil] at hx
    ) (by kernel_rfl) (by kernel_rfl) ?_ ?_
  · intro Q σ w h
    unfold l0Tk at h
    obtain ⟨At0, nt0, ct0, h0, hn⟩ := gSlice_elim h
    clear h
    have h := hn
    clear hn
    obtain ⟨At3, nt3, ct3, h3, hn⟩ := gSlice_elim h
    clear h
    have h := hn
    clear hn
    obtain ⟨xt4, h4, hn⟩ := gInt_elim h
    clear h
    have h := hn
    clear hn
    exact h
  · intro k Q σ w h
    unfold l0Tk at h
    obtain ⟨At0, nt0, ct0, h0, hn⟩ := gSlice_elim h
    clear h
    have h := hn
    clear hn
    obtain ⟨At3, nt3, ct3, h3, hn⟩ := gSlice_elim h
    clear h
    have h := hn
    clear hn
    obtain ⟨xt4, h4, hn⟩ := gInt_elim h
    clear h
    have h := hn
    clear hn
    rw [l0_eq (σ := σ)] at h
    have e : (ov σ [(0, .slice At0 nt0 ct0), (3, .slice At3 nt3 ct3), (4, .int .i64 xt4)]) = σ := ov_self (by simp [h0, h3, h4])
    rw [e] at h
    exact h
def tb : List (List Nat × Spec) := [([0, 1, 0, 1, 1], l0T)]
theorem wp_eq (Aa0 : Option Addr) (na0 : Nat) (ca0 : Nat) (w : World) (Q : Ending → World → Prop) :
    wp Aa0 na0 ca0 w Q = codeW Try.prog hT 20 D (tab tb) [] body (topQ Try.prog hT 20 [.tmp 2] Q) (argsF [.slice Aa0 na0 ca0]) w := by kernel_rfl
theorem ok (Aa0 : Option Addr) (na0 : Nat) (ca0 : Nat) (w : World) (Q : Ending → World → Prop) (h : wp Aa0 na0 ca0 w Q) : Calls Try.prog 14 #[.slice Aa0 na0 ca0] w Q := by
  rw [wp_eq] at h
  exact calls_of_codeW (c := body) (rs := [.tmp 2]) Try.func14 (by kernel_rfl) (by kernel_rfl) (by kernel_rfl) (by kernel_rfl) (by kernel_rfl) (tab_snd (by
    intro x hx
    simp only [tb, List.mem_cons, List.not_mem_nil, or_false] at hx
    subst hx
    exact l0_snd)) (by kernel_rfl) h
end f_ref01_CopyInts
namespace f_ref01_Has
/-! skein/skeinref01.Has: function 15 -/
noncomputable def body : Code := (Try.f15.body).getD .skip
def l0 : Nat → Option Addr → Nat → Nat → Int → Int → World → (World → Prop) → (Bool → World → Prop) → Prop
  | 0, _, _, _, _, _, _, _, _ => False
  | k + 1, At0, nt0, ct0, xt1, xt5, w, K0, Kr =>
    sel (decide (xt5 < (nt0 : Int))) (
    optB At0 fun a1 =>
    req (decide (0 ≤ xt5 ∧ xt5 < (nt0 : Int))) <|
    ldI w (a1.add (xt5.toNat * 1)) .i64 fun x2 =>
    sel (x2 == xt1) (
    Kr true w) (
    l0 k At0 nt0 ct0 xt1 (IntKind.i64.wrap (xt5 + (1 : Int))) w K0 Kr)) (
    K0  w)
def wp (Aa0 : Option Addr) (na0 : Nat) (ca0 : Nat) (xa1 : Int) (w : World) (Q : Ending → World → Prop) : Prop :=
  ∃ k6 : Nat, l0 k6 Aa0 na0 ca0 xa1 (0 : Int) w (fun (w3 : World) => ∀ _ : Fr,
  Q (.returned (.bool false)) w3) (fun (b4 : Bool) (w5 : World) => ∀ _ : Fr,
  Q (.returned (.bool b4)) w5)
def D : Nat → Option DH := dtab []
def l0LO : LO := ⟨[], [4], [(0, [])], []⟩
def l0Tk (k : Nat) : Spec := fun Q σ w =>
  gSlice (σ 0) fun At0 nt0 ct0 =>
  gInt .i64 (σ 1) fun xt1 =>
  gInt .i64 (σ 5) fun xt5 =>
  l0 k At0 nt0 ct0 xt1 xt5 w (fun (w : World) => ∀ d : Fr, Q (.exit 0) (ov d []) w) (fun (bq4 : Bool) (w : World) => ∀ d : Fr, Q .ret (ov d [(4, .bool bq4)]) w)
def l0T : Spec := fun Q σ w => ∃ k, l0Tk k Q σ w
def l0tb : List (List Nat × Spec) := []
noncomputable def l0b : Code := (subC [0, 0, 1, 0, 1] body).getD .skip
theorem l0_eq (k : Nat) (At0 : Option Addr) (nt0 : Nat) (ct0 : Nat) (xt1 : Int) (xt5 : Int) (Q : PQ) (σ : Fr) (w : World) :
    l0 (k + 1) At0 nt0 ct0 xt1 xt5 w (fun (w : World) => ∀ d : Fr, Q (.exit 0) (ov d []) w) (fun (bq4 : Bool) (w : World) => ∀ d : Fr, Q .ret (ov d [(4, .bool bq4)]) w) = codeW Try.prog hT 18 D (tab l0tb) [0, 0, 1, 0, 1] l0b (thenQ (l0Tk k Q) (widen l0LO Q)) (ov σ [(0, .slice At0 nt0 ct0), (1, .int .i64 xt1), (5, .int .i64 xt5)]) w := by kernel_rfl
theorem l0_snd : ∀ c, subC [0, 1, 0, 1] body = some c → Snd Try.prog 18 c l0T := by
  refine loop_of (hT := hT) (D := D) (l := l0tb) (b := l0b) (lo := l0LO) (by kernel_rfl) (by
    intro x hx
    simp only [l0tb, List.not_mem_nil] at hx
    ) (by kernel_rfl) (by kernel_rfl) ?_ ?_
  · intro Q σ w h
    unfold l0Tk at h
    obtain ⟨At0, nt0, ct0, h0, hn⟩ := gSlice_elim h
    clear h
    have h := hn
    clear hn
    obtain ⟨xt1, h1, hn⟩ := gInt_elim h
    clear h
    have h := hn
    clear hn
    obtain ⟨xt5, h5, hn⟩ := gInt_elim h
    clear h
    have h := hn
    clear hn
    exact h
  · intro k Q σ w h
    unfold l0Tk at h
    obtain ⟨At0, nt0, ct0, h0, hn⟩ := gSlice_elim h
    clear h
    have h := hn
    clear hn
    obtain ⟨xt1, h1, hn⟩ := gInt_elim h
    clear h
    have h := hn
    clear hn
    obtain ⟨xt5, h5, hn⟩ := gInt_elim h
    clear h
    have h := hn
    clear hn
    rw [l0_eq (σ := σ)] at h
    have e : (ov σ [(0, .slice At0 nt0 ct0), (1, .int .i64 xt1), (5, .int .i64 xt5)]) = σ := ov_self (by simp [h0, h1, h5])
    rw [e] at h
    exact h
def tb : List (List Nat × Spec) := [([0, 1, 0, 1], l0T)]
theorem wp_eq (Aa0 : Option Addr) (na0 : Nat) (ca0 : Nat) (xa1 : Int) (w : World) (Q : Ending → World → Prop) :
    wp Aa0 na0 ca0 xa1 w Q = codeW Try.prog hT 18 D (tab tb) [] body (topQ Try.prog hT 18 [.tmp 4] Q) (argsF [.slice Aa0 na0 ca0, .int .i64 xa1]) w := by kernel_rfl
theorem ok (Aa0 : Option Addr) (na0 : Nat) (ca0 : Nat) (xa1 : Int) (w : World) (Q : Ending → World → Prop) (h : wp Aa0 na0 ca0 xa1 w Q) : Calls Try.prog 15 #[.slice Aa0 na0 ca0, .int .i64 xa1] w Q := by
  rw [wp_eq] at h
  exact calls_of_codeW (c := body) (rs := [.tmp 4]) Try.func15 (by kernel_rfl) (by kernel_rfl) (by kernel_rfl) (by kernel_rfl) (by kernel_rfl) (tab_snd (by
    intro x hx
    simp only [tb, List.mem_cons, List.not_mem_nil, or_false] at hx
    subst hx
    exact l0_snd)) (by kernel_rfl) h
end f_ref01_Has
namespace f_ref05_With
/-! skein/skeinref05.With: function 16 -/
noncomputable def body : Code := (Try.f16.body).getD .skip
def j1 (At0 : Option Addr) (nt0 : Nat) (ct0 : Nat) (At5 : Option Addr) (nt5 : Nat) (ct5 : Nat) (xt7 : Int) (w : World) (Kn : (Option Addr) → Nat → Nat → World → Prop) : Prop :=
  optB At0 fun a10 =>
  req (decide (0 ≤ xt7 ∧ xt7 < (nt0 : Int))) <|
  ldI w (a10.add (xt7.toNat * 1)) .i64 fun x11 =>
  alW w (.cells #[.int .i64 x11] 3) fun B12 w13 =>
  Runs Try.prog (Builtin.append_ #[22, 22] 22 #[.slice At5 nt5 ct5, .slice (some (⟨B12, 0, Option.none⟩ : Addr)) 1 1]) w13 fun v15 w14 => ∃ (A16 : Option Addr) (n16 : Nat) (c16 : Nat), v15 = (.slice A16 n16 c16) ∧ (
  Kn A16 n16 c16 w14)
def l0 : Nat → Option Addr → Nat → Nat → Int → Option Addr → Nat → Nat → Bool → Int → World → ((Option Addr) → Nat → Nat → Bool → World → Prop) → Prop
  | 0, _, _, _, _, _, _, _, _, _, _, _ => False
  | k + 1, At0, nt0, ct0, xt1, At5, nt5, ct5, bt6, xt7, w, K0 =>
    sel (decide (xt7 < (nt0 : Int))) (
    sel (!bt6) (
    optB At0 fun a3 =>
    req (decide (0 ≤ xt7 ∧ xt7 < (nt0 : Int))) <|
    ldI w (a3.add (xt7.toNat * 1)) .i64 fun x4 =>
    sel (decide (xt1 < x4)) (
    alW w (.cells #[.int .i64 xt1] 3) fun B5 w6 =>
    Runs Try.prog (Builtin.append_ #[22, 22] 22 #[.slice At5 nt5 ct5, .slice (some (⟨B5, 0, Option.none⟩ : Addr)) 1 1]) w6 fun v8 w7 => ∃ (A9 : Option Addr) (n9 : Nat) (c9 : Nat), v8 = (.slice A9 n9 c9) ∧ (
    j1 At0 nt0 ct0 A9 n9 c9 xt7 w7 (fun (A17 : Option Addr) (n17 : Nat) (c17 : Nat) (w18 : World) => ∀ _ : Fr,
    l0 k At0 nt0 ct0 xt1 A17 n17 c17 true (IntKind.i64.wrap (xt7 + (1 : Int))) w18 K0))) (
    j1 At0 nt0 ct0 At5 nt5 ct5 xt7 w (fun (A19 : Option Addr) (n19 : Nat) (c19 : Nat) (w20 : World) => ∀ _ : Fr,
    l0 k At0 nt0 ct0 xt1 A19 n19 c19 bt6 (IntKind.i64.wrap (xt7 + (1 : Int))) w20 K0))) (
    j1 At0 nt0 ct0 At5 nt5 ct5 xt7 w (fun (A21 : Option Addr) (n21 : Nat) (c21 : Nat) (w22 : World) => ∀ _ : Fr,
    l0 k At0 nt0 ct0 xt1 A21 n21 c21 bt6 (IntKind.i64.wrap (xt7 + (1 : Int))) w22 K0))) (
    K0 At5 nt5 ct5 bt6 w)
def wp (Aa0 : Option Addr) (na0 : Nat) (ca0 : Nat) (xa1 : Int) (w : World) (Q : Ending → World → Prop) : Prop :=
  alW w (.cells #[] 3) fun B1 w2 =>
  ∃ k31 : Nat, l0 k31 Aa0 na0 ca0 xa1 (some (⟨B1, 0, Option.none⟩ : Addr)) 0 0 false (0 : Int) w2 (fun (A23 : Option Addr) (n23 : Nat) (c23 : Nat) (b24 : Bool) (w25 : World) => ∀ _ : Fr,
  sel (!b24) (
  alW w25 (.cells #[.int .i64 xa1] 3) fun B26 w27 =>
  Runs Try.prog (Builtin.append_ #[22, 22] 22 #[.slice A23 n23 c23, .slice (some (⟨B26, 0, Option.none⟩ : Addr)) 1 1]) w27 fun v29 w28 => ∃ (A30 : Option Addr) (n30 : Nat) (c30 : Nat), v29 = (.slice A30 n30 c30) ∧ (
  Q (.returned (.slice A30 n30 c30)) w28)) (
  Q (.returned (.slice A23 n23 c23)) w25))
def D : Nat → Option DH := dtab []
def j1LO : LO := ⟨[0, 1, 5, 6, 7], [], [], []⟩
def j1T : Spec := fun Q σ w =>
  gSlice (σ 0) fun At0 nt0 ct0 =>
  gSlice (σ 5) fun At5 nt5 ct5 =>
  gInt .i64 (σ 7) fun xt7 =>
  j1 At0 nt0 ct0 At5 nt5 ct5 xt7 w (fun (Aq5 : Option Addr) (nq5 : Nat) (cq5 : Nat) (w : World) => ∀ d : Fr, Q .normal (ov d [(0, .slice At0 nt0 ct0), (1, σ 1), (5, .slice Aq5 nq5 cq5), (6, σ 6), (7, .int .i64 xt7)]) w)
def j1tb : List (List Nat × Spec) := []
noncomputable def j1b : Code := (subC [1, 0, 0, 1, 0, 0, 1, 0, 1, 1, 1] body).getD .skip
theorem j1_eq (At0 : Option Addr) (nt0 : Nat) (ct0 : Nat) (At5 : Option Addr) (nt5 : Nat) (ct5 : Nat) (xt7 : Int) (Q : PQ) (σ : Fr) (w : World) :
    j1 At0 nt0 ct0 At5 nt5 ct5 xt7 w (fun (Aq5 : Option Addr) (nq5 : Nat) (cq5 : Nat) (w : World) => ∀ d : Fr, Q .normal (ov d [(0, .slice At0 nt0 ct0), (1, σ 1), (5, .slice Aq5 nq5 cq5), (6, σ 6), (7, .int .i64 xt7)]) w) = codeW Try.prog hT 43 D (tab j1tb) [1, 0, 0, 1, 0, 0, 1, 0, 1, 1, 1] j1b (widen j1LO Q) (ov σ [(0, .slice At0 nt0 ct0), (5, .slice At5 nt5 ct5), (7, .int .i64 xt7)]) w := by kernel_rfl
theorem j1_snd : ∀ c, subC [1, 0, 0, 1, 0, 0, 1, 0, 1, 1, 1] body = some c → Snd Try.prog 43 c j1T := by
  refine cut_of (hT := hT) (D := D) (l := j1tb) (b := j1b) (lo := j1LO) (by kernel_rfl) (by
    intro x hx
    simp only [j1tb, List.not_mem_nil] at hx
    ) (by kernel_rfl) (by kernel_rfl) ?_
  intro Q σ w h
  unfold j1T at h
  obtain ⟨At0, nt0, ct0, h0, hn⟩ := gSlice_elim h
  clear h
  have h := hn
  clear hn
  obtain ⟨At5, nt5, ct5, h5, hn⟩ := gSlice_elim h
  clear h
  have h := hn
  clear hn
  obtain ⟨xt7, h7, hn⟩ := gInt_elim h
  clear h
  have h := hn
  clear hn
  rw [j1_eq (σ := σ)] at h
  have e : (ov σ [(0, .slice At0 nt0 ct0), (5, .slice At5 nt5 ct5), (7, .int .i64 xt7)]) = σ := ov_self (by simp [h0, h5, h7])
  rw [e] at h
  exact h
def l0LO : LO := ⟨[], [], [(0, [1, 5, 6])], []⟩
def l0Tk (k : Nat) : Spec := fun Q σ w =>
  gSlice (σ 0) fun At0 nt0 ct0 =>
  gInt .i64 (σ 1) fun xt1 =>
  gSlice (σ 5) fun At5 nt5 ct5 =>
  gBool (σ 6) fun bt6 =>
  gInt .i64 (σ 7) fun xt7 =>
  l0 k At0 nt0 ct0 xt1 At5 nt5 ct5 bt6 xt7 w (fun (Aq5 : Option Addr) (nq5 : Nat) (cq5 : Nat) (bq6 : Bool) (w : World) => ∀ d : Fr, Q (.exit 0) (ov d [(1, .int .i64 xt1), (5, .slice Aq5 nq5 cq5), (6, .bool bq6)]) w)
def l0T : Spec := fun Q σ w => ∃ k, l0Tk k Q σ w
def l0tb : List (List Nat × Spec) := [([1, 0, 0, 1, 0, 0, 1, 0, 1, 1, 1], j1T)]
noncomputable def l0b : Code := (subC [0, 0, 1, 0, 1, 1, 1] body).getD .skip
theorem l0_eq (k : Nat) (At0 : Option Addr) (nt0 : Nat) (ct0 : Nat) (xt1 : Int) (At5 : Option Addr) (nt5 : Nat) (ct5 : Nat) (bt6 : Bool) (xt7 : Int) (Q : PQ) (σ : Fr) (w : World) :
    l0 (k + 1) At0 nt0 ct0 xt1 At5 nt5 ct5 bt6 xt7 w (fun (Aq5 : Option Addr) (nq5 : Nat) (cq5 : Nat) (bq6 : Bool) (w : World) => ∀ d : Fr, Q (.exit 0) (ov d [(1, .int .i64 xt1), (5, .slice Aq5 nq5 cq5), (6, .bool bq6)]) w) = codeW Try.prog hT 43 D (tab l0tb) [0, 0, 1, 0, 1, 1, 1] l0b (thenQ (l0Tk k Q) (widen l0LO Q)) (ov σ [(0, .slice At0 nt0 ct0), (1, .int .i64 xt1), (5, .slice At5 nt5 ct5), (6, .bool bt6), (7, .int .i64 xt7)]) w := by cases bt6 <;> kernel_rfl
theorem l0_snd : ∀ c, subC [0, 1, 0, 1, 1, 1] body = some c → Snd Try.prog 43 c l0T := by
  refine loop_of (hT := hT) (D := D) (l := l0tb) (b := l0b) (lo := l0LO) (by kernel_rfl) (by
    intro x hx
    simp only [l0tb, List.mem_cons, List.not_mem_nil, or_false] at hx
    subst hx
    exact j1_snd) (by kernel_rfl) (by kernel_rfl) ?_ ?_
  · intro Q σ w h
    unfold l0Tk at h
    obtain ⟨At0, nt0, ct0, h0, hn⟩ := gSlice_elim h
    clear h
    have h := hn
    clear hn
    obtain ⟨xt1, h1, hn⟩ := gInt_elim h
    clear h
    have h := hn
    clear hn
    obtain ⟨At5, nt5, ct5, h5, hn⟩ := gSlice_elim h
    clear h
    have h := hn
    clear hn
    obtain ⟨bt6, h6, hn⟩ := gBool_elim h
    clear h
    have h := hn
    clear hn
    obtain ⟨xt7, h7, hn⟩ := gInt_elim h
    clear h
    have h := hn
    clear hn
    exact h
  · intro k Q σ w h
    unfold l0Tk at h
    obtain ⟨At0, nt0, ct0, h0, hn⟩ := gSlice_elim h
    clear h
    have h := hn
    clear hn
    obtain ⟨xt1, h1, hn⟩ := gInt_elim h
    clear h
    have h := hn
    clear hn
    obtain ⟨At5, nt5, ct5, h5, hn⟩ := gSlice_elim h
    clear h
    have h := hn
    clear hn
    obtain ⟨bt6, h6, hn⟩ := gBool_elim h
    clear h
    have h := hn
    clear hn
    obtain ⟨xt7, h7, hn⟩ := gInt_elim h
    clear h
    have h := hn
    clear hn
    rw [l0_eq (σ := σ)] at h
    have e : (ov σ [(0, .slice At0 nt0 ct0), (1, .int .i64 xt1), (5, .slice At5 nt5 ct5), (6, .bool bt6), (7, .int .i64 xt7)]) = σ := ov_self (by simp [h0, h1, h5, h6, h7])
    rw [e] at h
    exact h
def tb : List (List Nat × Spec) := [([1, 0, 0, 1, 0, 0, 1, 0, 1, 1, 1], j1T), ([0, 1, 0, 1, 1, 1], l0T)]
theorem wp_eq (Aa0 : Option Addr) (na0 : Nat) (ca0 : Nat) (xa1 : Int) (w : World) (Q : Ending → World → Prop) :
    wp Aa0 na0 ca0 xa1 w Q = codeW Try.prog hT 43 D (tab tb) [] body (topQ Try.prog hT 43 [.tmp 4] Q) (argsF [.slice Aa0 na0 ca0, .int .i64 xa1]) w := by kernel_rfl
theorem ok (Aa0 : Option Addr) (na0 : Nat) (ca0 : Nat) (xa1 : Int) (w : World) (Q : Ending → World → Prop) (h : wp Aa0 na0 ca0 xa1 w Q) : Calls Try.prog 16 #[.slice Aa0 na0 ca0, .int .i64 xa1] w Q := by
  rw [wp_eq] at h
  exact calls_of_codeW (c := body) (rs := [.tmp 4]) Try.func16 (by kernel_rfl) (by kernel_rfl) (by kernel_rfl) (by kernel_rfl) (by kernel_rfl) (tab_snd (by
    intro x hx
    simp only [tb, List.mem_cons, List.not_mem_nil, or_false] at hx
    rcases hx with rfl | rfl
    · exact j1_snd
    · exact l0_snd)) (by kernel_rfl) h
end f_ref05_With
namespace f_ref16_AddV
/-! skein/skeinref16.AddV: function 20 -/
noncomputable def body : Code := (Try.f20.body).getD .skip
def wp (Aa0_0 : Option Addr) (na0_0 : Nat) (ca0_0 : Nat) (Aa0_1 : Option Addr) (na0_1 : Nat) (ca0_1 : Nat) (Aa0_2 : Option Addr) (na0_2 : Nat) (ca0_2 : Nat) (Aa0_3 : Option Addr) (na0_3 : Nat) (ca0_3 : Nat) (xa1 : Int) (w : World) (Q : Ending → World → Prop) : Prop :=
  alW w (.cells #[.slice Aa0_0 na0_0 ca0_0, .slice Aa0_1 na0_1 ca0_1, .slice Aa0_2 na0_2 ca0_2, .slice Aa0_3 na0_3 ca0_3] 43) fun B1 w2 =>
  alW w2 (.cells #[.slice none 0 0, .slice none 0 0, .slice none 0 0, .slice none 0 0] 43) fun B3 w4 =>
  Calls Try.prog 46 #[.int .i64 xa1] w4 fun e5 w6 => ∃ (b7 : Bool), e5 = .returned (.bool b7) ∧ (
  sel b7 (
  ldS w6 (⟨B1, 0, Option.none⟩ : Addr) fun A8 n8 c8 =>
  ldS w6 ((⟨B1, 0, Option.none⟩ : Addr).add 1) fun A9 n9 c9 =>
  ldS w6 ((⟨B1, 0, Option.none⟩ : Addr).add 2) fun A10 n10 c10 =>
  ldS w6 ((⟨B1, 0, Option.none⟩ : Addr).add 3) fun A11 n11 c11 =>
  stW w6 (⟨B3, 0, Option.none⟩ : Addr) (.slice A8 n8 c8) fun w12 =>
  stW w12 ((⟨B3, 0, Option.none⟩ : Addr).add 1) (.slice A9 n9 c9) fun w13 =>
  stW w13 ((⟨B3, 0, Option.none⟩ : Addr).add 2) (.slice A10 n10 c10) fun w14 =>
  stW w14 ((⟨B3, 0, Option.none⟩ : Addr).add 3) (.slice A11 n11 c11) fun w15 =>
  ldS w15 (⟨B3, 0, Option.none⟩ : Addr) fun A16 n16 c16 =>
  ldS w15 ((⟨B3, 0, Option.none⟩ : Addr).add 1) fun A17 n17 c17 =>
  ldS w15 ((⟨B3, 0, Option.none⟩ : Addr).add 2) fun A18 n18 c18 =>
  ldS w15 ((⟨B3, 0, Option.none⟩ : Addr).add 3) fun A19 n19 c19 =>
  Q (.returned (.tuple #[.agg #[.slice A16 n16 c16, .slice A17 n17 c17, .slice A18 n18 c18, .slice A19 n19 c19], .int .i64 (1 : Int)])) w15) (
  ldS w6 (⟨B1, 0, Option.none⟩ : Addr) fun A20 n20 c20 =>
  Calls Try.prog 15 #[.slice A20 n20 c20, .int .i64 xa1] w6 fun e21 w22 => ∃ (b23 : Bool), e21 = .returned (.bool b23) ∧ (
  sel b23 (
  ldS w22 (⟨B1, 0, Option.none⟩ : Addr) fun A24 n24 c24 =>
  ldS w22 ((⟨B1, 0, Option.none⟩ : Addr).add 1) fun A25 n25 c25 =>
  ldS w22 ((⟨B1, 0, Option.none⟩ : Addr).add 2) fun A26 n26 c26 =>
  ldS w22 ((⟨B1, 0, Option.none⟩ : Addr).add 3) fun A27 n27 c27 =>
  stW w22 (⟨B3, 0, Option.none⟩ : Addr) (.slice A24 n24 c24) fun w28 =>
  stW w28 ((⟨B3, 0, Option.none⟩ : Addr).add 1) (.slice A25 n25 c25) fun w29 =>
  stW w29 ((⟨B3, 0, Option.none⟩ : Addr).add 2) (.slice A26 n26 c26) fun w30 =>
  stW w30 ((⟨B3, 0, Option.none⟩ : Addr).add 3) (.slice A27 n27 c27) fun w31 =>
  ldS w31 (⟨B3, 0, Option.none⟩ : Addr) fun A32 n32 c32 =>
  ldS w31 ((⟨B3, 0, Option.none⟩ : Addr).add 1) fun A33 n33 c33 =>
  ldS w31 ((⟨B3, 0, Option.none⟩ : Addr).add 2) fun A34 n34 c34 =>
  ldS w31 ((⟨B3, 0, Option.none⟩ : Addr).add 3) fun A35 n35 c35 =>
  Q (.returned (.tuple #[.agg #[.slice A32 n32 c32, .slice A33 n33 c33, .slice A34 n34 c34, .slice A35 n35 c35], .int .i64 (50 : Int)])) w31) (
  ldS w22 (⟨B1, 0, Option.none⟩ : Addr) fun A36 n36 c36 =>
  sel (decide ((n36 : Int) ≥ (2048 : Int))) (
  ldS w22 (⟨B1, 0, Option.none⟩ : Addr) fun A37 n37 c37 =>
  ldS w22 ((⟨B1, 0, Option.none⟩ : Addr).add 1) fun A38 n38 c38 =>
  ldS w22 ((⟨B1, 0, Option.none⟩ : Addr).add 2) fun A39 n39 c39 =>
  ldS w22 ((⟨B1, 0, Option.none⟩ : Addr).add 3) fun A40 n40 c40 =>
  stW w22 (⟨B3, 0, Option.none⟩ : Addr) (.slice A37 n37 c37) fun w41 =>
  stW w41 ((⟨B3, 0, Option.none⟩ : Addr).add 1) (.slice A38 n38 c38) fun w42 =>
  stW w42 ((⟨B3, 0, Option.none⟩ : Addr).add 2) (.slice A39 n39 c39) fun w43 =>
  stW w43 ((⟨B3, 0, Option.none⟩ : Addr).add 3) (.slice A40 n40 c40) fun w44 =>
  ldS w44 (⟨B3, 0, Option.none⟩ : Addr) fun A45 n45 c45 =>
  ldS w44 ((⟨B3, 0, Option.none⟩ : Addr).add 1) fun A46 n46 c46 =>
  ldS w44 ((⟨B3, 0, Option.none⟩ : Addr).add 2) fun A47 n47 c47 =>
  ldS w44 ((⟨B3, 0, Option.none⟩ : Addr).add 3) fun A48 n48 c48 =>
  Q (.returned (.tuple #[.agg #[.slice A45 n45 c45, .slice A46 n46 c46, .slice A47 n47 c47, .slice A48 n48 c48], .int .i64 (55 : Int)])) w44) (
  drW w22 fun w49 =>
  ∃ S50 : World → Prop, S50 w49 ∧ (
  hdS S50 (⟨B1, 0, Option.none⟩ : Addr) fun A51 n51 c51 =>
  hdS S50 ((⟨B1, 0, Option.none⟩ : Addr).add 1) fun A52 n52 c52 =>
  Calls Try.prog 16 #[.slice A51 n51 c51, .int .i64 xa1] w49 fun e53 w54 => ∃ (A55 : Option Addr) (n55 : Nat) (c55 : Nat), e53 = .returned (.slice A55 n55 c55) ∧ (
  S50 w54 ∧ (
  stW w54 (⟨B1, 0, Option.none⟩ : Addr) (.slice A55 n55 c55) fun w56 =>
  stW w56 ((⟨B1, 0, Option.none⟩ : Addr).add 1) (.slice A52 n52 c52) fun w57 =>
  ldS w57 (⟨B1, 0, Option.none⟩ : Addr) fun A58 n58 c58 =>
  ldS w57 ((⟨B1, 0, Option.none⟩ : Addr).add 1) fun A59 n59 c59 =>
  ldS w57 ((⟨B1, 0, Option.none⟩ : Addr).add 2) fun A60 n60 c60 =>
  ldS w57 ((⟨B1, 0, Option.none⟩ : Addr).add 3) fun A61 n61 c61 =>
  stW w57 (⟨B3, 0, Option.none⟩ : Addr) (.slice A58 n58 c58) fun w62 =>
  stW w62 ((⟨B3, 0, Option.none⟩ : Addr).add 1) (.slice A59 n59 c59) fun w63 =>
  stW w63 ((⟨B3, 0, Option.none⟩ : Addr).add 2) (.slice A60 n60 c60) fun w64 =>
  stW w64 ((⟨B3, 0, Option.none⟩ : Addr).add 3) (.slice A61 n61 c61) fun w65 =>
  ldS w65 (⟨B3, 0, Option.none⟩ : Addr) fun A66 n66 c66 =>
  ldS w65 ((⟨B3, 0, Option.none⟩ : Addr).add 1) fun A67 n67 c67 =>
  ldS w65 ((⟨B3, 0, Option.none⟩ : Addr).add 2) fun A68 n68 c68 =>
  ldS w65 ((⟨B3, 0, Option.none⟩ : Addr).add 3) fun A69 n69 c69 =>
  Q (.returned (.tuple #[.agg #[.slice A66 n66 c66, .slice A67 n67 c67, .slice A68 n68 c68, .slice A69 n69 c69], .int .i64 (0 : Int)])) w65))))))))
def D : Nat → Option DH := dtab [(7, .held [.fst 0, .fst 1, .fst 2, .fst 3, .fst 5, .fst 6, .fst 7, .eff 4] [.fst 8, .fst 9, .eff 10])]
def tb : List (List Nat × Spec) := []
theorem wp_eq (Aa0_0 : Option Addr) (na0_0 : Nat) (ca0_0 : Nat) (Aa0_1 : Option Addr) (na0_1 : Nat) (ca0_1 : Nat) (Aa0_2 : Option Addr) (na0_2 : Nat) (ca0_2 : Nat) (Aa0_3 : Option Addr) (na0_3 : Nat) (ca0_3 : Nat) (xa1 : Int) (w : World) (Q : Ending → World → Prop) :
    wp Aa0_0 na0_0 ca0_0 Aa0_1 na0_1 ca0_1 Aa0_2 na0_2 ca0_2 Aa0_3 na0_3 ca0_3 xa1 w Q = codeW Try.prog hT 32 D (tab tb) [] body (topQ Try.prog hT 32 [.cell 4 43, .tmp 5] Q) (argsF [.agg #[.slice Aa0_0 na0_0 ca0_0, .slice Aa0_1 na0_1 ca0_1, .slice Aa0_2 na0_2 ca0_2, .slice Aa0_3 na0_3 ca0_3], .int .i64 xa1]) w := by kernel_rfl
theorem ok (Aa0_0 : Option Addr) (na0_0 : Nat) (ca0_0 : Nat) (Aa0_1 : Option Addr) (na0_1 : Nat) (ca0_1 : Nat) (Aa0_2 : Option Addr) (na0_2 : Nat) (ca0_2 : Nat) (Aa0_3 : Option Addr) (na0_3 : Nat) (ca0_3 : Nat) (xa1 : Int) (w : World) (Q : Ending → World → Prop) (h : wp Aa0_0 na0_0 ca0_0 Aa0_1 na0_1 ca0_1 Aa0_2 na0_2 ca0_2 Aa0_3 na0_3 ca0_3 xa1 w Q) : Calls Try.prog 20 #[.agg #[.slice Aa0_0 na0_0 ca0_0, .slice Aa0_1 na0_1 ca0_1, .slice Aa0_2 na0_2 ca0_2, .slice Aa0_3 na0_3 ca0_3], .int .i64 xa1] w Q := by
  rw [wp_eq] at h
  exact calls_of_codeW (c := body) (rs := [.cell 4 43, .tmp 5]) Try.func20 (by kernel_rfl) (by kernel_rfl) (by kernel_rfl) (by kernel_rfl) (by kernel_rfl) (tab_snd (by
    intro x hx
    simp only [tb, List.not_mem_nil] at hx
    )) (by kernel_rfl) h
end f_ref16_AddV
namespace f_ref16_DelV
/-! skein/skeinref16.DelV: function 21 -/
noncomputable def body : Code := (Try.f21.body).getD .skip
def l0 : Nat → Int → Addr → Addr → Int → World → (World → Prop) → (Int → World → Prop) → Prop
  | 0, _, _, _, _, _, _, _ => False
  | k + 1, xt1, at2, at4, xt6, w, K0, Kr =>
    ldS w (at2.add 1) fun A36 n36 c36 =>
    sel (decide (xt6 < (n36 : Int))) (
    ldS w (at2.add 1) fun A37 n37 c37 =>
    optB A37 fun a38 =>
    req (decide (0 ≤ xt6 ∧ xt6 < (n37 : Int))) <|
    ldI w ((a38.add (xt6.toNat * 4)).add 1) .i64 fun x39 =>
    sel (x39 == xt1) (
    ldS w at2 fun A40 n40 c40 =>
    ldS w (at2.add 1) fun A41 n41 c41 =>
    ldS w (at2.add 2) fun A42 n42 c42 =>
    ldS w (at2.add 3) fun A43 n43 c43 =>
    stW w at4 (.slice A40 n40 c40) fun w44 =>
    stW w44 (at4.add 1) (.slice A41 n41 c41) fun w45 =>
    stW w45 (at4.add 2) (.slice A42 n42 c42) fun w46 =>
    stW w46 (at4.add 3) (.slice A43 n43 c43) fun w47 =>
    Kr (52 : Int) w47) (
    ldS w (at2.add 1) fun A48 n48 c48 =>
    optB A48 fun a49 =>
    req (decide (0 ≤ xt6 ∧ xt6 < (n48 : Int))) <|
    ldI w ((a49.add (xt6.toNat * 4)).add 2) .i64 fun x50 =>
    sel (x50 == xt1) (
    ldS w at2 fun A51 n51 c51 =>
    ldS w (at2.add 1) fun A52 n52 c52 =>
    ldS w (at2.add 2) fun A53 n53 c53 =>
    ldS w (at2.add 3) fun A54 n54 c54 =>
    stW w at4 (.slice A51 n51 c51) fun w55 =>
    stW w55 (at4.add 1) (.slice A52 n52 c52) fun w56 =>
    stW w56 (at4.add 2) (.slice A53 n53 c53) fun w57 =>
    stW w57 (at4.add 3) (.slice A54 n54 c54) fun w58 =>
    Kr (52 : Int) w58) (
    l0 k xt1 at2 at4 (IntKind.i64.wrap (xt6 + (1 : Int))) w K0 Kr))) (
    K0  w)
def wp (Aa0_0 : Option Addr) (na0_0 : Nat) (ca0_0 : Nat) (Aa0_1 : Option Addr) (na0_1 : Nat) (ca0_1 : Nat) (Aa0_2 : Option Addr) (na0_2 : Nat) (ca0_2 : Nat) (Aa0_3 : Option Addr) (na0_3 : Nat) (ca0_3 : Nat) (xa1 : Int) (w : World) (Q : Ending → World → Prop) : Prop :=
  alW w (.cells #[.slice Aa0_0 na0_0 ca0_0, .slice Aa0_1 na0_1 ca0_1, .slice Aa0_2 na0_2 ca0_2, .slice Aa0_3 na0_3 ca0_3] 43) fun B1 w2 =>
  alW w2 (.cells #[.slice none 0 0, .slice none 0 0, .slice none 0 0, .slice none 0 0] 43) fun B3 w4 =>
  Calls Try.prog 46 #[.int .i64 xa1] w4 fun e5 w6 => ∃ (b7 : Bool), e5 = .returned (.bool b7) ∧ (
  sel b7 (
  ldS w6 (⟨B1, 0, Option.none⟩ : Addr) fun A8 n8 c8 =>
  ldS w6 ((⟨B1, 0, Option.none⟩ : Addr).add 1) fun A9 n9 c9 =>
  ldS w6 ((⟨B1, 0, Option.none⟩ : Addr).add 2) fun A10 n10 c10 =>
  ldS w6 ((⟨B1, 0, Option.none⟩ : Addr).add 3) fun A11 n11 c11 =>
  stW w6 (⟨B3, 0, Option.none⟩ : Addr) (.slice A8 n8 c8) fun w12 =>
  stW w12 ((⟨B3, 0, Option.none⟩ : Addr).add 1) (.slice A9 n9 c9) fun w13 =>
  stW w13 ((⟨B3, 0, Option.none⟩ : Addr).add 2) (.slice A10 n10 c10) fun w14 =>
  stW w14 ((⟨B3, 0, Option.none⟩ : Addr).add 3) (.slice A11 n11 c11) fun w15 =>
  ldS w15 (⟨B3, 0, Option.none⟩ : Addr) fun A16 n16 c16 =>
  ldS w15 ((⟨B3, 0, Option.none⟩ : Addr).add 1) fun A17 n17 c17 =>
  ldS w15 ((⟨B3, 0, Option.none⟩ : Addr).add 2) fun A18 n18 c18 =>
  ldS w15 ((⟨B3, 0, Option.none⟩ : Addr).add 3) fun A19 n19 c19 =>
  Q (.returned (.tuple #[.agg #[.slice A16 n16 c16, .slice A17 n17 c17, .slice A18 n18 c18, .slice A19 n19 c19], .int .i64 (1 : Int)])) w15) (
  ldS w6 (⟨B1, 0, Option.none⟩ : Addr) fun A20 n20 c20 =>
  Calls Try.prog 15 #[.slice A20 n20 c20, .int .i64 xa1] w6 fun e21 w22 => ∃ (b23 : Bool), e21 = .returned (.bool b23) ∧ (
  sel (!b23) (
  ldS w22 (⟨B1, 0, Option.none⟩ : Addr) fun A24 n24 c24 =>
  ldS w22 ((⟨B1, 0, Option.none⟩ : Addr).add 1) fun A25 n25 c25 =>
  ldS w22 ((⟨B1, 0, Option.none⟩ : Addr).add 2) fun A26 n26 c26 =>
  ldS w22 ((⟨B1, 0, Option.none⟩ : Addr).add 3) fun A27 n27 c27 =>
  stW w22 (⟨B3, 0, Option.none⟩ : Addr) (.slice A24 n24 c24) fun w28 =>
  stW w28 ((⟨B3, 0, Option.none⟩ : Addr).add 1) (.slice A25 n25 c25) fun w29 =>
  stW w29 ((⟨B3, 0, Option.none⟩ : Addr).add 2) (.slice A26 n26 c26) fun w30 =>
  stW w30 ((⟨B3, 0, Option.none⟩ : Addr).add 3) (.slice A27 n27 c27) fun w31 =>
  ldS w31 (⟨B3, 0, Option.none⟩ : Addr) fun A32 n32 c32 =>
  ldS w31 ((⟨B3, 0, Option.none⟩ : Addr).add 1) fun A33 n33 c33 =>
  ldS w31 ((⟨B3, 0, Option.none⟩ : Addr).add 2) fun A34 n34 c34 =>
  ldS w31 ((⟨B3, 0, Option.none⟩ : Addr).add 3) fun A35 n35 c35 =>
  Q (.returned (.tuple #[.agg #[.slice A32 n32 c32, .slice A33 n33 c33, .slice A34 n34 c34, .slice A35 n35 c35], .int .i64 (51 : Int)])) w31) (
  ∃ k92 : Nat, l0 k92 xa1 (⟨B1, 0, Option.none⟩ : Addr) (⟨B3, 0, Option.none⟩ : Addr) (0 : Int) w22 (fun (w59 : World) => ∀ _ : Fr,
  drW w59 fun w60 =>
  ∃ S61 : World → Prop, S61 w60 ∧ (
  hdS S61 (⟨B1, 0, Option.none⟩ : Addr) fun A62 n62 c62 =>
  hdS S61 ((⟨B1, 0, Option.none⟩ : Addr).add 1) fun A63 n63 c63 =>
  Calls Try.prog 35 #[.slice A62 n62 c62, .int .i64 xa1] w60 fun e64 w65 => ∃ (A66 : Option Addr) (n66 : Nat) (c66 : Nat), e64 = .returned (.slice A66 n66 c66) ∧ (
  S61 w65 ∧ (
  stW w65 (⟨B1, 0, Option.none⟩ : Addr) (.slice A66 n66 c66) fun w67 =>
  stW w67 ((⟨B1, 0, Option.none⟩ : Addr).add 1) (.slice A63 n63 c63) fun w68 =>
  ldS w68 ((⟨B1, 0, Option.none⟩ : Addr).add 2) fun A69 n69 c69 =>
  Calls Try.prog 35 #[.slice A69 n69 c69, .int .i64 xa1] w68 fun e70 w71 => ∃ (A72 : Option Addr) (n72 : Nat) (c72 : Nat), e70 = .returned (.slice A72 n72 c72) ∧ (
  stW w71 ((⟨B1, 0, Option.none⟩ : Addr).add 2) (.slice A72 n72 c72) fun w73 =>
  ldS w73 (⟨B1, 0, Option.none⟩ : Addr) fun A74 n74 c74 =>
  ldS w73 ((⟨B1, 0, Option.none⟩ : Addr).add 1) fun A75 n75 c75 =>
  ldS w73 ((⟨B1, 0, Option.none⟩ : Addr).add 2) fun A76 n76 c76 =>
  ldS w73 ((⟨B1, 0, Option.none⟩ : Addr).add 3) fun A77 n77 c77 =>
  stW w73 (⟨B3, 0, Option.none⟩ : Addr) (.slice A74 n74 c74) fun w78 =>
  stW w78 ((⟨B3, 0, Option.none⟩ : Addr).add 1) (.slice A75 n75 c75) fun w79 =>
  stW w79 ((⟨B3, 0, Option.none⟩ : Addr).add 2) (.slice A76 n76 c76) fun w80 =>
  stW w80 ((⟨B3, 0, Option.none⟩ : Addr).add 3) (.slice A77 n77 c77) fun w81 =>
  ldS w81 (⟨B3, 0, Option.none⟩ : Addr) fun A82 n82 c82 =>
  ldS w81 ((⟨B3, 0, Option.none⟩ : Addr).add 1) fun A83 n83 c83 =>
  ldS w81 ((⟨B3, 0, Option.none⟩ : Addr).add 2) fun A84 n84 c84 =>
  ldS w81 ((⟨B3, 0, Option.none⟩ : Addr).add 3) fun A85 n85 c85 =>
  Q (.returned (.tuple #[.agg #[.slice A82 n82 c82, .slice A83 n83 c83, .slice A84 n84 c84, .slice A85 n85 c85], .int .i64 (0 : Int)])) w81))))) (fun (x86 : Int) (w87 : World) => ∀ _ : Fr,
  ldS w87 (⟨B3, 0, Option.none⟩ : Addr) fun A88 n88 c88 =>
  ldS w87 ((⟨B3, 0, Option.none⟩ : Addr).add 1) fun A89 n89 c89 =>
  ldS w87 ((⟨B3, 0, Option.none⟩ : Addr).add 2) fun A90 n90 c90 =>
  ldS w87 ((⟨B3, 0, Option.none⟩ : Addr).add 3) fun A91 n91 c91 =>
  Q (.returned (.tuple #[.agg #[.slice A88 n88 c88, .slice A89 n89 c89, .slice A90 n90 c90, .slice A91 n91 c91], .int .i64 x86])) w87)))))
def D : Nat → Option DH := dtab [(10, .held [.fst 0, .fst 1, .fst 2, .fst 3, .fst 5, .fst 6, .fst 7, .eff 4] [.fst 8, .fst 9, .eff 10])]
def l0LO : LO := ⟨[], [4, 5], [(0, [1, 2, 4])], []⟩
def l0Tk (k : Nat) : Spec := fun Q σ w =>
  gInt .i64 (σ 1) fun xt1 =>
  gAd (σ 2) fun at2 =>
  gAd (σ 4) fun at4 =>
  gInt .i64 (σ 6) fun xt6 =>
  l0 k xt1 at2 at4 xt6 w (fun (w : World) => ∀ d : Fr, Q (.exit 0) (ov d [(1, .int .i64 xt1), (2, .pointer (some at2)), (4, .pointer (some at4))]) w) (fun (xq5 : Int) (w : World) => ∀ d : Fr, Q .ret (ov d [(4, .pointer (some at4)), (5, .int .i64 xq5)]) w)
def l0T : Spec := fun Q σ w => ∃ k, l0Tk k Q σ w
def l0tb : List (List Nat × Spec) := []
noncomputable def l0b : Code := (subC [0, 0, 1, 0, 1, 1, 1] body).getD .skip
theorem l0_eq (k : Nat) (xt1 : Int) (at2 : Addr) (at4 : Addr) (xt6 : Int) (Q : PQ) (σ : Fr) (w : World) :
    l0 (k + 1) xt1 at2 at4 xt6 w (fun (w : World) => ∀ d : Fr, Q (.exit 0) (ov d [(1, .int .i64 xt1), (2, .pointer (some at2)), (4, .pointer (some at4))]) w) (fun (xq5 : Int) (w : World) => ∀ d : Fr, Q .ret (ov d [(4, .pointer (some at4)), (5, .int .i64 xq5)]) w) = codeW Try.prog hT 62 D (tab l0tb) [0, 0, 1, 0, 1, 1, 1] l0b (thenQ (l0Tk k Q) (widen l0LO Q)) (ov σ [(1, .int .i64 xt1), (2, .pointer (some at2)), (4, .pointer (some at4)), (6, .int .i64 xt6)]) w := by kernel_rfl
theorem l0_snd : ∀ c, subC [0, 1, 0, 1, 1, 1] body = some c → Snd Try.prog 62 c l0T := by
  refine loop_of (hT := hT) (D := D) (l := l0tb) (b := l0b) (lo := l0LO) (by kernel_rfl) (by
    intro x hx
    simp only [l0tb, List.not_mem_nil] at hx
    ) (by kernel_rfl) (by kernel_rfl) ?_ ?_
  · intro Q σ w h
    unfold l0Tk at h
    obtain ⟨xt1, h1, hn⟩ := gInt_elim h
    clear h
    have h := hn
    clear hn
    obtain ⟨at2, h2, hn⟩ := gAd_elim h
    clear h
    have h := hn
    clear hn
    obtain ⟨at4, h4, hn⟩ := gAd_elim h
    clear h
    have h := hn
    clear hn
    obtain ⟨xt6, h6, hn⟩ := gInt_elim h
    clear h
    have h := hn
    clear hn
    exact h
  · intro k Q σ w h
    unfold l0Tk at h
    obtain ⟨xt1, h1, hn⟩ := gInt_elim h
    clear h
    have h := hn
    clear hn
    obtain ⟨at2, h2, hn⟩ := gAd_elim h
    clear h
    have h := hn
    clear hn
    obtain ⟨at4, h4, hn⟩ := gAd_elim h
    clear h
    have h := hn
    clear hn
    obtain ⟨xt6, h6, hn⟩ := gInt_elim h
    clear h
    have h := hn
    clear hn
    rw [l0_eq (σ := σ)] at h
    have e : (ov σ [(1, .int .i64 xt1), (2, .pointer (some at2)), (4, .pointer (some at4)), (6, .int .i64 xt6)]) = σ := ov_self (by simp [h1, h2, h4, h6])
    rw [e] at h
    exact h
def tb : List (List Nat × Spec) := [([0, 1, 0, 1, 1, 1], l0T)]
theorem wp_eq (Aa0_0 : Option Addr) (na0_0 : Nat) (ca0_0 : Nat) (Aa0_1 : Option Addr) (na0_1 : Nat) (ca0_1 : Nat) (Aa0_2 : Option Addr) (na0_2 : Nat) (ca0_2 : Nat) (Aa0_3 : Option Addr) (na0_3 : Nat) (ca0_3 : Nat) (xa1 : Int) (w : World) (Q : Ending → World → Prop) :
    wp Aa0_0 na0_0 ca0_0 Aa0_1 na0_1 ca0_1 Aa0_2 na0_2 ca0_2 Aa0_3 na0_3 ca0_3 xa1 w Q = codeW Try.prog hT 62 D (tab tb) [] body (topQ Try.prog hT 62 [.cell 4 43, .tmp 5] Q) (argsF [.agg #[.slice Aa0_0 na0_0 ca0_0, .slice Aa0_1 na0_1 ca0_1, .slice Aa0_2 na0_2 ca0_2, .slice Aa0_3 na0_3 ca0_3], .int .i64 xa1]) w := by kernel_rfl
theorem ok (Aa0_0 : Option Addr) (na0_0 : Nat) (ca0_0 : Nat) (Aa0_1 : Option Addr) (na0_1 : Nat) (ca0_1 : Nat) (Aa0_2 : Option Addr) (na0_2 : Nat) (ca0_2 : Nat) (Aa0_3 : Option Addr) (na0_3 : Nat) (ca0_3 : Nat) (xa1 : Int) (w : World) (Q : Ending → World → Prop) (h : wp Aa0_0 na0_0 ca0_0 Aa0_1 na0_1 ca0_1 Aa0_2 na0_2 ca0_2 Aa0_3 na0_3 ca0_3 xa1 w Q) : Calls Try.prog 21 #[.agg #[.slice Aa0_0 na0_0 ca0_0, .slice Aa0_1 na0_1 ca0_1, .slice Aa0_2 na0_2 ca0_2, .slice Aa0_3 na0_3 ca0_3], .int .i64 xa1] w Q := by
  rw [wp_eq] at h
  exact calls_of_codeW (c := body) (rs := [.cell 4 43, .tmp 5]) Try.func21 (by kernel_rfl) (by kernel_rfl) (by kernel_rfl) (by kernel_rfl) (by kernel_rfl) (tab_snd (by
    intro x hx
    simp only [tb, List.mem_cons, List.not_mem_nil, or_false] at hx
    subst hx
    exact l0_snd)) (by kernel_rfl) h
end f_ref16_DelV
namespace f_ref16_Link
/-! skein/skeinref16.Link: function 22 -/
noncomputable def body : Code := (Try.f22.body).getD .skip
def j1 (at2 : Addr) (at8 : Addr) (xt10 : Int) (w : World) (Kn : World → Prop) : Prop :=
  drW w fun w159 =>
  ∃ S160 : World → Prop, S160 w159 ∧ (
  hdS S160 (at8.add 1) fun A161 n161 c161 =>
  hdS S160 (at2.add 1) fun A162 n162 c162 =>
  optB A162 fun a163 =>
  req (decide (0 ≤ xt10 ∧ xt10 < (n162 : Int))) <|
  hdI S160 (a163.add (xt10.toNat * 4)) .i64 fun x164 =>
  hdI S160 ((a163.add (xt10.toNat * 4)).add 1) .i64 fun x165 =>
  hdI S160 ((a163.add (xt10.toNat * 4)).add 2) .i64 fun x166 =>
  hdI S160 ((a163.add (xt10.toNat * 4)).add 3) .i64 fun x167 =>
  alW w159 (.cells #[.int .i64 x164, .int .i64 x165, .int .i64 x166, .int .i64 x167] 50) fun B168 w169 =>
  S160 w169 ∧ (
  Runs Try.prog (Builtin.append_ #[39, 39] 39 #[.slice A161 n161 c161, .slice (some (⟨B168, 0, Option.none⟩ : Addr)) 1 1]) w169 fun v171 w170 => ∃ (A172 : Option Addr) (n172 : Nat) (c172 : Nat), v171 = (.slice A172 n172 c172) ∧ (
  stW w170 (at8.add 1) (.slice A172 n172 c172) fun w173 =>
  Kn  w173)))
def l0 : Nat → Addr → Addr → Addr → Bool → Int → World → (Bool → World → Prop) → Prop
  | 0, _, _, _, _, _, _, _ => False
  | k + 1, at2, at3, at8, bt9, xt10, w, K0 =>
    ldS w (at2.add 1) fun A141 n141 c141 =>
    sel (decide (xt10 < (n141 : Int))) (
    drW w fun w142 =>
    sel (!bt9) (
    ldI w142 at3 .i64 fun x144 =>
    ldS w142 (at2.add 1) fun A145 n145 c145 =>
    optB A145 fun a146 =>
    req (decide (0 ≤ xt10 ∧ xt10 < (n145 : Int))) <|
    ldI w142 (a146.add (xt10.toNat * 4)) .i64 fun x147 =>
    sel (decide (x144 < x147)) (
    ldS w142 (at8.add 1) fun A148 n148 c148 =>
    ldI w142 at3 .i64 fun x149 =>
    ldI w142 (at3.add 1) .i64 fun x150 =>
    ldI w142 (at3.add 2) .i64 fun x151 =>
    ldI w142 (at3.add 3) .i64 fun x152 =>
    alW w142 (.cells #[.int .i64 x149, .int .i64 x150, .int .i64 x151, .int .i64 x152] 50) fun B153 w154 =>
    Runs Try.prog (Builtin.append_ #[39, 39] 39 #[.slice A148 n148 c148, .slice (some (⟨B153, 0, Option.none⟩ : Addr)) 1 1]) w154 fun v156 w155 => ∃ (A157 : Option Addr) (n157 : Nat) (c157 : Nat), v156 = (.slice A157 n157 c157) ∧ (
    stW w155 (at8.add 1) (.slice A157 n157 c157) fun w158 =>
    j1 at2 at8 xt10 w158 (fun (w174 : World) => ∀ _ : Fr,
    l0 k at2 at3 at8 true (IntKind.i64.wrap (xt10 + (1 : Int))) w174 K0))) (
    j1 at2 at8 xt10 w142 (fun (w175 : World) => ∀ _ : Fr,
    l0 k at2 at3 at8 bt9 (IntKind.i64.wrap (xt10 + (1 : Int))) w175 K0))) (
    j1 at2 at8 xt10 w142 (fun (w176 : World) => ∀ _ : Fr,
    l0 k at2 at3 at8 bt9 (IntKind.i64.wrap (xt10 + (1 : Int))) w176 K0))) (
    K0 bt9 w)
def wp (Aa0_0 : Option Addr) (na0_0 : Nat) (ca0_0 : Nat) (Aa0_1 : Option Addr) (na0_1 : Nat) (ca0_1 : Nat) (Aa0_2 : Option Addr) (na0_2 : Nat) (ca0_2 : Nat) (Aa0_3 : Option Addr) (na0_3 : Nat) (ca0_3 : Nat) (xa1_0 : Int) (xa1_1 : Int) (xa1_2 : Int) (xa1_3 : Int) (w : World) (Q : Ending → World → Prop) : Prop :=
  alW w (.cells #[.slice Aa0_0 na0_0 ca0_0, .slice Aa0_1 na0_1 ca0_1, .slice Aa0_2 na0_2 ca0_2, .slice Aa0_3 na0_3 ca0_3] 43) fun B1 w2 =>
  alW w2 (.cells #[.int .i64 xa1_0, .int .i64 xa1_1, .int .i64 xa1_2, .int .i64 xa1_3] 50) fun B3 w4 =>
  alW w4 (.cells #[.slice none 0 0, .slice none 0 0, .slice none 0 0, .slice none 0 0] 43) fun B5 w6 =>
  ldI w6 (⟨B3, 0, Option.none⟩ : Addr) .i64 fun x7 =>
  Calls Try.prog 46 #[.int .i64 x7] w6 fun e8 w9 => ∃ (b10 : Bool), e8 = .returned (.bool b10) ∧ (
  sel b10 (
  ldS w9 (⟨B1, 0, Option.none⟩ : Addr) fun A11 n11 c11 =>
  ldS w9 ((⟨B1, 0, Option.none⟩ : Addr).add 1) fun A12 n12 c12 =>
  ldS w9 ((⟨B1, 0, Option.none⟩ : Addr).add 2) fun A13 n13 c13 =>
  ldS w9 ((⟨B1, 0, Option.none⟩ : Addr).add 3) fun A14 n14 c14 =>
  stW w9 (⟨B5, 0, Option.none⟩ : Addr) (.slice A11 n11 c11) fun w15 =>
  stW w15 ((⟨B5, 0, Option.none⟩ : Addr).add 1) (.slice A12 n12 c12) fun w16 =>
  stW w16 ((⟨B5, 0, Option.none⟩ : Addr).add 2) (.slice A13 n13 c13) fun w17 =>
  stW w17 ((⟨B5, 0, Option.none⟩ : Addr).add 3) (.slice A14 n14 c14) fun w18 =>
  ldS w18 (⟨B5, 0, Option.none⟩ : Addr) fun A19 n19 c19 =>
  ldS w18 ((⟨B5, 0, Option.none⟩ : Addr).add 1) fun A20 n20 c20 =>
  ldS w18 ((⟨B5, 0, Option.none⟩ : Addr).add 2) fun A21 n21 c21 =>
  ldS w18 ((⟨B5, 0, Option.none⟩ : Addr).add 3) fun A22 n22 c22 =>
  Q (.returned (.tuple #[.agg #[.slice A19 n19 c19, .slice A20 n20 c20, .slice A21 n21 c21, .slice A22 n22 c22], .int .i64 (1 : Int)])) w18) (
  ldI w9 ((⟨B3, 0, Option.none⟩ : Addr).add 1) .i64 fun x23 =>
  Calls Try.prog 46 #[.int .i64 x23] w9 fun e24 w25 => ∃ (b26 : Bool), e24 = .returned (.bool b26) ∧ (
  sel b26 (
  ldS w25 (⟨B1, 0, Option.none⟩ : Addr) fun A27 n27 c27 =>
  ldS w25 ((⟨B1, 0, Option.none⟩ : Addr).add 1) fun A28 n28 c28 =>
  ldS w25 ((⟨B1, 0, Option.none⟩ : Addr).add 2) fun A29 n29 c29 =>
  ldS w25 ((⟨B1, 0, Option.none⟩ : Addr).add 3) fun A30 n30 c30 =>
  stW w25 (⟨B5, 0, Option.none⟩ : Addr) (.slice A27 n27 c27) fun w31 =>
  stW w31 ((⟨B5, 0, Option.none⟩ : Addr).add 1) (.slice A28 n28 c28) fun w32 =>
  stW w32 ((⟨B5, 0, Option.none⟩ : Addr).add 2) (.slice A29 n29 c29) fun w33 =>
  stW w33 ((⟨B5, 0, Option.none⟩ : Addr).add 3) (.slice A30 n30 c30) fun w34 =>
  ldS w34 (⟨B5, 0, Option.none⟩ : Addr) fun A35 n35 c35 =>
  ldS w34 ((⟨B5, 0, Option.none⟩ : Addr).add 1) fun A36 n36 c36 =>
  ldS w34 ((⟨B5, 0, Option.none⟩ : Addr).add 2) fun A37 n37 c37 =>
  ldS w34 ((⟨B5, 0, Option.none⟩ : Addr).add 3) fun A38 n38 c38 =>
  Q (.returned (.tuple #[.agg #[.slice A35 n35 c35, .slice A36 n36 c36, .slice A37 n37 c37, .slice A38 n38 c38], .int .i64 (1 : Int)])) w34) (
  ldI w25 ((⟨B3, 0, Option.none⟩ : Addr).add 2) .i64 fun x39 =>
  Calls Try.prog 46 #[.int .i64 x39] w25 fun e40 w41 => ∃ (b42 : Bool), e40 = .returned (.bool b42) ∧ (
  sel b42 (
  ldS w41 (⟨B1, 0, Option.none⟩ : Addr) fun A43 n43 c43 =>
  ldS w41 ((⟨B1, 0, Option.none⟩ : Addr).add 1) fun A44 n44 c44 =>
  ldS w41 ((⟨B1, 0, Option.none⟩ : Addr).add 2) fun A45 n45 c45 =>
  ldS w41 ((⟨B1, 0, Option.none⟩ : Addr).add 3) fun A46 n46 c46 =>
  stW w41 (⟨B5, 0, Option.none⟩ : Addr) (.slice A43 n43 c43) fun w47 =>
  stW w47 ((⟨B5, 0, Option.none⟩ : Addr).add 1) (.slice A44 n44 c44) fun w48 =>
  stW w48 ((⟨B5, 0, Option.none⟩ : Addr).add 2) (.slice A45 n45 c45) fun w49 =>
  stW w49 ((⟨B5, 0, Option.none⟩ : Addr).add 3) (.slice A46 n46 c46) fun w50 =>
  ldS w50 (⟨B5, 0, Option.none⟩ : Addr) fun A51 n51 c51 =>
  ldS w50 ((⟨B5, 0, Option.none⟩ : Addr).add 1) fun A52 n52 c52 =>
  ldS w50 ((⟨B5, 0, Option.none⟩ : Addr).add 2) fun A53 n53 c53 =>
  ldS w50 ((⟨B5, 0, Option.none⟩ : Addr).add 3) fun A54 n54 c54 =>
  Q (.returned (.tuple #[.agg #[.slice A51 n51 c51, .slice A52 n52 c52, .slice A53 n53 c53, .slice A54 n54 c54], .int .i64 (1 : Int)])) w50) (
  ldS w41 (⟨B1, 0, Option.none⟩ : Addr) fun A55 n55 c55 =>
  ldS w41 ((⟨B1, 0, Option.none⟩ : Addr).add 1) fun A56 n56 c56 =>
  ldS w41 ((⟨B1, 0, Option.none⟩ : Addr).add 2) fun A57 n57 c57 =>
  ldS w41 ((⟨B1, 0, Option.none⟩ : Addr).add 3) fun A58 n58 c58 =>
  ldI w41 (⟨B3, 0, Option.none⟩ : Addr) .i64 fun x59 =>
  Calls Try.prog 27 #[.agg #[.slice A55 n55 c55, .slice A56 n56 c56, .slice A57 n57 c57, .slice A58 n58 c58], .int .i64 x59] w41 fun e60 w61 => ∃ (x62_0_0 : Int) (x62_0_1 : Int) (x62_0_2 : Int) (x62_0_3 : Int) (b62_1 : Bool), e60 = .returned (.tuple #[.agg #[.int .i64 x62_0_0, .int .i64 x62_0_1, .int .i64 x62_0_2, .int .i64 x62_0_3], .bool b62_1]) ∧ (
  alW w61 (.cells #[.int .i64 (0 : Int), .int .i64 (0 : Int), .int .i64 (0 : Int), .int .i64 (0 : Int)] 50) fun B63 w64 =>
  stW w64 (⟨B63, 0, Option.none⟩ : Addr) (.int .i64 x62_0_0) fun w65 =>
  stW w65 ((⟨B63, 0, Option.none⟩ : Addr).add 1) (.int .i64 x62_0_1) fun w66 =>
  stW w66 ((⟨B63, 0, Option.none⟩ : Addr).add 2) (.int .i64 x62_0_2) fun w67 =>
  stW w67 ((⟨B63, 0, Option.none⟩ : Addr).add 3) (.int .i64 x62_0_3) fun w68 =>
  sel b62_1 (
  ldS w68 (⟨B1, 0, Option.none⟩ : Addr) fun A69 n69 c69 =>
  ldS w68 ((⟨B1, 0, Option.none⟩ : Addr).add 1) fun A70 n70 c70 =>
  ldS w68 ((⟨B1, 0, Option.none⟩ : Addr).add 2) fun A71 n71 c71 =>
  ldS w68 ((⟨B1, 0, Option.none⟩ : Addr).add 3) fun A72 n72 c72 =>
  stW w68 (⟨B5, 0, Option.none⟩ : Addr) (.slice A69 n69 c69) fun w73 =>
  stW w73 ((⟨B5, 0, Option.none⟩ : Addr).add 1) (.slice A70 n70 c70) fun w74 =>
  stW w74 ((⟨B5, 0, Option.none⟩ : Addr).add 2) (.slice A71 n71 c71) fun w75 =>
  stW w75 ((⟨B5, 0, Option.none⟩ : Addr).add 3) (.slice A72 n72 c72) fun w76 =>
  ldS w76 (⟨B5, 0, Option.none⟩ : Addr) fun A77 n77 c77 =>
  ldS w76 ((⟨B5, 0, Option.none⟩ : Addr).add 1) fun A78 n78 c78 =>
  ldS w76 ((⟨B5, 0, Option.none⟩ : Addr).add 2) fun A79 n79 c79 =>
  ldS w76 ((⟨B5, 0, Option.none⟩ : Addr).add 3) fun A80 n80 c80 =>
  Q (.returned (.tuple #[.agg #[.slice A77 n77 c77, .slice A78 n78 c78, .slice A79 n79 c79, .slice A80 n80 c80], .int .i64 (50 : Int)])) w76) (
  ldS w68 (⟨B1, 0, Option.none⟩ : Addr) fun A81 n81 c81 =>
  ldI w68 ((⟨B3, 0, Option.none⟩ : Addr).add 1) .i64 fun x82 =>
  Calls Try.prog 15 #[.slice A81 n81 c81, .int .i64 x82] w68 fun e83 w84 => ∃ (b85 : Bool), e83 = .returned (.bool b85) ∧ (
  sel (!b85) (
  ldS w84 (⟨B1, 0, Option.none⟩ : Addr) fun A86 n86 c86 =>
  ldS w84 ((⟨B1, 0, Option.none⟩ : Addr).add 1) fun A87 n87 c87 =>
  ldS w84 ((⟨B1, 0, Option.none⟩ : Addr).add 2) fun A88 n88 c88 =>
  ldS w84 ((⟨B1, 0, Option.none⟩ : Addr).add 3) fun A89 n89 c89 =>
  stW w84 (⟨B5, 0, Option.none⟩ : Addr) (.slice A86 n86 c86) fun w90 =>
  stW w90 ((⟨B5, 0, Option.none⟩ : Addr).add 1) (.slice A87 n87 c87) fun w91 =>
  stW w91 ((⟨B5, 0, Option.none⟩ : Addr).add 2) (.slice A88 n88 c88) fun w92 =>
  stW w92 ((⟨B5, 0, Option.none⟩ : Addr).add 3) (.slice A89 n89 c89) fun w93 =>
  ldS w93 (⟨B5, 0, Option.none⟩ : Addr) fun A94 n94 c94 =>
  ldS w93 ((⟨B5, 0, Option.none⟩ : Addr).add 1) fun A95 n95 c95 =>
  ldS w93 ((⟨B5, 0, Option.none⟩ : Addr).add 2) fun A96 n96 c96 =>
  ldS w93 ((⟨B5, 0, Option.none⟩ : Addr).add 3) fun A97 n97 c97 =>
  Q (.returned (.tuple #[.agg #[.slice A94 n94 c94, .slice A95 n95 c95, .slice A96 n96 c96, .slice A97 n97 c97], .int .i64 (51 : Int)])) w93) (
  ldS w84 (⟨B1, 0, Option.none⟩ : Addr) fun A98 n98 c98 =>
  ldI w84 ((⟨B3, 0, Option.none⟩ : Addr).add 2) .i64 fun x99 =>
  Calls Try.prog 15 #[.slice A98 n98 c98, .int .i64 x99] w84 fun e100 w101 => ∃ (b102 : Bool), e100 = .returned (.bool b102) ∧ (
  sel (!b102) (
  ldS w101 (⟨B1, 0, Option.none⟩ : Addr) fun A103 n103 c103 =>
  ldS w101 ((⟨B1, 0, Option.none⟩ : Addr).add 1) fun A104 n104 c104 =>
  ldS w101 ((⟨B1, 0, Option.none⟩ : Addr).add 2) fun A105 n105 c105 =>
  ldS w101 ((⟨B1, 0, Option.none⟩ : Addr).add 3) fun A106 n106 c106 =>
  stW w101 (⟨B5, 0, Option.none⟩ : Addr) (.slice A103 n103 c103) fun w107 =>
  stW w107 ((⟨B5, 0, Option.none⟩ : Addr).add 1) (.slice A104 n104 c104) fun w108 =>
  stW w108 ((⟨B5, 0, Option.none⟩ : Addr).add 2) (.slice A105 n105 c105) fun w109 =>
  stW w109 ((⟨B5, 0, Option.none⟩ : Addr).add 3) (.slice A106 n106 c106) fun w110 =>
  ldS w110 (⟨B5, 0, Option.none⟩ : Addr) fun A111 n111 c111 =>
  ldS w110 ((⟨B5, 0, Option.none⟩ : Addr).add 1) fun A112 n112 c112 =>
  ldS w110 ((⟨B5, 0, Option.none⟩ : Addr).add 2) fun A113 n113 c113 =>
  ldS w110 ((⟨B5, 0, Option.none⟩ : Addr).add 3) fun A114 n114 c114 =>
  Q (.returned (.tuple #[.agg #[.slice A111 n111 c111, .slice A112 n112 c112, .slice A113 n113 c113, .slice A114 n114 c114], .int .i64 (51 : Int)])) w110) (
  ldS w101 (⟨B1, 0, Option.none⟩ : Addr) fun A115 n115 c115 =>
  ldS w101 ((⟨B1, 0, Option.none⟩ : Addr).add 1) fun A116 n116 c116 =>
  ldS w101 ((⟨B1, 0, Option.none⟩ : Addr).add 2) fun A117 n117 c117 =>
  ldS w101 ((⟨B1, 0, Option.none⟩ : Addr).add 3) fun A118 n118 c118 =>
  ldI w101 ((⟨B3, 0, Option.none⟩ : Addr).add 1) .i64 fun x119 =>
  ldI w101 ((⟨B3, 0, Option.none⟩ : Addr).add 2) .i64 fun x120 =>
  Calls Try.prog 47 #[.agg #[.slice A115 n115 c115, .slice A116 n116 c116, .slice A117 n117 c117, .slice A118 n118 c118], .int .i64 x119, .int .i64 x120] w101 fun e121 w122 => ∃ (b123 : Bool), e121 = .returned (.bool b123) ∧ (
  sel b123 (
  ldS w122 (⟨B1, 0, Option.none⟩ : Addr) fun A124 n124 c124 =>
  ldS w122 ((⟨B1, 0, Option.none⟩ : Addr).add 1) fun A125 n125 c125 =>
  ldS w122 ((⟨B1, 0, Option.none⟩ : Addr).add 2) fun A126 n126 c126 =>
  ldS w122 ((⟨B1, 0, Option.none⟩ : Addr).add 3) fun A127 n127 c127 =>
  stW w122 (⟨B5, 0, Option.none⟩ : Addr) (.slice A124 n124 c124) fun w128 =>
  stW w128 ((⟨B5, 0, Option.none⟩ : Addr).add 1) (.slice A125 n125 c125) fun w129 =>
  stW w129 ((⟨B5, 0, Option.none⟩ : Addr).add 2) (.slice A126 n126 c126) fun w130 =>
  stW w130 ((⟨B5, 0, Option.none⟩ : Addr).add 3) (.slice A127 n127 c127) fun w131 =>
  ldS w131 (⟨B5, 0, Option.none⟩ : Addr) fun A132 n132 c132 =>
  ldS w131 ((⟨B5, 0, Option.none⟩ : Addr).add 1) fun A133 n133 c133 =>
  ldS w131 ((⟨B5, 0, Option.none⟩ : Addr).add 2) fun A134 n134 c134 =>
  ldS w131 ((⟨B5, 0, Option.none⟩ : Addr).add 3) fun A135 n135 c135 =>
  Q (.returned (.tuple #[.agg #[.slice A132 n132 c132, .slice A133 n133 c133, .slice A134 n134 c134, .slice A135 n135 c135], .int .i64 (151 : Int)])) w131) (
  ldS w122 (⟨B1, 0, Option.none⟩ : Addr) fun A136 n136 c136 =>
  alW w122 (.cells #[.slice none 0 0, .slice none 0 0] 41) fun B137 w138 =>
  stW w138 (⟨B137, 0, Option.none⟩ : Addr) (.slice A136 n136 c136) fun w139 =>
  stW w139 ((⟨B137, 0, Option.none⟩ : Addr).add 1) (.slice none 0 0) fun w140 =>
  ∃ k222 : Nat, l0 k222 (⟨B1, 0, Option.none⟩ : Addr) (⟨B3, 0, Option.none⟩ : Addr) (⟨B137, 0, Option.none⟩ : Addr) false (0 : Int) w140 (fun (b177 : Bool) (w178 : World) => ∀ _ : Fr,
  sel (!b177) (
  ldS w178 ((⟨B137, 0, Option.none⟩ : Addr).add 1) fun A179 n179 c179 =>
  ldI w178 (⟨B3, 0, Option.none⟩ : Addr) .i64 fun x180 =>
  ldI w178 ((⟨B3, 0, Option.none⟩ : Addr).add 1) .i64 fun x181 =>
  ldI w178 ((⟨B3, 0, Option.none⟩ : Addr).add 2) .i64 fun x182 =>
  ldI w178 ((⟨B3, 0, Option.none⟩ : Addr).add 3) .i64 fun x183 =>
  alW w178 (.cells #[.int .i64 x180, .int .i64 x181, .int .i64 x182, .int .i64 x183] 50) fun B184 w185 =>
  Runs Try.prog (Builtin.append_ #[39, 39] 39 #[.slice A179 n179 c179, .slice (some (⟨B184, 0, Option.none⟩ : Addr)) 1 1]) w185 fun v187 w186 => ∃ (A188 : Option Addr) (n188 : Nat) (c188 : Nat), v187 = (.slice A188 n188 c188) ∧ (
  stW w186 ((⟨B137, 0, Option.none⟩ : Addr).add 1) (.slice A188 n188 c188) fun w189 =>
  ldS w189 (⟨B137, 0, Option.none⟩ : Addr) fun A190 n190 c190 =>
  ldS w189 ((⟨B137, 0, Option.none⟩ : Addr).add 1) fun A191 n191 c191 =>
  stW w189 (⟨B1, 0, Option.none⟩ : Addr) (.slice A190 n190 c190) fun w192 =>
  stW w192 ((⟨B1, 0, Option.none⟩ : Addr).add 1) (.slice A191 n191 c191) fun w193 =>
  ldS w193 (⟨B1, 0, Option.none⟩ : Addr) fun A194 n194 c194 =>
  ldS w193 ((⟨B1, 0, Option.none⟩ : Addr).add 1) fun A195 n195 c195 =>
  ldS w193 ((⟨B1, 0, Option.none⟩ : Addr).add 2) fun A196 n196 c196 =>
  ldS w193 ((⟨B1, 0, Option.none⟩ : Addr).add 3) fun A197 n197 c197 =>
  stW w193 (⟨B5, 0, Option.none⟩ : Addr) (.slice A194 n194 c194) fun w198 =>
  stW w198 ((⟨B5, 0, Option.none⟩ : Addr).add 1) (.slice A195 n195 c195) fun w199 =>
  stW w199 ((⟨B5, 0, Option.none⟩ : Addr).add 2) (.slice A196 n196 c196) fun w200 =>
  stW w200 ((⟨B5, 0, Option.none⟩ : Addr).add 3) (.slice A197 n197 c197) fun w201 =>
  ldS w201 (⟨B5, 0, Option.none⟩ : Addr) fun A202 n202 c202 =>
  ldS w201 ((⟨B5, 0, Option.none⟩ : Addr).add 1) fun A203 n203 c203 =>
  ldS w201 ((⟨B5, 0, Option.none⟩ : Addr).add 2) fun A204 n204 c204 =>
  ldS w201 ((⟨B5, 0, Option.none⟩ : Addr).add 3) fun A205 n205 c205 =>
  Q (.returned (.tuple #[.agg #[.slice A202 n202 c202, .slice A203 n203 c203, .slice A204 n204 c204, .slice A205 n205 c205], .int .i64 (0 : Int)])) w201)) (
  ldS w178 (⟨B137, 0, Option.none⟩ : Addr) fun A206 n206 c206 =>
  ldS w178 ((⟨B137, 0, Option.none⟩ : Addr).add 1) fun A207 n207 c207 =>
  stW w178 (⟨B1, 0, Option.none⟩ : Addr) (.slice A206 n206 c206) fun w208 =>
  stW w208 ((⟨B1, 0, Option.none⟩ : Addr).add 1) (.slice A207 n207 c207) fun w209 =>
  ldS w209 (⟨B1, 0, Option.none⟩ : Addr) fun A210 n210 c210 =>
  ldS w209 ((⟨B1, 0, Option.none⟩ : Addr).add 1) fun A211 n211 c211 =>
  ldS w209 ((⟨B1, 0, Option.none⟩ : Addr).add 2) fun A212 n212 c212 =>
  ldS w209 ((⟨B1, 0, Option.none⟩ : Addr).add 3) fun A213 n213 c213 =>
  stW w209 (⟨B5, 0, Option.none⟩ : Addr) (.slice A210 n210 c210) fun w214 =>
  stW w214 ((⟨B5, 0, Option.none⟩ : Addr).add 1) (.slice A211 n211 c211) fun w215 =>
  stW w215 ((⟨B5, 0, Option.none⟩ : Addr).add 2) (.slice A212 n212 c212) fun w216 =>
  stW w216 ((⟨B5, 0, Option.none⟩ : Addr).add 3) (.slice A213 n213 c213) fun w217 =>
  ldS w217 (⟨B5, 0, Option.none⟩ : Addr) fun A218 n218 c218 =>
  ldS w217 ((⟨B5, 0, Option.none⟩ : Addr).add 1) fun A219 n219 c219 =>
  ldS w217 ((⟨B5, 0, Option.none⟩ : Addr).add 2) fun A220 n220 c220 =>
  ldS w217 ((⟨B5, 0, Option.none⟩ : Addr).add 3) fun A221 n221 c221 =>
  Q (.returned (.tuple #[.agg #[.slice A218 n218 c218, .slice A219 n219 c219, .slice A220 n220 c220, .slice A221 n221 c221], .int .i64 (0 : Int)])) w217))))))))))))))))
def D : Nat → Option DH := dtab [(15, .simple [.fst 0, .fst 1, .fst 2, .fst 3, .fst 4, .fst 5, .fst 6, .fst 7, .fst 8, .fst 9, .fst 10, .fst 11] [.fst 12, .fst 13]), (18, .held [.fst 0, .fst 1, .fst 2, .fst 3, .fst 4, .fst 5, .fst 6, .fst 7, .eff 8] [.eff 9, .fst 10, .eff 11])]
def j1LO : LO := ⟨[2, 3, 4, 8, 9, 10], [], [], []⟩
def j1T : Spec := fun Q σ w =>
  gAd (σ 2) fun at2 =>
  gAd (σ 8) fun at8 =>
  gInt .i64 (σ 10) fun xt10 =>
  j1 at2 at8 xt10 w (fun (w : World) => ∀ d : Fr, Q .normal (ov d [(2, .pointer (some at2)), (3, σ 3), (4, σ 4), (8, .pointer (some at8)), (9, σ 9), (10, .int .i64 xt10)]) w)
def j1tb : List (List Nat × Spec) := []
noncomputable def j1b : Code := (subC [1, 0, 0, 1, 0, 0, 1, 0, 1, 1, 1, 1, 1, 1, 1, 1] body).getD .skip
theorem j1_eq (at2 : Addr) (at8 : Addr) (xt10 : Int) (Q : PQ) (σ : Fr) (w : World) :
    j1 at2 at8 xt10 w (fun (w : World) => ∀ d : Fr, Q .normal (ov d [(2, .pointer (some at2)), (3, σ 3), (4, σ 4), (8, .pointer (some at8)), (9, σ 9), (10, .int .i64 xt10)]) w) = codeW Try.prog hT 112 D (tab j1tb) [1, 0, 0, 1, 0, 0, 1, 0, 1, 1, 1, 1, 1, 1, 1, 1] j1b (widen j1LO Q) (ov σ [(2, .pointer (some at2)), (8, .pointer (some at8)), (10, .int .i64 xt10)]) w := by kernel_rfl
theorem j1_snd : ∀ c, subC [1, 0, 0, 1, 0, 0, 1, 0, 1, 1, 1, 1, 1, 1, 1, 1] body = some c → Snd Try.prog 112 c j1T := by
  refine cut_of (hT := hT) (D := D) (l := j1tb) (b := j1b) (lo := j1LO) (by kernel_rfl) (by
    intro x hx
    simp only [j1tb, List.not_mem_nil] at hx
    ) (by kernel_rfl) (by kernel_rfl) ?_
  intro Q σ w h
  unfold j1T at h
  obtain ⟨at2, h2, hn⟩ := gAd_elim h
  clear h
  have h := hn
  clear hn
  obtain ⟨at8, h8, hn⟩ := gAd_elim h
  clear h
  have h := hn
  clear hn
  obtain ⟨xt10, h10, hn⟩ := gInt_elim h
  clear h
  have h := hn
  clear hn
  rw [j1_eq (σ := σ)] at h
  have e : (ov σ [(2, .pointer (some at2)), (8, .pointer (some at8)), (10, .int .i64 xt10)]) = σ := ov_self (by simp [h2, h8, h10])
  rw [e] at h
  exact h
def l0LO : LO := ⟨[], [], [(0, [2, 3, 4, 8, 9])], []⟩
def l0Tk (k : Nat) : Spec := fun Q σ w =>
  gAd (σ 2) fun at2 =>
  gAd (σ 3) fun at3 =>
  gAd (σ 8) fun at8 =>
  gBool (σ 9) fun bt9 =>
  gInt .i64 (σ 10) fun xt10 =>
  l0 k at2 at3 at8 bt9 xt10 w (fun (bq9 : Bool) (w : World) => ∀ d : Fr, Q (.exit 0) (ov d [(2, .pointer (some at2)), (3, .pointer (some at3)), (4, σ 4), (8, .pointer (some at8)), (9, .bool bq9)]) w)
def l0T : Spec := fun Q σ w => ∃ k, l0Tk k Q σ w
def l0tb : List (List Nat × Spec) := [([1, 0, 0, 1, 0, 0, 1, 0, 1, 1, 1, 1, 1, 1, 1, 1], j1T)]
noncomputable def l0b : Code := (subC [0, 0, 1, 0, 1, 1, 1, 1, 1, 1, 1, 1] body).getD .skip
theorem l0_eq (k : Nat) (at2 : Addr) (at3 : Addr) (at8 : Addr) (bt9 : Bool) (xt10 : Int) (Q : PQ) (σ : Fr) (w : World) :
    l0 (k + 1) at2 at3 at8 bt9 xt10 w (fun (bq9 : Bool) (w : World) => ∀ d : Fr, Q (.exit 0) (ov d [(2, .pointer (some at2)), (3, .pointer (some at3)), (4, σ 4), (8, .pointer (some at8)), (9, .bool bq9)]) w) = codeW Try.prog hT 112 D (tab l0tb) [0, 0, 1, 0, 1, 1, 1, 1, 1, 1, 1, 1] l0b (thenQ (l0Tk k Q) (widen l0LO Q)) (ov σ [(2, .pointer (some at2)), (3, .pointer (some at3)), (8, .pointer (some at8)), (9, .bool bt9), (10, .int .i64 xt10)]) w := by cases bt9 <;> kernel_rfl
theorem l0_snd : ∀ c, subC [0, 1, 0, 1, 1, 1, 1, 1, 1, 1, 1] body = some c → Snd Try.prog 112 c l0T := by
  refine loop_of (hT := hT) (D := D) (l := l0tb) (b := l0b) (lo := l0LO) (by kernel_rfl) (by
    intro x hx
    simp only [l0tb, List.mem_cons, List.not_mem_nil, or_false] at hx
    subst hx
    exact j1_snd) (by kernel_rfl) (by kernel_rfl) ?_ ?_
  · intro Q σ w h
    unfold l0Tk at h
    obtain ⟨at2, h2, hn⟩ := gAd_elim h
    clear h
    have h := hn
    clear hn
    obtain ⟨at3, h3, hn⟩ := gAd_elim h
    clear h
    have h := hn
    clear hn
    obtain ⟨at8, h8, hn⟩ := gAd_elim h
    clear h
    have h := hn
    clear hn
    obtain ⟨bt9, h9, hn⟩ := gBool_elim h
    clear h
    have h := hn
    clear hn
    obtain ⟨xt10, h10, hn⟩ := gInt_elim h
    clear h
    have h := hn
    clear hn
    exact h
  · intro k Q σ w h
    unfold l0Tk at h
    obtain ⟨at2, h2, hn⟩ := gAd_elim h
    clear h
    have h := hn
    clear hn
    obtain ⟨at3, h3, hn⟩ := gAd_elim h
    clear h
    have h := hn
    clear hn
    obtain ⟨at8, h8, hn⟩ := gAd_elim h
    clear h
    have h := hn
    clear hn
    obtain ⟨bt9, h9, hn⟩ := gBool_elim h
    clear h
    have h := hn
    clear hn
    obtain ⟨xt10, h10, hn⟩ := gInt_elim h
    clear h
    have h := hn
    clear hn
    rw [l0_eq (σ := σ)] at h
    have e : (ov σ [(2, .pointer (some at2)), (3, .pointer (some at3)), (8, .pointer (some at8)), (9, .bool bt9), (10, .int .i64 xt10)]) = σ := ov_self (by simp [h2, h3, h8, h9, h10])
    rw [e] at h
    exact h
def tb : List (List Nat × Spec) := [([1, 0, 0, 1, 0, 0, 1, 0, 1, 1, 1, 1, 1, 1, 1, 1], j1T), ([0, 1, 0, 1, 1, 1, 1, 1, 1, 1, 1], l0T)]
theorem wp_eq (Aa0_0 : Option Addr) (na0_0 : Nat) (ca0_0 : Nat) (Aa0_1 : Option Addr) (na0_1 : Nat) (ca0_1 : Nat) (Aa0_2 : Option Addr) (na0_2 : Nat) (ca0_2 : Nat) (Aa0_3 : Option Addr) (na0_3 : Nat) (ca0_3 : Nat) (xa1_0 : Int) (xa1_1 : Int) (xa1_2 : Int) (xa1_3 : Int) (w : World) (Q : Ending → World → Prop) :
    wp Aa0_0 na0_0 ca0_0 Aa0_1 na0_1 ca0_1 Aa0_2 na0_2 ca0_2 Aa0_3 na0_3 ca0_3 xa1_0 xa1_1 xa1_2 xa1_3 w Q = codeW Try.prog hT 112 D (tab tb) [] body (topQ Try.prog hT 112 [.cell 4 43, .tmp 5] Q) (argsF [.agg #[.slice Aa0_0 na0_0 ca0_0, .slice Aa0_1 na0_1 ca0_1, .slice Aa0_2 na0_2 ca0_2, .slice Aa0_3 na0_3 ca0_3], .agg #[.int .i64 xa1_0, .int .i64 xa1_1, .int .i64 xa1_2, .int .i64 xa1_3]]) w := by kernel_rfl
theorem ok (Aa0_0 : Option Addr) (na0_0 : Nat) (ca0_0 : Nat) (Aa0_1 : Option Addr) (na0_1 : Nat) (ca0_1 : Nat) (Aa0_2 : Option Addr) (na0_2 : Nat) (ca0_2 : Nat) (Aa0_3 : Option Addr) (na0_3 : Nat) (ca0_3 : Nat) (xa1_0 : Int) (xa1_1 : Int) (xa1_2 : Int) (xa1_3 : Int) (w : World) (Q : Ending → World → Prop) (h : wp Aa0_0 na0_0 ca0_0 Aa0_1 na0_1 ca0_1 Aa0_2 na0_2 ca0_2 Aa0_3 na0_3 ca0_3 xa1_0 xa1_1 xa1_2 xa1_3 w Q) : Calls Try.prog 22 #[.agg #[.slice Aa0_0 na0_0 ca0_0, .slice Aa0_1 na0_1 ca0_1, .slice Aa0_2 na0_2 ca0_2, .slice Aa0_3 na0_3 ca0_3], .agg #[.int .i64 xa1_0, .int .i64 xa1_1, .int .i64 xa1_2, .int .i64 xa1_3]] w Q := by
  rw [wp_eq] at h
  exact calls_of_codeW (c := body) (rs := [.cell 4 43, .tmp 5]) Try.func22 (by kernel_rfl) (by kernel_rfl) (by kernel_rfl) (by kernel_rfl) (by kernel_rfl) (tab_snd (by
    intro x hx
    simp only [tb, List.mem_cons, List.not_mem_nil, or_false] at hx
    rcases hx with rfl | rfl
    · exact j1_snd
    · exact l0_snd)) (by kernel_rfl) h
end f_ref16_Link
namespace f_ref16_Cut
/-! skein/skeinref16.Cut: function 23 -/
noncomputable def body : Code := (Try.f23.body).getD .skip
def l0 : Nat → Int → Addr → Addr → Int → World → (World → Prop) → Prop
  | 0, _, _, _, _, _, _ => False
  | k + 1, xt1, at2, at8, xt9, w, K0 =>
    ldS w (at2.add 1) fun A50 n50 c50 =>
    sel (decide (xt9 < (n50 : Int))) (
    ldS w (at2.add 1) fun A51 n51 c51 =>
    optB A51 fun a52 =>
    req (decide (0 ≤ xt9 ∧ xt9 < (n51 : Int))) <|
    ldI w (a52.add (xt9.toNat * 4)) .i64 fun x53 =>
    sel (x53 != xt1) (
    drW w fun w54 =>
    ∃ S55 : World → Prop, S55 w54 ∧ (
    hdS S55 (at8.add 1) fun A56 n56 c56 =>
    hdS S55 (at2.add 1) fun A57 n57 c57 =>
    optB A57 fun a58 =>
    req (decide (0 ≤ xt9 ∧ xt9 < (n57 : Int))) <|
    hdI S55 (a58.add (xt9.toNat * 4)) .i64 fun x59 =>
    hdI S55 ((a58.add (xt9.toNat * 4)).add 1) .i64 fun x60 =>
    hdI S55 ((a58.add (xt9.toNat * 4)).add 2) .i64 fun x61 =>
    hdI S55 ((a58.add (xt9.toNat * 4)).add 3) .i64 fun x62 =>
    alW w54 (.cells #[.int .i64 x59, .int .i64 x60, .int .i64 x61, .int .i64 x62] 50) fun B63 w64 =>
    S55 w64 ∧ (
    Runs Try.prog (Builtin.append_ #[39, 39] 39 #[.slice A56 n56 c56, .slice (some (⟨B63, 0, Option.none⟩ : Addr)) 1 1]) w64 fun v66 w65 => ∃ (A67 : Option Addr) (n67 : Nat) (c67 : Nat), v66 = (.slice A67 n67 c67) ∧ (
    stW w65 (at8.add 1) (.slice A67 n67 c67) fun w68 =>
    l0 k xt1 at2 at8 (IntKind.i64.wrap (xt9 + (1 : Int))) w68 K0)))) (
    l0 k xt1 at2 at8 (IntKind.i64.wrap (xt9 + (1 : Int))) w K0)) (
    K0  w)
def wp (Aa0_0 : Option Addr) (na0_0 : Nat) (ca0_0 : Nat) (Aa0_1 : Option Addr) (na0_1 : Nat) (ca0_1 : Nat) (Aa0_2 : Option Addr) (na0_2 : Nat) (ca0_2 : Nat) (Aa0_3 : Option Addr) (na0_3 : Nat) (ca0_3 : Nat) (xa1 : Int) (w : World) (Q : Ending → World → Prop) : Prop :=
  alW w (.cells #[.slice Aa0_0 na0_0 ca0_0, .slice Aa0_1 na0_1 ca0_1, .slice Aa0_2 na0_2 ca0_2, .slice Aa0_3 na0_3 ca0_3] 43) fun B1 w2 =>
  alW w2 (.cells #[.slice none 0 0, .slice none 0 0, .slice none 0 0, .slice none 0 0] 43) fun B3 w4 =>
  Calls Try.prog 46 #[.int .i64 xa1] w4 fun e5 w6 => ∃ (b7 : Bool), e5 = .returned (.bool b7) ∧ (
  sel b7 (
  ldS w6 (⟨B1, 0, Option.none⟩ : Addr) fun A8 n8 c8 =>
  ldS w6 ((⟨B1, 0, Option.none⟩ : Addr).add 1) fun A9 n9 c9 =>
  ldS w6 ((⟨B1, 0, Option.none⟩ : Addr).add 2) fun A10 n10 c10 =>
  ldS w6 ((⟨B1, 0, Option.none⟩ : Addr).add 3) fun A11 n11 c11 =>
  stW w6 (⟨B3, 0, Option.none⟩ : Addr) (.slice A8 n8 c8) fun w12 =>
  stW w12 ((⟨B3, 0, Option.none⟩ : Addr).add 1) (.slice A9 n9 c9) fun w13 =>
  stW w13 ((⟨B3, 0, Option.none⟩ : Addr).add 2) (.slice A10 n10 c10) fun w14 =>
  stW w14 ((⟨B3, 0, Option.none⟩ : Addr).add 3) (.slice A11 n11 c11) fun w15 =>
  ldS w15 (⟨B3, 0, Option.none⟩ : Addr) fun A16 n16 c16 =>
  ldS w15 ((⟨B3, 0, Option.none⟩ : Addr).add 1) fun A17 n17 c17 =>
  ldS w15 ((⟨B3, 0, Option.none⟩ : Addr).add 2) fun A18 n18 c18 =>
  ldS w15 ((⟨B3, 0, Option.none⟩ : Addr).add 3) fun A19 n19 c19 =>
  Q (.returned (.tuple #[.agg #[.slice A16 n16 c16, .slice A17 n17 c17, .slice A18 n18 c18, .slice A19 n19 c19], .int .i64 (1 : Int)])) w15) (
  ldS w6 (⟨B1, 0, Option.none⟩ : Addr) fun A20 n20 c20 =>
  ldS w6 ((⟨B1, 0, Option.none⟩ : Addr).add 1) fun A21 n21 c21 =>
  ldS w6 ((⟨B1, 0, Option.none⟩ : Addr).add 2) fun A22 n22 c22 =>
  ldS w6 ((⟨B1, 0, Option.none⟩ : Addr).add 3) fun A23 n23 c23 =>
  Calls Try.prog 27 #[.agg #[.slice A20 n20 c20, .slice A21 n21 c21, .slice A22 n22 c22, .slice A23 n23 c23], .int .i64 xa1] w6 fun e24 w25 => ∃ (x26_0_0 : Int) (x26_0_1 : Int) (x26_0_2 : Int) (x26_0_3 : Int) (b26_1 : Bool), e24 = .returned (.tuple #[.agg #[.int .i64 x26_0_0, .int .i64 x26_0_1, .int .i64 x26_0_2, .int .i64 x26_0_3], .bool b26_1]) ∧ (
  alW w25 (.cells #[.int .i64 (0 : Int), .int .i64 (0 : Int), .int .i64 (0 : Int), .int .i64 (0 : Int)] 50) fun B27 w28 =>
  stW w28 (⟨B27, 0, Option.none⟩ : Addr) (.int .i64 x26_0_0) fun w29 =>
  stW w29 ((⟨B27, 0, Option.none⟩ : Addr).add 1) (.int .i64 x26_0_1) fun w30 =>
  stW w30 ((⟨B27, 0, Option.none⟩ : Addr).add 2) (.int .i64 x26_0_2) fun w31 =>
  stW w31 ((⟨B27, 0, Option.none⟩ : Addr).add 3) (.int .i64 x26_0_3) fun w32 =>
  sel (!b26_1) (
  ldS w32 (⟨B1, 0, Option.none⟩ : Addr) fun A33 n33 c33 =>
  ldS w32 ((⟨B1, 0, Option.none⟩ : Addr).add 1) fun A34 n34 c34 =>
  ldS w32 ((⟨B1, 0, Option.none⟩ : Addr).add 2) fun A35 n35 c35 =>
  ldS w32 ((⟨B1, 0, Option.none⟩ : Addr).add 3) fun A36 n36 c36 =>
  stW w32 (⟨B3, 0, Option.none⟩ : Addr) (.slice A33 n33 c33) fun w37 =>
  stW w37 ((⟨B3, 0, Option.none⟩ : Addr).add 1) (.slice A34 n34 c34) fun w38 =>
  stW w38 ((⟨B3, 0, Option.none⟩ : Addr).add 2) (.slice A35 n35 c35) fun w39 =>
  stW w39 ((⟨B3, 0, Option.none⟩ : Addr).add 3) (.slice A36 n36 c36) fun w40 =>
  ldS w40 (⟨B3, 0, Option.none⟩ : Addr) fun A41 n41 c41 =>
  ldS w40 ((⟨B3, 0, Option.none⟩ : Addr).add 1) fun A42 n42 c42 =>
  ldS w40 ((⟨B3, 0, Option.none⟩ : Addr).add 2) fun A43 n43 c43 =>
  ldS w40 ((⟨B3, 0, Option.none⟩ : Addr).add 3) fun A44 n44 c44 =>
  Q (.returned (.tuple #[.agg #[.slice A41 n41 c41, .slice A42 n42 c42, .slice A43 n43 c43, .slice A44 n44 c44], .int .i64 (152 : Int)])) w40) (
  ldS w32 (⟨B1, 0, Option.none⟩ : Addr) fun A45 n45 c45 =>
  alW w32 (.cells #[.slice none 0 0, .slice none 0 0] 41) fun B46 w47 =>
  stW w47 (⟨B46, 0, Option.none⟩ : Addr) (.slice A45 n45 c45) fun w48 =>
  stW w48 ((⟨B46, 0, Option.none⟩ : Addr).add 1) (.slice none 0 0) fun w49 =>
  ∃ k91 : Nat, l0 k91 xa1 (⟨B1, 0, Option.none⟩ : Addr) (⟨B46, 0, Option.none⟩ : Addr) (0 : Int) w49 (fun (w69 : World) => ∀ _ : Fr,
  ldS w69 (⟨B46, 0, Option.none⟩ : Addr) fun A70 n70 c70 =>
  ldS w69 ((⟨B46, 0, Option.none⟩ : Addr).add 1) fun A71 n71 c71 =>
  stW w69 (⟨B1, 0, Option.none⟩ : Addr) (.slice A70 n70 c70) fun w72 =>
  stW w72 ((⟨B1, 0, Option.none⟩ : Addr).add 1) (.slice A71 n71 c71) fun w73 =>
  ldS w73 ((⟨B1, 0, Option.none⟩ : Addr).add 3) fun A74 n74 c74 =>
  Calls Try.prog 35 #[.slice A74 n74 c74, .int .i64 xa1] w73 fun e75 w76 => ∃ (A77 : Option Addr) (n77 : Nat) (c77 : Nat), e75 = .returned (.slice A77 n77 c77) ∧ (
  stW w76 ((⟨B1, 0, Option.none⟩ : Addr).add 3) (.slice A77 n77 c77) fun w78 =>
  ldS w78 (⟨B1, 0, Option.none⟩ : Addr) fun A79 n79 c79 =>
  ldS w78 ((⟨B1, 0, Option.none⟩ : Addr).add 1) fun A80 n80 c80 =>
  ldS w78 ((⟨B1, 0, Option.none⟩ : Addr).add 2) fun A81 n81 c81 =>
  ldS w78 ((⟨B1, 0, Option.none⟩ : Addr).add 3) fun A82 n82 c82 =>
  stW w78 (⟨B3, 0, Option.none⟩ : Addr) (.slice A79 n79 c79) fun w83 =>
  stW w83 ((⟨B3, 0, Option.none⟩ : Addr).add 1) (.slice A80 n80 c80) fun w84 =>
  stW w84 ((⟨B3, 0, Option.none⟩ : Addr).add 2) (.slice A81 n81 c81) fun w85 =>
  stW w85 ((⟨B3, 0, Option.none⟩ : Addr).add 3) (.slice A82 n82 c82) fun w86 =>
  ldS w86 (⟨B3, 0, Option.none⟩ : Addr) fun A87 n87 c87 =>
  ldS w86 ((⟨B3, 0, Option.none⟩ : Addr).add 1) fun A88 n88 c88 =>
  ldS w86 ((⟨B3, 0, Option.none⟩ : Addr).add 2) fun A89 n89 c89 =>
  ldS w86 ((⟨B3, 0, Option.none⟩ : Addr).add 3) fun A90 n90 c90 =>
  Q (.returned (.tuple #[.agg #[.slice A87 n87 c87, .slice A88 n88 c88, .slice A89 n89 c89, .slice A90 n90 c90], .int .i64 (0 : Int)])) w86))))))
def D : Nat → Option DH := dtab [(11, .held [.fst 0, .fst 1, .fst 2, .fst 3, .fst 4, .fst 5, .fst 6, .fst 7, .eff 8] [.eff 9, .fst 10, .eff 11])]
def l0LO : LO := ⟨[], [], [(0, [1, 2, 4, 8])], []⟩
def l0Tk (k : Nat) : Spec := fun Q σ w =>
  gInt .i64 (σ 1) fun xt1 =>
  gAd (σ 2) fun at2 =>
  gAd (σ 8) fun at8 =>
  gInt .i64 (σ 9) fun xt9 =>
  l0 k xt1 at2 at8 xt9 w (fun (w : World) => ∀ d : Fr, Q (.exit 0) (ov d [(1, .int .i64 xt1), (2, .pointer (some at2)), (4, σ 4), (8, .pointer (some at8))]) w)
def l0T : Spec := fun Q σ w => ∃ k, l0Tk k Q σ w
def l0tb : List (List Nat × Spec) := []
noncomputable def l0b : Code := (subC [0, 0, 1, 0, 1, 1, 1, 1, 1] body).getD .skip
theorem l0_eq (k : Nat) (xt1 : Int) (at2 : Addr) (at8 : Addr) (xt9 : Int) (Q : PQ) (σ : Fr) (w : World) :
    l0 (k + 1) xt1 at2 at8 xt9 w (fun (w : World) => ∀ d : Fr, Q (.exit 0) (ov d [(1, .int .i64 xt1), (2, .pointer (some at2)), (4, σ 4), (8, .pointer (some at8))]) w) = codeW Try.prog hT 62 D (tab l0tb) [0, 0, 1, 0, 1, 1, 1, 1, 1] l0b (thenQ (l0Tk k Q) (widen l0LO Q)) (ov σ [(1, .int .i64 xt1), (2, .pointer (some at2)), (8, .pointer (some at8)), (9, .int .i64 xt9)]) w := by kernel_rfl
theorem l0_snd : ∀ c, subC [0, 1, 0, 1, 1, 1, 1, 1] body = some c → Snd Try.prog 62 c l0T := by
  refine loop_of (hT := hT) (D := D) (l := l0tb) (b := l0b) (lo := l0LO) (by kernel_rfl) (by
    intro x hx
    simp only [l0tb, List.not_mem_nil] at hx
    ) (by kernel_rfl) (by kernel_rfl) ?_ ?_
  · intro Q σ w h
    unfold l0Tk at h
    obtain ⟨xt1, h1, hn⟩ := gInt_elim h
    clear h
    have h := hn
    clear hn
    obtain ⟨at2, h2, hn⟩ := gAd_elim h
    clear h
    have h := hn
    clear hn
    obtain ⟨at8, h8, hn⟩ := gAd_elim h
    clear h
    have h := hn
    clear hn
    obtain ⟨xt9, h9, hn⟩ := gInt_elim h
    clear h
    have h := hn
    clear hn
    exact h
  · intro k Q σ w h
    unfold l0Tk at h
    obtain ⟨xt1, h1, hn⟩ := gInt_elim h
    clear h
    have h := hn
    clear hn
    obtain ⟨at2, h2, hn⟩ := gAd_elim h
    clear h
    have h := hn
    clear hn
    obtain ⟨at8, h8, hn⟩ := gAd_elim h
    clear h
    have h := hn
    clear hn
    obtain ⟨xt9, h9, hn⟩ := gInt_elim h
    clear h
    have h := hn
    clear hn
    rw [l0_eq (σ := σ)] at h
    have e : (ov σ [(1, .int .i64 xt1), (2, .pointer (some at2)), (8, .pointer (some at8)), (9, .int .i64 xt9)]) = σ := ov_self (by simp [h1, h2, h8, h9])
    rw [e] at h
    exact h
def tb : List (List Nat × Spec) := [([0, 1, 0, 1, 1, 1, 1, 1], l0T)]
theorem wp_eq (Aa0_0 : Option Addr) (na0_0 : Nat) (ca0_0 : Nat) (Aa0_1 : Option Addr) (na0_1 : Nat) (ca0_1 : Nat) (Aa0_2 : Option Addr) (na0_2 : Nat) (ca0_2 : Nat) (Aa0_3 : Option Addr) (na0_3 : Nat) (ca0_3 : Nat) (xa1 : Int) (w : World) (Q : Ending → World → Prop) :
    wp Aa0_0 na0_0 ca0_0 Aa0_1 na0_1 ca0_1 Aa0_2 na0_2 ca0_2 Aa0_3 na0_3 ca0_3 xa1 w Q = codeW Try.prog hT 62 D (tab tb) [] body (topQ Try.prog hT 62 [.cell 4 43, .tmp 5] Q) (argsF [.agg #[.slice Aa0_0 na0_0 ca0_0, .slice Aa0_1 na0_1 ca0_1, .slice Aa0_2 na0_2 ca0_2, .slice Aa0_3 na0_3 ca0_3], .int .i64 xa1]) w := by kernel_rfl
theorem ok (Aa0_0 : Option Addr) (na0_0 : Nat) (ca0_0 : Nat) (Aa0_1 : Option Addr) (na0_1 : Nat) (ca0_1 : Nat) (Aa0_2 : Option Addr) (na0_2 : Nat) (ca0_2 : Nat) (Aa0_3 : Option Addr) (na0_3 : Nat) (ca0_3 : Nat) (xa1 : Int) (w : World) (Q : Ending → World → Prop) (h : wp Aa0_0 na0_0 ca0_0 Aa0_1 na0_1 ca0_1 Aa0_2 na0_2 ca0_2 Aa0_3 na0_3 ca0_3 xa1 w Q) : Calls Try.prog 23 #[.agg #[.slice Aa0_0 na0_0 ca0_0, .slice Aa0_1 na0_1 ca0_1, .slice Aa0_2 na0_2 ca0_2, .slice Aa0_3 na0_3 ca0_3], .int .i64 xa1] w Q := by
  rw [wp_eq] at h
  exact calls_of_codeW (c := body) (rs := [.cell 4 43, .tmp 5]) Try.func23 (by kernel_rfl) (by kernel_rfl) (by kernel_rfl) (by kernel_rfl) (by kernel_rfl) (tab_snd (by
    intro x hx
    simp only [tb, List.mem_cons, List.not_mem_nil, or_false] at hx
    subst hx
    exact l0_snd)) (by kernel_rfl) h
end f_ref16_Cut
namespace f_ref16_Edge
/-! skein/skeinref16.Edge: function 27 -/
noncomputable def body : Code := (Try.f27.body).getD .skip
def wp (Aa0_0 : Option Addr) (na0_0 : Nat) (ca0_0 : Nat) (Aa0_1 : Option Addr) (na0_1 : Nat) (ca0_1 : Nat) (Aa0_2 : Option Addr) (na0_2 : Nat) (ca0_2 : Nat) (Aa0_3 : Option Addr) (na0_3 : Nat) (ca0_3 : Nat) (xa1 : Int) (w : World) (Q : Ending → World → Prop) : Prop :=
  alW w (.cells #[.slice Aa0_0 na0_0 ca0_0, .slice Aa0_1 na0_1 ca0_1, .slice Aa0_2 na0_2 ca0_2, .slice Aa0_3 na0_3 ca0_3] 43) fun B1 w2 =>
  alW w2 (.cells #[.int .i64 (0 : Int), .int .i64 (0 : Int), .int .i64 (0 : Int), .int .i64 (0 : Int)] 50) fun B3 w4 =>
  ldS w4 ((⟨B1, 0, Option.none⟩ : Addr).add 1) fun A5 n5 c5 =>
  Calls Try.prog 50 #[.agg #[.slice none 0 0, .slice A5 n5 c5, .slice none 0 0], .int .i64 xa1] w4 fun e6 w7 => ∃ (x8_0_0 : Int) (x8_0_1 : Int) (x8_0_2 : Int) (x8_0_3 : Int) (b8_1 : Bool), e6 = .returned (.tuple #[.agg #[.int .i64 x8_0_0, .int .i64 x8_0_1, .int .i64 x8_0_2, .int .i64 x8_0_3], .bool b8_1]) ∧ (
  stW w7 (⟨B3, 0, Option.none⟩ : Addr) (.int .i64 x8_0_0) fun w9 =>
  stW w9 ((⟨B3, 0, Option.none⟩ : Addr).add 1) (.int .i64 x8_0_1) fun w10 =>
  stW w10 ((⟨B3, 0, Option.none⟩ : Addr).add 2) (.int .i64 x8_0_2) fun w11 =>
  stW w11 ((⟨B3, 0, Option.none⟩ : Addr).add 3) (.int .i64 x8_0_3) fun w12 =>
  ldI w12 (⟨B3, 0, Option.none⟩ : Addr) .i64 fun x13 =>
  ldI w12 ((⟨B3, 0, Option.none⟩ : Addr).add 1) .i64 fun x14 =>
  ldI w12 ((⟨B3, 0, Option.none⟩ : Addr).add 2) .i64 fun x15 =>
  ldI w12 ((⟨B3, 0, Option.none⟩ : Addr).add 3) .i64 fun x16 =>
  Q (.returned (.tuple #[.agg #[.int .i64 x13, .int .i64 x14, .int .i64 x15, .int .i64 x16], .bool b8_1])) w12)
def D : Nat → Option DH := dtab []
def tb : List (List Nat × Spec) := []
theorem wp_eq (Aa0_0 : Option Addr) (na0_0 : Nat) (ca0_0 : Nat) (Aa0_1 : Option Addr) (na0_1 : Nat) (ca0_1 : Nat) (Aa0_2 : Option Addr) (na0_2 : Nat) (ca0_2 : Nat) (Aa0_3 : Option Addr) (na0_3 : Nat) (ca0_3 : Nat) (xa1 : Int) (w : World) (Q : Ending → World → Prop) :
    wp Aa0_0 na0_0 ca0_0 Aa0_1 na0_1 ca0_1 Aa0_2 na0_2 ca0_2 Aa0_3 na0_3 ca0_3 xa1 w Q = codeW Try.prog hT 14 D (tab tb) [] body (topQ Try.prog hT 14 [.cell 4 50, .tmp 5] Q) (argsF [.agg #[.slice Aa0_0 na0_0 ca0_0, .slice Aa0_1 na0_1 ca0_1, .slice Aa0_2 na0_2 ca0_2, .slice Aa0_3 na0_3 ca0_3], .int .i64 xa1]) w := by kernel_rfl
theorem ok (Aa0_0 : Option Addr) (na0_0 : Nat) (ca0_0 : Nat) (Aa0_1 : Option Addr) (na0_1 : Nat) (ca0_1 : Nat) (Aa0_2 : Option Addr) (na0_2 : Nat) (ca0_2 : Nat) (Aa0_3 : Option Addr) (na0_3 : Nat) (ca0_3 : Nat) (xa1 : Int) (w : World) (Q : Ending → World → Prop) (h : wp Aa0_0 na0_0 ca0_0 Aa0_1 na0_1 ca0_1 Aa0_2 na0_2 ca0_2 Aa0_3 na0_3 ca0_3 xa1 w Q) : Calls Try.prog 27 #[.agg #[.slice Aa0_0 na0_0 ca0_0, .slice Aa0_1 na0_1 ca0_1, .slice Aa0_2 na0_2 ca0_2, .slice Aa0_3 na0_3 ca0_3], .int .i64 xa1] w Q := by
  rw [wp_eq] at h
  exact calls_of_codeW (c := body) (rs := [.cell 4 50, .tmp 5]) Try.func27 (by kernel_rfl) (by kernel_rfl) (by kernel_rfl) (by kernel_rfl) (by kernel_rfl) (tab_snd (by
    intro x hx
    simp only [tb, List.not_mem_nil] at hx
    )) (by kernel_rfl) h
end f_ref16_Edge
namespace f_ref05_Without
/-! skein/skeinref05.Without: function 35 -/
noncomputable def body : Code := (Try.f35.body).getD .skip
def l0 : Nat → Option Addr → Nat → Nat → Int → Option Addr → Nat → Nat → Int → World → ((Option Addr) → Nat → Nat → World → Prop) → Prop
  | 0, _, _, _, _, _, _, _, _, _, _ => False
  | k + 1, At0, nt0, ct0, xt1, At5, nt5, ct5, xt6, w, K0 =>
    sel (decide (xt6 < (nt0 : Int))) (
    optB At0 fun a3 =>
    req (decide (0 ≤ xt6 ∧ xt6 < (nt0 : Int))) <|
    ldI w (a3.add (xt6.toNat * 1)) .i64 fun x4 =>
    sel (x4 != xt1) (
    optB At0 fun a5 =>
    req (decide (0 ≤ xt6 ∧ xt6 < (nt0 : Int))) <|
    ldI w (a5.add (xt6.toNat * 1)) .i64 fun x6 =>
    alW w (.cells #[.int .i64 x6] 3) fun B7 w8 =>
    Runs Try.prog (Builtin.append_ #[22, 22] 22 #[.slice At5 nt5 ct5, .slice (some (⟨B7, 0, Option.none⟩ : Addr)) 1 1]) w8 fun v10 w9 => ∃ (A11 : Option Addr) (n11 : Nat) (c11 : Nat), v10 = (.slice A11 n11 c11) ∧ (
    l0 k At0 nt0 ct0 xt1 A11 n11 c11 (IntKind.i64.wrap (xt6 + (1 : Int))) w9 K0)) (
    l0 k At0 nt0 ct0 xt1 At5 nt5 ct5 (IntKind.i64.wrap (xt6 + (1 : Int))) w K0)) (
    K0 At5 nt5 ct5 w)
def wp (Aa0 : Option Addr) (na0 : Nat) (ca0 : Nat) (xa1 : Int) (w : World) (Q : Ending → World → Prop) : Prop :=
  alW w (.cells #[] 3) fun B1 w2 =>
  ∃ k14 : Nat, l0 k14 Aa0 na0 ca0 xa1 (some (⟨B1, 0, Option.none⟩ : Addr)) 0 0 (0 : Int) w2 (fun (A12 : Option Addr) (n12 : Nat) (c12 : Nat) (w13 : World) => ∀ _ : Fr,
  Q (.returned (.slice A12 n12 c12)) w13)
def D : Nat → Option DH := dtab []
def l0LO : LO := ⟨[], [], [(0, [5])], []⟩
def l0Tk (k : Nat) : Spec := fun Q σ w =>
  gSlice (σ 0) fun At0 nt0 ct0 =>
  gInt .i64 (σ 1) fun xt1 =>
  gSlice (σ 5) fun At5 nt5 ct5 =>
  gInt .i64 (σ 6) fun xt6 =>
  l0 k At0 nt0 ct0 xt1 At5 nt5 ct5 xt6 w (fun (Aq5 : Option Addr) (nq5 : Nat) (cq5 : Nat) (w : World) => ∀ d : Fr, Q (.exit 0) (ov d [(5, .slice Aq5 nq5 cq5)]) w)
def l0T : Spec := fun Q σ w => ∃ k, l0Tk k Q σ w
def l0tb : List (List Nat × Spec) := []
noncomputable def l0b : Code := (subC [0, 0, 1, 0, 1, 1] body).getD .skip
theorem l0_eq (k : Nat) (At0 : Option Addr) (nt0 : Nat) (ct0 : Nat) (xt1 : Int) (At5 : Option Addr) (nt5 : Nat) (ct5 : Nat) (xt6 : Int) (Q : PQ) (σ : Fr) (w : World) :
    l0 (k + 1) At0 nt0 ct0 xt1 At5 nt5 ct5 xt6 w (fun (Aq5 : Option Addr) (nq5 : Nat) (cq5 : Nat) (w : World) => ∀ d : Fr, Q (.exit 0) (ov d [(5, .slice Aq5 nq5 cq5)]) w) = codeW Try.prog hT 28 D (tab l0tb) [0, 0, 1, 0, 1, 1] l0b (thenQ (l0Tk k Q) (widen l0LO Q)) (ov σ [(0, .slice At0 nt0 ct0), (1, .int .i64 xt1), (5, .slice At5 nt5 ct5), (6, .int .i64 xt6)]) w := by kernel_rfl
theorem l0_snd : ∀ c, subC [0, 1, 0, 1, 1] body = some c → Snd Try.prog 28 c l0T := by
  refine loop_of (hT := hT) (D := D) (l := l0tb) (b := l0b) (lo := l0LO) (by kernel_rfl) (by
    intro x hx
    simp only [l0tb, List.not_mem_nil] at hx
    ) (by kernel_rfl) (by kernel_rfl) ?_ ?_
  · intro Q σ w h
    unfold l0Tk at h
    obtain ⟨At0, nt0, ct0, h0, hn⟩ := gSlice_elim h
    clear h
    have h := hn
    clear hn
    obtain ⟨xt1, h1, hn⟩ := gInt_elim h
    clear h
    have h := hn
    clear hn
    obtain ⟨At5, nt5, ct5, h5, hn⟩ := gSlice_elim h
    clear h
    have h := hn
    clear hn
    obtain ⟨xt6, h6, hn⟩ := gInt_elim h
    clear h
    have h := hn
    clear hn
    exact h
  · intro k Q σ w h
    unfold l0Tk at h
    obtain ⟨At0, nt0, ct0, h0, hn⟩ := gSlice_elim h
    clear h
    have h := hn
    clear hn
    obtain ⟨xt1, h1, hn⟩ := gInt_elim h
    clear h
    have h := hn
    clear hn
    obtain ⟨At5, nt5, ct5, h5, hn⟩ := gSlice_elim h
    clear h
    have h := hn
    clear hn
    obtain ⟨xt6, h6, hn⟩ := gInt_elim h
    clear h
    have h := hn
    clear hn
    rw [l0_eq (σ := σ)] at h
    have e : (ov σ [(0, .slice At0 nt0 ct0), (1, .int .i64 xt1), (5, .slice At5 nt5 ct5), (6, .int .i64 xt6)]) = σ := ov_self (by simp [h0, h1, h5, h6])
    rw [e] at h
    exact h
def tb : List (List Nat × Spec) := [([0, 1, 0, 1, 1], l0T)]
theorem wp_eq (Aa0 : Option Addr) (na0 : Nat) (ca0 : Nat) (xa1 : Int) (w : World) (Q : Ending → World → Prop) :
    wp Aa0 na0 ca0 xa1 w Q = codeW Try.prog hT 28 D (tab tb) [] body (topQ Try.prog hT 28 [.tmp 4] Q) (argsF [.slice Aa0 na0 ca0, .int .i64 xa1]) w := by kernel_rfl
theorem ok (Aa0 : Option Addr) (na0 : Nat) (ca0 : Nat) (xa1 : Int) (w : World) (Q : Ending → World → Prop) (h : wp Aa0 na0 ca0 xa1 w Q) : Calls Try.prog 35 #[.slice Aa0 na0 ca0, .int .i64 xa1] w Q := by
  rw [wp_eq] at h
  exact calls_of_codeW (c := body) (rs := [.tmp 4]) Try.func35 (by kernel_rfl) (by kernel_rfl) (by kernel_rfl) (by kernel_rfl) (by kernel_rfl) (tab_snd (by
    intro x hx
    simp only [tb, List.mem_cons, List.not_mem_nil, or_false] at hx
    subst hx
    exact l0_snd)) (by kernel_rfl) h
end f_ref05_Without
namespace f_ref05_BadId
/-! skein/skeinref05.BadId: function 46 -/
noncomputable def body : Code := (Try.f46.body).getD .skip
def wp (xa0 : Int) (w : World) (Q : Ending → World → Prop) : Prop :=
  sel (decide (xa0 < (1 : Int))) (
  Q (.returned (.bool true)) w) (
  Q (.returned (.bool (decide (xa0 > (2147483647 : Int))))) w)
def D : Nat → Option DH := dtab []
def tb : List (List Nat × Spec) := []
theorem wp_eq (xa0 : Int) (w : World) (Q : Ending → World → Prop) :
    wp xa0 w Q = codeW Try.prog hT 9 D (tab tb) [] body (topQ Try.prog hT 9 [.tmp 2] Q) (argsF [.int .i64 xa0]) w := by kernel_rfl
theorem ok (xa0 : Int) (w : World) (Q : Ending → World → Prop) (h : wp xa0 w Q) : Calls Try.prog 46 #[.int .i64 xa0] w Q := by
  rw [wp_eq] at h
  exact calls_of_codeW (c := body) (rs := [.tmp 2]) Try.func46 (by kernel_rfl) (by kernel_rfl) (by kernel_rfl) (by kernel_rfl) (by kernel_rfl) (tab_snd (by
    intro x hx
    simp only [tb, List.not_mem_nil] at hx
    )) (by kernel_rfl) h
end f_ref05_BadId
namespace f_ref16_Joined
/-! skein/skeinref16.Joined: function 47 -/
noncomputable def body : Code := (Try.f47.body).getD .skip
def wp (Aa0_0 : Option Addr) (na0_0 : Nat) (ca0_0 : Nat) (Aa0_1 : Option Addr) (na0_1 : Nat) (ca0_1 : Nat) (Aa0_2 : Option Addr) (na0_2 : Nat) (ca0_2 : Nat) (Aa0_3 : Option Addr) (na0_3 : Nat) (ca0_3 : Nat) (xa1 : Int) (xa2 : Int) (w : World) (Q : Ending → World → Prop) : Prop :=
  alW w (.cells #[.slice Aa0_0 na0_0 ca0_0, .slice Aa0_1 na0_1 ca0_1, .slice Aa0_2 na0_2 ca0_2, .slice Aa0_3 na0_3 ca0_3] 43) fun B1 w2 =>
  ldS w2 (⟨B1, 0, Option.none⟩ : Addr) fun A3 n3 c3 =>
  ldS w2 ((⟨B1, 0, Option.none⟩ : Addr).add 1) fun A4 n4 c4 =>
  ldS w2 ((⟨B1, 0, Option.none⟩ : Addr).add 2) fun A5 n5 c5 =>
  ldS w2 ((⟨B1, 0, Option.none⟩ : Addr).add 3) fun A6 n6 c6 =>
  Calls Try.prog 51 #[.agg #[.slice A3 n3 c3, .slice A4 n4 c4, .slice A5 n5 c5, .slice A6 n6 c6], .int .i64 xa1] w2 fun e7 w8 => ∃ (A9 : Option Addr) (n9 : Nat) (c9 : Nat), e7 = .returned (.slice A9 n9 c9) ∧ (
  Calls Try.prog 15 #[.slice A9 n9 c9, .int .i64 xa2] w8 fun e10 w11 => ∃ (b12 : Bool), e10 = .returned (.bool b12) ∧ (
  Q (.returned (.bool b12)) w11))
def D : Nat → Option DH := dtab []
def tb : List (List Nat × Spec) := []
theorem wp_eq (Aa0_0 : Option Addr) (na0_0 : Nat) (ca0_0 : Nat) (Aa0_1 : Option Addr) (na0_1 : Nat) (ca0_1 : Nat) (Aa0_2 : Option Addr) (na0_2 : Nat) (ca0_2 : Nat) (Aa0_3 : Option Addr) (na0_3 : Nat) (ca0_3 : Nat) (xa1 : Int) (xa2 : Int) (w : World) (Q : Ending → World → Prop) :
    wp Aa0_0 na0_0 ca0_0 Aa0_1 na0_1 ca0_1 Aa0_2 na0_2 ca0_2 Aa0_3 na0_3 ca0_3 xa1 xa2 w Q = codeW Try.prog hT 12 D (tab tb) [] body (topQ Try.prog hT 12 [.tmp 6] Q) (argsF [.agg #[.slice Aa0_0 na0_0 ca0_0, .slice Aa0_1 na0_1 ca0_1, .slice Aa0_2 na0_2 ca0_2, .slice Aa0_3 na0_3 ca0_3], .int .i64 xa1, .int .i64 xa2]) w := by kernel_rfl
theorem ok (Aa0_0 : Option Addr) (na0_0 : Nat) (ca0_0 : Nat) (Aa0_1 : Option Addr) (na0_1 : Nat) (ca0_1 : Nat) (Aa0_2 : Option Addr) (na0_2 : Nat) (ca0_2 : Nat) (Aa0_3 : Option Addr) (na0_3 : Nat) (ca0_3 : Nat) (xa1 : Int) (xa2 : Int) (w : World) (Q : Ending → World → Prop) (h : wp Aa0_0 na0_0 ca0_0 Aa0_1 na0_1 ca0_1 Aa0_2 na0_2 ca0_2 Aa0_3 na0_3 ca0_3 xa1 xa2 w Q) : Calls Try.prog 47 #[.agg #[.slice Aa0_0 na0_0 ca0_0, .slice Aa0_1 na0_1 ca0_1, .slice Aa0_2 na0_2 ca0_2, .slice Aa0_3 na0_3 ca0_3], .int .i64 xa1, .int .i64 xa2] w Q := by
  rw [wp_eq] at h
  exact calls_of_codeW (c := body) (rs := [.tmp 6]) Try.func47 (by kernel_rfl) (by kernel_rfl) (by kernel_rfl) (by kernel_rfl) (by kernel_rfl) (tab_snd (by
    intro x hx
    simp only [tb, List.not_mem_nil] at hx
    )) (by kernel_rfl) h
end f_ref16_Joined
namespace f_ref16_Mark
/-! skein/skeinref16.Mark: function 49 -/
noncomputable def body : Code := (Try.f49.body).getD .skip
def wp (Aa0 : Option Addr) (na0 : Nat) (ca0 : Nat) (xa1 : Int) (ba2 : Bool) (w : World) (Q : Ending → World → Prop) : Prop :=
  Calls Try.prog 35 #[.slice Aa0 na0 ca0, .int .i64 xa1] w fun e1 w2 => ∃ (A3 : Option Addr) (n3 : Nat) (c3 : Nat), e1 = .returned (.slice A3 n3 c3) ∧ (
  sel ba2 (
  Calls Try.prog 16 #[.slice A3 n3 c3, .int .i64 xa1] w2 fun e4 w5 => ∃ (A6 : Option Addr) (n6 : Nat) (c6 : Nat), e4 = .returned (.slice A6 n6 c6) ∧ (
  Q (.returned (.slice A6 n6 c6)) w5)) (
  Q (.returned (.slice A3 n3 c3)) w2))
def D : Nat → Option DH := dtab []
def tb : List (List Nat × Spec) := []
theorem wp_eq (Aa0 : Option Addr) (na0 : Nat) (ca0 : Nat) (xa1 : Int) (ba2 : Bool) (w : World) (Q : Ending → World → Prop) :
    wp Aa0 na0 ca0 xa1 ba2 w Q = codeW Try.prog hT 16 D (tab tb) [] body (topQ Try.prog hT 16 [.tmp 6] Q) (argsF [.slice Aa0 na0 ca0, .int .i64 xa1, .bool ba2]) w := by cases ba2 <;> kernel_rfl
theorem ok (Aa0 : Option Addr) (na0 : Nat) (ca0 : Nat) (xa1 : Int) (ba2 : Bool) (w : World) (Q : Ending → World → Prop) (h : wp Aa0 na0 ca0 xa1 ba2 w Q) : Calls Try.prog 49 #[.slice Aa0 na0 ca0, .int .i64 xa1, .bool ba2] w Q := by
  rw [wp_eq] at h
  exact calls_of_codeW (c := body) (rs := [.tmp 6]) Try.func49 (by kernel_rfl) (by kernel_rfl) (by kernel_rfl) (by kernel_rfl) (by kernel_rfl) (tab_snd (by
    intro x hx
    simp only [tb, List.not_mem_nil] at hx
    )) (by kernel_rfl) h
end f_ref16_Mark
namespace f_ref05_Edge
/-! skein/skeinref05.Edge: function 50 -/
noncomputable def body : Code := (Try.f50.body).getD .skip
def l0 : Nat → Int → Addr → Addr → Int → World → (World → Prop) → (Bool → World → Prop) → Prop
  | 0, _, _, _, _, _, _, _ => False
  | k + 1, xt1, at2, at4, xt6, w, K0, Kr =>
    ldS w (at2.add 1) fun A5 n5 c5 =>
    sel (decide (xt6 < (n5 : Int))) (
    ldS w (at2.add 1) fun A6 n6 c6 =>
    optB A6 fun a7 =>
    req (decide (0 ≤ xt6 ∧ xt6 < (n6 : Int))) <|
    ldI w (a7.add (xt6.toNat * 4)) .i64 fun x8 =>
    sel (x8 == xt1) (
    ldS w (at2.add 1) fun A9 n9 c9 =>
    optB A9 fun a10 =>
    req (decide (0 ≤ xt6 ∧ xt6 < (n9 : Int))) <|
    ldI w (a10.add (xt6.toNat * 4)) .i64 fun x11 =>
    ldI w ((a10.add (xt6.toNat * 4)).add 1) .i64 fun x12 =>
    ldI w ((a10.add (xt6.toNat * 4)).add 2) .i64 fun x13 =>
    ldI w ((a10.add (xt6.toNat * 4)).add 3) .i64 fun x14 =>
    stW w at4 (.int .i64 x11) fun w15 =>
    stW w15 (at4.add 1) (.int .i64 x12) fun w16 =>
    stW w16 (at4.add 2) (.int .i64 x13) fun w17 =>
    stW w17 (at4.add 3) (.int .i64 x14) fun w18 =>
    Kr true w18) (
    l0 k xt1 at2 at4 (IntKind.i64.wrap (xt6 + (1 : Int))) w K0 Kr)) (
    K0  w)
def wp (Aa0_0 : Option Addr) (na0_0 : Nat) (ca0_0 : Nat) (Aa0_1 : Option Addr) (na0_1 : Nat) (ca0_1 : Nat) (Aa0_2 : Option Addr) (na0_2 : Nat) (ca0_2 : Nat) (xa1 : Int) (w : World) (Q : Ending → World → Prop) : Prop :=
  alW w (.cells #[.slice Aa0_0 na0_0 ca0_0, .slice Aa0_1 na0_1 ca0_1, .slice Aa0_2 na0_2 ca0_2] 89) fun B1 w2 =>
  alW w2 (.cells #[.int .i64 (0 : Int), .int .i64 (0 : Int), .int .i64 (0 : Int), .int .i64 (0 : Int)] 50) fun B3 w4 =>
  ∃ k34 : Nat, l0 k34 xa1 (⟨B1, 0, Option.none⟩ : Addr) (⟨B3, 0, Option.none⟩ : Addr) (0 : Int) w4 (fun (w19 : World) => ∀ _ : Fr,
  stW w19 (⟨B3, 0, Option.none⟩ : Addr) (.int .i64 (0 : Int)) fun w20 =>
  stW w20 ((⟨B3, 0, Option.none⟩ : Addr).add 1) (.int .i64 (0 : Int)) fun w21 =>
  stW w21 ((⟨B3, 0, Option.none⟩ : Addr).add 2) (.int .i64 (0 : Int)) fun w22 =>
  stW w22 ((⟨B3, 0, Option.none⟩ : Addr).add 3) (.int .i64 (0 : Int)) fun w23 =>
  ldI w23 (⟨B3, 0, Option.none⟩ : Addr) .i64 fun x24 =>
  ldI w23 ((⟨B3, 0, Option.none⟩ : Addr).add 1) .i64 fun x25 =>
  ldI w23 ((⟨B3, 0, Option.none⟩ : Addr).add 2) .i64 fun x26 =>
  ldI w23 ((⟨B3, 0, Option.none⟩ : Addr).add 3) .i64 fun x27 =>
  Q (.returned (.tuple #[.agg #[.int .i64 x24, .int .i64 x25, .int .i64 x26, .int .i64 x27], .bool false])) w23) (fun (b28 : Bool) (w29 : World) => ∀ _ : Fr,
  ldI w29 (⟨B3, 0, Option.none⟩ : Addr) .i64 fun x30 =>
  ldI w29 ((⟨B3, 0, Option.none⟩ : Addr).add 1) .i64 fun x31 =>
  ldI w29 ((⟨B3, 0, Option.none⟩ : Addr).add 2) .i64 fun x32 =>
  ldI w29 ((⟨B3, 0, Option.none⟩ : Addr).add 3) .i64 fun x33 =>
  Q (.returned (.tuple #[.agg #[.int .i64 x30, .int .i64 x31, .int .i64 x32, .int .i64 x33], .bool b28])) w29)
def D : Nat → Option DH := dtab []
def l0LO : LO := ⟨[], [4, 5], [(0, [4])], []⟩
def l0Tk (k : Nat) : Spec := fun Q σ w =>
  gInt .i64 (σ 1) fun xt1 =>
  gAd (σ 2) fun at2 =>
  gAd (σ 4) fun at4 =>
  gInt .i64 (σ 6) fun xt6 =>
  l0 k xt1 at2 at4 xt6 w (fun (w : World) => ∀ d : Fr, Q (.exit 0) (ov d [(4, .pointer (some at4))]) w) (fun (bq5 : Bool) (w : World) => ∀ d : Fr, Q .ret (ov d [(4, .pointer (some at4)), (5, .bool bq5)]) w)
def l0T : Spec := fun Q σ w => ∃ k, l0Tk k Q σ w
def l0tb : List (List Nat × Spec) := []
noncomputable def l0b : Code := (subC [0, 0, 1, 0, 1] body).getD .skip
theorem l0_eq (k : Nat) (xt1 : Int) (at2 : Addr) (at4 : Addr) (xt6 : Int) (Q : PQ) (σ : Fr) (w : World) :
    l0 (k + 1) xt1 at2 at4 xt6 w (fun (w : World) => ∀ d : Fr, Q (.exit 0) (ov d [(4, .pointer (some at4))]) w) (fun (bq5 : Bool) (w : World) => ∀ d : Fr, Q .ret (ov d [(4, .pointer (some at4)), (5, .bool bq5)]) w) = codeW Try.prog hT 28 D (tab l0tb) [0, 0, 1, 0, 1] l0b (thenQ (l0Tk k Q) (widen l0LO Q)) (ov σ [(1, .int .i64 xt1), (2, .pointer (some at2)), (4, .pointer (some at4)), (6, .int .i64 xt6)]) w := by kernel_rfl
theorem l0_snd : ∀ c, subC [0, 1, 0, 1] body = some c → Snd Try.prog 28 c l0T := by
  refine loop_of (hT := hT) (D := D) (l := l0tb) (b := l0b) (lo := l0LO) (by kernel_rfl) (by
    intro x hx
    simp only [l0tb, List.not_mem_nil] at hx
    ) (by kernel_rfl) (by kernel_rfl) ?_ ?_
  · intro Q σ w h
    unfold l0Tk at h
    obtain ⟨xt1, h1, hn⟩ := gInt_elim h
    clear h
    have h := hn
    clear hn
    obtain ⟨at2, h2, hn⟩ := gAd_elim h
    clear h
    have h := hn
    clear hn
    obtain ⟨at4, h4, hn⟩ := gAd_elim h
    clear h
    have h := hn
    clear hn
    obtain ⟨xt6, h6, hn⟩ := gInt_elim h
    clear h
    have h := hn
    clear hn
    exact h
  · intro k Q σ w h
    unfold l0Tk at h
    obtain ⟨xt1, h1, hn⟩ := gInt_elim h
    clear h
    have h := hn
    clear hn
    obtain ⟨at2, h2, hn⟩ := gAd_elim h
    clear h
    have h := hn
    clear hn
    obtain ⟨at4, h4, hn⟩ := gAd_elim h
    clear h
    have h := hn
    clear hn
    obtain ⟨xt6, h6, hn⟩ := gInt_elim h
    clear h
    have h := hn
    clear hn
    rw [l0_eq (σ := σ)] at h
    have e : (ov σ [(1, .int .i64 xt1), (2, .pointer (some at2)), (4, .pointer (some at4)), (6, .int .i64 xt6)]) = σ := ov_self (by simp [h1, h2, h4, h6])
    rw [e] at h
    exact h
def tb : List (List Nat × Spec) := [([0, 1, 0, 1], l0T)]
theorem wp_eq (Aa0_0 : Option Addr) (na0_0 : Nat) (ca0_0 : Nat) (Aa0_1 : Option Addr) (na0_1 : Nat) (ca0_1 : Nat) (Aa0_2 : Option Addr) (na0_2 : Nat) (ca0_2 : Nat) (xa1 : Int) (w : World) (Q : Ending → World → Prop) :
    wp Aa0_0 na0_0 ca0_0 Aa0_1 na0_1 ca0_1 Aa0_2 na0_2 ca0_2 xa1 w Q = codeW Try.prog hT 28 D (tab tb) [] body (topQ Try.prog hT 28 [.cell 4 50, .tmp 5] Q) (argsF [.agg #[.slice Aa0_0 na0_0 ca0_0, .slice Aa0_1 na0_1 ca0_1, .slice Aa0_2 na0_2 ca0_2], .int .i64 xa1]) w := by kernel_rfl
theorem ok (Aa0_0 : Option Addr) (na0_0 : Nat) (ca0_0 : Nat) (Aa0_1 : Option Addr) (na0_1 : Nat) (ca0_1 : Nat) (Aa0_2 : Option Addr) (na0_2 : Nat) (ca0_2 : Nat) (xa1 : Int) (w : World) (Q : Ending → World → Prop) (h : wp Aa0_0 na0_0 ca0_0 Aa0_1 na0_1 ca0_1 Aa0_2 na0_2 ca0_2 xa1 w Q) : Calls Try.prog 50 #[.agg #[.slice Aa0_0 na0_0 ca0_0, .slice Aa0_1 na0_1 ca0_1, .slice Aa0_2 na0_2 ca0_2], .int .i64 xa1] w Q := by
  rw [wp_eq] at h
  exact calls_of_codeW (c := body) (rs := [.cell 4 50, .tmp 5]) Try.func50 (by kernel_rfl) (by kernel_rfl) (by kernel_rfl) (by kernel_rfl) (by kernel_rfl) (tab_snd (by
    intro x hx
    simp only [tb, List.mem_cons, List.not_mem_nil, or_false] at hx
    subst hx
    exact l0_snd)) (by kernel_rfl) h
end f_ref05_Edge
namespace f_ref16_Verts
/-! skein/skeinref16.Verts: function 51 -/
noncomputable def body : Code := (Try.f51.body).getD .skip
def l0 : Nat → Int → Addr → Int → Int → World → (Int → World → Prop) → Prop
  | 0, _, _, _, _, _, _ => False
  | k + 1, xt1, at2, xt6, xt7, w, K0 =>
    ldS w at2 fun A8 n8 c8 =>
    sel (decide (xt7 < (n8 : Int))) (
    ldS w at2 fun A9 n9 c9 =>
    optB A9 fun a10 =>
    req (decide (0 ≤ xt7 ∧ xt7 < (n9 : Int))) <|
    ldI w (a10.add (xt7.toNat * 1)) .i64 fun x11 =>
    sel (x11 == xt1) (
    l0 k xt1 at2 xt7 (IntKind.i64.wrap (xt7 + (1 : Int))) w K0) (
    l0 k xt1 at2 xt6 (IntKind.i64.wrap (xt7 + (1 : Int))) w K0)) (
    K0 xt6 w)
def l1 : Nat → Addr → Option Addr → Nat → Nat → Int → Option Addr → Nat → Nat → Int → World → ((Option Addr) → Nat → Nat → World → Prop) → Prop
  | 0, _, _, _, _, _, _, _, _, _, _, _ => False
  | k + 1, at2, At5, nt5, ct5, xt6, At8, nt8, ct8, xt9, w, K2 =>
    ldS w at2 fun A16 n16 c16 =>
    sel (decide (xt9 < (n16 : Int))) (
    drW w fun w17 =>
    sel (decide (xt6 ≥ (0 : Int))) (
    optB At5 fun a19 =>
    req (decide (0 ≤ xt9 ∧ xt9 < (nt5 : Int))) <|
    ldI w17 (a19.add (xt9.toNat * 1)) .i64 fun x20 =>
    optB At5 fun a21 =>
    req (decide (0 ≤ xt6 ∧ xt6 < (nt5 : Int))) <|
    ldI w17 (a21.add (xt6.toNat * 1)) .i64 fun x22 =>
    sel (x20 == x22) (
    ldS w17 at2 fun A23 n23 c23 =>
    optB A23 fun a24 =>
    req (decide (0 ≤ xt9 ∧ xt9 < (n23 : Int))) <|
    ldI w17 (a24.add (xt9.toNat * 1)) .i64 fun x25 =>
    alW w17 (.cells #[.int .i64 x25] 3) fun B26 w27 =>
    Runs Try.prog (Builtin.append_ #[22, 22] 22 #[.slice At8 nt8 ct8, .slice (some (⟨B26, 0, Option.none⟩ : Addr)) 1 1]) w27 fun v29 w28 => ∃ (A30 : Option Addr) (n30 : Nat) (c30 : Nat), v29 = (.slice A30 n30 c30) ∧ (
    l1 k at2 At5 nt5 ct5 xt6 A30 n30 c30 (IntKind.i64.wrap (xt9 + (1 : Int))) w28 K2)) (
    l1 k at2 At5 nt5 ct5 xt6 At8 nt8 ct8 (IntKind.i64.wrap (xt9 + (1 : Int))) w17 K2)) (
    l1 k at2 At5 nt5 ct5 xt6 At8 nt8 ct8 (IntKind.i64.wrap (xt9 + (1 : Int))) w17 K2)) (
    K2 At8 nt8 ct8 w)
def wp (Aa0_0 : Option Addr) (na0_0 : Nat) (ca0_0 : Nat) (Aa0_1 : Option Addr) (na0_1 : Nat) (ca0_1 : Nat) (Aa0_2 : Option Addr) (na0_2 : Nat) (ca0_2 : Nat) (Aa0_3 : Option Addr) (na0_3 : Nat) (ca0_3 : Nat) (xa1 : Int) (w : World) (Q : Ending → World → Prop) : Prop :=
  alW w (.cells #[.slice Aa0_0 na0_0 ca0_0, .slice Aa0_1 na0_1 ca0_1, .slice Aa0_2 na0_2 ca0_2, .slice Aa0_3 na0_3 ca0_3] 43) fun B1 w2 =>
  ldS w2 (⟨B1, 0, Option.none⟩ : Addr) fun A3 n3 c3 =>
  ldS w2 ((⟨B1, 0, Option.none⟩ : Addr).add 1) fun A4 n4 c4 =>
  Calls Try.prog 74 #[.slice A3 n3 c3, .slice A4 n4 c4] w2 fun e5 w6 => ∃ (A7 : Option Addr) (n7 : Nat) (c7 : Nat), e5 = .returned (.slice A7 n7 c7) ∧ (
  ∃ k34 : Nat, l0 k34 xa1 (⟨B1, 0, Option.none⟩ : Addr) (-1 : Int) (0 : Int) w6 (fun (x12 : Int) (w13 : World) => ∀ _ : Fr,
  alW w13 (.cells #[] 3) fun B14 w15 =>
  ∃ k33 : Nat, l1 k33 (⟨B1, 0, Option.none⟩ : Addr) A7 n7 c7 x12 (some (⟨B14, 0, Option.none⟩ : Addr)) 0 0 (0 : Int) w15 (fun (A31 : Option Addr) (n31 : Nat) (c31 : Nat) (w32 : World) => ∀ _ : Fr,
  Q (.returned (.slice A31 n31 c31)) w32)))
def D : Nat → Option DH := dtab [(12, .simple [.fst 0, .fst 1, .fst 2, .fst 3, .fst 4, .fst 5, .fst 6, .fst 7, .fst 8, .fst 9, .fst 10] [.fst 11, .fst 12])]
def l0LO : LO := ⟨[], [], [(0, [2, 5, 6])], []⟩
def l0Tk (k : Nat) : Spec := fun Q σ w =>
  gInt .i64 (σ 1) fun xt1 =>
  gAd (σ 2) fun at2 =>
  gInt .i64 (σ 6) fun xt6 =>
  gInt .i64 (σ 7) fun xt7 =>
  l0 k xt1 at2 xt6 xt7 w (fun (xq6 : Int) (w : World) => ∀ d : Fr, Q (.exit 0) (ov d [(2, .pointer (some at2)), (5, σ 5), (6, .int .i64 xq6)]) w)
def l0T : Spec := fun Q σ w => ∃ k, l0Tk k Q σ w
def l0tb : List (List Nat × Spec) := []
noncomputable def l0b : Code := (subC [0, 0, 1, 0, 1, 1, 1] body).getD .skip
theorem l0_eq (k : Nat) (xt1 : Int) (at2 : Addr) (xt6 : Int) (xt7 : Int) (Q : PQ) (σ : Fr) (w : World) :
    l0 (k + 1) xt1 at2 xt6 xt7 w (fun (xq6 : Int) (w : World) => ∀ d : Fr, Q (.exit 0) (ov d [(2, .pointer (some at2)), (5, σ 5), (6, .int .i64 xq6)]) w) = codeW Try.prog hT 66 D (tab l0tb) [0, 0, 1, 0, 1, 1, 1] l0b (thenQ (l0Tk k Q) (widen l0LO Q)) (ov σ [(1, .int .i64 xt1), (2, .pointer (some at2)), (6, .int .i64 xt6), (7, .int .i64 xt7)]) w := by kernel_rfl
theorem l0_snd : ∀ c, subC [0, 1, 0, 1, 1, 1] body = some c → Snd Try.prog 66 c l0T := by
  refine loop_of (hT := hT) (D := D) (l := l0tb) (b := l0b) (lo := l0LO) (by kernel_rfl) (by
    intro x hx
    simp only [l0tb, List.not_mem_nil] at hx
    ) (by kernel_rfl) (by kernel_rfl) ?_ ?_
  · intro Q σ w h
    unfold l0Tk at h
    obtain ⟨xt1, h1, hn⟩ := gInt_elim h
    clear h
    have h := hn
    clear hn
    obtain ⟨at2, h2, hn⟩ := gAd_elim h
    clear h
    have h := hn
    clear hn
    obtain ⟨xt6, h6, hn⟩ := gInt_elim h
    clear h
    have h := hn
    clear hn
    obtain ⟨xt7, h7, hn⟩ := gInt_elim h
    clear h
    have h := hn
    clear hn
    exact h
  · intro k Q σ w h
    unfold l0Tk at h
    obtain ⟨xt1, h1, hn⟩ := gInt_elim h
    clear h
    have h := hn
    clear hn
    obtain ⟨at2, h2, hn⟩ := gAd_elim h
    clear h
    have h := hn
    clear hn
    obtain ⟨xt6, h6, hn⟩ := gInt_elim h
    clear h
    have h := hn
    clear hn
    obtain ⟨xt7, h7, hn⟩ := gInt_elim h
    clear h
    have h := hn
    clear hn
    rw [l0_eq (σ := σ)] at h
    have e : (ov σ [(1, .int .i64 xt1), (2, .pointer (some at2)), (6, .int .i64 xt6), (7, .int .i64 xt7)]) = σ := ov_self (by simp [h1, h2, h6, h7])
    rw [e] at h
    exact h
def l1LO : LO := ⟨[], [], [(2, [8])], []⟩
def l1Tk (k : Nat) : Spec := fun Q σ w =>
  gAd (σ 2) fun at2 =>
  gSlice (σ 5) fun At5 nt5 ct5 =>
  gInt .i64 (σ 6) fun xt6 =>
  gSlice (σ 8) fun At8 nt8 ct8 =>
  gInt .i64 (σ 9) fun xt9 =>
  l1 k at2 At5 nt5 ct5 xt6 At8 nt8 ct8 xt9 w (fun (Aq8 : Option Addr) (nq8 : Nat) (cq8 : Nat) (w : World) => ∀ d : Fr, Q (.exit 2) (ov d [(8, .slice Aq8 nq8 cq8)]) w)
def l1T : Spec := fun Q σ w => ∃ k, l1Tk k Q σ w
def l1tb : List (List Nat × Spec) := []
noncomputable def l1b : Code := (subC [0, 0, 1, 0, 1, 1, 1, 1, 1] body).getD .skip
theorem l1_eq (k : Nat) (at2 : Addr) (At5 : Option Addr) (nt5 : Nat) (ct5 : Nat) (xt6 : Int) (At8 : Option Addr) (nt8 : Nat) (ct8 : Nat) (xt9 : Int) (Q : PQ) (σ : Fr) (w : World) :
    l1 (k + 1) at2 At5 nt5 ct5 xt6 At8 nt8 ct8 xt9 w (fun (Aq8 : Option Addr) (nq8 : Nat) (cq8 : Nat) (w : World) => ∀ d : Fr, Q (.exit 2) (ov d [(8, .slice Aq8 nq8 cq8)]) w) = codeW Try.prog hT 66 D (tab l1tb) [0, 0, 1, 0, 1, 1, 1, 1, 1] l1b (thenQ (l1Tk k Q) (widen l1LO Q)) (ov σ [(2, .pointer (some at2)), (5, .slice At5 nt5 ct5), (6, .int .i64 xt6), (8, .slice At8 nt8 ct8), (9, .int .i64 xt9)]) w := by kernel_rfl
theorem l1_snd : ∀ c, subC [0, 1, 0, 1, 1, 1, 1, 1] body = some c → Snd Try.prog 66 c l1T := by
  refine loop_of (hT := hT) (D := D) (l := l1tb) (b := l1b) (lo := l1LO) (by kernel_rfl) (by
    intro x hx
    simp only [l1tb, List.not_mem_nil] at hx
    ) (by kernel_rfl) (by kernel_rfl) ?_ ?_
  · intro Q σ w h
    unfold l1Tk at h
    obtain ⟨at2, h2, hn⟩ := gAd_elim h
    clear h
    have h := hn
    clear hn
    obtain ⟨At5, nt5, ct5, h5, hn⟩ := gSlice_elim h
    clear h
    have h := hn
    clear hn
    obtain ⟨xt6, h6, hn⟩ := gInt_elim h
    clear h
    have h := hn
    clear hn
    obtain ⟨At8, nt8, ct8, h8, hn⟩ := gSlice_elim h
    clear h
    have h := hn
    clear hn
    obtain ⟨xt9, h9, hn⟩ := gInt_elim h
    clear h
    have h := hn
    clear hn
    exact h
  · intro k Q σ w h
    unfold l1Tk at h
    obtain ⟨at2, h2, hn⟩ := gAd_elim h
    clear h
    have h := hn
    clear hn
    obtain ⟨At5, nt5, ct5, h5, hn⟩ := gSlice_elim h
    clear h
    have h := hn
    clear hn
    obtain ⟨xt6, h6, hn⟩ := gInt_elim h
    clear h
    have h := hn
    clear hn
    obtain ⟨At8, nt8, ct8, h8, hn⟩ := gSlice_elim h
    clear h
    have h := hn
    clear hn
    obtain ⟨xt9, h9, hn⟩ := gInt_elim h
    clear h
    have h := hn
    clear hn
    rw [l1_eq (σ := σ)] at h
    have e : (ov σ [(2, .pointer (some at2)), (5, .slice At5 nt5 ct5), (6, .int .i64 xt6), (8, .slice At8 nt8 ct8), (9, .int .i64 xt9)]) = σ := ov_self (by simp [h2, h5, h6, h8, h9])
    rw [e] at h
    exact h
def tb : List (List Nat × Spec) := [([0, 1, 0, 1, 1, 1], l0T), ([0, 1, 0, 1, 1, 1, 1, 1], l1T)]
theorem wp_eq (Aa0_0 : Option Addr) (na0_0 : Nat) (ca0_0 : Nat) (Aa0_1 : Option Addr) (na0_1 : Nat) (ca0_1 : Nat) (Aa0_2 : Option Addr) (na0_2 : Nat) (ca0_2 : Nat) (Aa0_3 : Option Addr) (na0_3 : Nat) (ca0_3 : Nat) (xa1 : Int) (w : World) (Q : Ending → World → Prop) :
    wp Aa0_0 na0_0 ca0_0 Aa0_1 na0_1 ca0_1 Aa0_2 na0_2 ca0_2 Aa0_3 na0_3 ca0_3 xa1 w Q = codeW Try.prog hT 66 D (tab tb) [] body (topQ Try.prog hT 66 [.tmp 4] Q) (argsF [.agg #[.slice Aa0_0 na0_0 ca0_0, .slice Aa0_1 na0_1 ca0_1, .slice Aa0_2 na0_2 ca0_2, .slice Aa0_3 na0_3 ca0_3], .int .i64 xa1]) w := by kernel_rfl
theorem ok (Aa0_0 : Option Addr) (na0_0 : Nat) (ca0_0 : Nat) (Aa0_1 : Option Addr) (na0_1 : Nat) (ca0_1 : Nat) (Aa0_2 : Option Addr) (na0_2 : Nat) (ca0_2 : Nat) (Aa0_3 : Option Addr) (na0_3 : Nat) (ca0_3 : Nat) (xa1 : Int) (w : World) (Q : Ending → World → Prop) (h : wp Aa0_0 na0_0 ca0_0 Aa0_1 na0_1 ca0_1 Aa0_2 na0_2 ca0_2 Aa0_3 na0_3 ca0_3 xa1 w Q) : Calls Try.prog 51 #[.agg #[.slice Aa0_0 na0_0 ca0_0, .slice Aa0_1 na0_1 ca0_1, .slice Aa0_2 na0_2 ca0_2, .slice Aa0_3 na0_3 ca0_3], .int .i64 xa1] w Q := by
  rw [wp_eq] at h
  exact calls_of_codeW (c := body) (rs := [.tmp 4]) Try.func51 (by kernel_rfl) (by kernel_rfl) (by kernel_rfl) (by kernel_rfl) (by kernel_rfl) (tab_snd (by
    intro x hx
    simp only [tb, List.mem_cons, List.not_mem_nil, or_false] at hx
    rcases hx with rfl | rfl
    · exact l0_snd
    · exact l1_snd)) (by kernel_rfl) h
end f_ref16_Verts
namespace f_ref16_Edges
/-! skein/skeinref16.Edges: function 52 -/
noncomputable def body : Code := (Try.f52.body).getD .skip
def l0 : Nat → Addr → Option Addr → Nat → Nat → Option Addr → Nat → Nat → Int → World → ((Option Addr) → Nat → Nat → World → Prop) → Prop
  | 0, _, _, _, _, _, _, _, _, _, _ => False
  | k + 1, at2, At5, nt5, ct5, At6, nt6, ct6, xt7, w, K0 =>
    ldS w (at2.add 1) fun A12 n12 c12 =>
    sel (decide (xt7 < (n12 : Int))) (
    ldS w (at2.add 1) fun A13 n13 c13 =>
    optB A13 fun a14 =>
    req (decide (0 ≤ xt7 ∧ xt7 < (n13 : Int))) <|
    ldI w ((a14.add (xt7.toNat * 4)).add 1) .i64 fun x15 =>
    Calls Try.prog 15 #[.slice At5 nt5 ct5, .int .i64 x15] w fun e16 w17 => ∃ (b18 : Bool), e16 = .returned (.bool b18) ∧ (
    sel b18 (
    ldS w17 (at2.add 1) fun A19 n19 c19 =>
    optB A19 fun a20 =>
    req (decide (0 ≤ xt7 ∧ xt7 < (n19 : Int))) <|
    ldI w17 (a20.add (xt7.toNat * 4)) .i64 fun x21 =>
    alW w17 (.cells #[.int .i64 x21] 3) fun B22 w23 =>
    Runs Try.prog (Builtin.append_ #[22, 22] 22 #[.slice At6 nt6 ct6, .slice (some (⟨B22, 0, Option.none⟩ : Addr)) 1 1]) w23 fun v25 w24 => ∃ (A26 : Option Addr) (n26 : Nat) (c26 : Nat), v25 = (.slice A26 n26 c26) ∧ (
    l0 k at2 At5 nt5 ct5 A26 n26 c26 (IntKind.i64.wrap (xt7 + (1 : Int))) w24 K0)) (
    l0 k at2 At5 nt5 ct5 At6 nt6 ct6 (IntKind.i64.wrap (xt7 + (1 : Int))) w17 K0))) (
    K0 At6 nt6 ct6 w)
def wp (Aa0_0 : Option Addr) (na0_0 : Nat) (ca0_0 : Nat) (Aa0_1 : Option Addr) (na0_1 : Nat) (ca0_1 : Nat) (Aa0_2 : Option Addr) (na0_2 : Nat) (ca0_2 : Nat) (Aa0_3 : Option Addr) (na0_3 : Nat) (ca0_3 : Nat) (xa1 : Int) (w : World) (Q : Ending → World → Prop) : Prop :=
  alW w (.cells #[.slice Aa0_0 na0_0 ca0_0, .slice Aa0_1 na0_1 ca0_1, .slice Aa0_2 na0_2 ca0_2, .slice Aa0_3 na0_3 ca0_3] 43) fun B1 w2 =>
  ldS w2 (⟨B1, 0, Option.none⟩ : Addr) fun A3 n3 c3 =>
  ldS w2 ((⟨B1, 0, Option.none⟩ : Addr).add 1) fun A4 n4 c4 =>
  ldS w2 ((⟨B1, 0, Option.none⟩ : Addr).add 2) fun A5 n5 c5 =>
  ldS w2 ((⟨B1, 0, Option.none⟩ : Addr).add 3) fun A6 n6 c6 =>
  Calls Try.prog 51 #[.agg #[.slice A3 n3 c3, .slice A4 n4 c4, .slice A5 n5 c5, .slice A6 n6 c6], .int .i64 xa1] w2 fun e7 w8 => ∃ (A9 : Option Addr) (n9 : Nat) (c9 : Nat), e7 = .returned (.slice A9 n9 c9) ∧ (
  alW w8 (.cells #[] 3) fun B10 w11 =>
  ∃ k29 : Nat, l0 k29 (⟨B1, 0, Option.none⟩ : Addr) A9 n9 c9 (some (⟨B10, 0, Option.none⟩ : Addr)) 0 0 (0 : Int) w11 (fun (A27 : Option Addr) (n27 : Nat) (c27 : Nat) (w28 : World) => ∀ _ : Fr,
  Q (.returned (.slice A27 n27 c27)) w28))
def D : Nat → Option DH := dtab []
def l0LO : LO := ⟨[], [], [(0, [6])], []⟩
def l0Tk (k : Nat) : Spec := fun Q σ w =>
  gAd (σ 2) fun at2 =>
  gSlice (σ 5) fun At5 nt5 ct5 =>
  gSlice (σ 6) fun At6 nt6 ct6 =>
  gInt .i64 (σ 7) fun xt7 =>
  l0 k at2 At5 nt5 ct5 At6 nt6 ct6 xt7 w (fun (Aq6 : Option Addr) (nq6 : Nat) (cq6 : Nat) (w : World) => ∀ d : Fr, Q (.exit 0) (ov d [(6, .slice Aq6 nq6 cq6)]) w)
def l0T : Spec := fun Q σ w => ∃ k, l0Tk k Q σ w
def l0tb : List (List Nat × Spec) := []
noncomputable def l0b : Code := (subC [0, 0, 1, 0, 1, 1, 1] body).getD .skip
theorem l0_eq (k : Nat) (at2 : Addr) (At5 : Option Addr) (nt5 : Nat) (ct5 : Nat) (At6 : Option Addr) (nt6 : Nat) (ct6 : Nat) (xt7 : Int) (Q : PQ) (σ : Fr) (w : World) :
    l0 (k + 1) at2 At5 nt5 ct5 At6 nt6 ct6 xt7 w (fun (Aq6 : Option Addr) (nq6 : Nat) (cq6 : Nat) (w : World) => ∀ d : Fr, Q (.exit 0) (ov d [(6, .slice Aq6 nq6 cq6)]) w) = codeW Try.prog hT 40 D (tab l0tb) [0, 0, 1, 0, 1, 1, 1] l0b (thenQ (l0Tk k Q) (widen l0LO Q)) (ov σ [(2, .pointer (some at2)), (5, .slice At5 nt5 ct5), (6, .slice At6 nt6 ct6), (7, .int .i64 xt7)]) w := by kernel_rfl
theorem l0_snd : ∀ c, subC [0, 1, 0, 1, 1, 1] body = some c → Snd Try.prog 40 c l0T := by
  refine loop_of (hT := hT) (D := D) (l := l0tb) (b := l0b) (lo := l0LO) (by kernel_rfl) (by
    intro x hx
    simp only [l0tb, List.not_mem_nil] at hx
    ) (by kernel_rfl) (by kernel_rfl) ?_ ?_
  · intro Q σ w h
    unfold l0Tk at h
    obtain ⟨at2, h2, hn⟩ := gAd_elim h
    clear h
    have h := hn
    clear hn
    obtain ⟨At5, nt5, ct5, h5, hn⟩ := gSlice_elim h
    clear h
    have h := hn
    clear hn
    obtain ⟨At6, nt6, ct6, h6, hn⟩ := gSlice_elim h
    clear h
    have h := hn
    clear hn
    obtain ⟨xt7, h7, hn⟩ := gInt_elim h
    clear h
    have h := hn
    clear hn
    exact h
  · intro k Q σ w h
    unfold l0Tk at h
    obtain ⟨at2, h2, hn⟩ := gAd_elim h
    clear h
    have h := hn
    clear hn
    obtain ⟨At5, nt5, ct5, h5, hn⟩ := gSlice_elim h
    clear h
    have h := hn
    clear hn
    obtain ⟨At6, nt6, ct6, h6, hn⟩ := gSlice_elim h
    clear h
    have h := hn
    clear hn
    obtain ⟨xt7, h7, hn⟩ := gInt_elim h
    clear h
    have h := hn
    clear hn
    rw [l0_eq (σ := σ)] at h
    have e : (ov σ [(2, .pointer (some at2)), (5, .slice At5 nt5 ct5), (6, .slice At6 nt6 ct6), (7, .int .i64 xt7)]) = σ := ov_self (by simp [h2, h5, h6, h7])
    rw [e] at h
    exact h
def tb : List (List Nat × Spec) := [([0, 1, 0, 1, 1, 1], l0T)]
theorem wp_eq (Aa0_0 : Option Addr) (na0_0 : Nat) (ca0_0 : Nat) (Aa0_1 : Option Addr) (na0_1 : Nat) (ca0_1 : Nat) (Aa0_2 : Option Addr) (na0_2 : Nat) (ca0_2 : Nat) (Aa0_3 : Option Addr) (na0_3 : Nat) (ca0_3 : Nat) (xa1 : Int) (w : World) (Q : Ending → World → Prop) :
    wp Aa0_0 na0_0 ca0_0 Aa0_1 na0_1 ca0_1 Aa0_2 na0_2 ca0_2 Aa0_3 na0_3 ca0_3 xa1 w Q = codeW Try.prog hT 40 D (tab tb) [] body (topQ Try.prog hT 40 [.tmp 4] Q) (argsF [.agg #[.slice Aa0_0 na0_0 ca0_0, .slice Aa0_1 na0_1 ca0_1, .slice Aa0_2 na0_2 ca0_2, .slice Aa0_3 na0_3 ca0_3], .int .i64 xa1]) w := by kernel_rfl
theorem ok (Aa0_0 : Option Addr) (na0_0 : Nat) (ca0_0 : Nat) (Aa0_1 : Option Addr) (na0_1 : Nat) (ca0_1 : Nat) (Aa0_2 : Option Addr) (na0_2 : Nat) (ca0_2 : Nat) (Aa0_3 : Option Addr) (na0_3 : Nat) (ca0_3 : Nat) (xa1 : Int) (w : World) (Q : Ending → World → Prop) (h : wp Aa0_0 na0_0 ca0_0 Aa0_1 na0_1 ca0_1 Aa0_2 na0_2 ca0_2 Aa0_3 na0_3 ca0_3 xa1 w Q) : Calls Try.prog 52 #[.agg #[.slice Aa0_0 na0_0 ca0_0, .slice Aa0_1 na0_1 ca0_1, .slice Aa0_2 na0_2 ca0_2, .slice Aa0_3 na0_3 ca0_3], .int .i64 xa1] w Q := by
  rw [wp_eq] at h
  exact calls_of_codeW (c := body) (rs := [.tmp 4]) Try.func52 (by kernel_rfl) (by kernel_rfl) (by kernel_rfl) (by kernel_rfl) (by kernel_rfl) (tab_snd (by
    intro x hx
    simp only [tb, List.mem_cons, List.not_mem_nil, or_false] at hx
    subst hx
    exact l0_snd)) (by kernel_rfl) h
end f_ref16_Edges
namespace f_ref16_Any
/-! skein/skeinref16.Any: function 53 -/
noncomputable def body : Code := (Try.f53.body).getD .skip
def l0 : Nat → Int → Option Addr → Nat → Nat → Option Addr → Nat → Nat → Bool → Int → World → (Bool → World → Prop) → (Bool → World → Prop) → Prop
  | 0, _, _, _, _, _, _, _, _, _, _, _, _ => False
  | k + 1, xt0, At1, nt1, ct1, At2, nt2, ct2, bt7, xt8, w, K0, Kr =>
    sel (decide (xt8 < (nt1 : Int))) (
    optB At1 fun a1 =>
    req (decide (0 ≤ xt8 ∧ xt8 < (nt1 : Int))) <|
    ldI w (a1.add (xt8.toNat * 1)) .i64 fun x2 =>
    Calls Try.prog 15 #[.slice At2 nt2 ct2, .int .i64 x2] w fun e3 w4 => ∃ (b5 : Bool), e3 = .returned (.bool b5) ∧ (
    sel b5 (
    optB At1 fun a6 =>
    req (decide (0 ≤ xt8 ∧ xt8 < (nt1 : Int))) <|
    ldI w4 (a6.add (xt8.toNat * 1)) .i64 fun x7 =>
    sel (x7 == xt0) (
    Kr true w4) (
    l0 k xt0 At1 nt1 ct1 At2 nt2 ct2 false (IntKind.i64.wrap (xt8 + (1 : Int))) w4 K0 Kr)) (
    l0 k xt0 At1 nt1 ct1 At2 nt2 ct2 bt7 (IntKind.i64.wrap (xt8 + (1 : Int))) w4 K0 Kr))) (
    K0 bt7 w)
def wp (xa0 : Int) (Aa1 : Option Addr) (na1 : Nat) (ca1 : Nat) (Aa2 : Option Addr) (na2 : Nat) (ca2 : Nat) (w : World) (Q : Ending → World → Prop) : Prop :=
  ∃ k12 : Nat, l0 k12 xa0 Aa1 na1 ca1 Aa2 na2 ca2 true (0 : Int) w (fun (b8 : Bool) (w9 : World) => ∀ _ : Fr,
  sel b8 (
  Q (.returned (.bool (xa0 == (0 : Int)))) w9) (
  Q (.returned (.bool false)) w9)) (fun (b10 : Bool) (w11 : World) => ∀ _ : Fr,
  Q (.returned (.bool b10)) w11)
def D : Nat → Option DH := dtab []
def l0LO : LO := ⟨[], [6], [(0, [0, 7])], []⟩
def l0Tk (k : Nat) : Spec := fun Q σ w =>
  gInt .i64 (σ 0) fun xt0 =>
  gSlice (σ 1) fun At1 nt1 ct1 =>
  gSlice (σ 2) fun At2 nt2 ct2 =>
  gBool (σ 7) fun bt7 =>
  gInt .i64 (σ 8) fun xt8 =>
  l0 k xt0 At1 nt1 ct1 At2 nt2 ct2 bt7 xt8 w (fun (bq7 : Bool) (w : World) => ∀ d : Fr, Q (.exit 0) (ov d [(0, .int .i64 xt0), (7, .bool bq7)]) w) (fun (bq6 : Bool) (w : World) => ∀ d : Fr, Q .ret (ov d [(6, .bool bq6)]) w)
def l0T : Spec := fun Q σ w => ∃ k, l0Tk k Q σ w
def l0tb : List (List Nat × Spec) := []
noncomputable def l0b : Code := (subC [0, 0, 1, 0, 1, 1] body).getD .skip
theorem l0_eq (k : Nat) (xt0 : Int) (At1 : Option Addr) (nt1 : Nat) (ct1 : Nat) (At2 : Option Addr) (nt2 : Nat) (ct2 : Nat) (bt7 : Bool) (xt8 : Int) (Q : PQ) (σ : Fr) (w : World) :
    l0 (k + 1) xt0 At1 nt1 ct1 At2 nt2 ct2 bt7 xt8 w (fun (bq7 : Bool) (w : World) => ∀ d : Fr, Q (.exit 0) (ov d [(0, .int .i64 xt0), (7, .bool bq7)]) w) (fun (bq6 : Bool) (w : World) => ∀ d : Fr, Q .ret (ov d [(6, .bool bq6)]) w) = codeW Try.prog hT 32 D (tab l0tb) [0, 0, 1, 0, 1, 1] l0b (thenQ (l0Tk k Q) (widen l0LO Q)) (ov σ [(0, .int .i64 xt0), (1, .slice At1 nt1 ct1), (2, .slice At2 nt2 ct2), (7, .bool bt7), (8, .int .i64 xt8)]) w := by cases bt7 <;> kernel_rfl
theorem l0_snd : ∀ c, subC [0, 1, 0, 1, 1] body = some c → Snd Try.prog 32 c l0T := by
  refine loop_of (hT := hT) (D := D) (l := l0tb) (b := l0b) (lo := l0LO) (by kernel_rfl) (by
    intro x hx
    simp only [l0tb, List.not_mem_nil] at hx
    ) (by kernel_rfl) (by kernel_rfl) ?_ ?_
  · intro Q σ w h
    unfold l0Tk at h
    obtain ⟨xt0, h0, hn⟩ := gInt_elim h
    clear h
    have h := hn
    clear hn
    obtain ⟨At1, nt1, ct1, h1, hn⟩ := gSlice_elim h
    clear h
    have h := hn
    clear hn
    obtain ⟨At2, nt2, ct2, h2, hn⟩ := gSlice_elim h
    clear h
    have h := hn
    clear hn
    obtain ⟨bt7, h7, hn⟩ := gBool_elim h
    clear h
    have h := hn
    clear hn
    obtain ⟨xt8, h8, hn⟩ := gInt_elim h
    clear h
    have h := hn
    clear hn
    exact h
  · intro k Q σ w h
    unfold l0Tk at h
    obtain ⟨xt0, h0, hn⟩ := gInt_elim h
    clear h
    have h := hn
    clear hn
    obtain ⟨At1, nt1, ct1, h1, hn⟩ := gSlice_elim h
    clear h
    have h := hn
    clear hn
    obtain ⟨At2, nt2, ct2, h2, hn⟩ := gSlice_elim h
    clear h
    have h := hn
    clear hn
    obtain ⟨bt7, h7, hn⟩ := gBool_elim h
    clear h
    have h := hn
    clear hn
    obtain ⟨xt8, h8, hn⟩ := gInt_elim h
    clear h
    have h := hn
    clear hn
    rw [l0_eq (σ := σ)] at h
    have e : (ov σ [(0, .int .i64 xt0), (1, .slice At1 nt1 ct1), (2, .slice At2 nt2 ct2), (7, .bool bt7), (8, .int .i64 xt8)]) = σ := ov_self (by simp [h0, h1, h2, h7, h8])
    rw [e] at h
    exact h
def tb : List (List Nat × Spec) := [([0, 1, 0, 1, 1], l0T)]
theorem wp_eq (xa0 : Int) (Aa1 : Option Addr) (na1 : Nat) (ca1 : Nat) (Aa2 : Option Addr) (na2 : Nat) (ca2 : Nat) (w : World) (Q : Ending → World → Prop) :
    wp xa0 Aa1 na1 ca1 Aa2 na2 ca2 w Q = codeW Try.prog hT 32 D (tab tb) [] body (topQ Try.prog hT 32 [.tmp 6] Q) (argsF [.int .i64 xa0, .slice Aa1 na1 ca1, .slice Aa2 na2 ca2]) w := by kernel_rfl
theorem ok (xa0 : Int) (Aa1 : Option Addr) (na1 : Nat) (ca1 : Nat) (Aa2 : Option Addr) (na2 : Nat) (ca2 : Nat) (w : World) (Q : Ending → World → Prop) (h : wp xa0 Aa1 na1 ca1 Aa2 na2 ca2 w Q) : Calls Try.prog 53 #[.int .i64 xa0, .slice Aa1 na1 ca1, .slice Aa2 na2 ca2] w Q := by
  rw [wp_eq] at h
  exact calls_of_codeW (c := body) (rs := [.tmp 6]) Try.func53 (by kernel_rfl) (by kernel_rfl) (by kernel_rfl) (by kernel_rfl) (by kernel_rfl) (tab_snd (by
    intro x hx
    simp only [tb, List.mem_cons, List.not_mem_nil, or_false] at hx
    subst hx
    exact l0_snd)) (by kernel_rfl) h
end f_ref16_Any
namespace f_ref06_Sets
/-! skein/skeinref06.Sets: function 74 -/
noncomputable def body : Code := (Try.f74.body).getD .skip
def l0 : Nat → Option Addr → Nat → Nat → Option Addr → Nat → Nat → Int → World → ((Option Addr) → Nat → Nat → World → Prop) → Prop
  | 0, _, _, _, _, _, _, _, _, _ => False
  | k + 1, At0, nt0, ct0, At5, nt5, ct5, xt6, w, K0 =>
    sel (decide (xt6 < (nt0 : Int))) (
    alW w (.cells #[.int .i64 xt6] 3) fun B3 w4 =>
    Runs Try.prog (Builtin.append_ #[22, 22] 22 #[.slice At5 nt5 ct5, .slice (some (⟨B3, 0, Option.none⟩ : Addr)) 1 1]) w4 fun v6 w5 => ∃ (A7 : Option Addr) (n7 : Nat) (c7 : Nat), v6 = (.slice A7 n7 c7) ∧ (
    l0 k At0 nt0 ct0 A7 n7 c7 (IntKind.i64.wrap (xt6 + (1 : Int))) w5 K0)) (
    K0 At5 nt5 ct5 w)
def l3 : Nat → Option Addr → Nat → Nat → Int → Int → Int → World → (World → Prop) → Prop
  | 0, _, _, _, _, _, _, _, _ => False
  | k + 1, At5, nt5, ct5, xt8, xt9, xt11, w, K4 =>
    sel (decide (xt11 < (nt5 : Int))) (
    sel (xt8 != xt9) (
    optB At5 fun a26 =>
    req (decide (0 ≤ xt11 ∧ xt11 < (nt5 : Int))) <|
    ldI w (a26.add (xt11.toNat * 1)) .i64 fun x27 =>
    sel (x27 == xt9) (
    optB At5 fun a28 =>
    req (decide (0 ≤ xt11 ∧ xt11 < (nt5 : Int))) <|
    stW w (a28.add (xt11.toNat * 1)) (.int .i64 xt8) fun w29 =>
    l3 k At5 nt5 ct5 xt8 xt9 (IntKind.i64.wrap (xt11 + (1 : Int))) w29 K4) (
    l3 k At5 nt5 ct5 xt8 xt9 (IntKind.i64.wrap (xt11 + (1 : Int))) w K4)) (
    K4  w)) (
    K4  w)
def j2 (At5 : Option Addr) (nt5 : Nat) (ct5 : Nat) (xt8 : Int) (xt9 : Int) (w : World) (Kn : World → Prop) : Prop :=
  ∃ k31 : Nat, l3 k31 At5 nt5 ct5 xt8 xt9 (0 : Int) w (fun (w30 : World) => ∀ _ : Fr,
  Kn  w30)
def l1 : Nat → Option Addr → Nat → Nat → Option Addr → Nat → Nat → Option Addr → Nat → Nat → Int → World → (World → Prop) → Prop
  | 0, _, _, _, _, _, _, _, _, _, _, _, _ => False
  | k + 1, At0, nt0, ct0, At1, nt1, ct1, At5, nt5, ct5, xt7, w, K2 =>
    sel (decide (xt7 < (nt1 : Int))) (
    drW w fun w10 =>
    ∃ S11 : World → Prop, S11 w10 ∧ (
    optB At1 fun a12 =>
    req (decide (0 ≤ xt7 ∧ xt7 < (nt1 : Int))) <|
    hdI S11 ((a12.add (xt7.toNat * 4)).add 1) .i64 fun x13 =>
    optB At1 fun a14 =>
    req (decide (0 ≤ xt7 ∧ xt7 < (nt1 : Int))) <|
    hdI S11 ((a14.add (xt7.toNat * 4)).add 2) .i64 fun x15 =>
    Calls Try.prog 82 #[.slice At0 nt0 ct0, .int .i64 x13] w10 fun e16 w17 => ∃ (x18 : Int), e16 = .returned (.int .i64 x18) ∧ (
    S11 w17 ∧ (
    optB At5 fun a19 =>
    req (decide (0 ≤ x18 ∧ x18 < (nt5 : Int))) <|
    hdI S11 (a19.add (x18.toNat * 1)) .i64 fun x20 =>
    Calls Try.prog 82 #[.slice At0 nt0 ct0, .int .i64 x15] w17 fun e21 w22 => ∃ (x23 : Int), e21 = .returned (.int .i64 x23) ∧ (
    S11 w22 ∧ (
    optB At5 fun a24 =>
    req (decide (0 ≤ x23 ∧ x23 < (nt5 : Int))) <|
    hdI S11 (a24.add (x23.toNat * 1)) .i64 fun x25 =>
    sel (decide (x20 > x25)) (
    j2 At5 nt5 ct5 x25 x20 w22 (fun (w32 : World) => ∀ _ : Fr,
    l1 k At0 nt0 ct0 At1 nt1 ct1 At5 nt5 ct5 (IntKind.i64.wrap (xt7 + (1 : Int))) w32 K2)) (
    j2 At5 nt5 ct5 x20 x25 w22 (fun (w33 : World) => ∀ _ : Fr,
    l1 k At0 nt0 ct0 At1 nt1 ct1 At5 nt5 ct5 (IntKind.i64.wrap (xt7 + (1 : Int))) w33 K2)))))))) (
    K2  w)
def wp (Aa0 : Option Addr) (na0 : Nat) (ca0 : Nat) (Aa1 : Option Addr) (na1 : Nat) (ca1 : Nat) (w : World) (Q : Ending → World → Prop) : Prop :=
  alW w (.cells #[] 3) fun B1 w2 =>
  ∃ k36 : Nat, l0 k36 Aa0 na0 ca0 (some (⟨B1, 0, Option.none⟩ : Addr)) 0 0 (0 : Int) w2 (fun (A8 : Option Addr) (n8 : Nat) (c8 : Nat) (w9 : World) => ∀ _ : Fr,
  ∃ k35 : Nat, l1 k35 Aa0 na0 ca0 Aa1 na1 ca1 A8 n8 c8 (0 : Int) w9 (fun (w34 : World) => ∀ _ : Fr,
  Q (.returned (.slice A8 n8 c8)) w34))
def D : Nat → Option DH := dtab [(9, .held [.fst 0, .fst 1, .fst 2, .fst 3, .fst 4, .fst 5, .fst 6, .fst 10, .fst 11, .fst 12, .fst 13, .fst 14, .fst 15, .fst 16, .eff 7, .fst 8, .fst 9, .eff 17, .fst 18, .fst 19, .fst 20] [.fst 21])]
def l0LO : LO := ⟨[], [], [(0, [0, 1, 5])], []⟩
def l0Tk (k : Nat) : Spec := fun Q σ w =>
  gSlice (σ 0) fun At0 nt0 ct0 =>
  gSlice (σ 5) fun At5 nt5 ct5 =>
  gInt .i64 (σ 6) fun xt6 =>
  l0 k At0 nt0 ct0 At5 nt5 ct5 xt6 w (fun (Aq5 : Option Addr) (nq5 : Nat) (cq5 : Nat) (w : World) => ∀ d : Fr, Q (.exit 0) (ov d [(0, .slice At0 nt0 ct0), (1, σ 1), (5, .slice Aq5 nq5 cq5)]) w)
def l0T : Spec := fun Q σ w => ∃ k, l0Tk k Q σ w
def l0tb : List (List Nat × Spec) := []
noncomputable def l0b : Code := (subC [0, 0, 1, 0, 1, 1] body).getD .skip
theorem l0_eq (k : Nat) (At0 : Option Addr) (nt0 : Nat) (ct0 : Nat) (At5 : Option Addr) (nt5 : Nat) (ct5 : Nat) (xt6 : Int) (Q : PQ) (σ : Fr) (w : World) :
    l0 (k + 1) At0 nt0 ct0 At5 nt5 ct5 xt6 w (fun (Aq5 : Option Addr) (nq5 : Nat) (cq5 : Nat) (w : World) => ∀ d : Fr, Q (.exit 0) (ov d [(0, .slice At0 nt0 ct0), (1, σ 1), (5, .slice Aq5 nq5 cq5)]) w) = codeW Try.prog hT 77 D (tab l0tb) [0, 0, 1, 0, 1, 1] l0b (thenQ (l0Tk k Q) (widen l0LO Q)) (ov σ [(0, .slice At0 nt0 ct0), (5, .slice At5 nt5 ct5), (6, .int .i64 xt6)]) w := by kernel_rfl
theorem l0_snd : ∀ c, subC [0, 1, 0, 1, 1] body = some c → Snd Try.prog 77 c l0T := by
  refine loop_of (hT := hT) (D := D) (l := l0tb) (b := l0b) (lo := l0LO) (by kernel_rfl) (by
    intro x hx
    simp only [l0tb, List.not_mem_nil] at hx
    ) (by kernel_rfl) (by kernel_rfl) ?_ ?_
  · intro Q σ w h
    unfold l0Tk at h
    obtain ⟨At0, nt0, ct0, h0, hn⟩ := gSlice_elim h
    clear h
    have h := hn
    clear hn
    obtain ⟨At5, nt5, ct5, h5, hn⟩ := gSlice_elim h
    clear h
    have h := hn
    clear hn
    obtain ⟨xt6, h6, hn⟩ := gInt_elim h
    clear h
    have h := hn
    clear hn
    exact h
  · intro k Q σ w h
    unfold l0Tk at h
    obtain ⟨At0, nt0, ct0, h0, hn⟩ := gSlice_elim h
    clear h
    have h := hn
    clear hn
    obtain ⟨At5, nt5, ct5, h5, hn⟩ := gSlice_elim h
    clear h
    have h := hn
    clear hn
    obtain ⟨xt6, h6, hn⟩ := gInt_elim h
    clear h
    have h := hn
    clear hn
    rw [l0_eq (σ := σ)] at h
    have e : (ov σ [(0, .slice At0 nt0 ct0), (5, .slice At5 nt5 ct5), (6, .int .i64 xt6)]) = σ := ov_self (by simp [h0, h5, h6])
    rw [e] at h
    exact h
def l3LO : LO := ⟨[], [], [(4, [0, 1, 5, 7])], []⟩
def l3Tk (k : Nat) : Spec := fun Q σ w =>
  gSlice (σ 5) fun At5 nt5 ct5 =>
  gInt .i64 (σ 8) fun xt8 =>
  gInt .i64 (σ 9) fun xt9 =>
  gInt .i64 (σ 11) fun xt11 =>
  l3 k At5 nt5 ct5 xt8 xt9 xt11 w (fun (w : World) => ∀ d : Fr, Q (.exit 4) (ov d [(0, σ 0), (1, σ 1), (5, .slice At5 nt5 ct5), (7, σ 7)]) w)
def l3T : Spec := fun Q σ w => ∃ k, l3Tk k Q σ w
def l3tb : List (List Nat × Spec) := []
noncomputable def l3b : Code := (subC [0, 0, 1, 1, 1, 0, 0, 1, 0, 0, 1, 0, 1, 1, 1] body).getD .skip
theorem l3_eq (k : Nat) (At5 : Option Addr) (nt5 : Nat) (ct5 : Nat) (xt8 : Int) (xt9 : Int) (xt11 : Int) (Q : PQ) (σ : Fr) (w : World) :
    l3 (k + 1) At5 nt5 ct5 xt8 xt9 xt11 w (fun (w : World) => ∀ d : Fr, Q (.exit 4) (ov d [(0, σ 0), (1, σ 1), (5, .slice At5 nt5 ct5), (7, σ 7)]) w) = codeW Try.prog hT 77 D (tab l3tb) [0, 0, 1, 1, 1, 0, 0, 1, 0, 0, 1, 0, 1, 1, 1] l3b (thenQ (l3Tk k Q) (widen l3LO Q)) (ov σ [(5, .slice At5 nt5 ct5), (8, .int .i64 xt8), (9, .int .i64 xt9), (11, .int .i64 xt11)]) w := by kernel_rfl
theorem l3_snd : ∀ c, subC [0, 1, 1, 1, 0, 0, 1, 0, 0, 1, 0, 1, 1, 1] body = some c → Snd Try.prog 77 c l3T := by
  refine loop_of (hT := hT) (D := D) (l := l3tb) (b := l3b) (lo := l3LO) (by kernel_rfl) (by
    intro x hx
    simp only [l3tb, List.not_mem_nil] at hx
    ) (by kernel_rfl) (by kernel_rfl) ?_ ?_
  · intro Q σ w h
    unfold l3Tk at h
    obtain ⟨At5, nt5, ct5, h5, hn⟩ := gSlice_elim h
    clear h
    have h := hn
    clear hn
    obtain ⟨xt8, h8, hn⟩ := gInt_elim h
    clear h
    have h := hn
    clear hn
    obtain ⟨xt9, h9, hn⟩ := gInt_elim h
    clear h
    have h := hn
    clear hn
    obtain ⟨xt11, h11, hn⟩ := gInt_elim h
    clear h
    have h := hn
    clear hn
    exact h
  · intro k Q σ w h
    unfold l3Tk at h
    obtain ⟨At5, nt5, ct5, h5, hn⟩ := gSlice_elim h
    clear h
    have h := hn
    clear hn
    obtain ⟨xt8, h8, hn⟩ := gInt_elim h
    clear h
    have h := hn
    clear hn
    obtain ⟨xt9, h9, hn⟩ := gInt_elim h
    clear h
    have h := hn
    clear hn
    obtain ⟨xt11, h11, hn⟩ := gInt_elim h
    clear h
    have h := hn
    clear hn
    rw [l3_eq (σ := σ)] at h
    have e : (ov σ [(5, .slice At5 nt5 ct5), (8, .int .i64 xt8), (9, .int .i64 xt9), (11, .int .i64 xt11)]) = σ := ov_self (by simp [h5, h8, h9, h11])
    rw [e] at h
    exact h
def j2LO : LO := ⟨[0, 1, 5, 7], [], [], []⟩
def j2T : Spec := fun Q σ w =>
  gSlice (σ 5) fun At5 nt5 ct5 =>
  gInt .i64 (σ 8) fun xt8 =>
  gInt .i64 (σ 9) fun xt9 =>
  j2 At5 nt5 ct5 xt8 xt9 w (fun (w : World) => ∀ d : Fr, Q .normal (ov d [(0, σ 0), (1, σ 1), (5, .slice At5 nt5 ct5), (7, σ 7)]) w)
def j2tb : List (List Nat × Spec) := [([0, 1, 1, 1, 0, 0, 1, 0, 0, 1, 0, 1, 1, 1], l3T)]
noncomputable def j2b : Code := (subC [1, 1, 0, 0, 1, 0, 0, 1, 0, 1, 1, 1] body).getD .skip
theorem j2_eq (At5 : Option Addr) (nt5 : Nat) (ct5 : Nat) (xt8 : Int) (xt9 : Int) (Q : PQ) (σ : Fr) (w : World) :
    j2 At5 nt5 ct5 xt8 xt9 w (fun (w : World) => ∀ d : Fr, Q .normal (ov d [(0, σ 0), (1, σ 1), (5, .slice At5 nt5 ct5), (7, σ 7)]) w) = codeW Try.prog hT 77 D (tab j2tb) [1, 1, 0, 0, 1, 0, 0, 1, 0, 1, 1, 1] j2b (widen j2LO Q) (ov σ [(5, .slice At5 nt5 ct5), (8, .int .i64 xt8), (9, .int .i64 xt9)]) w := by kernel_rfl
theorem j2_snd : ∀ c, subC [1, 1, 0, 0, 1, 0, 0, 1, 0, 1, 1, 1] body = some c → Snd Try.prog 77 c j2T := by
  refine cut_of (hT := hT) (D := D) (l := j2tb) (b := j2b) (lo := j2LO) (by kernel_rfl) (by
    intro x hx
    simp only [j2tb, List.mem_cons, List.not_mem_nil, or_false] at hx
    subst hx
    exact l3_snd) (by kernel_rfl) (by kernel_rfl) ?_
  intro Q σ w h
  unfold j2T at h
  obtain ⟨At5, nt5, ct5, h5, hn⟩ := gSlice_elim h
  clear h
  have h := hn
  clear hn
  obtain ⟨xt8, h8, hn⟩ := gInt_elim h
  clear h
  have h := hn
  clear hn
  obtain ⟨xt9, h9, hn⟩ := gInt_elim h
  clear h
  have h := hn
  clear hn
  rw [j2_eq (σ := σ)] at h
  have e : (ov σ [(5, .slice At5 nt5 ct5), (8, .int .i64 xt8), (9, .int .i64 xt9)]) = σ := ov_self (by simp [h5, h8, h9])
  rw [e] at h
  exact h
def l1LO : LO := ⟨[], [], [(2, [5])], []⟩
def l1Tk (k : Nat) : Spec := fun Q σ w =>
  gSlice (σ 0) fun At0 nt0 ct0 =>
  gSlice (σ 1) fun At1 nt1 ct1 =>
  gSlice (σ 5) fun At5 nt5 ct5 =>
  gInt .i64 (σ 7) fun xt7 =>
  l1 k At0 nt0 ct0 At1 nt1 ct1 At5 nt5 ct5 xt7 w (fun (w : World) => ∀ d : Fr, Q (.exit 2) (ov d [(5, .slice At5 nt5 ct5)]) w)
def l1T : Spec := fun Q σ w => ∃ k, l1Tk k Q σ w
def l1tb : List (List Nat × Spec) := [([0, 1, 1, 1, 0, 0, 1, 0, 0, 1, 0, 1, 1, 1], l3T), ([1, 1, 0, 0, 1, 0, 0, 1, 0, 1, 1, 1], j2T)]
noncomputable def l1b : Code := (subC [0, 0, 1, 0, 1, 1, 1] body).getD .skip
theorem l1_eq (k : Nat) (At0 : Option Addr) (nt0 : Nat) (ct0 : Nat) (At1 : Option Addr) (nt1 : Nat) (ct1 : Nat) (At5 : Option Addr) (nt5 : Nat) (ct5 : Nat) (xt7 : Int) (Q : PQ) (σ : Fr) (w : World) :
    l1 (k + 1) At0 nt0 ct0 At1 nt1 ct1 At5 nt5 ct5 xt7 w (fun (w : World) => ∀ d : Fr, Q (.exit 2) (ov d [(5, .slice At5 nt5 ct5)]) w) = codeW Try.prog hT 77 D (tab l1tb) [0, 0, 1, 0, 1, 1, 1] l1b (thenQ (l1Tk k Q) (widen l1LO Q)) (ov σ [(0, .slice At0 nt0 ct0), (1, .slice At1 nt1 ct1), (5, .slice At5 nt5 ct5), (7, .int .i64 xt7)]) w := by kernel_rfl
theorem l1_snd : ∀ c, subC [0, 1, 0, 1, 1, 1] body = some c → Snd Try.prog 77 c l1T := by
  refine loop_of (hT := hT) (D := D) (l := l1tb) (b := l1b) (lo := l1LO) (by kernel_rfl) (by
    intro x hx
    simp only [l1tb, List.mem_cons, List.not_mem_nil, or_false] at hx
    rcases hx with rfl | rfl
    · exact l3_snd
    · exact j2_snd) (by kernel_rfl) (by kernel_rfl) ?_ ?_
  · intro Q σ w h
    unfold l1Tk at h
    obtain ⟨At0, nt0, ct0, h0, hn⟩ := gSlice_elim h
    clear h
    have h := hn
    clear hn
    obtain ⟨At1, nt1, ct1, h1, hn⟩ := gSlice_elim h
    clear h
    have h := hn
    clear hn
    obtain ⟨At5, nt5, ct5, h5, hn⟩ := gSlice_elim h
    clear h
    have h := hn
    clear hn
    obtain ⟨xt7, h7, hn⟩ := gInt_elim h
    clear h
    have h := hn
    clear hn
    exact h
  · intro k Q σ w h
    unfold l1Tk at h
    obtain ⟨At0, nt0, ct0, h0, hn⟩ := gSlice_elim h
    clear h
    have h := hn
    clear hn
    obtain ⟨At1, nt1, ct1, h1, hn⟩ := gSlice_elim h
    clear h
    have h := hn
    clear hn
    obtain ⟨At5, nt5, ct5, h5, hn⟩ := gSlice_elim h
    clear h
    have h := hn
    clear hn
    obtain ⟨xt7, h7, hn⟩ := gInt_elim h
    clear h
    have h := hn
    clear hn
    rw [l1_eq (σ := σ)] at h
    have e : (ov σ [(0, .slice At0 nt0 ct0), (1, .slice At1 nt1 ct1), (5, .slice At5 nt5 ct5), (7, .int .i64 xt7)]) = σ := ov_self (by simp [h0, h1, h5, h7])
    rw [e] at h
    exact h
def tb : List (List Nat × Spec) := [([0, 1, 0, 1, 1], l0T), ([0, 1, 1, 1, 0, 0, 1, 0, 0, 1, 0, 1, 1, 1], l3T), ([1, 1, 0, 0, 1, 0, 0, 1, 0, 1, 1, 1], j2T), ([0, 1, 0, 1, 1, 1], l1T)]
theorem wp_eq (Aa0 : Option Addr) (na0 : Nat) (ca0 : Nat) (Aa1 : Option Addr) (na1 : Nat) (ca1 : Nat) (w : World) (Q : Ending → World → Prop) :
    wp Aa0 na0 ca0 Aa1 na1 ca1 w Q = codeW Try.prog hT 77 D (tab tb) [] body (topQ Try.prog hT 77 [.tmp 4] Q) (argsF [.slice Aa0 na0 ca0, .slice Aa1 na1 ca1]) w := by kernel_rfl
theorem ok (Aa0 : Option Addr) (na0 : Nat) (ca0 : Nat) (Aa1 : Option Addr) (na1 : Nat) (ca1 : Nat) (w : World) (Q : Ending → World → Prop) (h : wp Aa0 na0 ca0 Aa1 na1 ca1 w Q) : Calls Try.prog 74 #[.slice Aa0 na0 ca0, .slice Aa1 na1 ca1] w Q := by
  rw [wp_eq] at h
  exact calls_of_codeW (c := body) (rs := [.tmp 4]) Try.func74 (by kernel_rfl) (by kernel_rfl) (by kernel_rfl) (by kernel_rfl) (by kernel_rfl) (tab_snd (by
    intro x hx
    simp only [tb, List.mem_cons, List.not_mem_nil, or_false] at hx
    rcases hx with rfl | rfl | rfl | rfl
    · exact l0_snd
    · exact l3_snd
    · exact j2_snd
    · exact l1_snd)) (by kernel_rfl) h
end f_ref06_Sets
namespace f_ref06_place
/-! skein/skeinref06.place: function 82 -/
noncomputable def body : Code := (Try.f82.body).getD .skip
def l0 : Nat → Option Addr → Nat → Nat → Int → Int → World → (World → Prop) → (Int → World → Prop) → Prop
  | 0, _, _, _, _, _, _, _, _ => False
  | k + 1, At0, nt0, ct0, xt1, xt5, w, K0, Kr =>
    sel (decide (xt5 < (nt0 : Int))) (
    optB At0 fun a1 =>
    req (decide (0 ≤ xt5 ∧ xt5 < (nt0 : Int))) <|
    ldI w (a1.add (xt5.toNat * 1)) .i64 fun x2 =>
    sel (x2 == xt1) (
    Kr xt5 w) (
    l0 k At0 nt0 ct0 xt1 (IntKind.i64.wrap (xt5 + (1 : Int))) w K0 Kr)) (
    K0  w)
def wp (Aa0 : Option Addr) (na0 : Nat) (ca0 : Nat) (xa1 : Int) (w : World) (Q : Ending → World → Prop) : Prop :=
  ∃ k6 : Nat, l0 k6 Aa0 na0 ca0 xa1 (0 : Int) w (fun (w3 : World) => ∀ _ : Fr,
  Q (.returned (.int .i64 (-1 : Int))) w3) (fun (x4 : Int) (w5 : World) => ∀ _ : Fr,
  Q (.returned (.int .i64 x4)) w5)
def D : Nat → Option DH := dtab []
def l0LO : LO := ⟨[], [4], [(0, [])], []⟩
def l0Tk (k : Nat) : Spec := fun Q σ w =>
  gSlice (σ 0) fun At0 nt0 ct0 =>
  gInt .i64 (σ 1) fun xt1 =>
  gInt .i64 (σ 5) fun xt5 =>
  l0 k At0 nt0 ct0 xt1 xt5 w (fun (w : World) => ∀ d : Fr, Q (.exit 0) (ov d []) w) (fun (xq4 : Int) (w : World) => ∀ d : Fr, Q .ret (ov d [(4, .int .i64 xq4)]) w)
def l0T : Spec := fun Q σ w => ∃ k, l0Tk k Q σ w
def l0tb : List (List Nat × Spec) := []
noncomputable def l0b : Code := (subC [0, 0, 1, 0, 1] body).getD .skip
theorem l0_eq (k : Nat) (At0 : Option Addr) (nt0 : Nat) (ct0 : Nat) (xt1 : Int) (xt5 : Int) (Q : PQ) (σ : Fr) (w : World) :
    l0 (k + 1) At0 nt0 ct0 xt1 xt5 w (fun (w : World) => ∀ d : Fr, Q (.exit 0) (ov d []) w) (fun (xq4 : Int) (w : World) => ∀ d : Fr, Q .ret (ov d [(4, .int .i64 xq4)]) w) = codeW Try.prog hT 19 D (tab l0tb) [0, 0, 1, 0, 1] l0b (thenQ (l0Tk k Q) (widen l0LO Q)) (ov σ [(0, .slice At0 nt0 ct0), (1, .int .i64 xt1), (5, .int .i64 xt5)]) w := by kernel_rfl
theorem l0_snd : ∀ c, subC [0, 1, 0, 1] body = some c → Snd Try.prog 19 c l0T := by
  refine loop_of (hT := hT) (D := D) (l := l0tb) (b := l0b) (lo := l0LO) (by kernel_rfl) (by
    intro x hx
    simp only [l0tb, List.not_mem_nil] at hx
    ) (by kernel_rfl) (by kernel_rfl) ?_ ?_
  · intro Q σ w h
    unfold l0Tk at h
    obtain ⟨At0, nt0, ct0, h0, hn⟩ := gSlice_elim h
    clear h
    have h := hn
    clear hn
    obtain ⟨xt1, h1, hn⟩ := gInt_elim h
    clear h
    have h := hn
    clear hn
    obtain ⟨xt5, h5, hn⟩ := gInt_elim h
    clear h
    have h := hn
    clear hn
    exact h
  · intro k Q σ w h
    unfold l0Tk at h
    obtain ⟨At0, nt0, ct0, h0, hn⟩ := gSlice_elim h
    clear h
    have h := hn
    clear hn
    obtain ⟨xt1, h1, hn⟩ := gInt_elim h
    clear h
    have h := hn
    clear hn
    obtain ⟨xt5, h5, hn⟩ := gInt_elim h
    clear h
    have h := hn
    clear hn
    rw [l0_eq (σ := σ)] at h
    have e : (ov σ [(0, .slice At0 nt0 ct0), (1, .int .i64 xt1), (5, .int .i64 xt5)]) = σ := ov_self (by simp [h0, h1, h5])
    rw [e] at h
    exact h
def tb : List (List Nat × Spec) := [([0, 1, 0, 1], l0T)]
theorem wp_eq (Aa0 : Option Addr) (na0 : Nat) (ca0 : Nat) (xa1 : Int) (w : World) (Q : Ending → World → Prop) :
    wp Aa0 na0 ca0 xa1 w Q = codeW Try.prog hT 19 D (tab tb) [] body (topQ Try.prog hT 19 [.tmp 4] Q) (argsF [.slice Aa0 na0 ca0, .int .i64 xa1]) w := by kernel_rfl
theorem ok (Aa0 : Option Addr) (na0 : Nat) (ca0 : Nat) (xa1 : Int) (w : World) (Q : Ending → World → Prop) (h : wp Aa0 na0 ca0 xa1 w Q) : Calls Try.prog 82 #[.slice Aa0 na0 ca0, .int .i64 xa1] w Q := by
  rw [wp_eq] at h
  exact calls_of_codeW (c := body) (rs := [.tmp 4]) Try.func82 (by kernel_rfl) (by kernel_rfl) (by kernel_rfl) (by kernel_rfl) (by kernel_rfl) (tab_snd (by
    intro x hx
    simp only [tb, List.mem_cons, List.not_mem_nil, or_false] at hx
    subst hx
    exact l0_snd)) (by kernel_rfl) h
end f_ref06_place
namespace f_slices_Sort_int_int
/-! slices.Sort[[]int,int]: function 61 -/
noncomputable def body : Code := (Try.f61.body).getD .skip
def wp (Aa0 : Option Addr) (na0 : Nat) (ca0 : Nat) (w : World) (Q : Ending → World → Prop) : Prop :=
  Calls Try.prog 79 #[.int .u64 (IntKind.u64.wrap (na0 : Int))] w fun e1 w2 => ∃ (x3 : Int), e1 = .returned (.int .i64 x3) ∧ (
  Calls Try.prog 78 #[.slice Aa0 na0 ca0, .int .i64 (0 : Int), .int .i64 (na0 : Int), .int .i64 x3] w2 fun e4 w5 => e4 = .returned (.tuple #[]) ∧ (
  Q (.returned (.tuple #[])) w5))
def D : Nat → Option DH := dtab []
def tb : List (List Nat × Spec) := []
theorem wp_eq (Aa0 : Option Addr) (na0 : Nat) (ca0 : Nat) (w : World) (Q : Ending → World → Prop) :
    wp Aa0 na0 ca0 w Q = codeW Try.prog hT 11 D (tab tb) [] body (topQ Try.prog hT 11 [] Q) (argsF [.slice Aa0 na0 ca0]) w := by kernel_rfl
theorem ok (Aa0 : Option Addr) (na0 : Nat) (ca0 : Nat) (w : World) (Q : Ending → World → Prop) (h : wp Aa0 na0 ca0 w Q) : Calls Try.prog 61 #[.slice Aa0 na0 ca0] w Q := by
  rw [wp_eq] at h
  exact calls_of_codeW (c := body) (rs := []) Try.func61 (by kernel_rfl) (by kernel_rfl) (by kernel_rfl) (by kernel_rfl) (by kernel_rfl) (tab_snd (by
    intro x hx
    simp only [tb, List.not_mem_nil] at hx
    )) (by kernel_rfl) h
end f_slices_Sort_int_int
namespace f_slices_Compact_int_int
/-! slices.Compact[[]int,int]: function 62 -/
noncomputable def body : Code := (Try.f62.body).getD .skip
def l1 : Nat → Option Addr → Nat → Nat → Int → Option Addr → Nat → Nat → Int → World → (Int → World → Prop) → Prop
  | 0, _, _, _, _, _, _, _, _, _, _ => False
  | k + 1, At0, nt0, ct0, xt3, At4, nt4, ct4, xt5, w, K2 =>
    sel (decide (xt5 < (nt4 : Int))) (
    drW w fun w7 =>
    optB At4 fun a9 =>
    req (decide (0 ≤ xt5 ∧ xt5 < (nt4 : Int))) <|
    ldI w7 (a9.add (xt5.toNat * 1)) .i64 fun x10 =>
    optB At4 fun a11 =>
    req (decide (0 ≤ (IntKind.i64.wrap (xt5 - (1 : Int))) ∧ (IntKind.i64.wrap (xt5 - (1 : Int))) < (nt4 : Int))) <|
    ldI w7 (a11.add ((IntKind.i64.wrap (xt5 - (1 : Int))).toNat * 1)) .i64 fun x12 =>
    sel (x10 != x12) (
    optB At4 fun a13 =>
    req (decide (0 ≤ xt5 ∧ xt5 < (nt4 : Int))) <|
    ldI w7 (a13.add (xt5.toNat * 1)) .i64 fun x14 =>
    optB At0 fun a15 =>
    req (decide (0 ≤ xt3 ∧ xt3 < (nt0 : Int))) <|
    stW w7 (a15.add (xt3.toNat * 1)) (.int .i64 x14) fun w16 =>
    l1 k At0 nt0 ct0 (IntKind.i64.wrap (xt3 + (1 : Int))) At4 nt4 ct4 (IntKind.i64.wrap (xt5 + (1 : Int))) w16 K2) (
    l1 k At0 nt0 ct0 xt3 At4 nt4 ct4 (IntKind.i64.wrap (xt5 + (1 : Int))) w7 K2)) (
    K2 xt3 w)
def l0 : Nat → Option Addr → Nat → Nat → Int → World → (World → Prop) → ((Option Addr) → Nat → Nat → World → Prop) → Prop
  | 0, _, _, _, _, _, _, _ => False
  | k + 1, At0, nt0, ct0, xt3, w, K0, Kr =>
    sel (decide (xt3 < (nt0 : Int))) (
    drW w fun w1 =>
    optB At0 fun a3 =>
    req (decide (0 ≤ xt3 ∧ xt3 < (nt0 : Int))) <|
    ldI w1 (a3.add (xt3.toNat * 1)) .i64 fun x4 =>
    optB At0 fun a5 =>
    req (decide (0 ≤ (IntKind.i64.wrap (xt3 - (1 : Int))) ∧ (IntKind.i64.wrap (xt3 - (1 : Int))) < (nt0 : Int))) <|
    ldI w1 (a5.add ((IntKind.i64.wrap (xt3 - (1 : Int))).toNat * 1)) .i64 fun x6 =>
    sel (x4 == x6) (
    req (decide (0 ≤ xt3 ∧ xt3 ≤ (nt0 : Int))) <|
    ∃ k21 : Nat, l1 k21 At0 nt0 ct0 xt3 (slA At0 xt3.toNat ct0 1) (nt0 - xt3.toNat) (ct0 - xt3.toNat) (1 : Int) w1 (fun (x17 : Int) (w18 : World) => ∀ _ : Fr,
    req (decide (0 ≤ x17 ∧ x17 ≤ (nt0 : Int))) <|
    Runs Try.prog (Builtin.clear_ #[22] 0 #[.slice (slA At0 x17.toNat ct0 1) (nt0 - x17.toNat) (ct0 - x17.toNat)]) w18 fun v20 w19 => v20 = (.tuple #[]) ∧ (
    req (decide (0 ≤ x17 ∧ x17 ≤ (ct0 : Int))) <|
    Kr (slA At0 0 ct0 1) (x17.toNat - 0) (ct0 - 0) w19))) (
    l0 k At0 nt0 ct0 (IntKind.i64.wrap (xt3 + (1 : Int))) w1 K0 Kr)) (
    K0  w)
def wp (Aa0 : Option Addr) (na0 : Nat) (ca0 : Nat) (w : World) (Q : Ending → World → Prop) : Prop :=
  sel (decide ((na0 : Int) < (2 : Int))) (
  Q (.returned (.slice Aa0 na0 ca0)) w) (
  ∃ k25 : Nat, l0 k25 Aa0 na0 ca0 (1 : Int) w (fun (w22 : World) => ∀ _ : Fr,
  Q (.returned (.slice Aa0 na0 ca0)) w22) (fun (A23 : Option Addr) (n23 : Nat) (c23 : Nat) (w24 : World) => ∀ _ : Fr,
  Q (.returned (.slice A23 n23 c23)) w24))
def D : Nat → Option DH := dtab [(6, .simple [.fst 0, .fst 1, .fst 2, .fst 3, .fst 4, .fst 5, .fst 6, .fst 7, .fst 8] [.fst 9]), (11, .simple [.fst 0, .fst 1, .fst 2, .fst 3, .fst 4, .fst 5, .fst 6, .fst 7, .fst 8] [.fst 9])]
def l1LO : LO := ⟨[], [], [(2, [0, 3])], []⟩
def l1Tk (k : Nat) : Spec := fun Q σ w =>
  gSlice (σ 0) fun At0 nt0 ct0 =>
  gInt .i64 (σ 3) fun xt3 =>
  gSlice (σ 4) fun At4 nt4 ct4 =>
  gInt .i64 (σ 5) fun xt5 =>
  l1 k At0 nt0 ct0 xt3 At4 nt4 ct4 xt5 w (fun (xq3 : Int) (w : World) => ∀ d : Fr, Q (.exit 2) (ov d [(0, .slice At0 nt0 ct0), (3, .int .i64 xq3)]) w)
def l1T : Spec := fun Q σ w => ∃ k, l1Tk k Q σ w
def l1tb : List (List Nat × Spec) := []
noncomputable def l1b : Code := (subC [0, 0, 1, 0, 1, 0, 1, 0, 0, 1, 0, 0, 1, 0, 1, 1] body).getD .skip
theorem l1_eq (k : Nat) (At0 : Option Addr) (nt0 : Nat) (ct0 : Nat) (xt3 : Int) (At4 : Option Addr) (nt4 : Nat) (ct4 : Nat) (xt5 : Int) (Q : PQ) (σ : Fr) (w : World) :
    l1 (k + 1) At0 nt0 ct0 xt3 At4 nt4 ct4 xt5 w (fun (xq3 : Int) (w : World) => ∀ d : Fr, Q (.exit 2) (ov d [(0, .slice At0 nt0 ct0), (3, .int .i64 xq3)]) w) = codeW Try.prog hT 61 D (tab l1tb) [0, 0, 1, 0, 1, 0, 1, 0, 0, 1, 0, 0, 1, 0, 1, 1] l1b (thenQ (l1Tk k Q) (widen l1LO Q)) (ov σ [(0, .slice At0 nt0 ct0), (3, .int .i64 xt3), (4, .slice At4 nt4 ct4), (5, .int .i64 xt5)]) w := by kernel_rfl
theorem l1_snd : ∀ c, subC [0, 1, 0, 1, 0, 1, 0, 0, 1, 0, 0, 1, 0, 1, 1] body = some c → Snd Try.prog 61 c l1T := by
  refine loop_of (hT := hT) (D := D) (l := l1tb) (b := l1b) (lo := l1LO) (by kernel_rfl) (by
    intro x hx
    simp only [l1tb, List.not_mem_nil] at hx
    ) (by kernel_rfl) (by kernel_rfl) ?_ ?_
  · intro Q σ w h
    unfold l1Tk at h
    obtain ⟨At0, nt0, ct0, h0, hn⟩ := gSlice_elim h
    clear h
    have h := hn
    clear hn
    obtain ⟨xt3, h3, hn⟩ := gInt_elim h
    clear h
    have h := hn
    clear hn
    obtain ⟨At4, nt4, ct4, h4, hn⟩ := gSlice_elim h
    clear h
    have h := hn
    clear hn
    obtain ⟨xt5, h5, hn⟩ := gInt_elim h
    clear h
    have h := hn
    clear hn
    exact h
  · intro k Q σ w h
    unfold l1Tk at h
    obtain ⟨At0, nt0, ct0, h0, hn⟩ := gSlice_elim h
    clear h
    have h := hn
    clear hn
    obtain ⟨xt3, h3, hn⟩ := gInt_elim h
    clear h
    have h := hn
    clear hn
    obtain ⟨At4, nt4, ct4, h4, hn⟩ := gSlice_elim h
    clear h
    have h := hn
    clear hn
    obtain ⟨xt5, h5, hn⟩ := gInt_elim h
    clear h
    have h := hn
    clear hn
    rw [l1_eq (σ := σ)] at h
    have e : (ov σ [(0, .slice At0 nt0 ct0), (3, .int .i64 xt3), (4, .slice At4 nt4 ct4), (5, .int .i64 xt5)]) = σ := ov_self (by simp [h0, h3, h4, h5])
    rw [e] at h
    exact h
def l0LO : LO := ⟨[], [2], [(0, [0])], []⟩
def l0Tk (k : Nat) : Spec := fun Q σ w =>
  gSlice (σ 0) fun At0 nt0 ct0 =>
  gInt .i64 (σ 3) fun xt3 =>
  l0 k At0 nt0 ct0 xt3 w (fun (w : World) => ∀ d : Fr, Q (.exit 0) (ov d [(0, .slice At0 nt0 ct0)]) w) (fun (Aq2 : Option Addr) (nq2 : Nat) (cq2 : Nat) (w : World) => ∀ d : Fr, Q .ret (ov d [(2, .slice Aq2 nq2 cq2)]) w)
def l0T : Spec := fun Q σ w => ∃ k, l0Tk k Q σ w
def l0tb : List (List Nat × Spec) := [([0, 1, 0, 1, 0, 1, 0, 0, 1, 0, 0, 1, 0, 1, 1], l1T)]
noncomputable def l0b : Code := (subC [0, 0, 1, 0, 1, 1] body).getD .skip
theorem l0_eq (k : Nat) (At0 : Option Addr) (nt0 : Nat) (ct0 : Nat) (xt3 : Int) (Q : PQ) (σ : Fr) (w : World) :
    l0 (k + 1) At0 nt0 ct0 xt3 w (fun (w : World) => ∀ d : Fr, Q (.exit 0) (ov d [(0, .slice At0 nt0 ct0)]) w) (fun (Aq2 : Option Addr) (nq2 : Nat) (cq2 : Nat) (w : World) => ∀ d : Fr, Q .ret (ov d [(2, .slice Aq2 nq2 cq2)]) w) = codeW Try.prog hT 61 D (tab l0tb) [0, 0, 1, 0, 1, 1] l0b (thenQ (l0Tk k Q) (widen l0LO Q)) (ov σ [(0, .slice At0 nt0 ct0), (3, .int .i64 xt3)]) w := by kernel_rfl
theorem l0_snd : ∀ c, subC [0, 1, 0, 1, 1] body = some c → Snd Try.prog 61 c l0T := by
  refine loop_of (hT := hT) (D := D) (l := l0tb) (b := l0b) (lo := l0LO) (by kernel_rfl) (by
    intro x hx
    simp only [l0tb, List.mem_cons, List.not_mem_nil, or_false] at hx
    subst hx
    exact l1_snd) (by kernel_rfl) (by kernel_rfl) ?_ ?_
  · intro Q σ w h
    unfold l0Tk at h
    obtain ⟨At0, nt0, ct0, h0, hn⟩ := gSlice_elim h
    clear h
    have h := hn
    clear hn
    obtain ⟨xt3, h3, hn⟩ := gInt_elim h
    clear h
    have h := hn
    clear hn
    exact h
  · intro k Q σ w h
    unfold l0Tk at h
    obtain ⟨At0, nt0, ct0, h0, hn⟩ := gSlice_elim h
    clear h
    have h := hn
    clear hn
    obtain ⟨xt3, h3, hn⟩ := gInt_elim h
    clear h
    have h := hn
    clear hn
    rw [l0_eq (σ := σ)] at h
    have e : (ov σ [(0, .slice At0 nt0 ct0), (3, .int .i64 xt3)]) = σ := ov_self (by simp [h0, h3])
    rw [e] at h
    exact h
def tb : List (List Nat × Spec) := [([0, 1, 0, 1, 0, 1, 0, 0, 1, 0, 0, 1, 0, 1, 1], l1T), ([0, 1, 0, 1, 1], l0T)]
theorem wp_eq (Aa0 : Option Addr) (na0 : Nat) (ca0 : Nat) (w : World) (Q : Ending → World → Prop) :
    wp Aa0 na0 ca0 w Q = codeW Try.prog hT 61 D (tab tb) [] body (topQ Try.prog hT 61 [.tmp 2] Q) (argsF [.slice Aa0 na0 ca0]) w := by kernel_rfl
theorem ok (Aa0 : Option Addr) (na0 : Nat) (ca0 : Nat) (w : World) (Q : Ending → World → Prop) (h : wp Aa0 na0 ca0 w Q) : Calls Try.prog 62 #[.slice Aa0 na0 ca0] w Q := by
  rw [wp_eq] at h
  exact calls_of_codeW (c := body) (rs := [.tmp 2]) Try.func62 (by kernel_rfl) (by kernel_rfl) (by kernel_rfl) (by kernel_rfl) (by kernel_rfl) (tab_snd (by
    intro x hx
    simp only [tb, List.mem_cons, List.not_mem_nil, or_false] at hx
    rcases hx with rfl | rfl
    · exact l1_snd
    · exact l0_snd)) (by kernel_rfl) h
end f_slices_Compact_int_int
namespace f_slices_ContainsFunc_int_int
/-! slices.ContainsFunc[[]int,int]: function 63 -/
noncomputable def body : Code := (Try.f63.body).getD .skip
def wp (Aa0 : Option Addr) (na0 : Nat) (ca0 : Nat) (w : World) (Q : Ending → World → Prop) : Prop :=
  Calls Try.prog 80 #[.slice Aa0 na0 ca0, .func (.func 64) #[] #[]] w fun e1 w2 => ∃ (x3 : Int), e1 = .returned (.int .i64 x3) ∧ (
  Q (.returned (.bool (decide (x3 ≥ (0 : Int))))) w2)
def D : Nat → Option DH := dtab []
def tb : List (List Nat × Spec) := []
theorem wp_eq (Aa0 : Option Addr) (na0 : Nat) (ca0 : Nat) (w : World) (Q : Ending → World → Prop) :
    wp Aa0 na0 ca0 w Q = codeW Try.prog hT 9 D (tab tb) [] body (topQ Try.prog hT 9 [.tmp 4] Q) (argsF [.slice Aa0 na0 ca0, .func (.func 64) #[] #[]]) w := by kernel_rfl
theorem ok (Aa0 : Option Addr) (na0 : Nat) (ca0 : Nat) (w : World) (Q : Ending → World → Prop) (h : wp Aa0 na0 ca0 w Q) : Calls Try.prog 63 #[.slice Aa0 na0 ca0, .func (.func 64) #[] #[]] w Q := by
  rw [wp_eq] at h
  exact calls_of_codeW (c := body) (rs := [.tmp 4]) Try.func63 (by kernel_rfl) (by kernel_rfl) (by kernel_rfl) (by kernel_rfl) (by kernel_rfl) (tab_snd (by
    intro x hx
    simp only [tb, List.not_mem_nil] at hx
    )) (by kernel_rfl) h
end f_slices_ContainsFunc_int_int
namespace f_slices_IndexFunc_int_int
/-! slices.IndexFunc[[]int,int]: function 80 -/
noncomputable def body : Code := (Try.f80.body).getD .skip
def l0 : Nat → Option Addr → Nat → Nat → Int → Int → World → (World → Prop) → (Int → World → Prop) → Prop
  | 0, _, _, _, _, _, _, _, _ => False
  | k + 1, At0, nt0, ct0, xt7, xt8, w, K0, Kr =>
    sel (decide (xt8 < xt7)) (
    optB At0 fun a1 =>
    req (decide (0 ≤ xt8 ∧ xt8 < (nt0 : Int))) <|
    ldI w (a1.add (xt8.toNat * 1)) .i64 fun x2 =>
    Calls Try.prog 64 #[.int .i64 x2] w fun e3 w4 => ∃ (b5 : Bool), e3 = .returned (.bool b5) ∧ (
    sel b5 (
    Kr xt8 w4) (
    l0 k At0 nt0 ct0 xt7 (IntKind.i64.wrap (xt8 + (1 : Int))) w4 K0 Kr))) (
    K0  w)
def wp (Aa0 : Option Addr) (na0 : Nat) (ca0 : Nat) (w : World) (Q : Ending → World → Prop) : Prop :=
  ∃ k9 : Nat, l0 k9 Aa0 na0 ca0 (na0 : Int) (0 : Int) w (fun (w6 : World) => ∀ _ : Fr,
  Q (.returned (.int .i64 (-1 : Int))) w6) (fun (x7 : Int) (w8 : World) => ∀ _ : Fr,
  Q (.returned (.int .i64 x7)) w8)
def D : Nat → Option DH := dtab []
def l0LO : LO := ⟨[], [4], [(0, [])], []⟩
def l0Tk (k : Nat) : Spec := fun Q σ w =>
  gSlice (σ 0) fun At0 nt0 ct0 =>
  gFn (σ 1) 64 <|
  gInt .i64 (σ 7) fun xt7 =>
  gInt .i64 (σ 8) fun xt8 =>
  l0 k At0 nt0 ct0 xt7 xt8 w (fun (w : World) => ∀ d : Fr, Q (.exit 0) (ov d []) w) (fun (xq4 : Int) (w : World) => ∀ d : Fr, Q .ret (ov d [(4, .int .i64 xq4)]) w)
def l0T : Spec := fun Q σ w => ∃ k, l0Tk k Q σ w
def l0tb : List (List Nat × Spec) := []
noncomputable def l0b : Code := (subC [0, 0, 1, 0, 1] body).getD .skip
theorem l0_eq (k : Nat) (At0 : Option Addr) (nt0 : Nat) (ct0 : Nat) (xt7 : Int) (xt8 : Int) (Q : PQ) (σ : Fr) (w : World) :
    l0 (k + 1) At0 nt0 ct0 xt7 xt8 w (fun (w : World) => ∀ d : Fr, Q (.exit 0) (ov d []) w) (fun (xq4 : Int) (w : World) => ∀ d : Fr, Q .ret (ov d [(4, .int .i64 xq4)]) w) = codeW Try.prog hT 19 D (tab l0tb) [0, 0, 1, 0, 1] l0b (thenQ (l0Tk k Q) (widen l0LO Q)) (ov σ [(0, .slice At0 nt0 ct0), (1, .func (.func 64) #[] #[]), (7, .int .i64 xt7), (8, .int .i64 xt8)]) w := by kernel_rfl
theorem l0_snd : ∀ c, subC [0, 1, 0, 1] body = some c → Snd Try.prog 19 c l0T := by
  refine loop_of (hT := hT) (D := D) (l := l0tb) (b := l0b) (lo := l0LO) (by kernel_rfl) (by
    intro x hx
    simp only [l0tb, List.not_mem_nil] at hx
    ) (by kernel_rfl) (by kernel_rfl) ?_ ?_
  · intro Q σ w h
    unfold l0Tk at h
    obtain ⟨At0, nt0, ct0, h0, hn⟩ := gSlice_elim h
    clear h
    have h := hn
    clear hn
    obtain ⟨h1, hn⟩ := gFn_elim h
    clear h
    have h := hn
    clear hn
    obtain ⟨xt7, h7, hn⟩ := gInt_elim h
    clear h
    have h := hn
    clear hn
    obtain ⟨xt8, h8, hn⟩ := gInt_elim h
    clear h
    have h := hn
    clear hn
    exact h
  · intro k Q σ w h
    unfold l0Tk at h
    obtain ⟨At0, nt0, ct0, h0, hn⟩ := gSlice_elim h
    clear h
    have h := hn
    clear hn
    obtain ⟨h1, hn⟩ := gFn_elim h
    clear h
    have h := hn
    clear hn
    obtain ⟨xt7, h7, hn⟩ := gInt_elim h
    clear h
    have h := hn
    clear hn
    obtain ⟨xt8, h8, hn⟩ := gInt_elim h
    clear h
    have h := hn
    clear hn
    rw [l0_eq (σ := σ)] at h
    have e : (ov σ [(0, .slice At0 nt0 ct0), (1, .func (.func 64) #[] #[]), (7, .int .i64 xt7), (8, .int .i64 xt8)]) = σ := ov_self (by simp [h0, h1, h7, h8])
    rw [e] at h
    exact h
def tb : List (List Nat × Spec) := [([0, 1, 0, 1], l0T)]
theorem wp_eq (Aa0 : Option Addr) (na0 : Nat) (ca0 : Nat) (w : World) (Q : Ending → World → Prop) :
    wp Aa0 na0 ca0 w Q = codeW Try.prog hT 19 D (tab tb) [] body (topQ Try.prog hT 19 [.tmp 4] Q) (argsF [.slice Aa0 na0 ca0, .func (.func 64) #[] #[]]) w := by kernel_rfl
theorem ok (Aa0 : Option Addr) (na0 : Nat) (ca0 : Nat) (w : World) (Q : Ending → World → Prop) (h : wp Aa0 na0 ca0 w Q) : Calls Try.prog 80 #[.slice Aa0 na0 ca0, .func (.func 64) #[] #[]] w Q := by
  rw [wp_eq] at h
  exact calls_of_codeW (c := body) (rs := [.tmp 4]) Try.func80 (by kernel_rfl) (by kernel_rfl) (by kernel_rfl) (by kernel_rfl) (by kernel_rfl) (tab_snd (by
    intro x hx
    simp only [tb, List.mem_cons, List.not_mem_nil, or_false] at hx
    subst hx
    exact l0_snd)) (by kernel_rfl) h
end f_slices_IndexFunc_int_int
namespace f_euler_badId_1
/-! skein/euler.badId$1: function 64 -/
noncomputable def body : Code := (Try.f64.body).getD .skip
def wp (xa0 : Int) (w : World) (Q : Ending → World → Prop) : Prop :=
  sel (decide (xa0 < (1 : Int))) (
  Q (.returned (.bool true)) w) (
  Q (.returned (.bool (decide (xa0 > (2147483647 : Int))))) w)
def D : Nat → Option DH := dtab []
def tb : List (List Nat × Spec) := []
theorem wp_eq (xa0 : Int) (w : World) (Q : Ending → World → Prop) :
    wp xa0 w Q = codeW Try.prog hT 9 D (tab tb) [] body (topQ Try.prog hT 9 [.tmp 2] Q) (argsF [.int .i64 xa0]) w := by kernel_rfl
theorem ok (xa0 : Int) (w : World) (Q : Ending → World → Prop) (h : wp xa0 w Q) : Calls Try.prog 64 #[.int .i64 xa0] w Q := by
  rw [wp_eq] at h
  exact calls_of_codeW (c := body) (rs := [.tmp 2]) Try.func64 (by kernel_rfl) (by kernel_rfl) (by kernel_rfl) (by kernel_rfl) (by kernel_rfl) (tab_snd (by
    intro x hx
    simp only [tb, List.not_mem_nil] at hx
    )) (by kernel_rfl) h
end f_euler_badId_1
namespace f_euler_bit
/-! skein/euler.bit: function 56 -/
noncomputable def body : Code := (Try.f56.body).getD .skip
def wp (ba0 : Bool) (w : World) (Q : Ending → World → Prop) : Prop :=
  sel ba0 (
  Q (.returned (.int .i64 (1 : Int))) w) (
  Q (.returned (.int .i64 (0 : Int))) w)
def D : Nat → Option DH := dtab []
def tb : List (List Nat × Spec) := []
theorem wp_eq (ba0 : Bool) (w : World) (Q : Ending → World → Prop) :
    wp ba0 w Q = codeW Try.prog hT 4 D (tab tb) [] body (topQ Try.prog hT 4 [.tmp 2] Q) (argsF [.bool ba0]) w := by cases ba0 <;> kernel_rfl
theorem ok (ba0 : Bool) (w : World) (Q : Ending → World → Prop) (h : wp ba0 w Q) : Calls Try.prog 56 #[.bool ba0] w Q := by
  rw [wp_eq] at h
  exact calls_of_codeW (c := body) (rs := [.tmp 2]) Try.func56 (by kernel_rfl) (by kernel_rfl) (by kernel_rfl) (by kernel_rfl) (by kernel_rfl) (tab_snd (by
    intro x hx
    simp only [tb, List.not_mem_nil] at hx
    )) (by kernel_rfl) h
end f_euler_bit
end Go.Proofs.Ytkkobfajahmfaaa.Rd
