/- The printed readings of some functions: each function's code reckoned by the kernel to its predicate transformer. -/
import Derived.Test.YtakgoekfnhkgaaaDoorHint
namespace Go.Proofs.YtakgoekfnhkgaaaDoor.Rd
open Go.Dn
set_option maxRecDepth 100000
set_option linter.unusedVariables false
namespace f_ref01_Apart
/-! skein/skeinref01.Apart: function 12 -/
noncomputable def body : Code := (Tryd.f12.body).getD .skip
def l0 : Nat → Option Addr → Nat → Nat → Int → World → ((Option Addr) → Nat → Nat → World → Prop) → Prop
  | 0, _, _, _, _, _, _ => False
  | k + 1, At7, nt7, ct7, xt8, w, K0 =>
    sel (decide (xt8 < (70 : Int))) (
    alW w (.cells #[.int .u8 (IntKind.u8.wrap xt8)] 5) fun B9 w10 =>
    Runs Tryd.prog (Builtin.append_ #[24, 24] 24 #[.slice At7 nt7 ct7, .slice (some (⟨B9, 0, Option.none⟩ : Addr)) 1 1]) w10 fun v12 w11 => ∃ (A13 : Option Addr) (n13 : Nat) (c13 : Nat), v12 = (.slice A13 n13 c13) ∧ (
    l0 k A13 n13 c13 (IntKind.i64.wrap (xt8 + (1 : Int))) w11 K0)) (
    K0 At7 nt7 ct7 w)
def wp (Aa0 : Option Addr) (na0 : Nat) (ca0 : Nat) (Aa1 : Option Addr) (na1 : Nat) (ca1 : Nat) (Aa2 : Option Addr) (na2 : Nat) (ca2 : Nat) (w : World) (Q : Ending → World → Prop) : Prop :=
  Calls Tryd.prog 24 #[.slice Aa0 na0 ca0, .slice Aa2 na2 ca2] w fun e1 w2 => ∃ (b3 : Bool), e1 = .returned (.bool b3) ∧ (
  sel (!b3) (
  Q (.returned (.bool false)) w2) (
  Calls Tryd.prog 24 #[.slice Aa1 na1 ca1, .slice Aa2 na2 ca2] w2 fun e4 w5 => ∃ (b6 : Bool), e4 = .returned (.bool b6) ∧ (
  sel (!b6) (
  Q (.returned (.bool false)) w5) (
  Calls Tryd.prog 37 #[.slice Aa0 na0 ca0] w5 fun e7 w8 => e7 = .returned (.tuple #[]) ∧ (
  ∃ k22 : Nat, l0 k22 Aa0 na0 ca0 (0 : Int) w8 (fun (A14 : Option Addr) (n14 : Nat) (c14 : Nat) (w15 : World) => ∀ _ : Fr,
  sel ((n14 : Int) == (IntKind.i64.wrap ((na2 : Int) + (70 : Int)))) (
  Calls Tryd.prog 38 #[.slice Aa0 na0 ca0, .slice Aa2 na2 ca2] w15 fun e16 w17 => ∃ (b18 : Bool), e16 = .returned (.bool b18) ∧ (
  sel b18 (
  Calls Tryd.prog 24 #[.slice Aa1 na1 ca1, .slice Aa2 na2 ca2] w17 fun e19 w20 => ∃ (b21 : Bool), e19 = .returned (.bool b21) ∧ (
  Q (.returned (.bool b21)) w20)) (
  Q (.returned (.bool false)) w17))) (
  Q (.returned (.bool false)) w15)))))))
def D : Nat → Option DH := dtab []
def l0LO : LO := ⟨[], [], [(0, [0, 1, 2, 7])], []⟩
def l0Tk (k : Nat) : Spec := fun Q σ w =>
  gSlice (σ 7) fun At7 nt7 ct7 =>
  gInt .i64 (σ 8) fun xt8 =>
  l0 k At7 nt7 ct7 xt8 w (fun (Aq7 : Option Addr) (nq7 : Nat) (cq7 : Nat) (w : World) => ∀ d : Fr, Q (.exit 0) (ov d [(0, σ 0), (1, σ 1), (2, σ 2), (7, .slice Aq7 nq7 cq7)]) w)
def l0T : Spec := fun Q σ w => ∃ k, l0Tk k Q σ w
def l0tb : List (List Nat × Spec) := []
noncomputable def l0b : Code := (subC [0, 0, 1, 0, 1, 1, 1, 1] body).getD .skip
theorem l0_eq (k : Nat) (At7 : Option Addr) (nt7 : Nat) (ct7 : Nat) (xt8 : Int) (Q : PQ) (σ : Fr) (w : World) :
    l0 (k + 1) At7 nt7 ct7 xt8 w (fun (Aq7 : Option Addr) (nq7 : Nat) (cq7 : Nat) (w : World) => ∀ d : Fr, Q (.exit 0) (ov d [(0, σ 0), (1, σ 1), (2, σ 2), (7, .slice Aq7 nq7 cq7)]) w) = codeW Tryd.prog hT 47 D (tab l0tb) [0, 0, 1, 0, 1, 1, 1, 1] l0b (thenQ (l0Tk k Q) (widen l0LO Q)) (ov σ [(7, .slice At7 nt7 ct7), (8, .int .i64 xt8)]) w := by kernel_rfl
theorem l0_snd : ∀ c, subC [0, 1, 0, 1, 1, 1, 1] body = some c → Snd Tryd.prog 47 c l0T := by
  refine loop_of (hT := hT) (D := D) (l := l0tb) (b := l0b) (lo := l0LO) (by kernel_rfl) (by
    intro x hx
    simp only [l0tb, List.not_mem_nil] at hx
    ) (by kernel_rfl) (by kernel_rfl) ?_ ?_
  · intro Q σ w h
    unfold l0Tk at h
    obtain ⟨At7, nt7, ct7, h7, hn⟩ := gSlice_elim h
    clear h
    have h := hn
    clear hn
    obtain ⟨xt8, h8, hn⟩ := gInt_elim h
    clear h
    have h := hn
    clear hn
    exact h
  · intro k Q σ w h
    unfold l0Tk at h
    obtain ⟨At7, nt7, ct7, h7, hn⟩ := gSlice_elim h
    clear h
    have h := hn
    clear hn
    obtain ⟨xt8, h8, hn⟩ := gInt_elim h
    clear h
    have h := hn
    clear hn
    rw [l0_eq (σ := σ)] at h
    have e : (ov σ [(7, .slice At7 nt7 ct7), (8, .int .i64 xt8)]) = σ := ov_self (by simp [h7, h8])
    rw [e] at h
    exact h
def tb : List (List Nat × Spec) := [([0, 1, 0, 1, 1, 1, 1], l0T)]
theorem wp_eq (Aa0 : Option Addr) (na0 : Nat) (ca0 : Nat) (Aa1 : Option Addr) (na1 : Nat) (ca1 : Nat) (Aa2 : Option Addr) (na2 : Nat) (ca2 : Nat) (w : World) (Q : Ending → World → Prop) :
    wp Aa0 na0 ca0 Aa1 na1 ca1 Aa2 na2 ca2 w Q = codeW Tryd.prog hT 47 D (tab tb) [] body (topQ Tryd.prog hT 47 [.tmp 6] Q) (argsF [.slice Aa0 na0 ca0, .slice Aa1 na1 ca1, .slice Aa2 na2 ca2]) w := by kernel_rfl
theorem ok (Aa0 : Option Addr) (na0 : Nat) (ca0 : Nat) (Aa1 : Option Addr) (na1 : Nat) (ca1 : Nat) (Aa2 : Option Addr) (na2 : Nat) (ca2 : Nat) (w : World) (Q : Ending → World → Prop) (h : wp Aa0 na0 ca0 Aa1 na1 ca1 Aa2 na2 ca2 w Q) : Calls Tryd.prog 12 #[.slice Aa0 na0 ca0, .slice Aa1 na1 ca1, .slice Aa2 na2 ca2] w Q := by
  rw [wp_eq] at h
  exact calls_of_codeW (c := body) (rs := [.tmp 6]) Tryd.func12 (by kernel_rfl) (by kernel_rfl) (by kernel_rfl) (by kernel_rfl) (by kernel_rfl) (tab_snd (by
    intro x hx
    simp only [tb, List.mem_cons, List.not_mem_nil, or_false] at hx
    subst hx
    exact l0_snd)) (by kernel_rfl) h
end f_ref01_Apart
namespace f_ref01_Wide
/-! skein/skeinref01.Wide: function 15 -/
noncomputable def body : Code := (Tryd.f15.body).getD .skip
def l0 : Nat → Option Addr → Nat → Nat → Int → World → ((Option Addr) → Nat → Nat → World → Prop) → Prop
  | 0, _, _, _, _, _, _ => False
  | k + 1, At3, nt3, ct3, xt4, w, K0 =>
    sel (decide (xt4 < (64 : Int))) (
    alW w (.cells #[.int .u8 (IntKind.u8.wrap (IntKind.i64.wrap ((208 : Int) + (xt4.tmod (9 : Int)))))] 5) fun B4 w5 =>
    Runs Tryd.prog (Builtin.append_ #[24, 24] 24 #[.slice At3 nt3 ct3, .slice (some (⟨B4, 0, Option.none⟩ : Addr)) 1 1]) w5 fun v7 w6 => ∃ (A8 : Option Addr) (n8 : Nat) (c8 : Nat), v7 = (.slice A8 n8 c8) ∧ (
    l0 k A8 n8 c8 (IntKind.i64.wrap (xt4 + (1 : Int))) w6 K0)) (
    K0 At3 nt3 ct3 w)
def wp (Aa0 : Option Addr) (na0 : Nat) (ca0 : Nat) (w : World) (Q : Ending → World → Prop) : Prop :=
  Calls Tryd.prog 40 #[.slice Aa0 na0 ca0] w fun e1 w2 => ∃ (A3 : Option Addr) (n3 : Nat) (c3 : Nat), e1 = .returned (.slice A3 n3 c3) ∧ (
  ∃ k11 : Nat, l0 k11 A3 n3 c3 (0 : Int) w2 (fun (A9 : Option Addr) (n9 : Nat) (c9 : Nat) (w10 : World) => ∀ _ : Fr,
  Q (.returned (.slice A9 n9 c9)) w10))
def D : Nat → Option DH := dtab []
def l0LO : LO := ⟨[], [], [(0, [3])], []⟩
def l0Tk (k : Nat) : Spec := fun Q σ w =>
  gSlice (σ 3) fun At3 nt3 ct3 =>
  gInt .i64 (σ 4) fun xt4 =>
  l0 k At3 nt3 ct3 xt4 w (fun (Aq3 : Option Addr) (nq3 : Nat) (cq3 : Nat) (w : World) => ∀ d : Fr, Q (.exit 0) (ov d [(3, .slice Aq3 nq3 cq3)]) w)
def l0T : Spec := fun Q σ w => ∃ k, l0Tk k Q σ w
def l0tb : List (List Nat × Spec) := []
noncomputable def l0b : Code := (subC [0, 0, 1, 0, 1, 1] body).getD .skip
theorem l0_eq (k : Nat) (At3 : Option Addr) (nt3 : Nat) (ct3 : Nat) (xt4 : Int) (Q : PQ) (σ : Fr) (w : World) :
    l0 (k + 1) At3 nt3 ct3 xt4 w (fun (Aq3 : Option Addr) (nq3 : Nat) (cq3 : Nat) (w : World) => ∀ d : Fr, Q (.exit 0) (ov d [(3, .slice Aq3 nq3 cq3)]) w) = codeW Tryd.prog hT 19 D (tab l0tb) [0, 0, 1, 0, 1, 1] l0b (thenQ (l0Tk k Q) (widen l0LO Q)) (ov σ [(3, .slice At3 nt3 ct3), (4, .int .i64 xt4)]) w := by kernel_rfl
theorem l0_snd : ∀ c, subC [0, 1, 0, 1, 1] body = some c → Snd Tryd.prog 19 c l0T := by
  refine loop_of (hT := hT) (D := D) (l := l0tb) (b := l0b) (lo := l0LO) (by kernel_rfl) (by
    intro x hx
    simp only [l0tb, List.not_mem_nil] at hx
    ) (by kernel_rfl) (by kernel_rfl) ?_ ?_
  · intro Q σ w h
    unfold l0Tk at h
    obtain ⟨At3, nt3, ct3, h3, hn⟩ := gSlice_elim h
    clear h
    have h := hn
    clear hn
    obtain ⟨xt4, h4, hn⟩ := gInt_elim h
    clear h
    have h := hn
    clear hn
    exact h
  · intro k Q σ w h
    unfold l0Tk at h
    obtain ⟨At3, nt3, ct3, h3, hn⟩ := gSlice_elim h
    clear h
    have h := hn
    clear hn
    obtain ⟨xt4, h4, hn⟩ := gInt_elim h
    clear h
    have h := hn
    clear hn
    rw [l0_eq (σ := σ)] at h
    have e : (ov σ [(3, .slice At3 nt3 ct3), (4, .int .i64 xt4)]) = σ := ov_self (by simp [h3, h4])
    rw [e] at h
    exact h
def tb : List (List Nat × Spec) := [([0, 1, 0, 1, 1], l0T)]
theorem wp_eq (Aa0 : Option Addr) (na0 : Nat) (ca0 : Nat) (w : World) (Q : Ending → World → Prop) :
    wp Aa0 na0 ca0 w Q = codeW Tryd.prog hT 19 D (tab tb) [] body (topQ Tryd.prog hT 19 [.tmp 2] Q) (argsF [.slice Aa0 na0 ca0]) w := by kernel_rfl
theorem ok (Aa0 : Option Addr) (na0 : Nat) (ca0 : Nat) (w : World) (Q : Ending → World → Prop) (h : wp Aa0 na0 ca0 w Q) : Calls Tryd.prog 15 #[.slice Aa0 na0 ca0] w Q := by
  rw [wp_eq] at h
  exact calls_of_codeW (c := body) (rs := [.tmp 2]) Tryd.func15 (by kernel_rfl) (by kernel_rfl) (by kernel_rfl) (by kernel_rfl) (by kernel_rfl) (tab_snd (by
    intro x hx
    simp only [tb, List.mem_cons, List.not_mem_nil, or_false] at hx
    subst hx
    exact l0_snd)) (by kernel_rfl) h
end f_ref01_Wide
namespace f_ref01_Intact
/-! skein/skeinref01.Intact: function 18 -/
noncomputable def body : Code := (Tryd.f18.body).getD .skip
def l0 : Nat → Option Addr → Nat → Nat → Option Addr → Nat → Nat → Int → World → (World → Prop) → (Bool → World → Prop) → Prop
  | 0, _, _, _, _, _, _, _, _, _, _ => False
  | k + 1, At0, nt0, ct0, At1, nt1, ct1, xt5, w, K0, Kr =>
    sel (decide (xt5 < (nt1 : Int))) (
    drW w fun w1 =>
    optB At0 fun a3 =>
    req (decide (0 ≤ xt5 ∧ xt5 < (nt0 : Int))) <|
    ldI w1 (a3.add (xt5.toNat * 1)) .u8 fun x4 =>
    optB At1 fun a5 =>
    req (decide (0 ≤ xt5 ∧ xt5 < (nt1 : Int))) <|
    ldI w1 (a5.add (xt5.toNat * 1)) .u8 fun x6 =>
    sel (x4 != x6) (
    Kr false w1) (
    l0 k At0 nt0 ct0 At1 nt1 ct1 (IntKind.i64.wrap (xt5 + (1 : Int))) w1 K0 Kr)) (
    K0  w)
def l1 : Nat → Option Addr → Nat → Nat → Option Addr → Nat → Nat → Int → World → (World → Prop) → (Bool → World → Prop) → Prop
  | 0, _, _, _, _, _, _, _, _, _, _ => False
  | k + 1, At0, nt0, ct0, At1, nt1, ct1, xt6, w, K2, Kr =>
    sel (decide (xt6 < (64 : Int))) (
    optB At0 fun a8 =>
    req (decide (0 ≤ (IntKind.i64.wrap ((nt1 : Int) + xt6)) ∧ (IntKind.i64.wrap ((nt1 : Int) + xt6)) < (nt0 : Int))) <|
    ldI w (a8.add ((IntKind.i64.wrap ((nt1 : Int) + xt6)).toNat * 1)) .u8 fun x9 =>
    sel (x9 != (IntKind.u8.wrap (IntKind.i64.wrap ((208 : Int) + (xt6.tmod (9 : Int)))))) (
    Kr false w) (
    l1 k At0 nt0 ct0 At1 nt1 ct1 (IntKind.i64.wrap (xt6 + (1 : Int))) w K2 Kr)) (
    K2  w)
def wp (Aa0 : Option Addr) (na0 : Nat) (ca0 : Nat) (Aa1 : Option Addr) (na1 : Nat) (ca1 : Nat) (w : World) (Q : Ending → World → Prop) : Prop :=
  sel ((na0 : Int) != (IntKind.i64.wrap ((na1 : Int) + (64 : Int)))) (
  Q (.returned (.bool false)) w) (
  ∃ k16 : Nat, l0 k16 Aa0 na0 ca0 Aa1 na1 ca1 (0 : Int) w (fun (w7 : World) => ∀ _ : Fr,
  ∃ k13 : Nat, l1 k13 Aa0 na0 ca0 Aa1 na1 ca1 (0 : Int) w7 (fun (w10 : World) => ∀ _ : Fr,
  Q (.returned (.bool true)) w10) (fun (b11 : Bool) (w12 : World) => ∀ _ : Fr,
  Q (.returned (.bool b11)) w12)) (fun (b14 : Bool) (w15 : World) => ∀ _ : Fr,
  Q (.returned (.bool b14)) w15))
def D : Nat → Option DH := dtab [(6, .simple [.fst 0, .fst 1, .fst 2, .fst 3, .fst 4, .fst 5, .fst 6, .fst 7] [.fst 8])]
def l0LO : LO := ⟨[], [4], [(0, [0, 1])], []⟩
def l0Tk (k : Nat) : Spec := fun Q σ w =>
  gSlice (σ 0) fun At0 nt0 ct0 =>
  gSlice (σ 1) fun At1 nt1 ct1 =>
  gInt .i64 (σ 5) fun xt5 =>
  l0 k At0 nt0 ct0 At1 nt1 ct1 xt5 w (fun (w : World) => ∀ d : Fr, Q (.exit 0) (ov d [(0, .slice At0 nt0 ct0), (1, .slice At1 nt1 ct1)]) w) (fun (bq4 : Bool) (w : World) => ∀ d : Fr, Q .ret (ov d [(4, .bool bq4)]) w)
def l0T : Spec := fun Q σ w => ∃ k, l0Tk k Q σ w
def l0tb : List (List Nat × Spec) := []
noncomputable def l0b : Code := (subC [0, 0, 1, 0, 1, 1] body).getD .skip
theorem l0_eq (k : Nat) (At0 : Option Addr) (nt0 : Nat) (ct0 : Nat) (At1 : Option Addr) (nt1 : Nat) (ct1 : Nat) (xt5 : Int) (Q : PQ) (σ : Fr) (w : World) :
    l0 (k + 1) At0 nt0 ct0 At1 nt1 ct1 xt5 w (fun (w : World) => ∀ d : Fr, Q (.exit 0) (ov d [(0, .slice At0 nt0 ct0), (1, .slice At1 nt1 ct1)]) w) (fun (bq4 : Bool) (w : World) => ∀ d : Fr, Q .ret (ov d [(4, .bool bq4)]) w) = codeW Tryd.prog hT 44 D (tab l0tb) [0, 0, 1, 0, 1, 1] l0b (thenQ (l0Tk k Q) (widen l0LO Q)) (ov σ [(0, .slice At0 nt0 ct0), (1, .slice At1 nt1 ct1), (5, .int .i64 xt5)]) w := by kernel_rfl
theorem l0_snd : ∀ c, subC [0, 1, 0, 1, 1] body = some c → Snd Tryd.prog 44 c l0T := by
  refine loop_of (hT := hT) (D := D) (l := l0tb) (b := l0b) (lo := l0LO) (by kernel_rfl) (by
    intro x hx
    simp only [l0tb, List.not_mem_nil] at hx
    ) (by kernel_rfl) (by kernel_rfl) ?_ ?_
  · intro Q σ w h
    unfold l0Tk at h
    obtain ⟨At0, nt0, ct0, h0, hn⟩ := gSlice_elim h
    clear h
    have h := hn
    clear hn
    obtain ⟨At1, nt1, ct1, h1, hn⟩ := gSlice_elim h
    clear h
    have h := hn
    clear hn
    obtain ⟨xt5, h5, hn⟩ := gInt_elim h
    clear h
    have h := hn
    clear hn
    exact h
  · intro k Q σ w h
    unfold l0Tk at h
    obtain ⟨At0, nt0, ct0, h0, hn⟩ := gSlice_elim h
    clear h
    have h := hn
    clear hn
    obtain ⟨At1, nt1, ct1, h1, hn⟩ := gSlice_elim h
    clear h
    have h := hn
    clear hn
    obtain ⟨xt5, h5, hn⟩ := gInt_elim h
    clear h
    have h := hn
    clear hn
    rw [l0_eq (σ := σ)] at h
    have e : (ov σ [(0, .slice At0 nt0 ct0), (1, .slice At1 nt1 ct1), (5, .int .i64 xt5)]) = σ := ov_self (by simp [h0, h1, h5])
    rw [e] at h
    exact h
def l1LO : LO := ⟨[], [4], [(2, [])], []⟩
def l1Tk (k : Nat) : Spec := fun Q σ w =>
  gSlice (σ 0) fun At0 nt0 ct0 =>
  gSlice (σ 1) fun At1 nt1 ct1 =>
  gInt .i64 (σ 6) fun xt6 =>
  l1 k At0 nt0 ct0 At1 nt1 ct1 xt6 w (fun (w : World) => ∀ d : Fr, Q (.exit 2) (ov d []) w) (fun (bq4 : Bool) (w : World) => ∀ d : Fr, Q .ret (ov d [(4, .bool bq4)]) w)
def l1T : Spec := fun Q σ w => ∃ k, l1Tk k Q σ w
def l1tb : List (List Nat × Spec) := []
noncomputable def l1b : Code := (subC [0, 0, 1, 0, 1, 1, 1] body).getD .skip
theorem l1_eq (k : Nat) (At0 : Option Addr) (nt0 : Nat) (ct0 : Nat) (At1 : Option Addr) (nt1 : Nat) (ct1 : Nat) (xt6 : Int) (Q : PQ) (σ : Fr) (w : World) :
    l1 (k + 1) At0 nt0 ct0 At1 nt1 ct1 xt6 w (fun (w : World) => ∀ d : Fr, Q (.exit 2) (ov d []) w) (fun (bq4 : Bool) (w : World) => ∀ d : Fr, Q .ret (ov d [(4, .bool bq4)]) w) = codeW Tryd.prog hT 44 D (tab l1tb) [0, 0, 1, 0, 1, 1, 1] l1b (thenQ (l1Tk k Q) (widen l1LO Q)) (ov σ [(0, .slice At0 nt0 ct0), (1, .slice At1 nt1 ct1), (6, .int .i64 xt6)]) w := by kernel_rfl
theorem l1_snd : ∀ c, subC [0, 1, 0, 1, 1, 1] body = some c → Snd Tryd.prog 44 c l1T := by
  refine loop_of (hT := hT) (D := D) (l := l1tb) (b := l1b) (lo := l1LO) (by kernel_rfl) (by
    intro x hx
    simp only [l1tb, List.not_mem_nil] at hx
    ) (by kernel_rfl) (by kernel_rfl) ?_ ?_
  · intro Q σ w h
    unfold l1Tk at h
    obtain ⟨At0, nt0, ct0, h0, hn⟩ := gSlice_elim h
    clear h
    have h := hn
    clear hn
    obtain ⟨At1, nt1, ct1, h1, hn⟩ := gSlice_elim h
    clear h
    have h := hn
    clear hn
    obtain ⟨xt6, h6, hn⟩ := gInt_elim h
    clear h
    have h := hn
    clear hn
    exact h
  · intro k Q σ w h
    unfold l1Tk at h
    obtain ⟨At0, nt0, ct0, h0, hn⟩ := gSlice_elim h
    clear h
    have h := hn
    clear hn
    obtain ⟨At1, nt1, ct1, h1, hn⟩ := gSlice_elim h
    clear h
    have h := hn
    clear hn
    obtain ⟨xt6, h6, hn⟩ := gInt_elim h
    clear h
    have h := hn
    clear hn
    rw [l1_eq (σ := σ)] at h
    have e : (ov σ [(0, .slice At0 nt0 ct0), (1, .slice At1 nt1 ct1), (6, .int .i64 xt6)]) = σ := ov_self (by simp [h0, h1, h6])
    rw [e] at h
    exact h
def tb : List (List Nat × Spec) := [([0, 1, 0, 1, 1], l0T), ([0, 1, 0, 1, 1, 1], l1T)]
theorem wp_eq (Aa0 : Option Addr) (na0 : Nat) (ca0 : Nat) (Aa1 : Option Addr) (na1 : Nat) (ca1 : Nat) (w : World) (Q : Ending → World → Prop) :
    wp Aa0 na0 ca0 Aa1 na1 ca1 w Q = codeW Tryd.prog hT 44 D (tab tb) [] body (topQ Tryd.prog hT 44 [.tmp 4] Q) (argsF [.slice Aa0 na0 ca0, .slice Aa1 na1 ca1]) w := by kernel_rfl
theorem ok (Aa0 : Option Addr) (na0 : Nat) (ca0 : Nat) (Aa1 : Option Addr) (na1 : Nat) (ca1 : Nat) (w : World) (Q : Ending → World → Prop) (h : wp Aa0 na0 ca0 Aa1 na1 ca1 w Q) : Calls Tryd.prog 18 #[.slice Aa0 na0 ca0, .slice Aa1 na1 ca1] w Q := by
  rw [wp_eq] at h
  exact calls_of_codeW (c := body) (rs := [.tmp 4]) Tryd.func18 (by kernel_rfl) (by kernel_rfl) (by kernel_rfl) (by kernel_rfl) (by kernel_rfl) (tab_snd (by
    intro x hx
    simp only [tb, List.mem_cons, List.not_mem_nil, or_false] at hx
    rcases hx with rfl | rfl
    · exact l0_snd
    · exact l1_snd)) (by kernel_rfl) h
end f_ref01_Intact
namespace f_ref01_Order
/-! skein/skeinref01.Order: function 23 -/
noncomputable def body : Code := (Tryd.f23.body).getD .skip
def l0 : Nat → Option Addr → Nat → Nat → Option Addr → Nat → Nat → Int → World → (World → Prop) → (Int → World → Prop) → Prop
  | 0, _, _, _, _, _, _, _, _, _, _ => False
  | k + 1, At0, nt0, ct0, At1, nt1, ct1, xt5, w, K0, Kr =>
    sel (decide (xt5 < (nt0 : Int))) (
    sel (decide (xt5 < (nt1 : Int))) (
    drW w fun w1 =>
    optB At0 fun a3 =>
    req (decide (0 ≤ xt5 ∧ xt5 < (nt0 : Int))) <|
    ldI w1 (a3.add (xt5.toNat * 1)) .u8 fun x4 =>
    optB At1 fun a5 =>
    req (decide (0 ≤ xt5 ∧ xt5 < (nt1 : Int))) <|
    ldI w1 (a5.add (xt5.toNat * 1)) .u8 fun x6 =>
    sel (decide (x4 < x6)) (
    Kr (-1 : Int) w1) (
    drW w1 fun w7 =>
    optB At0 fun a9 =>
    req (decide (0 ≤ xt5 ∧ xt5 < (nt0 : Int))) <|
    ldI w7 (a9.add (xt5.toNat * 1)) .u8 fun x10 =>
    optB At1 fun a11 =>
    req (decide (0 ≤ xt5 ∧ xt5 < (nt1 : Int))) <|
    ldI w7 (a11.add (xt5.toNat * 1)) .u8 fun x12 =>
    sel (decide (x10 > x12)) (
    Kr (1 : Int) w7) (
    l0 k At0 nt0 ct0 At1 nt1 ct1 (IntKind.i64.wrap (xt5 + (1 : Int))) w7 K0 Kr))) (
    K0  w)) (
    K0  w)
def wp (Aa0 : Option Addr) (na0 : Nat) (ca0 : Nat) (Aa1 : Option Addr) (na1 : Nat) (ca1 : Nat) (w : World) (Q : Ending → World → Prop) : Prop :=
  ∃ k16 : Nat, l0 k16 Aa0 na0 ca0 Aa1 na1 ca1 (0 : Int) w (fun (w13 : World) => ∀ _ : Fr,
  sel (decide ((na0 : Int) < (na1 : Int))) (
  Q (.returned (.int .i64 (-1 : Int))) w13) (
  sel (decide ((na0 : Int) > (na1 : Int))) (
  Q (.returned (.int .i64 (1 : Int))) w13) (
  Q (.returned (.int .i64 (0 : Int))) w13))) (fun (x14 : Int) (w15 : World) => ∀ _ : Fr,
  Q (.returned (.int .i64 x14)) w15)
def D : Nat → Option DH := dtab [(4, .simple [.fst 0, .fst 1, .fst 2, .fst 3, .fst 4, .fst 5, .fst 6, .fst 7] [.fst 8]), (6, .simple [.fst 0, .fst 1, .fst 2, .fst 3, .fst 4, .fst 5, .fst 6, .fst 7] [.fst 8])]
def l0LO : LO := ⟨[], [4], [(0, [0, 1])], []⟩
def l0Tk (k : Nat) : Spec := fun Q σ w =>
  gSlice (σ 0) fun At0 nt0 ct0 =>
  gSlice (σ 1) fun At1 nt1 ct1 =>
  gInt .i64 (σ 5) fun xt5 =>
  l0 k At0 nt0 ct0 At1 nt1 ct1 xt5 w (fun (w : World) => ∀ d : Fr, Q (.exit 0) (ov d [(0, .slice At0 nt0 ct0), (1, .slice At1 nt1 ct1)]) w) (fun (xq4 : Int) (w : World) => ∀ d : Fr, Q .ret (ov d [(4, .int .i64 xq4)]) w)
def l0T : Spec := fun Q σ w => ∃ k, l0Tk k Q σ w
def l0tb : List (List Nat × Spec) := []
noncomputable def l0b : Code := (subC [0, 0, 1, 0, 1] body).getD .skip
theorem l0_eq (k : Nat) (At0 : Option Addr) (nt0 : Nat) (ct0 : Nat) (At1 : Option Addr) (nt1 : Nat) (ct1 : Nat) (xt5 : Int) (Q : PQ) (σ : Fr) (w : World) :
    l0 (k + 1) At0 nt0 ct0 At1 nt1 ct1 xt5 w (fun (w : World) => ∀ d : Fr, Q (.exit 0) (ov d [(0, .slice At0 nt0 ct0), (1, .slice At1 nt1 ct1)]) w) (fun (xq4 : Int) (w : World) => ∀ d : Fr, Q .ret (ov d [(4, .int .i64 xq4)]) w) = codeW Tryd.prog hT 46 D (tab l0tb) [0, 0, 1, 0, 1] l0b (thenQ (l0Tk k Q) (widen l0LO Q)) (ov σ [(0, .slice At0 nt0 ct0), (1, .slice At1 nt1 ct1), (5, .int .i64 xt5)]) w := by kernel_rfl
theorem l0_snd : ∀ c, subC [0, 1, 0, 1] body = some c → Snd Tryd.prog 46 c l0T := by
  refine loop_of (hT := hT) (D := D) (l := l0tb) (b := l0b) (lo := l0LO) (by kernel_rfl) (by
    intro x hx
    simp only [l0tb, List.not_mem_nil] at hx
    ) (by kernel_rfl) (by kernel_rfl) ?_ ?_
  · intro Q σ w h
    unfold l0Tk at h
    obtain ⟨At0, nt0, ct0, h0, hn⟩ := gSlice_elim h
    clear h
    have h := hn
    clear hn
    obtain ⟨At1, nt1, ct1, h1, hn⟩ := gSlice_elim h
    clear h
    have h := hn
    clear hn
    obtain ⟨xt5, h5, hn⟩ := gInt_elim h
    clear h
    have h := hn
    clear hn
    exact h
  · intro k Q σ w h
    unfold l0Tk at h
    obtain ⟨At0, nt0, ct0, h0, hn⟩ := gSlice_elim h
    clear h
    have h := hn
    clear hn
    obtain ⟨At1, nt1, ct1, h1, hn⟩ := gSlice_elim h
    clear h
    have h := hn
    clear hn
    obtain ⟨xt5, h5, hn⟩ := gInt_elim h
    clear h
    have h := hn
    clear hn
    rw [l0_eq (σ := σ)] at h
    have e : (ov σ [(0, .slice At0 nt0 ct0), (1, .slice At1 nt1 ct1), (5, .int .i64 xt5)]) = σ := ov_self (by simp [h0, h1, h5])
    rw [e] at h
    exact h
def tb : List (List Nat × Spec) := [([0, 1, 0, 1], l0T)]
theorem wp_eq (Aa0 : Option Addr) (na0 : Nat) (ca0 : Nat) (Aa1 : Option Addr) (na1 : Nat) (ca1 : Nat) (w : World) (Q : Ending → World → Prop) :
    wp Aa0 na0 ca0 Aa1 na1 ca1 w Q = codeW Tryd.prog hT 46 D (tab tb) [] body (topQ Tryd.prog hT 46 [.tmp 4] Q) (argsF [.slice Aa0 na0 ca0, .slice Aa1 na1 ca1]) w := by kernel_rfl
theorem ok (Aa0 : Option Addr) (na0 : Nat) (ca0 : Nat) (Aa1 : Option Addr) (na1 : Nat) (ca1 : Nat) (w : World) (Q : Ending → World → Prop) (h : wp Aa0 na0 ca0 Aa1 na1 ca1 w Q) : Calls Tryd.prog 23 #[.slice Aa0 na0 ca0, .slice Aa1 na1 ca1] w Q := by
  rw [wp_eq] at h
  exact calls_of_codeW (c := body) (rs := [.tmp 4]) Tryd.func23 (by kernel_rfl) (by kernel_rfl) (by kernel_rfl) (by kernel_rfl) (by kernel_rfl) (tab_snd (by
    intro x hx
    simp only [tb, List.mem_cons, List.not_mem_nil, or_false] at hx
    subst hx
    exact l0_snd)) (by kernel_rfl) h
end f_ref01_Order
namespace f_ref01_Same
/-! skein/skeinref01.Same: function 24 -/
noncomputable def body : Code := (Tryd.f24.body).getD .skip
def l0 : Nat → Option Addr → Nat → Nat → Option Addr → Nat → Nat → Int → World → (World → Prop) → (Bool → World → Prop) → Prop
  | 0, _, _, _, _, _, _, _, _, _, _ => False
  | k + 1, At0, nt0, ct0, At1, nt1, ct1, xt5, w, K0, Kr =>
    sel (decide (xt5 < (nt0 : Int))) (
    drW w fun w1 =>
    optB At0 fun a3 =>
    req (decide (0 ≤ xt5 ∧ xt5 < (nt0 : Int))) <|
    ldI w1 (a3.add (xt5.toNat * 1)) .u8 fun x4 =>
    optB At1 fun a5 =>
    req (decide (0 ≤ xt5 ∧ xt5 < (nt1 : Int))) <|
    ldI w1 (a5.add (xt5.toNat * 1)) .u8 fun x6 =>
    sel (x4 != x6) (
    Kr false w1) (
    l0 k At0 nt0 ct0 At1 nt1 ct1 (IntKind.i64.wrap (xt5 + (1 : Int))) w1 K0 Kr)) (
    K0  w)
def wp (Aa0 : Option Addr) (na0 : Nat) (ca0 : Nat) (Aa1 : Option Addr) (na1 : Nat) (ca1 : Nat) (w : World) (Q : Ending → World → Prop) : Prop :=
  sel ((na0 : Int) != (na1 : Int)) (
  Q (.returned (.bool false)) w) (
  ∃ k10 : Nat, l0 k10 Aa0 na0 ca0 Aa1 na1 ca1 (0 : Int) w (fun (w7 : World) => ∀ _ : Fr,
  Q (.returned (.bool true)) w7) (fun (b8 : Bool) (w9 : World) => ∀ _ : Fr,
  Q (.returned (.bool b8)) w9))
def D : Nat → Option DH := dtab [(6, .simple [.fst 0, .fst 1, .fst 2, .fst 3, .fst 4, .fst 5, .fst 6, .fst 7] [.fst 8])]
def l0LO : LO := ⟨[], [4], [(0, [])], []⟩
def l0Tk (k : Nat) : Spec := fun Q σ w =>
  gSlice (σ 0) fun At0 nt0 ct0 =>
  gSlice (σ 1) fun At1 nt1 ct1 =>
  gInt .i64 (σ 5) fun xt5 =>
  l0 k At0 nt0 ct0 At1 nt1 ct1 xt5 w (fun (w : World) => ∀ d : Fr, Q (.exit 0) (ov d []) w) (fun (bq4 : Bool) (w : World) => ∀ d : Fr, Q .ret (ov d [(4, .bool bq4)]) w)
def l0T : Spec := fun Q σ w => ∃ k, l0Tk k Q σ w
def l0tb : List (List Nat × Spec) := []
noncomputable def l0b : Code := (subC [0, 0, 1, 0, 1, 1] body).getD .skip
theorem l0_eq (k : Nat) (At0 : Option Addr) (nt0 : Nat) (ct0 : Nat) (At1 : Option Addr) (nt1 : Nat) (ct1 : Nat) (xt5 : Int) (Q : PQ) (σ : Fr) (w : World) :
    l0 (k + 1) At0 nt0 ct0 At1 nt1 ct1 xt5 w (fun (w : World) => ∀ d : Fr, Q (.exit 0) (ov d []) w) (fun (bq4 : Bool) (w : World) => ∀ d : Fr, Q .ret (ov d [(4, .bool bq4)]) w) = codeW Tryd.prog hT 26 D (tab l0tb) [0, 0, 1, 0, 1, 1] l0b (thenQ (l0Tk k Q) (widen l0LO Q)) (ov σ [(0, .slice At0 nt0 ct0), (1, .slice At1 nt1 ct1), (5, .int .i64 xt5)]) w := by kernel_rfl
theorem l0_snd : ∀ c, subC [0, 1, 0, 1, 1] body = some c → Snd Tryd.prog 26 c l0T := by
  refine loop_of (hT := hT) (D := D) (l := l0tb) (b := l0b) (lo := l0LO) (by kernel_rfl) (by
    intro x hx
    simp only [l0tb, List.not_mem_nil] at hx
    ) (by kernel_rfl) (by kernel_rfl) ?_ ?_
  · intro Q σ w h
    unfold l0Tk at h
    obtain ⟨At0, nt0, ct0, h0, hn⟩ := gSlice_elim h
    clear h
    have h := hn
    clear hn
    obtain ⟨At1, nt1, ct1, h1, hn⟩ := gSlice_elim h
    clear h
    have h := hn
    clear hn
    obtain ⟨xt5, h5, hn⟩ := gInt_elim h
    clear h
    have h := hn
    clear hn
    exact h
  · intro k Q σ w h
    unfold l0Tk at h
    obtain ⟨At0, nt0, ct0, h0, hn⟩ := gSlice_elim h
    clear h
    have h := hn
    clear hn
    obtain ⟨At1, nt1, ct1, h1, hn⟩ := gSlice_elim h
    clear h
    have h := hn
    clear hn
    obtain ⟨xt5, h5, hn⟩ := gInt_elim h
    clear h
    have h := hn
    clear hn
    rw [l0_eq (σ := σ)] at h
    have e : (ov σ [(0, .slice At0 nt0 ct0), (1, .slice At1 nt1 ct1), (5, .int .i64 xt5)]) = σ := ov_self (by simp [h0, h1, h5])
    rw [e] at h
    exact h
def tb : List (List Nat × Spec) := [([0, 1, 0, 1, 1], l0T)]
theorem wp_eq (Aa0 : Option Addr) (na0 : Nat) (ca0 : Nat) (Aa1 : Option Addr) (na1 : Nat) (ca1 : Nat) (w : World) (Q : Ending → World → Prop) :
    wp Aa0 na0 ca0 Aa1 na1 ca1 w Q = codeW Tryd.prog hT 26 D (tab tb) [] body (topQ Tryd.prog hT 26 [.tmp 4] Q) (argsF [.slice Aa0 na0 ca0, .slice Aa1 na1 ca1]) w := by kernel_rfl
theorem ok (Aa0 : Option Addr) (na0 : Nat) (ca0 : Nat) (Aa1 : Option Addr) (na1 : Nat) (ca1 : Nat) (w : World) (Q : Ending → World → Prop) (h : wp Aa0 na0 ca0 Aa1 na1 ca1 w Q) : Calls Tryd.prog 24 #[.slice Aa0 na0 ca0, .slice Aa1 na1 ca1] w Q := by
  rw [wp_eq] at h
  exact calls_of_codeW (c := body) (rs := [.tmp 4]) Tryd.func24 (by kernel_rfl) (by kernel_rfl) (by kernel_rfl) (by kernel_rfl) (by kernel_rfl) (tab_snd (by
    intro x hx
    simp only [tb, List.mem_cons, List.not_mem_nil, or_false] at hx
    subst hx
    exact l0_snd)) (by kernel_rfl) h
end f_ref01_Same
namespace f_ref01_Piece
/-! skein/skeinref01.Piece: function 25 -/
noncomputable def body : Code := (Tryd.f25.body).getD .skip
def l1 : Nat → Option Addr → Nat → Nat → Int → Option Addr → Nat → Nat → Int → World → ((Option Addr) → Nat → Nat → World → Prop) → Prop
  | 0, _, _, _, _, _, _, _, _, _, _ => False
  | k + 1, At0, nt0, ct0, xt2, At7, nt7, ct7, xt8, w, K0 =>
    sel (decide (xt8 < (nt0 : Int))) (
    sel (decide (xt8 < xt2)) (
    optB At0 fun a3 =>
    req (decide (0 ≤ xt8 ∧ xt8 < (nt0 : Int))) <|
    ldI w (a3.add (xt8.toNat * 1)) .u8 fun x4 =>
    alW w (.cells #[.int .u8 x4] 5) fun B5 w6 =>
    Runs Tryd.prog (Builtin.append_ #[24, 24] 24 #[.slice At7 nt7 ct7, .slice (some (⟨B5, 0, Option.none⟩ : Addr)) 1 1]) w6 fun v8 w7 => ∃ (A9 : Option Addr) (n9 : Nat) (c9 : Nat), v8 = (.slice A9 n9 c9) ∧ (
    l1 k At0 nt0 ct0 xt2 A9 n9 c9 (IntKind.i64.wrap (xt8 + (1 : Int))) w7 K0)) (
    K0 At7 nt7 ct7 w)) (
    K0 At7 nt7 ct7 w)
def j0 (At0 : Option Addr) (nt0 : Nat) (ct0 : Nat) (xt1 : Int) (xt2 : Int) (At7 : Option Addr) (nt7 : Nat) (ct7 : Nat) (w : World) (Kr : (Option Addr) → Nat → Nat → World → Prop) : Prop :=
  ∃ k12 : Nat, l1 k12 At0 nt0 ct0 xt2 At7 nt7 ct7 xt1 w (fun (A10 : Option Addr) (n10 : Nat) (c10 : Nat) (w11 : World) => ∀ _ : Fr,
  Kr A10 n10 c10 w11)
def wp (Aa0 : Option Addr) (na0 : Nat) (ca0 : Nat) (xa1 : Int) (xa2 : Int) (w : World) (Q : Ending → World → Prop) : Prop :=
  alW w (.cells #[] 5) fun B1 w2 =>
  sel (decide (xa1 < (0 : Int))) (
  j0 Aa0 na0 ca0 (0 : Int) xa2 (some (⟨B1, 0, Option.none⟩ : Addr)) 0 0 w2 (fun (A13 : Option Addr) (n13 : Nat) (c13 : Nat) (w14 : World) => ∀ _ : Fr,
  Q (.returned (.slice A13 n13 c13)) w14)) (
  j0 Aa0 na0 ca0 xa1 xa2 (some (⟨B1, 0, Option.none⟩ : Addr)) 0 0 w2 (fun (A15 : Option Addr) (n15 : Nat) (c15 : Nat) (w16 : World) => ∀ _ : Fr,
  Q (.returned (.slice A15 n15 c15)) w16))
def D : Nat → Option DH := dtab []
def l1LO : LO := ⟨[], [], [(0, [7])], []⟩
def l1Tk (k : Nat) : Spec := fun Q σ w =>
  gSlice (σ 0) fun At0 nt0 ct0 =>
  gInt .i64 (σ 2) fun xt2 =>
  gSlice (σ 7) fun At7 nt7 ct7 =>
  gInt .i64 (σ 8) fun xt8 =>
  l1 k At0 nt0 ct0 xt2 At7 nt7 ct7 xt8 w (fun (Aq7 : Option Addr) (nq7 : Nat) (cq7 : Nat) (w : World) => ∀ d : Fr, Q (.exit 0) (ov d [(7, .slice Aq7 nq7 cq7)]) w)
def l1T : Spec := fun Q σ w => ∃ k, l1Tk k Q σ w
def l1tb : List (List Nat × Spec) := []
noncomputable def l1b : Code := (subC [0, 0, 1, 0, 1, 1, 1] body).getD .skip
theorem l1_eq (k : Nat) (At0 : Option Addr) (nt0 : Nat) (ct0 : Nat) (xt2 : Int) (At7 : Option Addr) (nt7 : Nat) (ct7 : Nat) (xt8 : Int) (Q : PQ) (σ : Fr) (w : World) :
    l1 (k + 1) At0 nt0 ct0 xt2 At7 nt7 ct7 xt8 w (fun (Aq7 : Option Addr) (nq7 : Nat) (cq7 : Nat) (w : World) => ∀ d : Fr, Q (.exit 0) (ov d [(7, .slice Aq7 nq7 cq7)]) w) = codeW Tryd.prog hT 32 D (tab l1tb) [0, 0, 1, 0, 1, 1, 1] l1b (thenQ (l1Tk k Q) (widen l1LO Q)) (ov σ [(0, .slice At0 nt0 ct0), (2, .int .i64 xt2), (7, .slice At7 nt7 ct7), (8, .int .i64 xt8)]) w := by kernel_rfl
theorem l1_snd : ∀ c, subC [0, 1, 0, 1, 1, 1] body = some c → Snd Tryd.prog 32 c l1T := by
  refine loop_of (hT := hT) (D := D) (l := l1tb) (b := l1b) (lo := l1LO) (by kernel_rfl) (by
    intro x hx
    simp only [l1tb, List.not_mem_nil] at hx
    ) (by kernel_rfl) (by kernel_rfl) ?_ ?_
  · intro Q σ w h
    unfold l1Tk at h
    obtain ⟨At0, nt0, ct0, h0, hn⟩ := gSlice_elim h
    clear h
    have h := hn
    clear hn
    obtain ⟨xt2, h2, hn⟩ := gInt_elim h
    clear h
    have h := hn
    clear hn
    obtain ⟨At7, nt7, ct7, h7, hn⟩ := gSlice_elim h
    clear h
    have h := hn
    clear hn
    obtain ⟨xt8, h8, hn⟩ := gInt_elim h
    clear h
    have h := hn
    clear hn
    exact h
  · intro k Q σ w h
    unfold l1Tk at h
    obtain ⟨At0, nt0, ct0, h0, hn⟩ := gSlice_elim h
    clear h
    have h := hn
    clear hn
    obtain ⟨xt2, h2, hn⟩ := gInt_elim h
    clear h
    have h := hn
    clear hn
    obtain ⟨At7, nt7, ct7, h7, hn⟩ := gSlice_elim h
    clear h
    have h := hn
    clear hn
    obtain ⟨xt8, h8, hn⟩ := gInt_elim h
    clear h
    have h := hn
    clear hn
    rw [l1_eq (σ := σ)] at h
    have e : (ov σ [(0, .slice At0 nt0 ct0), (2, .int .i64 xt2), (7, .slice At7 nt7 ct7), (8, .int .i64 xt8)]) = σ := ov_self (by simp [h0, h2, h7, h8])
    rw [e] at h
    exact h
def j0LO : LO := ⟨[], [6], [], []⟩
def j0T : Spec := fun Q σ w =>
  gSlice (σ 0) fun At0 nt0 ct0 =>
  gInt .i64 (σ 1) fun xt1 =>
  gInt .i64 (σ 2) fun xt2 =>
  gSlice (σ 7) fun At7 nt7 ct7 =>
  j0 At0 nt0 ct0 xt1 xt2 At7 nt7 ct7 w (fun (Aq6 : Option Addr) (nq6 : Nat) (cq6 : Nat) (w : World) => ∀ d : Fr, Q .ret (ov d [(6, .slice Aq6 nq6 cq6)]) w)
def j0tb : List (List Nat × Spec) := [([0, 1, 0, 1, 1, 1], l1T)]
noncomputable def j0b : Code := (subC [1, 1, 1] body).getD .skip
theorem j0_eq (At0 : Option Addr) (nt0 : Nat) (ct0 : Nat) (xt1 : Int) (xt2 : Int) (At7 : Option Addr) (nt7 : Nat) (ct7 : Nat) (Q : PQ) (σ : Fr) (w : World) :
    j0 At0 nt0 ct0 xt1 xt2 At7 nt7 ct7 w (fun (Aq6 : Option Addr) (nq6 : Nat) (cq6 : Nat) (w : World) => ∀ d : Fr, Q .ret (ov d [(6, .slice Aq6 nq6 cq6)]) w) = codeW Tryd.prog hT 32 D (tab j0tb) [1, 1, 1] j0b (widen j0LO Q) (ov σ [(0, .slice At0 nt0 ct0), (1, .int .i64 xt1), (2, .int .i64 xt2), (7, .slice At7 nt7 ct7)]) w := by kernel_rfl
theorem j0_snd : ∀ c, subC [1, 1, 1] body = some c → Snd Tryd.prog 32 c j0T := by
  refine cut_of (hT := hT) (D := D) (l := j0tb) (b := j0b) (lo := j0LO) (by kernel_rfl) (by
    intro x hx
    simp only [j0tb, List.mem_cons, List.not_mem_nil, or_false] at hx
    subst hx
    exact l1_snd) (by kernel_rfl) (by kernel_rfl) ?_
  intro Q σ w h
  unfold j0T at h
  obtain ⟨At0, nt0, ct0, h0, hn⟩ := gSlice_elim h
  clear h
  have h := hn
  clear hn
  obtain ⟨xt1, h1, hn⟩ := gInt_elim h
  clear h
  have h := hn
  clear hn
  obtain ⟨xt2, h2, hn⟩ := gInt_elim h
  clear h
  have h := hn
  clear hn
  obtain ⟨At7, nt7, ct7, h7, hn⟩ := gSlice_elim h
  clear h
  have h := hn
  clear hn
  rw [j0_eq (σ := σ)] at h
  have e : (ov σ [(0, .slice At0 nt0 ct0), (1, .int .i64 xt1), (2, .int .i64 xt2), (7, .slice At7 nt7 ct7)]) = σ := ov_self (by simp [h0, h1, h2, h7])
  rw [e] at h
  exact h
def tb : List (List Nat × Spec) := [([0, 1, 0, 1, 1, 1], l1T), ([1, 1, 1], j0T)]
theorem wp_eq (Aa0 : Option Addr) (na0 : Nat) (ca0 : Nat) (xa1 : Int) (xa2 : Int) (w : World) (Q : Ending → World → Prop) :
    wp Aa0 na0 ca0 xa1 xa2 w Q = codeW Tryd.prog hT 32 D (tab tb) [] body (topQ Tryd.prog hT 32 [.tmp 6] Q) (argsF [.slice Aa0 na0 ca0, .int .i64 xa1, .int .i64 xa2]) w := by kernel_rfl
theorem ok (Aa0 : Option Addr) (na0 : Nat) (ca0 : Nat) (xa1 : Int) (xa2 : Int) (w : World) (Q : Ending → World → Prop) (h : wp Aa0 na0 ca0 xa1 xa2 w Q) : Calls Tryd.prog 25 #[.slice Aa0 na0 ca0, .int .i64 xa1, .int .i64 xa2] w Q := by
  rw [wp_eq] at h
  exact calls_of_codeW (c := body) (rs := [.tmp 6]) Tryd.func25 (by kernel_rfl) (by kernel_rfl) (by kernel_rfl) (by kernel_rfl) (by kernel_rfl) (tab_snd (by
    intro x hx
    simp only [tb, List.mem_cons, List.not_mem_nil, or_false] at hx
    rcases hx with rfl | rfl
    · exact l1_snd
    · exact j0_snd)) (by kernel_rfl) h
end f_ref01_Piece
namespace f_ref01_Cat
/-! skein/skeinref01.Cat: function 34 -/
noncomputable def body : Code := (Tryd.f34.body).getD .skip
def l0 : Nat → Option Addr → Nat → Nat → Option Addr → Nat → Nat → Int → World → ((Option Addr) → Nat → Nat → World → Prop) → Prop
  | 0, _, _, _, _, _, _, _, _, _ => False
  | k + 1, At0, nt0, ct0, At5, nt5, ct5, xt6, w, K0 =>
    sel (decide (xt6 < (nt0 : Int))) (
    optB At0 fun a3 =>
    req (decide (0 ≤ xt6 ∧ xt6 < (nt0 : Int))) <|
    ldI w (a3.add (xt6.toNat * 1)) .u8 fun x4 =>
    alW w (.cells #[.int .u8 x4] 5) fun B5 w6 =>
    Runs Tryd.prog (Builtin.append_ #[24, 24] 24 #[.slice At5 nt5 ct5, .slice (some (⟨B5, 0, Option.none⟩ : Addr)) 1 1]) w6 fun v8 w7 => ∃ (A9 : Option Addr) (n9 : Nat) (c9 : Nat), v8 = (.slice A9 n9 c9) ∧ (
    l0 k At0 nt0 ct0 A9 n9 c9 (IntKind.i64.wrap (xt6 + (1 : Int))) w7 K0)) (
    K0 At5 nt5 ct5 w)
def l1 : Nat → Option Addr → Nat → Nat → Option Addr → Nat → Nat → Int → World → ((Option Addr) → Nat → Nat → World → Prop) → Prop
  | 0, _, _, _, _, _, _, _, _, _ => False
  | k + 1, At1, nt1, ct1, At5, nt5, ct5, xt7, w, K2 =>
    sel (decide (xt7 < (nt1 : Int))) (
    optB At1 fun a12 =>
    req (decide (0 ≤ xt7 ∧ xt7 < (nt1 : Int))) <|
    ldI w (a12.add (xt7.toNat * 1)) .u8 fun x13 =>
    alW w (.cells #[.int .u8 x13] 5) fun B14 w15 =>
    Runs Tryd.prog (Builtin.append_ #[24, 24] 24 #[.slice At5 nt5 ct5, .slice (some (⟨B14, 0, Option.none⟩ : Addr)) 1 1]) w15 fun v17 w16 => ∃ (A18 : Option Addr) (n18 : Nat) (c18 : Nat), v17 = (.slice A18 n18 c18) ∧ (
    l1 k At1 nt1 ct1 A18 n18 c18 (IntKind.i64.wrap (xt7 + (1 : Int))) w16 K2)) (
    K2 At5 nt5 ct5 w)
def wp (Aa0 : Option Addr) (na0 : Nat) (ca0 : Nat) (Aa1 : Option Addr) (na1 : Nat) (ca1 : Nat) (w : World) (Q : Ending → World → Prop) : Prop :=
  alW w (.cells #[] 5) fun B1 w2 =>
  ∃ k22 : Nat, l0 k22 Aa0 na0 ca0 (some (⟨B1, 0, Option.none⟩ : Addr)) 0 0 (0 : Int) w2 (fun (A10 : Option Addr) (n10 : Nat) (c10 : Nat) (w11 : World) => ∀ _ : Fr,
  ∃ k21 : Nat, l1 k21 Aa1 na1 ca1 A10 n10 c10 (0 : Int) w11 (fun (A19 : Option Addr) (n19 : Nat) (c19 : Nat) (w20 : World) => ∀ _ : Fr,
  Q (.returned (.slice A19 n19 c19)) w20))
def D : Nat → Option DH := dtab []
def l0LO : LO := ⟨[], [], [(0, [1, 5])], []⟩
def l0Tk (k : Nat) : Spec := fun Q σ w =>
  gSlice (σ 0) fun At0 nt0 ct0 =>
  gSlice (σ 5) fun At5 nt5 ct5 =>
  gInt .i64 (σ 6) fun xt6 =>
  l0 k At0 nt0 ct0 At5 nt5 ct5 xt6 w (fun (Aq5 : Option Addr) (nq5 : Nat) (cq5 : Nat) (w : World) => ∀ d : Fr, Q (.exit 0) (ov d [(1, σ 1), (5, .slice Aq5 nq5 cq5)]) w)
def l0T : Spec := fun Q σ w => ∃ k, l0Tk k Q σ w
def l0tb : List (List Nat × Spec) := []
noncomputable def l0b : Code := (subC [0, 0, 1, 0, 1, 1] body).getD .skip
theorem l0_eq (k : Nat) (At0 : Option Addr) (nt0 : Nat) (ct0 : Nat) (At5 : Option Addr) (nt5 : Nat) (ct5 : Nat) (xt6 : Int) (Q : PQ) (σ : Fr) (w : World) :
    l0 (k + 1) At0 nt0 ct0 At5 nt5 ct5 xt6 w (fun (Aq5 : Option Addr) (nq5 : Nat) (cq5 : Nat) (w : World) => ∀ d : Fr, Q (.exit 0) (ov d [(1, σ 1), (5, .slice Aq5 nq5 cq5)]) w) = codeW Tryd.prog hT 36 D (tab l0tb) [0, 0, 1, 0, 1, 1] l0b (thenQ (l0Tk k Q) (widen l0LO Q)) (ov σ [(0, .slice At0 nt0 ct0), (5, .slice At5 nt5 ct5), (6, .int .i64 xt6)]) w := by kernel_rfl
theorem l0_snd : ∀ c, subC [0, 1, 0, 1, 1] body = some c → Snd Tryd.prog 36 c l0T := by
  refine loop_of (hT := hT) (D := D) (l := l0tb) (b := l0b) (lo := l0LO) (by kernel_rfl) (by
    intro x hx
    simp only [l0tb, List.not_mem_nil] at hx
    ) (by kernel_rfl) (by kernel_rfl) ?_ ?_
  · intro Q σ w h
    unfold l0Tk at h
    obtain ⟨At0, nt0, ct0, h0, hn⟩ := gSlice_elim h
    clear h
    have h := hn
    clear hn
    obtain ⟨At5, nt5, ct5, h5, hn⟩ := gSlice_elim h
    clear h
    have h := hn
    clear hn
    obtain ⟨xt6, h6, hn⟩ := gInt_elim h
    clear h
    have h := hn
    clear hn
    exact h
  · intro k Q σ w h
    unfold l0Tk at h
    obtain ⟨At0, nt0, ct0, h0, hn⟩ := gSlice_elim h
    clear h
    have h := hn
    clear hn
    obtain ⟨At5, nt5, ct5, h5, hn⟩ := gSlice_elim h
    clear h
    have h := hn
    clear hn
    obtain ⟨xt6, h6, hn⟩ := gInt_elim h
    clear h
    have h := hn
    clear hn
    rw [l0_eq (σ := σ)] at h
    have e : (ov σ [(0, .slice At0 nt0 ct0), (5, .slice At5 nt5 ct5), (6, .int .i64 xt6)]) = σ := ov_self (by simp [h0, h5, h6])
    rw [e] at h
    exact h
def l1LO : LO := ⟨[], [], [(2, [5])], []⟩
def l1Tk (k : Nat) : Spec := fun Q σ w =>
  gSlice (σ 1) fun At1 nt1 ct1 =>
  gSlice (σ 5) fun At5 nt5 ct5 =>
  gInt .i64 (σ 7) fun xt7 =>
  l1 k At1 nt1 ct1 At5 nt5 ct5 xt7 w (fun (Aq5 : Option Addr) (nq5 : Nat) (cq5 : Nat) (w : World) => ∀ d : Fr, Q (.exit 2) (ov d [(5, .slice Aq5 nq5 cq5)]) w)
def l1T : Spec := fun Q σ w => ∃ k, l1Tk k Q σ w
def l1tb : List (List Nat × Spec) := []
noncomputable def l1b : Code := (subC [0, 0, 1, 0, 1, 1, 1] body).getD .skip
theorem l1_eq (k : Nat) (At1 : Option Addr) (nt1 : Nat) (ct1 : Nat) (At5 : Option Addr) (nt5 : Nat) (ct5 : Nat) (xt7 : Int) (Q : PQ) (σ : Fr) (w : World) :
    l1 (k + 1) At1 nt1 ct1 At5 nt5 ct5 xt7 w (fun (Aq5 : Option Addr) (nq5 : Nat) (cq5 : Nat) (w : World) => ∀ d : Fr, Q (.exit 2) (ov d [(5, .slice Aq5 nq5 cq5)]) w) = codeW Tryd.prog hT 36 D (tab l1tb) [0, 0, 1, 0, 1, 1, 1] l1b (thenQ (l1Tk k Q) (widen l1LO Q)) (ov σ [(1, .slice At1 nt1 ct1), (5, .slice At5 nt5 ct5), (7, .int .i64 xt7)]) w := by kernel_rfl
theorem l1_snd : ∀ c, subC [0, 1, 0, 1, 1, 1] body = some c → Snd Tryd.prog 36 c l1T := by
  refine loop_of (hT := hT) (D := D) (l := l1tb) (b := l1b) (lo := l1LO) (by kernel_rfl) (by
    intro x hx
    simp only [l1tb, List.not_mem_nil] at hx
    ) (by kernel_rfl) (by kernel_rfl) ?_ ?_
  · intro Q σ w h
    unfold l1Tk at h
    obtain ⟨At1, nt1, ct1, h1, hn⟩ := gSlice_elim h
    clear h
    have h := hn
    clear hn
    obtain ⟨At5, nt5, ct5, h5, hn⟩ := gSlice_elim h
    clear h
    have h := hn
    clear hn
    obtain ⟨xt7, h7, hn⟩ := gInt_elim h
    clear h
    have h := hn
    clear hn
    exact h
  · intro k Q σ w h
    unfold l1Tk at h
    obtain ⟨At1, nt1, ct1, h1, hn⟩ := gSlice_elim h
    clear h
    have h := hn
    clear hn
    obtain ⟨At5, nt5, ct5, h5, hn⟩ := gSlice_elim h
    clear h
    have h := hn
    clear hn
    obtain ⟨xt7, h7, hn⟩ := gInt_elim h
    clear h
    have h := hn
    clear hn
    rw [l1_eq (σ := σ)] at h
    have e : (ov σ [(1, .slice At1 nt1 ct1), (5, .slice At5 nt5 ct5), (7, .int .i64 xt7)]) = σ := ov_self (by simp [h1, h5, h7])
    rw [e] at h
    exact h
def tb : List (List Nat × Spec) := [([0, 1, 0, 1, 1], l0T), ([0, 1, 0, 1, 1, 1], l1T)]
theorem wp_eq (Aa0 : Option Addr) (na0 : Nat) (ca0 : Nat) (Aa1 : Option Addr) (na1 : Nat) (ca1 : Nat) (w : World) (Q : Ending → World → Prop) :
    wp Aa0 na0 ca0 Aa1 na1 ca1 w Q = codeW Tryd.prog hT 36 D (tab tb) [] body (topQ Tryd.prog hT 36 [.tmp 4] Q) (argsF [.slice Aa0 na0 ca0, .slice Aa1 na1 ca1]) w := by kernel_rfl
theorem ok (Aa0 : Option Addr) (na0 : Nat) (ca0 : Nat) (Aa1 : Option Addr) (na1 : Nat) (ca1 : Nat) (w : World) (Q : Ending → World → Prop) (h : wp Aa0 na0 ca0 Aa1 na1 ca1 w Q) : Calls Tryd.prog 34 #[.slice Aa0 na0 ca0, .slice Aa1 na1 ca1] w Q := by
  rw [wp_eq] at h
  exact calls_of_codeW (c := body) (rs := [.tmp 4]) Tryd.func34 (by kernel_rfl) (by kernel_rfl) (by kernel_rfl) (by kernel_rfl) (by kernel_rfl) (tab_snd (by
    intro x hx
    simp only [tb, List.mem_cons, List.not_mem_nil, or_false] at hx
    rcases hx with rfl | rfl
    · exact l0_snd
    · exact l1_snd)) (by kernel_rfl) h
end f_ref01_Cat
namespace f_ref01_Spoil
/-! skein/skeinref01.Spoil: function 37 -/
noncomputable def body : Code := (Tryd.f37.body).getD .skip
def l0 : Nat → Option Addr → Nat → Nat → Int → World → (World → Prop) → Prop
  | 0, _, _, _, _, _, _ => False
  | k + 1, At0, nt0, ct0, xt2, w, K0 =>
    sel (decide (xt2 < (nt0 : Int))) (
    optB At0 fun a1 =>
    req (decide (0 ≤ xt2 ∧ xt2 < (nt0 : Int))) <|
    ldI w (a1.add (xt2.toNat * 1)) .u8 fun x2 =>
    optB At0 fun a3 =>
    req (decide (0 ≤ xt2 ∧ xt2 < (nt0 : Int))) <|
    stW w (a3.add (xt2.toNat * 1)) (.int .u8 (bxor .u8 x2 (90 : Int))) fun w4 =>
    l0 k At0 nt0 ct0 (IntKind.i64.wrap (xt2 + (1 : Int))) w4 K0) (
    K0  w)
def wp (Aa0 : Option Addr) (na0 : Nat) (ca0 : Nat) (w : World) (Q : Ending → World → Prop) : Prop :=
  ∃ k6 : Nat, l0 k6 Aa0 na0 ca0 (0 : Int) w (fun (w5 : World) => ∀ _ : Fr,
  Q (.returned (.tuple #[])) w5)
def D : Nat → Option DH := dtab []
def l0LO : LO := ⟨[], [], [(0, [])], []⟩
def l0Tk (k : Nat) : Spec := fun Q σ w =>
  gSlice (σ 0) fun At0 nt0 ct0 =>
  gInt .i64 (σ 2) fun xt2 =>
  l0 k At0 nt0 ct0 xt2 w (fun (w : World) => ∀ d : Fr, Q (.exit 0) (ov d []) w)
def l0T : Spec := fun Q σ w => ∃ k, l0Tk k Q σ w
def l0tb : List (List Nat × Spec) := []
noncomputable def l0b : Code := (subC [0, 0, 1] body).getD .skip
theorem l0_eq (k : Nat) (At0 : Option Addr) (nt0 : Nat) (ct0 : Nat) (xt2 : Int) (Q : PQ) (σ : Fr) (w : World) :
    l0 (k + 1) At0 nt0 ct0 xt2 w (fun (w : World) => ∀ d : Fr, Q (.exit 0) (ov d []) w) = codeW Tryd.prog hT 17 D (tab l0tb) [0, 0, 1] l0b (thenQ (l0Tk k Q) (widen l0LO Q)) (ov σ [(0, .slice At0 nt0 ct0), (2, .int .i64 xt2)]) w := by kernel_rfl
theorem l0_snd : ∀ c, subC [0, 1] body = some c → Snd Tryd.prog 17 c l0T := by
  refine loop_of (hT := hT) (D := D) (l := l0tb) (b := l0b) (lo := l0LO) (by kernel_rfl) (by
    intro x hx
    simp only [l0tb, List.not_mem_nil] at hx
    ) (by kernel_rfl) (by kernel_rfl) ?_ ?_
  · intro Q σ w h
    unfold l0Tk at h
    obtain ⟨At0, nt0, ct0, h0, hn⟩ := gSlice_elim h
    clear h
    have h := hn
    clear hn
    obtain ⟨xt2, h2, hn⟩ := gInt_elim h
    clear h
    have h := hn
    clear hn
    exact h
  · intro k Q σ w h
    unfold l0Tk at h
    obtain ⟨At0, nt0, ct0, h0, hn⟩ := gSlice_elim h
    clear h
    have h := hn
    clear hn
    obtain ⟨xt2, h2, hn⟩ := gInt_elim h
    clear h
    have h := hn
    clear hn
    rw [l0_eq (σ := σ)] at h
    have e : (ov σ [(0, .slice At0 nt0 ct0), (2, .int .i64 xt2)]) = σ := ov_self (by simp [h0, h2])
    rw [e] at h
    exact h
def tb : List (List Nat × Spec) := [([0, 1], l0T)]
theorem wp_eq (Aa0 : Option Addr) (na0 : Nat) (ca0 : Nat) (w : World) (Q : Ending → World → Prop) :
    wp Aa0 na0 ca0 w Q = codeW Tryd.prog hT 17 D (tab tb) [] body (topQ Tryd.prog hT 17 [] Q) (argsF [.slice Aa0 na0 ca0]) w := by kernel_rfl
theorem ok (Aa0 : Option Addr) (na0 : Nat) (ca0 : Nat) (w : World) (Q : Ending → World → Prop) (h : wp Aa0 na0 ca0 w Q) : Calls Tryd.prog 37 #[.slice Aa0 na0 ca0] w Q := by
  rw [wp_eq] at h
  exact calls_of_codeW (c := body) (rs := []) Tryd.func37 (by kernel_rfl) (by kernel_rfl) (by kernel_rfl) (by kernel_rfl) (by kernel_rfl) (tab_snd (by
    intro x hx
    simp only [tb, List.mem_cons, List.not_mem_nil, or_false] at hx
    subst hx
    exact l0_snd)) (by kernel_rfl) h
end f_ref01_Spoil
namespace f_ref01_Turned
/-! skein/skeinref01.Turned: function 38 -/
noncomputable def body : Code := (Tryd.f38.body).getD .skip
def l0 : Nat → Option Addr → Nat → Nat → Option Addr → Nat → Nat → Int → World → (World → Prop) → (Bool → World → Prop) → Prop
  | 0, _, _, _, _, _, _, _, _, _, _ => False
  | k + 1, At0, nt0, ct0, At1, nt1, ct1, xt5, w, K0, Kr =>
    sel (decide (xt5 < (nt1 : Int))) (
    drW w fun w1 =>
    optB At0 fun a3 =>
    req (decide (0 ≤ xt5 ∧ xt5 < (nt0 : Int))) <|
    ldI w1 (a3.add (xt5.toNat * 1)) .u8 fun x4 =>
    optB At1 fun a5 =>
    req (decide (0 ≤ xt5 ∧ xt5 < (nt1 : Int))) <|
    ldI w1 (a5.add (xt5.toNat * 1)) .u8 fun x6 =>
    sel (x4 != (bxor .u8 x6 (90 : Int))) (
    Kr false w1) (
    l0 k At0 nt0 ct0 At1 nt1 ct1 (IntKind.i64.wrap (xt5 + (1 : Int))) w1 K0 Kr)) (
    K0  w)
def wp (Aa0 : Option Addr) (na0 : Nat) (ca0 : Nat) (Aa1 : Option Addr) (na1 : Nat) (ca1 : Nat) (w : World) (Q : Ending → World → Prop) : Prop :=
  sel ((na0 : Int) != (na1 : Int)) (
  Q (.returned (.bool false)) w) (
  ∃ k10 : Nat, l0 k10 Aa0 na0 ca0 Aa1 na1 ca1 (0 : Int) w (fun (w7 : World) => ∀ _ : Fr,
  Q (.returned (.bool true)) w7) (fun (b8 : Bool) (w9 : World) => ∀ _ : Fr,
  Q (.returned (.bool b8)) w9))
def D : Nat → Option DH := dtab [(6, .simple [.fst 0, .fst 1, .fst 2, .fst 3, .fst 4, .fst 5, .fst 6, .fst 7, .fst 8] [.fst 9])]
def l0LO : LO := ⟨[], [4], [(0, [])], []⟩
def l0Tk (k : Nat) : Spec := fun Q σ w =>
  gSlice (σ 0) fun At0 nt0 ct0 =>
  gSlice (σ 1) fun At1 nt1 ct1 =>
  gInt .i64 (σ 5) fun xt5 =>
  l0 k At0 nt0 ct0 At1 nt1 ct1 xt5 w (fun (w : World) => ∀ d : Fr, Q (.exit 0) (ov d []) w) (fun (bq4 : Bool) (w : World) => ∀ d : Fr, Q .ret (ov d [(4, .bool bq4)]) w)
def l0T : Spec := fun Q σ w => ∃ k, l0Tk k Q σ w
def l0tb : List (List Nat × Spec) := []
noncomputable def l0b : Code := (subC [0, 0, 1, 0, 1, 1] body).getD .skip
theorem l0_eq (k : Nat) (At0 : Option Addr) (nt0 : Nat) (ct0 : Nat) (At1 : Option Addr) (nt1 : Nat) (ct1 : Nat) (xt5 : Int) (Q : PQ) (σ : Fr) (w : World) :
    l0 (k + 1) At0 nt0 ct0 At1 nt1 ct1 xt5 w (fun (w : World) => ∀ d : Fr, Q (.exit 0) (ov d []) w) (fun (bq4 : Bool) (w : World) => ∀ d : Fr, Q .ret (ov d [(4, .bool bq4)]) w) = codeW Tryd.prog hT 27 D (tab l0tb) [0, 0, 1, 0, 1, 1] l0b (thenQ (l0Tk k Q) (widen l0LO Q)) (ov σ [(0, .slice At0 nt0 ct0), (1, .slice At1 nt1 ct1), (5, .int .i64 xt5)]) w := by kernel_rfl
theorem l0_snd : ∀ c, subC [0, 1, 0, 1, 1] body = some c → Snd Tryd.prog 27 c l0T := by
  refine loop_of (hT := hT) (D := D) (l := l0tb) (b := l0b) (lo := l0LO) (by kernel_rfl) (by
    intro x hx
    simp only [l0tb, List.not_mem_nil] at hx
    ) (by kernel_rfl) (by kernel_rfl) ?_ ?_
  · intro Q σ w h
    unfold l0Tk at h
    obtain ⟨At0, nt0, ct0, h0, hn⟩ := gSlice_elim h
    clear h
    have h := hn
    clear hn
    obtain ⟨At1, nt1, ct1, h1, hn⟩ := gSlice_elim h
    clear h
    have h := hn
    clear hn
    obtain ⟨xt5, h5, hn⟩ := gInt_elim h
    clear h
    have h := hn
    clear hn
    exact h
  · intro k Q σ w h
    unfold l0Tk at h
    obtain ⟨At0, nt0, ct0, h0, hn⟩ := gSlice_elim h
    clear h
    have h := hn
    clear hn
    obtain ⟨At1, nt1, ct1, h1, hn⟩ := gSlice_elim h
    clear h
    have h := hn
    clear hn
    obtain ⟨xt5, h5, hn⟩ := gInt_elim h
    clear h
    have h := hn
    clear hn
    rw [l0_eq (σ := σ)] at h
    have e : (ov σ [(0, .slice At0 nt0 ct0), (1, .slice At1 nt1 ct1), (5, .int .i64 xt5)]) = σ := ov_self (by simp [h0, h1, h5])
    rw [e] at h
    exact h
def tb : List (List Nat × Spec) := [([0, 1, 0, 1, 1], l0T)]
theorem wp_eq (Aa0 : Option Addr) (na0 : Nat) (ca0 : Nat) (Aa1 : Option Addr) (na1 : Nat) (ca1 : Nat) (w : World) (Q : Ending → World → Prop) :
    wp Aa0 na0 ca0 Aa1 na1 ca1 w Q = codeW Tryd.prog hT 27 D (tab tb) [] body (topQ Tryd.prog hT 27 [.tmp 4] Q) (argsF [.slice Aa0 na0 ca0, .slice Aa1 na1 ca1]) w := by kernel_rfl
theorem ok (Aa0 : Option Addr) (na0 : Nat) (ca0 : Nat) (Aa1 : Option Addr) (na1 : Nat) (ca1 : Nat) (w : World) (Q : Ending → World → Prop) (h : wp Aa0 na0 ca0 Aa1 na1 ca1 w Q) : Calls Tryd.prog 38 #[.slice Aa0 na0 ca0, .slice Aa1 na1 ca1] w Q := by
  rw [wp_eq] at h
  exact calls_of_codeW (c := body) (rs := [.tmp 4]) Tryd.func38 (by kernel_rfl) (by kernel_rfl) (by kernel_rfl) (by kernel_rfl) (by kernel_rfl) (tab_snd (by
    intro x hx
    simp only [tb, List.mem_cons, List.not_mem_nil, or_false] at hx
    subst hx
    exact l0_snd)) (by kernel_rfl) h
end f_ref01_Turned
namespace f_ref01_Copy
/-! skein/skeinref01.Copy: function 40 -/
noncomputable def body : Code := (Tryd.f40.body).getD .skip
def l0 : Nat → Option Addr → Nat → Nat → Option Addr → Nat → Nat → Int → World → ((Option Addr) → Nat → Nat → World → Prop) → Prop
  | 0, _, _, _, _, _, _, _, _, _ => False
  | k + 1, At0, nt0, ct0, At3, nt3, ct3, xt4, w, K0 =>
    sel (decide (xt4 < (nt0 : Int))) (
    optB At0 fun a3 =>
    req (decide (0 ≤ xt4 ∧ xt4 < (nt0 : Int))) <|
    ldI w (a3.add (xt4.toNat * 1)) .u8 fun x4 =>
    alW w (.cells #[.int .u8 x4] 5) fun B5 w6 =>
    Runs Tryd.prog (Builtin.append_ #[24, 24] 24 #[.slice At3 nt3 ct3, .slice (some (⟨B5, 0, Option.none⟩ : Addr)) 1 1]) w6 fun v8 w7 => ∃ (A9 : Option Addr) (n9 : Nat) (c9 : Nat), v8 = (.slice A9 n9 c9) ∧ (
    l0 k At0 nt0 ct0 A9 n9 c9 (IntKind.i64.wrap (xt4 + (1 : Int))) w7 K0)) (
    K0 At3 nt3 ct3 w)
def wp (Aa0 : Option Addr) (na0 : Nat) (ca0 : Nat) (w : World) (Q : Ending → World → Prop) : Prop :=
  alW w (.cells #[] 5) fun B1 w2 =>
  ∃ k12 : Nat, l0 k12 Aa0 na0 ca0 (some (⟨B1, 0, Option.none⟩ : Addr)) 0 0 (0 : Int) w2 (fun (A10 : Option Addr) (n10 : Nat) (c10 : Nat) (w11 : World) => ∀ _ : Fr,
  Q (.returned (.slice A10 n10 c10)) w11)
def D : Nat → Option DH := dtab []
def l0LO : LO := ⟨[], [], [(0, [3])], []⟩
def l0Tk (k : Nat) : Spec := fun Q σ w =>
  gSlice (σ 0) fun At0 nt0 ct0 =>
  gSlice (σ 3) fun At3 nt3 ct3 =>
  gInt .i64 (σ 4) fun xt4 =>
  l0 k At0 nt0 ct0 At3 nt3 ct3 xt4 w (fun (Aq3 : Option Addr) (nq3 : Nat) (cq3 : Nat) (w : World) => ∀ d : Fr, Q (.exit 0) (ov d [(3, .slice Aq3 nq3 cq3)]) w)
def l0T : Spec := fun Q σ w => ∃ k, l0Tk k Q σ w
def l0tb : List (List Nat × Spec) := []
noncomputable def l0b : Code := (subC [0, 0, 1, 0, 1, 1] body).getD .skip
theorem l0_eq (k : Nat) (At0 : Option Addr) (nt0 : Nat) (ct0 : Nat) (At3 : Option Addr) (nt3 : Nat) (ct3 : Nat) (xt4 : Int) (Q : PQ) (σ : Fr) (w : World) :
    l0 (k + 1) At0 nt0 ct0 At3 nt3 ct3 xt4 w (fun (Aq3 : Option Addr) (nq3 : Nat) (cq3 : Nat) (w : World) => ∀ d : Fr, Q (.exit 0) (ov d [(3, .slice Aq3 nq3 cq3)]) w) = codeW Tryd.prog hT 20 D (tab l0tb) [0, 0, 1, 0, 1, 1] l0b (thenQ (l0Tk k Q) (widen l0LO Q)) (ov σ [(0, .slice At0 nt0 ct0), (3, .slice At3 nt3 ct3), (4, .int .i64 xt4)]) w := by kernel_rfl
theorem l0_snd : ∀ c, subC [0, 1, 0, 1, 1] body = some c → Snd Tryd.prog 20 c l0T := by
  refine loop_of (hT := hT) (D := D) (l := l0tb) (b := l0b) (lo := l0LO) (by kernel_rfl) (by
    intro x hx
    simp only [l0tb, List.not_mem_nil] at hx
    ) (by kernel_rfl) (by kernel_rfl) ?_ ?_
  · intro Q σ w h
    unfold l0Tk at h
    obtain ⟨At0, nt0, ct0, h0, hn⟩ := gSlice_elim h
    clear h
    have h := hn
    clear hn
    obtain ⟨At3, nt3, ct3, h3, hn⟩ := gSlice_elim h
    clear h
    have h := hn
    clear hn
    obtain ⟨xt4, h4, hn⟩ := gInt_elim h
    clear h
    have h := hn
    clear hn
    exact h
  · intro k Q σ w h
    unfold l0Tk at h
    obtain ⟨At0, nt0, ct0, h0, hn⟩ := gSlice_elim h
    clear h
    have h := hn
    clear hn
    obtain ⟨At3, nt3, ct3, h3, hn⟩ := gSlice_elim h
    clear h
    have h := hn
    clear hn
    obtain ⟨xt4, h4, hn⟩ := gInt_elim h
    clear h
    have h := hn
    clear hn
    rw [l0_eq (σ := σ)] at h
    have e : (ov σ [(0, .slice At0 nt0 ct0), (3, .slice At3 nt3 ct3), (4, .int .i64 xt4)]) = σ := ov_self (by simp [h0, h3, h4])
    rw [e] at h
    exact h
def tb : List (List Nat × Spec) := [([0, 1, 0, 1, 1], l0T)]
theorem wp_eq (Aa0 : Option Addr) (na0 : Nat) (ca0 : Nat) (w : World) (Q : Ending → World → Prop) :
    wp Aa0 na0 ca0 w Q = codeW Tryd.prog hT 20 D (tab tb) [] body (topQ Tryd.prog hT 20 [.tmp 2] Q) (argsF [.slice Aa0 na0 ca0]) w := by kernel_rfl
theorem ok (Aa0 : Option Addr) (na0 : Nat) (ca0 : Nat) (w : World) (Q : Ending → World → Prop) (h : wp Aa0 na0 ca0 w Q) : Calls Tryd.prog 40 #[.slice Aa0 na0 ca0] w Q := by
  rw [wp_eq] at h
  exact calls_of_codeW (c := body) (rs := [.tmp 2]) Tryd.func40 (by kernel_rfl) (by kernel_rfl) (by kernel_rfl) (by kernel_rfl) (by kernel_rfl) (tab_snd (by
    intro x hx
    simp only [tb, List.mem_cons, List.not_mem_nil, or_false] at hx
    subst hx
    exact l0_snd)) (by kernel_rfl) h
end f_ref01_Copy
namespace f_num_Big
/-! skein/num.Big: function 44 -/
noncomputable def body : Code := (Tryd.f44.body).getD .skip
def l0 : Nat → Addr → Int → Int → World → (World → Prop) → Prop
  | 0, _, _, _, _, _ => False
  | k + 1, at2, xt3, xt8, w, K0 =>
    sel (decide (xt8 < (8 : Int))) (
    req (!decide ((IntKind.u64.wrap (IntKind.i64.wrap ((56 : Int) - (IntKind.i64.wrap ((8 : Int) * xt8))))) < 0)) <|
    req (decide (0 ≤ xt8 ∧ xt8 < ((8 : Nat) : Int))) <|
    stW w (at2.add (xt8.toNat * 1)) (.int .u8 (IntKind.u8.wrap (xt3.fdiv (2 ^ (min (IntKind.u64.wrap (IntKind.i64.wrap ((56 : Int) - (IntKind.i64.wrap ((8 : Int) * xt8))))).toNat 64))))) fun w3 =>
    l0 k at2 xt3 (IntKind.i64.wrap (xt8 + (1 : Int))) w3 K0) (
    K0  w)
def wp (xa0 : Int) (w : World) (Q : Ending → World → Prop) : Prop :=
  alW w (.cells #[.int .u8 (0 : Int), .int .u8 (0 : Int), .int .u8 (0 : Int), .int .u8 (0 : Int), .int .u8 (0 : Int), .int .u8 (0 : Int), .int .u8 (0 : Int), .int .u8 (0 : Int)] 72) fun B1 w2 =>
  ∃ k29 : Nat, l0 k29 (⟨B1, 0, Option.none⟩ : Addr) (bxor .u64 (IntKind.u64.wrap xa0) (9223372036854775808 : Int)) (0 : Int) w2 (fun (w4 : World) => ∀ _ : Fr,
  ldI w4 (⟨B1, 0, Option.none⟩ : Addr) .u8 fun x5 =>
  ldI w4 ((⟨B1, 0, Option.none⟩ : Addr).add 1) .u8 fun x6 =>
  ldI w4 ((⟨B1, 0, Option.none⟩ : Addr).add 2) .u8 fun x7 =>
  ldI w4 ((⟨B1, 0, Option.none⟩ : Addr).add 3) .u8 fun x8 =>
  ldI w4 ((⟨B1, 0, Option.none⟩ : Addr).add 4) .u8 fun x9 =>
  ldI w4 ((⟨B1, 0, Option.none⟩ : Addr).add 5) .u8 fun x10 =>
  ldI w4 ((⟨B1, 0, Option.none⟩ : Addr).add 6) .u8 fun x11 =>
  ldI w4 ((⟨B1, 0, Option.none⟩ : Addr).add 7) .u8 fun x12 =>
  stW w4 (⟨B1, 0, Option.none⟩ : Addr) (.int .u8 x5) fun w13 =>
  stW w13 ((⟨B1, 0, Option.none⟩ : Addr).add 1) (.int .u8 x6) fun w14 =>
  stW w14 ((⟨B1, 0, Option.none⟩ : Addr).add 2) (.int .u8 x7) fun w15 =>
  stW w15 ((⟨B1, 0, Option.none⟩ : Addr).add 3) (.int .u8 x8) fun w16 =>
  stW w16 ((⟨B1, 0, Option.none⟩ : Addr).add 4) (.int .u8 x9) fun w17 =>
  stW w17 ((⟨B1, 0, Option.none⟩ : Addr).add 5) (.int .u8 x10) fun w18 =>
  stW w18 ((⟨B1, 0, Option.none⟩ : Addr).add 6) (.int .u8 x11) fun w19 =>
  stW w19 ((⟨B1, 0, Option.none⟩ : Addr).add 7) (.int .u8 x12) fun w20 =>
  ldI w20 (⟨B1, 0, Option.none⟩ : Addr) .u8 fun x21 =>
  ldI w20 ((⟨B1, 0, Option.none⟩ : Addr).add 1) .u8 fun x22 =>
  ldI w20 ((⟨B1, 0, Option.none⟩ : Addr).add 2) .u8 fun x23 =>
  ldI w20 ((⟨B1, 0, Option.none⟩ : Addr).add 3) .u8 fun x24 =>
  ldI w20 ((⟨B1, 0, Option.none⟩ : Addr).add 4) .u8 fun x25 =>
  ldI w20 ((⟨B1, 0, Option.none⟩ : Addr).add 5) .u8 fun x26 =>
  ldI w20 ((⟨B1, 0, Option.none⟩ : Addr).add 6) .u8 fun x27 =>
  ldI w20 ((⟨B1, 0, Option.none⟩ : Addr).add 7) .u8 fun x28 =>
  Q (.returned (.agg #[.int .u8 x21, .int .u8 x22, .int .u8 x23, .int .u8 x24, .int .u8 x25, .int .u8 x26, .int .u8 x27, .int .u8 x28])) w20)
def D : Nat → Option DH := dtab []
def l0LO : LO := ⟨[], [], [(0, [2])], []⟩
def l0Tk (k : Nat) : Spec := fun Q σ w =>
  gAd (σ 2) fun at2 =>
  gInt .u64 (σ 3) fun xt3 =>
  gInt .i64 (σ 8) fun xt8 =>
  l0 k at2 xt3 xt8 w (fun (w : World) => ∀ d : Fr, Q (.exit 0) (ov d [(2, .pointer (some at2))]) w)
def l0T : Spec := fun Q σ w => ∃ k, l0Tk k Q σ w
def l0tb : List (List Nat × Spec) := []
noncomputable def l0b : Code := (subC [0, 0, 1, 0, 1, 1] body).getD .skip
theorem l0_eq (k : Nat) (at2 : Addr) (xt3 : Int) (xt8 : Int) (Q : PQ) (σ : Fr) (w : World) :
    l0 (k + 1) at2 xt3 xt8 w (fun (w : World) => ∀ d : Fr, Q (.exit 0) (ov d [(2, .pointer (some at2))]) w) = codeW Tryd.prog hT 22 D (tab l0tb) [0, 0, 1, 0, 1, 1] l0b (thenQ (l0Tk k Q) (widen l0LO Q)) (ov σ [(2, .pointer (some at2)), (3, .int .u64 xt3), (8, .int .i64 xt8)]) w := by kernel_rfl
theorem l0_snd : ∀ c, subC [0, 1, 0, 1, 1] body = some c → Snd Tryd.prog 22 c l0T := by
  refine loop_of (hT := hT) (D := D) (l := l0tb) (b := l0b) (lo := l0LO) (by kernel_rfl) (by
    intro x hx
    simp only [l0tb, List.not_mem_nil] at hx
    ) (by kernel_rfl) (by kernel_rfl) ?_ ?_
  · intro Q σ w h
    unfold l0Tk at h
    obtain ⟨at2, h2, hn⟩ := gAd_elim h
    clear h
    have h := hn
    clear hn
    obtain ⟨xt3, h3, hn⟩ := gInt_elim h
    clear h
    have h := hn
    clear hn
    obtain ⟨xt8, h8, hn⟩ := gInt_elim h
    clear h
    have h := hn
    clear hn
    exact h
  · intro k Q σ w h
    unfold l0Tk at h
    obtain ⟨at2, h2, hn⟩ := gAd_elim h
    clear h
    have h := hn
    clear hn
    obtain ⟨xt3, h3, hn⟩ := gInt_elim h
    clear h
    have h := hn
    clear hn
    obtain ⟨xt8, h8, hn⟩ := gInt_elim h
    clear h
    have h := hn
    clear hn
    rw [l0_eq (σ := σ)] at h
    have e : (ov σ [(2, .pointer (some at2)), (3, .int .u64 xt3), (8, .int .i64 xt8)]) = σ := ov_self (by simp [h2, h3, h8])
    rw [e] at h
    exact h
def tb : List (List Nat × Spec) := [([0, 1, 0, 1, 1], l0T)]
theorem wp_eq (xa0 : Int) (w : World) (Q : Ending → World → Prop) :
    wp xa0 w Q = codeW Tryd.prog hT 22 D (tab tb) [] body (topQ Tryd.prog hT 22 [.cell 2 72] Q) (argsF [.int .i64 xa0]) w := by kernel_rfl
theorem ok (xa0 : Int) (w : World) (Q : Ending → World → Prop) (h : wp xa0 w Q) : Calls Tryd.prog 44 #[.int .i64 xa0] w Q := by
  rw [wp_eq] at h
  exact calls_of_codeW (c := body) (rs := [.cell 2 72]) Tryd.func44 (by kernel_rfl) (by kernel_rfl) (by kernel_rfl) (by kernel_rfl) (by kernel_rfl) (tab_snd (by
    intro x hx
    simp only [tb, List.mem_cons, List.not_mem_nil, or_false] at hx
    subst hx
    exact l0_snd)) (by kernel_rfl) h
end f_num_Big
namespace f_bytes_ReplaceAll
/-! bytes.ReplaceAll: function 45 -/
noncomputable def body : Code := (Tryd.f45.body).getD .skip
def wp (Aa0 : Option Addr) (na0 : Nat) (ca0 : Nat) (Aa1 : Option Addr) (na1 : Nat) (ca1 : Nat) (Aa2 : Option Addr) (na2 : Nat) (ca2 : Nat) (w : World) (Q : Ending → World → Prop) : Prop :=
  Calls Tryd.prog 67 #[.slice Aa0 na0 ca0, .slice Aa1 na1 ca1, .slice Aa2 na2 ca2, .int .i64 (-1 : Int)] w fun e1 w2 => ∃ (A3 : Option Addr) (n3 : Nat) (c3 : Nat), e1 = .returned (.slice A3 n3 c3) ∧ (
  Q (.returned (.slice A3 n3 c3)) w2)
def D : Nat → Option DH := dtab []
def tb : List (List Nat × Spec) := []
theorem wp_eq (Aa0 : Option Addr) (na0 : Nat) (ca0 : Nat) (Aa1 : Option Addr) (na1 : Nat) (ca1 : Nat) (Aa2 : Option Addr) (na2 : Nat) (ca2 : Nat) (w : World) (Q : Ending → World → Prop) :
    wp Aa0 na0 ca0 Aa1 na1 ca1 Aa2 na2 ca2 w Q = codeW Tryd.prog hT 11 D (tab tb) [] body (topQ Tryd.prog hT 11 [.tmp 6] Q) (argsF [.slice Aa0 na0 ca0, .slice Aa1 na1 ca1, .slice Aa2 na2 ca2]) w := by kernel_rfl
theorem ok (Aa0 : Option Addr) (na0 : Nat) (ca0 : Nat) (Aa1 : Option Addr) (na1 : Nat) (ca1 : Nat) (Aa2 : Option Addr) (na2 : Nat) (ca2 : Nat) (w : World) (Q : Ending → World → Prop) (h : wp Aa0 na0 ca0 Aa1 na1 ca1 Aa2 na2 ca2 w Q) : Calls Tryd.prog 45 #[.slice Aa0 na0 ca0, .slice Aa1 na1 ca1, .slice Aa2 na2 ca2] w Q := by
  rw [wp_eq] at h
  exact calls_of_codeW (c := body) (rs := [.tmp 6]) Tryd.func45 (by kernel_rfl) (by kernel_rfl) (by kernel_rfl) (by kernel_rfl) (by kernel_rfl) (tab_snd (by
    intro x hx
    simp only [tb, List.not_mem_nil] at hx
    )) (by kernel_rfl) h
end f_bytes_ReplaceAll
namespace f_ref01_Big
/-! skein/skeinref01.Big: function 46 -/
noncomputable def body : Code := (Tryd.f46.body).getD .skip
def l0 : Nat → Int → Option Addr → Nat → Nat → Int → World → (World → Prop) → Prop
  | 0, _, _, _, _, _, _, _ => False
  | k + 1, xt3, At4, nt4, ct4, xt5, w, K0 =>
    sel (decide (xt5 ≥ (0 : Int))) (
    optB At4 fun a3 =>
    req (decide (0 ≤ xt5 ∧ xt5 < (nt4 : Int))) <|
    stW w (a3.add (xt5.toNat * 1)) (.int .u8 (IntKind.u8.wrap (xt3.tmod (256 : Int)))) fun w4 =>
    l0 k (IntKind.u64.wrap (xt3.tdiv (256 : Int))) At4 nt4 ct4 (IntKind.i64.wrap (xt5 - (1 : Int))) w4 K0) (
    K0  w)
def wp (xa0 : Int) (w : World) (Q : Ending → World → Prop) : Prop :=
  alW w (.cells #[.int .u8 (0 : Int), .int .u8 (0 : Int), .int .u8 (0 : Int), .int .u8 (0 : Int), .int .u8 (0 : Int), .int .u8 (0 : Int), .int .u8 (0 : Int), .int .u8 (0 : Int)] 5) fun B1 w2 =>
  ∃ k6 : Nat, l0 k6 (IntKind.u64.wrap ((IntKind.u64.wrap xa0) + (9223372036854775808 : Int))) (some (⟨B1, 0, Option.none⟩ : Addr)) 8 8 (7 : Int) w2 (fun (w5 : World) => ∀ _ : Fr,
  Q (.returned (.slice (some (⟨B1, 0, Option.none⟩ : Addr)) 8 8)) w5)
def D : Nat → Option DH := dtab []
def l0LO : LO := ⟨[], [], [(0, [4])], []⟩
def l0Tk (k : Nat) : Spec := fun Q σ w =>
  gInt .u64 (σ 3) fun xt3 =>
  gSlice (σ 4) fun At4 nt4 ct4 =>
  gInt .i64 (σ 5) fun xt5 =>
  l0 k xt3 At4 nt4 ct4 xt5 w (fun (w : World) => ∀ d : Fr, Q (.exit 0) (ov d [(4, .slice At4 nt4 ct4)]) w)
def l0T : Spec := fun Q σ w => ∃ k, l0Tk k Q σ w
def l0tb : List (List Nat × Spec) := []
noncomputable def l0b : Code := (subC [0, 0, 1, 0, 1, 1, 1] body).getD .skip
theorem l0_eq (k : Nat) (xt3 : Int) (At4 : Option Addr) (nt4 : Nat) (ct4 : Nat) (xt5 : Int) (Q : PQ) (σ : Fr) (w : World) :
    l0 (k + 1) xt3 At4 nt4 ct4 xt5 w (fun (w : World) => ∀ d : Fr, Q (.exit 0) (ov d [(4, .slice At4 nt4 ct4)]) w) = codeW Tryd.prog hT 23 D (tab l0tb) [0, 0, 1, 0, 1, 1, 1] l0b (thenQ (l0Tk k Q) (widen l0LO Q)) (ov σ [(3, .int .u64 xt3), (4, .slice At4 nt4 ct4), (5, .int .i64 xt5)]) w := by kernel_rfl
theorem l0_snd : ∀ c, subC [0, 1, 0, 1, 1, 1] body = some c → Snd Tryd.prog 23 c l0T := by
  refine loop_of (hT := hT) (D := D) (l := l0tb) (b := l0b) (lo := l0LO) (by kernel_rfl) (by
    intro x hx
    simp only [l0tb, List.not_mem_nil] at hx
    ) (by kernel_rfl) (by kernel_rfl) ?_ ?_
  · intro Q σ w h
    unfold l0Tk at h
    obtain ⟨xt3, h3, hn⟩ := gInt_elim h
    clear h
    have h := hn
    clear hn
    obtain ⟨At4, nt4, ct4, h4, hn⟩ := gSlice_elim h
    clear h
    have h := hn
    clear hn
    obtain ⟨xt5, h5, hn⟩ := gInt_elim h
    clear h
    have h := hn
    clear hn
    exact h
  · intro k Q σ w h
    unfold l0Tk at h
    obtain ⟨xt3, h3, hn⟩ := gInt_elim h
    clear h
    have h := hn
    clear hn
    obtain ⟨At4, nt4, ct4, h4, hn⟩ := gSlice_elim h
    clear h
    have h := hn
    clear hn
    obtain ⟨xt5, h5, hn⟩ := gInt_elim h
    clear h
    have h := hn
    clear hn
    rw [l0_eq (σ := σ)] at h
    have e : (ov σ [(3, .int .u64 xt3), (4, .slice At4 nt4 ct4), (5, .int .i64 xt5)]) = σ := ov_self (by simp [h3, h4, h5])
    rw [e] at h
    exact h
def tb : List (List Nat × Spec) := [([0, 1, 0, 1, 1, 1], l0T)]
theorem wp_eq (xa0 : Int) (w : World) (Q : Ending → World → Prop) :
    wp xa0 w Q = codeW Tryd.prog hT 23 D (tab tb) [] body (topQ Tryd.prog hT 23 [.tmp 2] Q) (argsF [.int .i64 xa0]) w := by kernel_rfl
theorem ok (xa0 : Int) (w : World) (Q : Ending → World → Prop) (h : wp xa0 w Q) : Calls Tryd.prog 46 #[.int .i64 xa0] w Q := by
  rw [wp_eq] at h
  exact calls_of_codeW (c := body) (rs := [.tmp 2]) Tryd.func46 (by kernel_rfl) (by kernel_rfl) (by kernel_rfl) (by kernel_rfl) (by kernel_rfl) (tab_snd (by
    intro x hx
    simp only [tb, List.mem_cons, List.not_mem_nil, or_false] at hx
    subst hx
    exact l0_snd)) (by kernel_rfl) h
end f_ref01_Big
namespace f_num_UnBig
/-! skein/num.UnBig: function 47 -/
noncomputable def body : Code := (Tryd.f47.body).getD .skip
def l0 : Nat → Int → Int → Int → Int → Int → Int → Int → Int → Int → Int → World → (Int → World → Prop) → Prop
  | 0, _, _, _, _, _, _, _, _, _, _, _, _ => False
  | k + 1, xt3, xt6_0, xt6_1, xt6_2, xt6_3, xt6_4, xt6_5, xt6_6, xt6_7, xt7, w, K0 =>
    sel (decide (xt7 < (8 : Int))) (
    req (true && decide (0 ≤ xt7 ∧ xt7 < ((8 : Nat) : Int))) <|
    idxI (#[.int .u8 xt6_0, .int .u8 xt6_1, .int .u8 xt6_2, .int .u8 xt6_3, .int .u8 xt6_4, .int .u8 xt6_5, .int .u8 xt6_6, .int .u8 xt6_7] : Array Value) xt7.toNat .u8 fun x11 =>
    l0 k (bor .u64 (IntKind.u64.wrap (xt3 * 2 ^ 8)) (IntKind.u64.wrap x11)) xt6_0 xt6_1 xt6_2 xt6_3 xt6_4 xt6_5 xt6_6 xt6_7 (IntKind.i64.wrap (xt7 + (1 : Int))) w K0) (
    K0 xt3 w)
def wp (xa0_0 : Int) (xa0_1 : Int) (xa0_2 : Int) (xa0_3 : Int) (xa0_4 : Int) (xa0_5 : Int) (xa0_6 : Int) (xa0_7 : Int) (w : World) (Q : Ending → World → Prop) : Prop :=
  alW w (.cells #[.int .u8 xa0_0, .int .u8 xa0_1, .int .u8 xa0_2, .int .u8 xa0_3, .int .u8 xa0_4, .int .u8 xa0_5, .int .u8 xa0_6, .int .u8 xa0_7] 72) fun B1 w2 =>
  ldI w2 (⟨B1, 0, Option.none⟩ : Addr) .u8 fun x3 =>
  ldI w2 ((⟨B1, 0, Option.none⟩ : Addr).add 1) .u8 fun x4 =>
  ldI w2 ((⟨B1, 0, Option.none⟩ : Addr).add 2) .u8 fun x5 =>
  ldI w2 ((⟨B1, 0, Option.none⟩ : Addr).add 3) .u8 fun x6 =>
  ldI w2 ((⟨B1, 0, Option.none⟩ : Addr).add 4) .u8 fun x7 =>
  ldI w2 ((⟨B1, 0, Option.none⟩ : Addr).add 5) .u8 fun x8 =>
  ldI w2 ((⟨B1, 0, Option.none⟩ : Addr).add 6) .u8 fun x9 =>
  ldI w2 ((⟨B1, 0, Option.none⟩ : Addr).add 7) .u8 fun x10 =>
  ∃ k14 : Nat, l0 k14 (0 : Int) x3 x4 x5 x6 x7 x8 x9 x10 (0 : Int) w2 (fun (x12 : Int) (w13 : World) => ∀ _ : Fr,
  Q (.returned (.int .i64 (IntKind.i64.wrap (bxor .u64 x12 (9223372036854775808 : Int))))) w13)
def D : Nat → Option DH := dtab []
def l0LO : LO := ⟨[], [], [(0, [3])], []⟩
def l0Tk (k : Nat) : Spec := fun Q σ w =>
  gInt .u64 (σ 3) fun xt3 =>
  gAgg (σ 6) fun l15 =>
  gCons l15 fun h24 l16 =>
  gInt .u8 h24 fun xt6_0 =>
  gCons l16 fun h25 l17 =>
  gInt .u8 h25 fun xt6_1 =>
  gCons l17 fun h26 l18 =>
  gInt .u8 h26 fun xt6_2 =>
  gCons l18 fun h27 l19 =>
  gInt .u8 h27 fun xt6_3 =>
  gCons l19 fun h28 l20 =>
  gInt .u8 h28 fun xt6_4 =>
  gCons l20 fun h29 l21 =>
  gInt .u8 h29 fun xt6_5 =>
  gCons l21 fun h30 l22 =>
  gInt .u8 h30 fun xt6_6 =>
  gCons l22 fun h31 l23 =>
  gInt .u8 h31 fun xt6_7 =>
  gNil l23 <|
  gInt .i64 (σ 7) fun xt7 =>
  l0 k xt3 xt6_0 xt6_1 xt6_2 xt6_3 xt6_4 xt6_5 xt6_6 xt6_7 xt7 w (fun (xq3 : Int) (w : World) => ∀ d : Fr, Q (.exit 0) (ov d [(3, .int .u64 xq3)]) w)
def l0T : Spec := fun Q σ w => ∃ k, l0Tk k Q σ w
def l0tb : List (List Nat × Spec) := []
noncomputable def l0b : Code := (subC [0, 0, 1, 0, 1, 1] body).getD .skip
theorem l0_eq (k : Nat) (xt3 : Int) (xt6_0 : Int) (xt6_1 : Int) (xt6_2 : Int) (xt6_3 : Int) (xt6_4 : Int) (xt6_5 : Int) (xt6_6 : Int) (xt6_7 : Int) (xt7 : Int) (Q : PQ) (σ : Fr) (w : World) :
    l0 (k + 1) xt3 xt6_0 xt6_1 xt6_2 xt6_3 xt6_4 xt6_5 xt6_6 xt6_7 xt7 w (fun (xq3 : Int) (w : World) => ∀ d : Fr, Q (.exit 0) (ov d [(3, .int .u64 xq3)]) w) = codeW Tryd.prog hT 19 D (tab l0tb) [0, 0, 1, 0, 1, 1] l0b (thenQ (l0Tk k Q) (widen l0LO Q)) (ov σ [(3, .int .u64 xt3), (6, .agg #[.int .u8 xt6_0, .int .u8 xt6_1, .int .u8 xt6_2, .int .u8 xt6_3, .int .u8 xt6_4, .int .u8 xt6_5, .int .u8 xt6_6, .int .u8 xt6_7]), (7, .int .i64 xt7)]) w := by kernel_rfl
theorem l0_snd : ∀ c, subC [0, 1, 0, 1, 1] body = some c → Snd Tryd.prog 19 c l0T := by
  refine loop_of (hT := hT) (D := D) (l := l0tb) (b := l0b) (lo := l0LO) (by kernel_rfl) (by
    intro x hx
    simp only [l0tb, List.not_mem_nil] at hx
    ) (by kernel_rfl) (by kernel_rfl) ?_ ?_
  · intro Q σ w h
    unfold l0Tk at h
    obtain ⟨xt3, h3, hn⟩ := gInt_elim h
    clear h
    have h := hn
    clear hn
    obtain ⟨lh6, h6, hn⟩ := gAgg_elim h
    clear h
    have h := hn
    clear hn
    obtain ⟨hdh6_0, tlh6_0, eh6_0, hn⟩ := gCons_elim h
    clear h
    have h := hn
    clear hn
    subst eh6_0
    obtain ⟨xt6_0, fh6_0, hn⟩ := gInt_elim h
    clear h
    have h := hn
    clear hn
    subst fh6_0
    obtain ⟨hdh6_1, tlh6_1, eh6_1, hn⟩ := gCons_elim h
    clear h
    have h := hn
    clear hn
    subst eh6_1
    obtain ⟨xt6_1, fh6_1, hn⟩ := gInt_elim h
    clear h
    have h := hn
    clear hn
    subst fh6_1
    obtain ⟨hdh6_2, tlh6_2, eh6_2, hn⟩ := gCons_elim h
    clear h
    have h := hn
    clear hn
    subst eh6_2
    obtain ⟨xt6_2, fh6_2, hn⟩ := gInt_elim h
    clear h
    have h := hn
    clear hn
    subst fh6_2
    obtain ⟨hdh6_3, tlh6_3, eh6_3, hn⟩ := gCons_elim h
    clear h
    have h := hn
    clear hn
    subst eh6_3
    obtain ⟨xt6_3, fh6_3, hn⟩ := gInt_elim h
    clear h
    have h := hn
    clear hn
    subst fh6_3
    obtain ⟨hdh6_4, tlh6_4, eh6_4, hn⟩ := gCons_elim h
    clear h
    have h := hn
    clear hn
    subst eh6_4
    obtain ⟨xt6_4, fh6_4, hn⟩ := gInt_elim h
    clear h
    have h := hn
    clear hn
    subst fh6_4
    obtain ⟨hdh6_5, tlh6_5, eh6_5, hn⟩ := gCons_elim h
    clear h
    have h := hn
    clear hn
    subst eh6_5
    obtain ⟨xt6_5, fh6_5, hn⟩ := gInt_elim h
    clear h
    have h := hn
    clear hn
    subst fh6_5
    obtain ⟨hdh6_6, tlh6_6, eh6_6, hn⟩ := gCons_elim h
    clear h
    have h := hn
    clear hn
    subst eh6_6
    obtain ⟨xt6_6, fh6_6, hn⟩ := gInt_elim h
    clear h
    have h := hn
    clear hn
    subst fh6_6
    obtain ⟨hdh6_7, tlh6_7, eh6_7, hn⟩ := gCons_elim h
    clear h
    have h := hn
    clear hn
    subst eh6_7
    obtain ⟨xt6_7, fh6_7, hn⟩ := gInt_elim h
    clear h
    have h := hn
    clear hn
    subst fh6_7
    obtain ⟨eh6, hn⟩ := gNil_elim h
    clear h
    have h := hn
    clear hn
    subst eh6
    obtain ⟨xt7, h7, hn⟩ := gInt_elim h
    clear h
    have h := hn
    clear hn
    exact h
  · intro k Q σ w h
    unfold l0Tk at h
    obtain ⟨xt3, h3, hn⟩ := gInt_elim h
    clear h
    have h := hn
    clear hn
    obtain ⟨lh6, h6, hn⟩ := gAgg_elim h
    clear h
    have h := hn
    clear hn
    obtain ⟨hdh6_0, tlh6_0, eh6_0, hn⟩ := gCons_elim h
    clear h
    have h := hn
    clear hn
    subst eh6_0
    obtain ⟨xt6_0, fh6_0, hn⟩ := gInt_elim h
    clear h
    have h := hn
    clear hn
    subst fh6_0
    obtain ⟨hdh6_1, tlh6_1, eh6_1, hn⟩ := gCons_elim h
    clear h
    have h := hn
    clear hn
    subst eh6_1
    obtain ⟨xt6_1, fh6_1, hn⟩ := gInt_elim h
    clear h
    have h := hn
    clear hn
    subst fh6_1
    obtain ⟨hdh6_2, tlh6_2, eh6_2, hn⟩ := gCons_elim h
    clear h
    have h := hn
    clear hn
    subst eh6_2
    obtain ⟨xt6_2, fh6_2, hn⟩ := gInt_elim h
    clear h
    have h := hn
    clear hn
    subst fh6_2
    obtain ⟨hdh6_3, tlh6_3, eh6_3, hn⟩ := gCons_elim h
    clear h
    have h := hn
    clear hn
    subst eh6_3
    obtain ⟨xt6_3, fh6_3, hn⟩ := gInt_elim h
    clear h
    have h := hn
    clear hn
    subst fh6_3
    obtain ⟨hdh6_4, tlh6_4, eh6_4, hn⟩ := gCons_elim h
    clear h
    have h := hn
    clear hn
    subst eh6_4
    obtain ⟨xt6_4, fh6_4, hn⟩ := gInt_elim h
    clear h
    have h := hn
    clear hn
    subst fh6_4
    obtain ⟨hdh6_5, tlh6_5, eh6_5, hn⟩ := gCons_elim h
    clear h
    have h := hn
    clear hn
    subst eh6_5
    obtain ⟨xt6_5, fh6_5, hn⟩ := gInt_elim h
    clear h
    have h := hn
    clear hn
    subst fh6_5
    obtain ⟨hdh6_6, tlh6_6, eh6_6, hn⟩ := gCons_elim h
    clear h
    have h := hn
    clear hn
    subst eh6_6
    obtain ⟨xt6_6, fh6_6, hn⟩ := gInt_elim h
    clear h
    have h := hn
    clear hn
    subst fh6_6
    obtain ⟨hdh6_7, tlh6_7, eh6_7, hn⟩ := gCons_elim h
    clear h
    have h := hn
    clear hn
    subst eh6_7
    obtain ⟨xt6_7, fh6_7, hn⟩ := gInt_elim h
    clear h
    have h := hn
    clear hn
    subst fh6_7
    obtain ⟨eh6, hn⟩ := gNil_elim h
    clear h
    have h := hn
    clear hn
    subst eh6
    obtain ⟨xt7, h7, hn⟩ := gInt_elim h
    clear h
    have h := hn
    clear hn
    rw [l0_eq (σ := σ)] at h
    have e : (ov σ [(3, .int .u64 xt3), (6, .agg #[.int .u8 xt6_0, .int .u8 xt6_1, .int .u8 xt6_2, .int .u8 xt6_3, .int .u8 xt6_4, .int .u8 xt6_5, .int .u8 xt6_6, .int .u8 xt6_7]), (7, .int .i64 xt7)]) = σ := ov_self (by simp [h3, h6, h7])
    rw [e] at h
    exact h
def tb : List (List Nat × Spec) := [([0, 1, 0, 1, 1], l0T)]
theorem wp_eq (xa0_0 : Int) (xa0_1 : Int) (xa0_2 : Int) (xa0_3 : Int) (xa0_4 : Int) (xa0_5 : Int) (xa0_6 : Int) (xa0_7 : Int) (w : World) (Q : Ending → World → Prop) :
    wp xa0_0 xa0_1 xa0_2 xa0_3 xa0_4 xa0_5 xa0_6 xa0_7 w Q = codeW Tryd.prog hT 19 D (tab tb) [] body (topQ Tryd.prog hT 19 [.tmp 2] Q) (argsF [.agg #[.int .u8 xa0_0, .int .u8 xa0_1, .int .u8 xa0_2, .int .u8 xa0_3, .int .u8 xa0_4, .int .u8 xa0_5, .int .u8 xa0_6, .int .u8 xa0_7]]) w := by kernel_rfl
theorem ok (xa0_0 : Int) (xa0_1 : Int) (xa0_2 : Int) (xa0_3 : Int) (xa0_4 : Int) (xa0_5 : Int) (xa0_6 : Int) (xa0_7 : Int) (w : World) (Q : Ending → World → Prop) (h : wp xa0_0 xa0_1 xa0_2 xa0_3 xa0_4 xa0_5 xa0_6 xa0_7 w Q) : Calls Tryd.prog 47 #[.agg #[.int .u8 xa0_0, .int .u8 xa0_1, .int .u8 xa0_2, .int .u8 xa0_3, .int .u8 xa0_4, .int .u8 xa0_5, .int .u8 xa0_6, .int .u8 xa0_7]] w Q := by
  rw [wp_eq] at h
  exact calls_of_codeW (c := body) (rs := [.tmp 2]) Tryd.func47 (by kernel_rfl) (by kernel_rfl) (by kernel_rfl) (by kernel_rfl) (by kernel_rfl) (tab_snd (by
    intro x hx
    simp only [tb, List.mem_cons, List.not_mem_nil, or_false] at hx
    subst hx
    exact l0_snd)) (by kernel_rfl) h
end f_num_UnBig
namespace f_bytes_Equal
/-! bytes.Equal: function 48 -/
noncomputable def body : Code := (Tryd.f48.body).getD .skip
def wp (Aa0 : Option Addr) (na0 : Nat) (ca0 : Nat) (Aa1 : Option Addr) (na1 : Nat) (ca1 : Nat) (w : World) (Q : Ending → World → Prop) : Prop :=
  Runs Tryd.prog (Go.convert 24 9 (.slice Aa0 na0 ca0)) w fun v2 w1 => ∃ (s3 : ByteArray), v2 = (.string s3) ∧ (
  Runs Tryd.prog (Go.convert 24 9 (.slice Aa1 na1 ca1)) w1 fun v5 w4 => ∃ (s6 : ByteArray), v5 = (.string s6) ∧ (
  Q (.returned (.bool (s3.toList == s6.toList))) w4))
def D : Nat → Option DH := dtab []
def tb : List (List Nat × Spec) := []
theorem wp_eq (Aa0 : Option Addr) (na0 : Nat) (ca0 : Nat) (Aa1 : Option Addr) (na1 : Nat) (ca1 : Nat) (w : World) (Q : Ending → World → Prop) :
    wp Aa0 na0 ca0 Aa1 na1 ca1 w Q = codeW Tryd.prog hT 10 D (tab tb) [] body (topQ Tryd.prog hT 10 [.tmp 4] Q) (argsF [.slice Aa0 na0 ca0, .slice Aa1 na1 ca1]) w := by kernel_rfl
theorem ok (Aa0 : Option Addr) (na0 : Nat) (ca0 : Nat) (Aa1 : Option Addr) (na1 : Nat) (ca1 : Nat) (w : World) (Q : Ending → World → Prop) (h : wp Aa0 na0 ca0 Aa1 na1 ca1 w Q) : Calls Tryd.prog 48 #[.slice Aa0 na0 ca0, .slice Aa1 na1 ca1] w Q := by
  rw [wp_eq] at h
  exact calls_of_codeW (c := body) (rs := [.tmp 4]) Tryd.func48 (by kernel_rfl) (by kernel_rfl) (by kernel_rfl) (by kernel_rfl) (by kernel_rfl) (tab_snd (by
    intro x hx
    simp only [tb, List.not_mem_nil] at hx
    )) (by kernel_rfl) h
end f_bytes_Equal
namespace f_num_PutS
/-! skein/num.PutS: function 49 -/
noncomputable def body : Code := (Tryd.f49.body).getD .skip
def wp (xa0 : Int) (w : World) (Q : Ending → World → Prop) : Prop :=
  Calls Tryd.prog 56 #[.int .u64 (bxor .u64 (IntKind.u64.wrap (IntKind.i64.wrap (xa0 * 2 ^ 1))) (IntKind.u64.wrap (xa0.fdiv (2 ^ 63))))] w fun e1 w2 => ∃ (A3 : Option Addr) (n3 : Nat) (c3 : Nat), e1 = .returned (.slice A3 n3 c3) ∧ (
  Q (.returned (.slice A3 n3 c3)) w2)
def D : Nat → Option DH := dtab []
def tb : List (List Nat × Spec) := []
theorem wp_eq (xa0 : Int) (w : World) (Q : Ending → World → Prop) :
    wp xa0 w Q = codeW Tryd.prog hT 11 D (tab tb) [] body (topQ Tryd.prog hT 11 [.tmp 2] Q) (argsF [.int .i64 xa0]) w := by kernel_rfl
theorem ok (xa0 : Int) (w : World) (Q : Ending → World → Prop) (h : wp xa0 w Q) : Calls Tryd.prog 49 #[.int .i64 xa0] w Q := by
  rw [wp_eq] at h
  exact calls_of_codeW (c := body) (rs := [.tmp 2]) Tryd.func49 (by kernel_rfl) (by kernel_rfl) (by kernel_rfl) (by kernel_rfl) (by kernel_rfl) (tab_snd (by
    intro x hx
    simp only [tb, List.not_mem_nil] at hx
    )) (by kernel_rfl) h
end f_num_PutS
namespace f_num_GetS
/-! skein/num.GetS: function 52 -/
noncomputable def body : Code := (Tryd.f52.body).getD .skip
def wp (Aa0 : Option Addr) (na0 : Nat) (ca0 : Nat) (xa1 : Int) (w : World) (Q : Ending → World → Prop) : Prop :=
  Calls Tryd.prog 57 #[.slice Aa0 na0 ca0, .int .i64 xa1] w fun e1 w2 => ∃ (x3_0 : Int) (x3_1 : Int) (x3_2 : Int), e1 = .returned (.tuple #[.int .u64 x3_0, .int .i64 x3_1, .int .i64 x3_2]) ∧ (
  Q (.returned (.tuple #[.int .i64 (bxor .i64 (IntKind.i64.wrap (x3_0.fdiv (2 ^ 1))) (IntKind.i64.wrap (0 - (IntKind.i64.wrap (band .u64 x3_0 (1 : Int)))))), .int .i64 x3_1, .int .i64 x3_2])) w2)
def D : Nat → Option DH := dtab []
def tb : List (List Nat × Spec) := []
theorem wp_eq (Aa0 : Option Addr) (na0 : Nat) (ca0 : Nat) (xa1 : Int) (w : World) (Q : Ending → World → Prop) :
    wp Aa0 na0 ca0 xa1 w Q = codeW Tryd.prog hT 27 D (tab tb) [] body (topQ Tryd.prog hT 27 [.tmp 4, .tmp 5, .tmp 6] Q) (argsF [.slice Aa0 na0 ca0, .int .i64 xa1]) w := by kernel_rfl
theorem ok (Aa0 : Option Addr) (na0 : Nat) (ca0 : Nat) (xa1 : Int) (w : World) (Q : Ending → World → Prop) (h : wp Aa0 na0 ca0 xa1 w Q) : Calls Tryd.prog 52 #[.slice Aa0 na0 ca0, .int .i64 xa1] w Q := by
  rw [wp_eq] at h
  exact calls_of_codeW (c := body) (rs := [.tmp 4, .tmp 5, .tmp 6]) Tryd.func52 (by kernel_rfl) (by kernel_rfl) (by kernel_rfl) (by kernel_rfl) (by kernel_rfl) (tab_snd (by
    intro x hx
    simp only [tb, List.not_mem_nil] at hx
    )) (by kernel_rfl) h
end f_num_GetS
namespace f_num_Put
/-! skein/num.Put: function 56 -/
noncomputable def body : Code := (Tryd.f56.body).getD .skip
def l0 : Nat → Int → Option Addr → Nat → Nat → World → (Int → (Option Addr) → Nat → Nat → World → Prop) → Prop
  | 0, _, _, _, _, _, _ => False
  | k + 1, xt0, At3, nt3, ct3, w, K0 =>
    sel (decide (xt0 ≥ (128 : Int))) (
    alW w (.cells #[.int .u8 (bor .u8 (IntKind.u8.wrap xt0) (128 : Int))] 5) fun B1 w2 =>
    Runs Tryd.prog (Builtin.append_ #[24, 24] 24 #[.slice At3 nt3 ct3, .slice (some (⟨B1, 0, Option.none⟩ : Addr)) 1 1]) w2 fun v4 w3 => ∃ (A5 : Option Addr) (n5 : Nat) (c5 : Nat), v4 = (.slice A5 n5 c5) ∧ (
    l0 k (xt0.fdiv (2 ^ 7)) A5 n5 c5 w3 K0)) (
    K0 xt0 At3 nt3 ct3 w)
def wp (xa0 : Int) (w : World) (Q : Ending → World → Prop) : Prop :=
  ∃ k14 : Nat, l0 k14 xa0 none 0 0 w (fun (x6 : Int) (A7 : Option Addr) (n7 : Nat) (c7 : Nat) (w8 : World) => ∀ _ : Fr,
  alW w8 (.cells #[.int .u8 (IntKind.u8.wrap x6)] 5) fun B9 w10 =>
  Runs Tryd.prog (Builtin.append_ #[24, 24] 24 #[.slice A7 n7 c7, .slice (some (⟨B9, 0, Option.none⟩ : Addr)) 1 1]) w10 fun v12 w11 => ∃ (A13 : Option Addr) (n13 : Nat) (c13 : Nat), v12 = (.slice A13 n13 c13) ∧ (
  Q (.returned (.slice A13 n13 c13)) w11))
def D : Nat → Option DH := dtab []
def l0LO : LO := ⟨[], [], [(0, [0, 3])], []⟩
def l0Tk (k : Nat) : Spec := fun Q σ w =>
  gInt .u64 (σ 0) fun xt0 =>
  gSlice (σ 3) fun At3 nt3 ct3 =>
  l0 k xt0 At3 nt3 ct3 w (fun (xq0 : Int) (Aq3 : Option Addr) (nq3 : Nat) (cq3 : Nat) (w : World) => ∀ d : Fr, Q (.exit 0) (ov d [(0, .int .u64 xq0), (3, .slice Aq3 nq3 cq3)]) w)
def l0T : Spec := fun Q σ w => ∃ k, l0Tk k Q σ w
def l0tb : List (List Nat × Spec) := []
noncomputable def l0b : Code := (subC [0, 0, 0, 1, 1] body).getD .skip
theorem l0_eq (k : Nat) (xt0 : Int) (At3 : Option Addr) (nt3 : Nat) (ct3 : Nat) (Q : PQ) (σ : Fr) (w : World) :
    l0 (k + 1) xt0 At3 nt3 ct3 w (fun (xq0 : Int) (Aq3 : Option Addr) (nq3 : Nat) (cq3 : Nat) (w : World) => ∀ d : Fr, Q (.exit 0) (ov d [(0, .int .u64 xq0), (3, .slice Aq3 nq3 cq3)]) w) = codeW Tryd.prog hT 19 D (tab l0tb) [0, 0, 0, 1, 1] l0b (thenQ (l0Tk k Q) (widen l0LO Q)) (ov σ [(0, .int .u64 xt0), (3, .slice At3 nt3 ct3)]) w := by kernel_rfl
theorem l0_snd : ∀ c, subC [0, 0, 1, 1] body = some c → Snd Tryd.prog 19 c l0T := by
  refine loop_of (hT := hT) (D := D) (l := l0tb) (b := l0b) (lo := l0LO) (by kernel_rfl) (by
    intro x hx
    simp only [l0tb, List.not_mem_nil] at hx
    ) (by kernel_rfl) (by kernel_rfl) ?_ ?_
  · intro Q σ w h
    unfold l0Tk at h
    obtain ⟨xt0, h0, hn⟩ := gInt_elim h
    clear h
    have h := hn
    clear hn
    obtain ⟨At3, nt3, ct3, h3, hn⟩ := gSlice_elim h
    clear h
    have h := hn
    clear hn
    exact h
  · intro k Q σ w h
    unfold l0Tk at h
    obtain ⟨xt0, h0, hn⟩ := gInt_elim h
    clear h
    have h := hn
    clear hn
    obtain ⟨At3, nt3, ct3, h3, hn⟩ := gSlice_elim h
    clear h
    have h := hn
    clear hn
    rw [l0_eq (σ := σ)] at h
    have e : (ov σ [(0, .int .u64 xt0), (3, .slice At3 nt3 ct3)]) = σ := ov_self (by simp [h0, h3])
    rw [e] at h
    exact h
def tb : List (List Nat × Spec) := [([0, 0, 1, 1], l0T)]
theorem wp_eq (xa0 : Int) (w : World) (Q : Ending → World → Prop) :
    wp xa0 w Q = codeW Tryd.prog hT 19 D (tab tb) [] body (topQ Tryd.prog hT 19 [.tmp 2] Q) (argsF [.int .u64 xa0]) w := by kernel_rfl
theorem ok (xa0 : Int) (w : World) (Q : Ending → World → Prop) (h : wp xa0 w Q) : Calls Tryd.prog 56 #[.int .u64 xa0] w Q := by
  rw [wp_eq] at h
  exact calls_of_codeW (c := body) (rs := [.tmp 2]) Tryd.func56 (by kernel_rfl) (by kernel_rfl) (by kernel_rfl) (by kernel_rfl) (by kernel_rfl) (tab_snd (by
    intro x hx
    simp only [tb, List.mem_cons, List.not_mem_nil, or_false] at hx
    subst hx
    exact l0_snd)) (by kernel_rfl) h
end f_num_Put
namespace f_num_Get
/-! skein/num.Get: function 57 -/
noncomputable def body : Code := (Tryd.f57.body).getD .skip
def j1 (At0 : Option Addr) (nt0 : Nat) (ct0 : Nat) (xt1 : Int) (xt7 : Int) (xt8 : Int) (w : World) (Kg0 : Int → Int → World → Prop) (Kr : Int → Int → Int → World → Prop) : Prop :=
  sel (decide (xt8 ≥ (IntKind.i64.wrap ((nt0 : Int) - xt1)))) (
  Kr (0 : Int) (0 : Int) (2 : Int) w) (
  optB At0 fun a1 =>
  req (decide (0 ≤ (IntKind.i64.wrap (xt1 + xt8)) ∧ (IntKind.i64.wrap (xt1 + xt8)) < (nt0 : Int))) <|
  ldI w (a1.add ((IntKind.i64.wrap (xt1 + xt8)).toNat * 1)) .u8 fun x2 =>
  sel (xt8 == (9 : Int)) (
  sel (decide (x2 > (1 : Int))) (
  Kr (0 : Int) (0 : Int) (10 : Int) w) (
  req (!decide ((IntKind.u64.wrap (IntKind.i64.wrap ((7 : Int) * xt8))) < 0)) <|
  sel (decide (x2 ≥ (128 : Int))) (
  Kg0 (bor .u64 xt7 (IntKind.u64.wrap ((IntKind.u64.wrap (band .u8 x2 (127 : Int))) * 2 ^ (min (IntKind.u64.wrap (IntKind.i64.wrap ((7 : Int) * xt8))).toNat 64)))) (IntKind.i64.wrap (xt8 + (1 : Int))) w) (
  sel (x2 == (0 : Int)) (
  sel (decide ((IntKind.i64.wrap (xt8 + (1 : Int))) > (1 : Int))) (
  Kr (0 : Int) (0 : Int) (5 : Int) w) (
  Kr (bor .u64 xt7 (IntKind.u64.wrap ((IntKind.u64.wrap (band .u8 x2 (127 : Int))) * 2 ^ (min (IntKind.u64.wrap (IntKind.i64.wrap ((7 : Int) * xt8))).toNat 64)))) (IntKind.i64.wrap (xt1 + (IntKind.i64.wrap (xt8 + (1 : Int))))) (0 : Int) w)) (
  Kr (bor .u64 xt7 (IntKind.u64.wrap ((IntKind.u64.wrap (band .u8 x2 (127 : Int))) * 2 ^ (min (IntKind.u64.wrap (IntKind.i64.wrap ((7 : Int) * xt8))).toNat 64)))) (IntKind.i64.wrap (xt1 + (IntKind.i64.wrap (xt8 + (1 : Int))))) (0 : Int) w)))) (
  req (!decide ((IntKind.u64.wrap (IntKind.i64.wrap ((7 : Int) * xt8))) < 0)) <|
  sel (decide (x2 ≥ (128 : Int))) (
  Kg0 (bor .u64 xt7 (IntKind.u64.wrap ((IntKind.u64.wrap (band .u8 x2 (127 : Int))) * 2 ^ (min (IntKind.u64.wrap (IntKind.i64.wrap ((7 : Int) * xt8))).toNat 64)))) (IntKind.i64.wrap (xt8 + (1 : Int))) w) (
  sel (x2 == (0 : Int)) (
  sel (decide ((IntKind.i64.wrap (xt8 + (1 : Int))) > (1 : Int))) (
  Kr (0 : Int) (0 : Int) (5 : Int) w) (
  Kr (bor .u64 xt7 (IntKind.u64.wrap ((IntKind.u64.wrap (band .u8 x2 (127 : Int))) * 2 ^ (min (IntKind.u64.wrap (IntKind.i64.wrap ((7 : Int) * xt8))).toNat 64)))) (IntKind.i64.wrap (xt1 + (IntKind.i64.wrap (xt8 + (1 : Int))))) (0 : Int) w)) (
  Kr (bor .u64 xt7 (IntKind.u64.wrap ((IntKind.u64.wrap (band .u8 x2 (127 : Int))) * 2 ^ (min (IntKind.u64.wrap (IntKind.i64.wrap ((7 : Int) * xt8))).toNat 64)))) (IntKind.i64.wrap (xt1 + (IntKind.i64.wrap (xt8 + (1 : Int))))) (0 : Int) w))))
def g0 : Nat → Option Addr → Nat → Nat → Int → Int → Int → World → (Int → Int → Int → World → Prop) → Prop
  | 0, _, _, _, _, _, _, _, _ => False
  | k + 1, At0, nt0, ct0, xt1, xt7, xt8, w, Kr =>
    j1 At0 nt0 ct0 xt1 xt7 xt8 w (fun (xr7 : Int) (xr8 : Int) (w : World) => ∀ _ : Fr,
    g0 k At0 nt0 ct0 xt1 xr7 xr8 w Kr) Kr
def s0 (At0 : Option Addr) (nt0 : Nat) (ct0 : Nat) (xt1 : Int) (w : World) (Kr : Int → Int → Int → World → Prop) : Prop :=
  sel (decide (xt1 < (0 : Int))) (
  Kr (0 : Int) (0 : Int) (1 : Int) w) (
  sel (decide (xt1 > (nt0 : Int))) (
  Kr (0 : Int) (0 : Int) (1 : Int) w) (
  j1 At0 nt0 ct0 xt1 (0 : Int) (0 : Int) w (fun (x3 : Int) (x4 : Int) (w5 : World) => ∀ _ : Fr,
  ∃ k6 : Nat, g0 k6 At0 nt0 ct0 xt1 x3 x4 w5 Kr) (fun (x7 : Int) (x8 : Int) (x9 : Int) (w10 : World) => ∀ _ : Fr,
  Kr x7 x8 x9 w10)))
def wp (Aa0 : Option Addr) (na0 : Nat) (ca0 : Nat) (xa1 : Int) (w : World) (Q : Ending → World → Prop) : Prop :=
  s0 Aa0 na0 ca0 xa1 w (fun (x11 : Int) (x12 : Int) (x13 : Int) (w14 : World) => ∀ _ : Fr,
  Q (.returned (.tuple #[.int .u64 x11, .int .i64 x12, .int .i64 x13])) w14)
def D : Nat → Option DH := dtab []
def j1LO : LO := ⟨[], [4, 5, 6], [], [(0, [0, 1, 7, 8])]⟩
def j1T : Spec := fun Q σ w =>
  gSlice (σ 0) fun At0 nt0 ct0 =>
  gInt .i64 (σ 1) fun xt1 =>
  gInt .u64 (σ 7) fun xt7 =>
  gInt .i64 (σ 8) fun xt8 =>
  j1 At0 nt0 ct0 xt1 xt7 xt8 w (fun (xq7 : Int) (xq8 : Int) (w : World) => ∀ d : Fr, Q (.goto 0) (ov d [(0, .slice At0 nt0 ct0), (1, .int .i64 xt1), (7, .int .u64 xq7), (8, .int .i64 xq8)]) w) (fun (xq4 : Int) (xq5 : Int) (xq6 : Int) (w : World) => ∀ d : Fr, Q .ret (ov d [(4, .int .u64 xq4), (5, .int .i64 xq5), (6, .int .i64 xq6)]) w)
def j1tb : List (List Nat × Spec) := []
noncomputable def j1b : Code := (subC [1, 1, 1, 1, 0, 1] body).getD .skip
theorem j1_eq (At0 : Option Addr) (nt0 : Nat) (ct0 : Nat) (xt1 : Int) (xt7 : Int) (xt8 : Int) (Q : PQ) (σ : Fr) (w : World) :
    j1 At0 nt0 ct0 xt1 xt7 xt8 w (fun (xq7 : Int) (xq8 : Int) (w : World) => ∀ d : Fr, Q (.goto 0) (ov d [(0, .slice At0 nt0 ct0), (1, .int .i64 xt1), (7, .int .u64 xq7), (8, .int .i64 xq8)]) w) (fun (xq4 : Int) (xq5 : Int) (xq6 : Int) (w : World) => ∀ d : Fr, Q .ret (ov d [(4, .int .u64 xq4), (5, .int .i64 xq5), (6, .int .i64 xq6)]) w) = codeW Tryd.prog hT 59 D (tab j1tb) [1, 1, 1, 1, 0, 1] j1b (widen j1LO Q) (ov σ [(0, .slice At0 nt0 ct0), (1, .int .i64 xt1), (7, .int .u64 xt7), (8, .int .i64 xt8)]) w := by kernel_rfl
theorem j1_snd : ∀ c, subC [1, 1, 1, 1, 0, 1] body = some c → Snd Tryd.prog 59 c j1T := by
  refine cut_of (hT := hT) (D := D) (l := j1tb) (b := j1b) (lo := j1LO) (by kernel_rfl) (by
    intro x hx
    simp only [j1tb, List.not_mem_nil] at hx
    ) (by kernel_rfl) (by kernel_rfl) ?_
  intro Q σ w h
  unfold j1T at h
  obtain ⟨At0, nt0, ct0, h0, hn⟩ := gSlice_elim h
  clear h
  have h := hn
  clear hn
  obtain ⟨xt1, h1, hn⟩ := gInt_elim h
  clear h
  have h := hn
  clear hn
  obtain ⟨xt7, h7, hn⟩ := gInt_elim h
  clear h
  have h := hn
  clear hn
  obtain ⟨xt8, h8, hn⟩ := gInt_elim h
  clear h
  have h := hn
  clear hn
  rw [j1_eq (σ := σ)] at h
  have e : (ov σ [(0, .slice At0 nt0 ct0), (1, .int .i64 xt1), (7, .int .u64 xt7), (8, .int .i64 xt8)]) = σ := ov_self (by simp [h0, h1, h7, h8])
  rw [e] at h
  exact h
def s0LO : LO := ⟨[], [4, 5, 6], [], []⟩
def s0T : Spec := fun Q σ w =>
  gSlice (σ 0) fun At0 nt0 ct0 =>
  gInt .i64 (σ 1) fun xt1 =>
  s0 At0 nt0 ct0 xt1 w (fun (xq4 : Int) (xq5 : Int) (xq6 : Int) (w : World) => ∀ d : Fr, Q .ret (ov d [(4, .int .u64 xq4), (5, .int .i64 xq5), (6, .int .i64 xq6)]) w)
def s0tb : List (List Nat × Spec) := [([1, 1, 1, 1, 0, 1], j1T)]
def g0Tk (k : Nat) : Spec := fun Q σ w =>
  gSlice (σ 0) fun At0 nt0 ct0 =>
  gInt .i64 (σ 1) fun xt1 =>
  gInt .u64 (σ 7) fun xt7 =>
  gInt .i64 (σ 8) fun xt8 =>
  g0 k At0 nt0 ct0 xt1 xt7 xt8 w (fun (xq4 : Int) (xq5 : Int) (xq6 : Int) (w : World) => ∀ d : Fr, Q .ret (ov d [(4, .int .u64 xq4), (5, .int .i64 xq5), (6, .int .i64 xq6)]) w)
theorem g0_eq (k : Nat) (At0 : Option Addr) (nt0 : Nat) (ct0 : Nat) (xt1 : Int) (xt7 : Int) (xt8 : Int) (Q : PQ) (σ : Fr) (w : World) :
    g0 (k + 1) At0 nt0 ct0 xt1 xt7 xt8 w (fun (xq4 : Int) (xq5 : Int) (xq6 : Int) (w : World) => ∀ d : Fr, Q .ret (ov d [(4, .int .u64 xq4), (5, .int .i64 xq5), (6, .int .i64 xq6)]) w) = j1T (gotoQ 0 (g0Tk k Q) Q) (ov σ [(0, .slice At0 nt0 ct0), (1, .int .i64 xt1), (7, .int .u64 xt7), (8, .int .i64 xt8)]) w := by kernel_rfl
noncomputable def s0b : Code := (subC [0, 1] body).getD .skip
theorem s0_eq (At0 : Option Addr) (nt0 : Nat) (ct0 : Nat) (xt1 : Int) (Q : PQ) (σ : Fr) (w : World) :
    s0 At0 nt0 ct0 xt1 w (fun (xq4 : Int) (xq5 : Int) (xq6 : Int) (w : World) => ∀ d : Fr, Q .ret (ov d [(4, .int .u64 xq4), (5, .int .i64 xq5), (6, .int .i64 xq6)]) w) = codeW Tryd.prog hT 59 D (tab s0tb) [0, 1] s0b (gotoQ 0 (fun σ w => ∃ k, g0Tk k Q σ w) (widen s0LO Q)) (ov σ [(0, .slice At0 nt0 ct0), (1, .int .i64 xt1)]) w := by kernel_rfl
theorem s0_snd : ∀ c, subC [1] body = some c → Snd Tryd.prog 59 c s0T := by
  refine scope_of (hT := hT) (D := D) (l := s0tb) (b := s0b) (b' := j1b) (pb := [1, 1, 1, 1, 0, 1]) (lb := 0) (Tk := g0Tk) (Tb := j1T) (lo := s0LO) (by kernel_rfl) (by
    intro x hx
    simp only [s0tb, List.mem_cons, List.not_mem_nil, or_false] at hx
    subst hx
    exact j1_snd) (by kernel_rfl) (by kernel_rfl) (by kernel_rfl) (by kernel_rfl) j1_snd ?_ ?_ ?_
  · intro Q σ w h
    unfold g0Tk at h
    obtain ⟨At0, nt0, ct0, h0, hn⟩ := gSlice_elim h
    clear h
    have h := hn
    clear hn
    obtain ⟨xt1, h1, hn⟩ := gInt_elim h
    clear h
    have h := hn
    clear hn
    obtain ⟨xt7, h7, hn⟩ := gInt_elim h
    clear h
    have h := hn
    clear hn
    obtain ⟨xt8, h8, hn⟩ := gInt_elim h
    clear h
    have h := hn
    clear hn
    exact h
  · intro k Q σ w h
    unfold g0Tk at h
    obtain ⟨At0, nt0, ct0, h0, hn⟩ := gSlice_elim h
    clear h
    have h := hn
    clear hn
    obtain ⟨xt1, h1, hn⟩ := gInt_elim h
    clear h
    have h := hn
    clear hn
    obtain ⟨xt7, h7, hn⟩ := gInt_elim h
    clear h
    have h := hn
    clear hn
    obtain ⟨xt8, h8, hn⟩ := gInt_elim h
    clear h
    have h := hn
    clear hn
    rw [g0_eq (σ := σ)] at h
    have e : (ov σ [(0, .slice At0 nt0 ct0), (1, .int .i64 xt1), (7, .int .u64 xt7), (8, .int .i64 xt8)]) = σ := ov_self (by simp [h0, h1, h7, h8])
    rw [e] at h
    exact h
  · intro Q σ w h
    unfold s0T at h
    obtain ⟨At0, nt0, ct0, h0, hn⟩ := gSlice_elim h
    clear h
    have h := hn
    clear hn
    obtain ⟨xt1, h1, hn⟩ := gInt_elim h
    clear h
    have h := hn
    clear hn
    rw [s0_eq (σ := σ)] at h
    have e : (ov σ [(0, .slice At0 nt0 ct0), (1, .int .i64 xt1)]) = σ := ov_self (by simp [h0, h1])
    rw [e] at h
    exact h
def tb : List (List Nat × Spec) := [([1, 1, 1, 1, 0, 1], j1T), ([1], s0T)]
theorem wp_eq (Aa0 : Option Addr) (na0 : Nat) (ca0 : Nat) (xa1 : Int) (w : World) (Q : Ending → World → Prop) :
    wp Aa0 na0 ca0 xa1 w Q = codeW Tryd.prog hT 59 D (tab tb) [] body (topQ Tryd.prog hT 59 [.tmp 4, .tmp 5, .tmp 6] Q) (argsF [.slice Aa0 na0 ca0, .int .i64 xa1]) w := by kernel_rfl
theorem ok (Aa0 : Option Addr) (na0 : Nat) (ca0 : Nat) (xa1 : Int) (w : World) (Q : Ending → World → Prop) (h : wp Aa0 na0 ca0 xa1 w Q) : Calls Tryd.prog 57 #[.slice Aa0 na0 ca0, .int .i64 xa1] w Q := by
  rw [wp_eq] at h
  exact calls_of_codeW (c := body) (rs := [.tmp 4, .tmp 5, .tmp 6]) Tryd.func57 (by kernel_rfl) (by kernel_rfl) (by kernel_rfl) (by kernel_rfl) (by kernel_rfl) (tab_snd (by
    intro x hx
    simp only [tb, List.mem_cons, List.not_mem_nil, or_false] at hx
    rcases hx with rfl | rfl
    · exact j1_snd
    · exact s0_snd)) (by kernel_rfl) h
end f_num_Get
namespace f_bytes_Replace
/-! bytes.Replace: function 67 -/
noncomputable def body : Code := (Tryd.f67.body).getD .skip
def l2 : Nat → Option Addr → Nat → Nat → Option Addr → Nat → Nat → Option Addr → Nat → Nat → Option Addr → Nat → Nat → Int → Int → Int → Int → World → (Int → Int → World → Prop) → Prop
  | 0, _, _, _, _, _, _, _, _, _, _, _, _, _, _, _, _, _, _ => False
  | k + 1, At0, nt0, ct0, At1, nt1, ct1, At2, nt2, ct2, At10, nt10, ct10, xt11, xt12, xt48, xt49, w, K0 =>
    sel (decide (xt49 < xt48)) (
    req (decide (0 ≤ xt12 ∧ xt12 ≤ (nt0 : Int))) <|
    Calls Tryd.prog 77 #[.slice (slA At0 xt12.toNat ct0 1) (nt0 - xt12.toNat) (ct0 - xt12.toNat), .slice At1 nt1 ct1] w fun e10 w11 => ∃ (x12 : Int), e10 = .returned (.int .i64 x12) ∧ (
    drW w11 fun w13 =>
    req (decide (0 ≤ xt11 ∧ xt11 ≤ (nt10 : Int))) <|
    req (decide (0 ≤ (IntKind.i64.wrap (xt12 + x12)) ∧ (IntKind.i64.wrap (xt12 + x12)) ≤ (ct0 : Int))) <|
    req (decide (0 ≤ xt12 ∧ xt12 ≤ ((IntKind.i64.wrap (xt12 + x12)).toNat : Int))) <|
    Runs Tryd.prog (Builtin.copy_ #[24, 24] 3 #[.slice (slA At10 xt11.toNat ct10 1) (nt10 - xt11.toNat) (ct10 - xt11.toNat), .slice (slA At0 xt12.toNat ct0 1) ((IntKind.i64.wrap (xt12 + x12)).toNat - xt12.toNat) (ct0 - xt12.toNat)]) w13 fun v16 w15 => ∃ (x17 : Int), v16 = (.int .i64 x17) ∧ (
    req (decide (0 ≤ (IntKind.i64.wrap (xt11 + x17)) ∧ (IntKind.i64.wrap (xt11 + x17)) ≤ (nt10 : Int))) <|
    Runs Tryd.prog (Builtin.copy_ #[24, 24] 3 #[.slice (slA At10 ((IntKind.i64.wrap (xt11 + x17)).toNat) ct10 1) (nt10 - (IntKind.i64.wrap (xt11 + x17)).toNat) (ct10 - (IntKind.i64.wrap (xt11 + x17)).toNat), .slice At2 nt2 ct2]) w15 fun v19 w18 => ∃ (x20 : Int), v19 = (.int .i64 x20) ∧ (
    l2 k At0 nt0 ct0 At1 nt1 ct1 At2 nt2 ct2 At10 nt10 ct10 (IntKind.i64.wrap ((IntKind.i64.wrap (xt11 + x17)) + x20)) (IntKind.i64.wrap ((IntKind.i64.wrap (xt12 + x12)) + (nt1 : Int))) xt48 (IntKind.i64.wrap (xt49 + (1 : Int))) w18 K0)))) (
    K0 xt11 xt12 w)
def j3 (At0 : Option Addr) (nt0 : Nat) (ct0 : Nat) (At10 : Option Addr) (nt10 : Nat) (ct10 : Nat) (xt11 : Int) (xt12 : Int) (w : World) (Kr : (Option Addr) → Nat → Nat → World → Prop) : Prop :=
  drW w fun w24 =>
  req (decide (0 ≤ xt11 ∧ xt11 ≤ (nt10 : Int))) <|
  req (decide (0 ≤ xt12 ∧ xt12 ≤ (nt0 : Int))) <|
  Runs Tryd.prog (Builtin.copy_ #[24, 24] 3 #[.slice (slA At10 xt11.toNat ct10 1) (nt10 - xt11.toNat) (ct10 - xt11.toNat), .slice (slA At0 xt12.toNat ct0 1) (nt0 - xt12.toNat) (ct0 - xt12.toNat)]) w24 fun v27 w26 => ∃ (x28 : Int), v27 = (.int .i64 x28) ∧ (
  req (decide (0 ≤ (IntKind.i64.wrap (xt11 + x28)) ∧ (IntKind.i64.wrap (xt11 + x28)) ≤ (ct10 : Int))) <|
  req (decide (0 ≤ (0 : Int) ∧ (0 : Int) ≤ ((IntKind.i64.wrap (xt11 + x28)).toNat : Int))) <|
  Kr (slA At10 0 ct10 1) ((IntKind.i64.wrap (xt11 + x28)).toNat - 0) (ct10 - 0) w26)
def l4 : Nat → Option Addr → Nat → Nat → Option Addr → Nat → Nat → Option Addr → Nat → Nat → Int → Int → Int → Int → World → (Int → Int → World → Prop) → Prop
  | 0, _, _, _, _, _, _, _, _, _, _, _, _, _, _, _ => False
  | k + 1, At0, nt0, ct0, At2, nt2, ct2, At10, nt10, ct10, xt11, xt12, xt88, xt89, w, K2 =>
    sel (decide (xt89 < xt88)) (
    req (decide (0 ≤ xt12 ∧ xt12 ≤ (nt0 : Int))) <|
    Calls Tryd.prog 78 #[.slice (slA At0 xt12.toNat ct0 1) (nt0 - xt12.toNat) (ct0 - xt12.toNat)] w fun e35 w36 => ∃ (x37_0 : Int) (x37_1 : Int), e35 = .returned (.tuple #[.int .i32 x37_0, .int .i64 x37_1]) ∧ (
    drW w36 fun w38 =>
    req (decide (0 ≤ xt11 ∧ xt11 ≤ (nt10 : Int))) <|
    req (decide (0 ≤ (IntKind.i64.wrap (xt12 + x37_1)) ∧ (IntKind.i64.wrap (xt12 + x37_1)) ≤ (ct0 : Int))) <|
    req (decide (0 ≤ xt12 ∧ xt12 ≤ ((IntKind.i64.wrap (xt12 + x37_1)).toNat : Int))) <|
    Runs Tryd.prog (Builtin.copy_ #[24, 24] 3 #[.slice (slA At10 xt11.toNat ct10 1) (nt10 - xt11.toNat) (ct10 - xt11.toNat), .slice (slA At0 xt12.toNat ct0 1) ((IntKind.i64.wrap (xt12 + x37_1)).toNat - xt12.toNat) (ct0 - xt12.toNat)]) w38 fun v41 w40 => ∃ (x42 : Int), v41 = (.int .i64 x42) ∧ (
    req (decide (0 ≤ (IntKind.i64.wrap (xt11 + x42)) ∧ (IntKind.i64.wrap (xt11 + x42)) ≤ (nt10 : Int))) <|
    Runs Tryd.prog (Builtin.copy_ #[24, 24] 3 #[.slice (slA At10 ((IntKind.i64.wrap (xt11 + x42)).toNat) ct10 1) (nt10 - (IntKind.i64.wrap (xt11 + x42)).toNat) (ct10 - (IntKind.i64.wrap (xt11 + x42)).toNat), .slice At2 nt2 ct2]) w40 fun v44 w43 => ∃ (x45 : Int), v44 = (.int .i64 x45) ∧ (
    l4 k At0 nt0 ct0 At2 nt2 ct2 At10 nt10 ct10 (IntKind.i64.wrap ((IntKind.i64.wrap (xt11 + x42)) + x45)) (IntKind.i64.wrap (xt12 + x37_1)) xt88 (IntKind.i64.wrap (xt89 + (1 : Int))) w43 K2)))) (
    K2 xt11 xt12 w)
def j1 (At0 : Option Addr) (nt0 : Nat) (ct0 : Nat) (At1 : Option Addr) (nt1 : Nat) (ct1 : Nat) (At2 : Option Addr) (nt2 : Nat) (ct2 : Nat) (xt3 : Int) (w : World) (Kr : (Option Addr) → Nat → Nat → World → Prop) : Prop :=
  Runs Tryd.prog (Instr.makeSlice 24 (.int .i64 (IntKind.i64.wrap ((nt0 : Int) + (IntKind.i64.wrap (xt3 * (IntKind.i64.wrap ((nt2 : Int) - (nt1 : Int)))))))) (.int .i64 (IntKind.i64.wrap ((nt0 : Int) + (IntKind.i64.wrap (xt3 * (IntKind.i64.wrap ((nt2 : Int) - (nt1 : Int))))))))) w fun v8 w7 => ∃ (A9 : Option Addr) (n9 : Nat) (c9 : Nat), v8 = (.slice A9 n9 c9) ∧ (
  sel (decide ((nt1 : Int) > (0 : Int))) (
  ∃ k31 : Nat, l2 k31 At0 nt0 ct0 At1 nt1 ct1 At2 nt2 ct2 A9 n9 c9 (0 : Int) (0 : Int) xt3 (0 : Int) w7 (fun (x21 : Int) (x22 : Int) (w23 : World) => ∀ _ : Fr,
  j3 At0 nt0 ct0 A9 n9 c9 x21 x22 w23 (fun (A29 : Option Addr) (n29 : Nat) (c29 : Nat) (w30 : World) => ∀ _ : Fr,
  Kr A29 n29 c29 w30))) (
  req (decide (0 ≤ (0 : Int) ∧ (0 : Int) ≤ (n9 : Int))) <|
  Runs Tryd.prog (Builtin.copy_ #[24, 24] 3 #[.slice (slA A9 0 c9 1) (n9 - 0) (c9 - 0), .slice At2 nt2 ct2]) w7 fun v33 w32 => ∃ (x34 : Int), v33 = (.int .i64 x34) ∧ (
  ∃ k51 : Nat, l4 k51 At0 nt0 ct0 At2 nt2 ct2 A9 n9 c9 (IntKind.i64.wrap ((0 : Int) + x34)) (0 : Int) (IntKind.i64.wrap (xt3 - (1 : Int))) (0 : Int) w32 (fun (x46 : Int) (x47 : Int) (w48 : World) => ∀ _ : Fr,
  j3 At0 nt0 ct0 A9 n9 c9 x46 x47 w48 (fun (A49 : Option Addr) (n49 : Nat) (c49 : Nat) (w50 : World) => ∀ _ : Fr,
  Kr A49 n49 c49 w50)))))
def j0 (At0 : Option Addr) (nt0 : Nat) (ct0 : Nat) (At1 : Option Addr) (nt1 : Nat) (ct1 : Nat) (At2 : Option Addr) (nt2 : Nat) (ct2 : Nat) (xt3 : Int) (xt9 : Int) (w : World) (Kr : (Option Addr) → Nat → Nat → World → Prop) : Prop :=
  sel (xt9 == (0 : Int)) (
  Runs Tryd.prog (Builtin.append_ #[24, 24] 24 #[.slice none 0 0, .slice At0 nt0 ct0]) w fun v5 w4 => ∃ (A6 : Option Addr) (n6 : Nat) (c6 : Nat), v5 = (.slice A6 n6 c6) ∧ (
  Kr A6 n6 c6 w4)) (
  sel (decide (xt3 < (0 : Int))) (
  j1 At0 nt0 ct0 At1 nt1 ct1 At2 nt2 ct2 xt9 w (fun (A52 : Option Addr) (n52 : Nat) (c52 : Nat) (w53 : World) => ∀ _ : Fr,
  Kr A52 n52 c52 w53)) (
  sel (decide (xt9 < xt3)) (
  j1 At0 nt0 ct0 At1 nt1 ct1 At2 nt2 ct2 xt9 w (fun (A54 : Option Addr) (n54 : Nat) (c54 : Nat) (w55 : World) => ∀ _ : Fr,
  Kr A54 n54 c54 w55)) (
  j1 At0 nt0 ct0 At1 nt1 ct1 At2 nt2 ct2 xt3 w (fun (A56 : Option Addr) (n56 : Nat) (c56 : Nat) (w57 : World) => ∀ _ : Fr,
  Kr A56 n56 c56 w57))))
def wp (Aa0 : Option Addr) (na0 : Nat) (ca0 : Nat) (Aa1 : Option Addr) (na1 : Nat) (ca1 : Nat) (Aa2 : Option Addr) (na2 : Nat) (ca2 : Nat) (xa3 : Int) (w : World) (Q : Ending → World → Prop) : Prop :=
  sel (xa3 != (0 : Int)) (
  Calls Tryd.prog 76 #[.slice Aa0 na0 ca0, .slice Aa1 na1 ca1] w fun e1 w2 => ∃ (x3 : Int), e1 = .returned (.int .i64 x3) ∧ (
  j0 Aa0 na0 ca0 Aa1 na1 ca1 Aa2 na2 ca2 xa3 x3 w2 (fun (A58 : Option Addr) (n58 : Nat) (c58 : Nat) (w59 : World) => ∀ _ : Fr,
  Q (.returned (.slice A58 n58 c58)) w59))) (
  j0 Aa0 na0 ca0 Aa1 na1 ca1 Aa2 na2 ca2 xa3 (0 : Int) w (fun (A60 : Option Addr) (n60 : Nat) (c60 : Nat) (w61 : World) => ∀ _ : Fr,
  Q (.returned (.slice A60 n60 c60)) w61))
def D : Nat → Option DH := dtab [(15, .simple [] [.fst 0, .fst 1, .fst 2, .fst 3, .fst 4, .fst 5, .fst 6, .fst 7, .eff 8, .fst 9, .fst 10]), (24, .simple [] [.fst 0, .fst 1, .fst 2, .fst 3, .fst 4, .fst 5, .fst 6, .fst 7, .eff 8, .fst 9, .fst 10]), (28, .simple [] [.fst 0, .fst 1, .fst 2, .fst 3, .fst 4, .fst 5, .fst 6, .eff 7, .fst 8, .fst 9])]
def l2LO : LO := ⟨[], [], [(0, [0, 10, 11, 12])], []⟩
def l2Tk (k : Nat) : Spec := fun Q σ w =>
  gSlice (σ 0) fun At0 nt0 ct0 =>
  gSlice (σ 1) fun At1 nt1 ct1 =>
  gSlice (σ 2) fun At2 nt2 ct2 =>
  gSlice (σ 10) fun At10 nt10 ct10 =>
  gInt .i64 (σ 11) fun xt11 =>
  gInt .i64 (σ 12) fun xt12 =>
  gInt .i64 (σ 48) fun xt48 =>
  gInt .i64 (σ 49) fun xt49 =>
  l2 k At0 nt0 ct0 At1 nt1 ct1 At2 nt2 ct2 At10 nt10 ct10 xt11 xt12 xt48 xt49 w (fun (xq11 : Int) (xq12 : Int) (w : World) => ∀ d : Fr, Q (.exit 0) (ov d [(0, .slice At0 nt0 ct0), (10, .slice At10 nt10 ct10), (11, .int .i64 xq11), (12, .int .i64 xq12)]) w)
def l2T : Spec := fun Q σ w => ∃ k, l2Tk k Q σ w
def l2tb : List (List Nat × Spec) := []
noncomputable def l2b : Code := (subC [0, 0, 1, 0, 1, 0, 1, 1, 1, 1, 1, 1, 1, 1] body).getD .skip
theorem l2_eq (k : Nat) (At0 : Option Addr) (nt0 : Nat) (ct0 : Nat) (At1 : Option Addr) (nt1 : Nat) (ct1 : Nat) (At2 : Option Addr) (nt2 : Nat) (ct2 : Nat) (At10 : Option Addr) (nt10 : Nat) (ct10 : Nat) (xt11 : Int) (xt12 : Int) (xt48 : Int) (xt49 : Int) (Q : PQ) (σ : Fr) (w : World) :
    l2 (k + 1) At0 nt0 ct0 At1 nt1 ct1 At2 nt2 ct2 At10 nt10 ct10 xt11 xt12 xt48 xt49 w (fun (xq11 : Int) (xq12 : Int) (w : World) => ∀ d : Fr, Q (.exit 0) (ov d [(0, .slice At0 nt0 ct0), (10, .slice At10 nt10 ct10), (11, .int .i64 xq11), (12, .int .i64 xq12)]) w) = codeW Tryd.prog hT 132 D (tab l2tb) [0, 0, 1, 0, 1, 0, 1, 1, 1, 1, 1, 1, 1, 1] l2b (thenQ (l2Tk k Q) (widen l2LO Q)) (ov σ [(0, .slice At0 nt0 ct0), (1, .slice At1 nt1 ct1), (2, .slice At2 nt2 ct2), (10, .slice At10 nt10 ct10), (11, .int .i64 xt11), (12, .int .i64 xt12), (48, .int .i64 xt48), (49, .int .i64 xt49)]) w := by kernel_rfl
theorem l2_snd : ∀ c, subC [0, 1, 0, 1, 0, 1, 1, 1, 1, 1, 1, 1, 1] body = some c → Snd Tryd.prog 132 c l2T := by
  refine loop_of (hT := hT) (D := D) (l := l2tb) (b := l2b) (lo := l2LO) (by kernel_rfl) (by
    intro x hx
    simp only [l2tb, List.not_mem_nil] at hx
    ) (by kernel_rfl) (by kernel_rfl) ?_ ?_
  · intro Q σ w h
    unfold l2Tk at h
    obtain ⟨At0, nt0, ct0, h0, hn⟩ := gSlice_elim h
    clear h
    have h := hn
    clear hn
    obtain ⟨At1, nt1, ct1, h1, hn⟩ := gSlice_elim h
    clear h
    have h := hn
    clear hn
    obtain ⟨At2, nt2, ct2, h2, hn⟩ := gSlice_elim h
    clear h
    have h := hn
    clear hn
    obtain ⟨At10, nt10, ct10, h10, hn⟩ := gSlice_elim h
    clear h
    have h := hn
    clear hn
    obtain ⟨xt11, h11, hn⟩ := gInt_elim h
    clear h
    have h := hn
    clear hn
    obtain ⟨xt12, h12, hn⟩ := gInt_elim h
    clear h
    have h := hn
    clear hn
    obtain ⟨xt48, h48, hn⟩ := gInt_elim h
    clear h
    have h := hn
    clear hn
    obtain ⟨xt49, h49, hn⟩ := gInt_elim h
    clear h
    have h := hn
    clear hn
    exact h
  · intro k Q σ w h
    unfold l2Tk at h
    obtain ⟨At0, nt0, ct0, h0, hn⟩ := gSlice_elim h
    clear h
    have h := hn
    clear hn
    obtain ⟨At1, nt1, ct1, h1, hn⟩ := gSlice_elim h
    clear h
    have h := hn
    clear hn
    obtain ⟨At2, nt2, ct2, h2, hn⟩ := gSlice_elim h
    clear h
    have h := hn
    clear hn
    obtain ⟨At10, nt10, ct10, h10, hn⟩ := gSlice_elim h
    clear h
    have h := hn
    clear hn
    obtain ⟨xt11, h11, hn⟩ := gInt_elim h
    clear h
    have h := hn
    clear hn
    obtain ⟨xt12, h12, hn⟩ := gInt_elim h
    clear h
    have h := hn
    clear hn
    obtain ⟨xt48, h48, hn⟩ := gInt_elim h
    clear h
    have h := hn
    clear hn
    obtain ⟨xt49, h49, hn⟩ := gInt_elim h
    clear h
    have h := hn
    clear hn
    rw [l2_eq (σ := σ)] at h
    have e : (ov σ [(0, .slice At0 nt0 ct0), (1, .slice At1 nt1 ct1), (2, .slice At2 nt2 ct2), (10, .slice At10 nt10 ct10), (11, .int .i64 xt11), (12, .int .i64 xt12), (48, .int .i64 xt48), (49, .int .i64 xt49)]) = σ := ov_self (by simp [h0, h1, h2, h10, h11, h12, h48, h49])
    rw [e] at h
    exact h
def j3LO : LO := ⟨[], [8], [], []⟩
def j3T : Spec := fun Q σ w =>
  gSlice (σ 0) fun At0 nt0 ct0 =>
  gSlice (σ 10) fun At10 nt10 ct10 =>
  gInt .i64 (σ 11) fun xt11 =>
  gInt .i64 (σ 12) fun xt12 =>
  j3 At0 nt0 ct0 At10 nt10 ct10 xt11 xt12 w (fun (Aq8 : Option Addr) (nq8 : Nat) (cq8 : Nat) (w : World) => ∀ d : Fr, Q .ret (ov d [(8, .slice Aq8 nq8 cq8)]) w)
def j3tb : List (List Nat × Spec) := []
noncomputable def j3b : Code := (subC [1, 1, 1, 1, 1, 1, 1, 1, 1] body).getD .skip
theorem j3_eq (At0 : Option Addr) (nt0 : Nat) (ct0 : Nat) (At10 : Option Addr) (nt10 : Nat) (ct10 : Nat) (xt11 : Int) (xt12 : Int) (Q : PQ) (σ : Fr) (w : World) :
    j3 At0 nt0 ct0 At10 nt10 ct10 xt11 xt12 w (fun (Aq8 : Option Addr) (nq8 : Nat) (cq8 : Nat) (w : World) => ∀ d : Fr, Q .ret (ov d [(8, .slice Aq8 nq8 cq8)]) w) = codeW Tryd.prog hT 132 D (tab j3tb) [1, 1, 1, 1, 1, 1, 1, 1, 1] j3b (widen j3LO Q) (ov σ [(0, .slice At0 nt0 ct0), (10, .slice At10 nt10 ct10), (11, .int .i64 xt11), (12, .int .i64 xt12)]) w := by kernel_rfl
theorem j3_snd : ∀ c, subC [1, 1, 1, 1, 1, 1, 1, 1, 1] body = some c → Snd Tryd.prog 132 c j3T := by
  refine cut_of (hT := hT) (D := D) (l := j3tb) (b := j3b) (lo := j3LO) (by kernel_rfl) (by
    intro x hx
    simp only [j3tb, List.not_mem_nil] at hx
    ) (by kernel_rfl) (by kernel_rfl) ?_
  intro Q σ w h
  unfold j3T at h
  obtain ⟨At0, nt0, ct0, h0, hn⟩ := gSlice_elim h
  clear h
  have h := hn
  clear hn
  obtain ⟨At10, nt10, ct10, h10, hn⟩ := gSlice_elim h
  clear h
  have h := hn
  clear hn
  obtain ⟨xt11, h11, hn⟩ := gInt_elim h
  clear h
  have h := hn
  clear hn
  obtain ⟨xt12, h12, hn⟩ := gInt_elim h
  clear h
  have h := hn
  clear hn
  rw [j3_eq (σ := σ)] at h
  have e : (ov σ [(0, .slice At0 nt0 ct0), (10, .slice At10 nt10 ct10), (11, .int .i64 xt11), (12, .int .i64 xt12)]) = σ := ov_self (by simp [h0, h10, h11, h12])
  rw [e] at h
  exact h
def l4LO : LO := ⟨[], [], [(2, [0, 10, 11, 12])], []⟩
def l4Tk (k : Nat) : Spec := fun Q σ w =>
  gSlice (σ 0) fun At0 nt0 ct0 =>
  gSlice (σ 2) fun At2 nt2 ct2 =>
  gSlice (σ 10) fun At10 nt10 ct10 =>
  gInt .i64 (σ 11) fun xt11 =>
  gInt .i64 (σ 12) fun xt12 =>
  gInt .i64 (σ 88) fun xt88 =>
  gInt .i64 (σ 89) fun xt89 =>
  l4 k At0 nt0 ct0 At2 nt2 ct2 At10 nt10 ct10 xt11 xt12 xt88 xt89 w (fun (xq11 : Int) (xq12 : Int) (w : World) => ∀ d : Fr, Q (.exit 2) (ov d [(0, .slice At0 nt0 ct0), (10, .slice At10 nt10 ct10), (11, .int .i64 xq11), (12, .int .i64 xq12)]) w)
def l4T : Spec := fun Q σ w => ∃ k, l4Tk k Q σ w
def l4tb : List (List Nat × Spec) := []
noncomputable def l4b : Code := (subC [0, 0, 1, 1, 1, 1, 0, 1, 1, 1, 1, 1, 1, 1, 1] body).getD .skip
theorem l4_eq (k : Nat) (At0 : Option Addr) (nt0 : Nat) (ct0 : Nat) (At2 : Option Addr) (nt2 : Nat) (ct2 : Nat) (At10 : Option Addr) (nt10 : Nat) (ct10 : Nat) (xt11 : Int) (xt12 : Int) (xt88 : Int) (xt89 : Int) (Q : PQ) (σ : Fr) (w : World) :
    l4 (k + 1) At0 nt0 ct0 At2 nt2 ct2 At10 nt10 ct10 xt11 xt12 xt88 xt89 w (fun (xq11 : Int) (xq12 : Int) (w : World) => ∀ d : Fr, Q (.exit 2) (ov d [(0, .slice At0 nt0 ct0), (10, .slice At10 nt10 ct10), (11, .int .i64 xq11), (12, .int .i64 xq12)]) w) = codeW Tryd.prog hT 132 D (tab l4tb) [0, 0, 1, 1, 1, 1, 0, 1, 1, 1, 1, 1, 1, 1, 1] l4b (thenQ (l4Tk k Q) (widen l4LO Q)) (ov σ [(0, .slice At0 nt0 ct0), (2, .slice At2 nt2 ct2), (10, .slice At10 nt10 ct10), (11, .int .i64 xt11), (12, .int .i64 xt12), (88, .int .i64 xt88), (89, .int .i64 xt89)]) w := by kernel_rfl
theorem l4_snd : ∀ c, subC [0, 1, 1, 1, 1, 0, 1, 1, 1, 1, 1, 1, 1, 1] body = some c → Snd Tryd.prog 132 c l4T := by
  refine loop_of (hT := hT) (D := D) (l := l4tb) (b := l4b) (lo := l4LO) (by kernel_rfl) (by
    intro x hx
    simp only [l4tb, List.not_mem_nil] at hx
    ) (by kernel_rfl) (by kernel_rfl) ?_ ?_
  · intro Q σ w h
    unfold l4Tk at h
    obtain ⟨At0, nt0, ct0, h0, hn⟩ := gSlice_elim h
    clear h
    have h := hn
    clear hn
    obtain ⟨At2, nt2, ct2, h2, hn⟩ := gSlice_elim h
    clear h
    have h := hn
    clear hn
    obtain ⟨At10, nt10, ct10, h10, hn⟩ := gSlice_elim h
    clear h
    have h := hn
    clear hn
    obtain ⟨xt11, h11, hn⟩ := gInt_elim h
    clear h
    have h := hn
    clear hn
    obtain ⟨xt12, h12, hn⟩ := gInt_elim h
    clear h
    have h := hn
    clear hn
    obtain ⟨xt88, h88, hn⟩ := gInt_elim h
    clear h
    have h := hn
    clear hn
    obtain ⟨xt89, h89, hn⟩ := gInt_elim h
    clear h
    have h := hn
    clear hn
    exact h
  · intro k Q σ w h
    unfold l4Tk at h
    obtain ⟨At0, nt0, ct0, h0, hn⟩ := gSlice_elim h
    clear h
    have h := hn
    clear hn
    obtain ⟨At2, nt2, ct2, h2, hn⟩ := gSlice_elim h
    clear h
    have h := hn
    clear hn
    obtain ⟨At10, nt10, ct10, h10, hn⟩ := gSlice_elim h
    clear h
    have h := hn
    clear hn
    obtain ⟨xt11, h11, hn⟩ := gInt_elim h
    clear h
    have h := hn
    clear hn
    obtain ⟨xt12, h12, hn⟩ := gInt_elim h
    clear h
    have h := hn
    clear hn
    obtain ⟨xt88, h88, hn⟩ := gInt_elim h
    clear h
    have h := hn
    clear hn
    obtain ⟨xt89, h89, hn⟩ := gInt_elim h
    clear h
    have h := hn
    clear hn
    rw [l4_eq (σ := σ)] at h
    have e : (ov σ [(0, .slice At0 nt0 ct0), (2, .slice At2 nt2 ct2), (10, .slice At10 nt10 ct10), (11, .int .i64 xt11), (12, .int .i64 xt12), (88, .int .i64 xt88), (89, .int .i64 xt89)]) = σ := ov_self (by simp [h0, h2, h10, h11, h12, h88, h89])
    rw [e] at h
    exact h
def j1LO : LO := ⟨[], [8], [], []⟩
def j1T : Spec := fun Q σ w =>
  gSlice (σ 0) fun At0 nt0 ct0 =>
  gSlice (σ 1) fun At1 nt1 ct1 =>
  gSlice (σ 2) fun At2 nt2 ct2 =>
  gInt .i64 (σ 3) fun xt3 =>
  j1 At0 nt0 ct0 At1 nt1 ct1 At2 nt2 ct2 xt3 w (fun (Aq8 : Option Addr) (nq8 : Nat) (cq8 : Nat) (w : World) => ∀ d : Fr, Q .ret (ov d [(8, .slice Aq8 nq8 cq8)]) w)
def j1tb : List (List Nat × Spec) := [([0, 1, 0, 1, 0, 1, 1, 1, 1, 1, 1, 1, 1], l2T), ([1, 1, 1, 1, 1, 1, 1, 1, 1], j3T), ([0, 1, 1, 1, 1, 0, 1, 1, 1, 1, 1, 1, 1, 1], l4T)]
noncomputable def j1b : Code := (subC [1, 1, 1, 1, 1] body).getD .skip
theorem j1_eq (At0 : Option Addr) (nt0 : Nat) (ct0 : Nat) (At1 : Option Addr) (nt1 : Nat) (ct1 : Nat) (At2 : Option Addr) (nt2 : Nat) (ct2 : Nat) (xt3 : Int) (Q : PQ) (σ : Fr) (w : World) :
    j1 At0 nt0 ct0 At1 nt1 ct1 At2 nt2 ct2 xt3 w (fun (Aq8 : Option Addr) (nq8 : Nat) (cq8 : Nat) (w : World) => ∀ d : Fr, Q .ret (ov d [(8, .slice Aq8 nq8 cq8)]) w) = codeW Tryd.prog hT 132 D (tab j1tb) [1, 1, 1, 1, 1] j1b (widen j1LO Q) (ov σ [(0, .slice At0 nt0 ct0), (1, .slice At1 nt1 ct1), (2, .slice At2 nt2 ct2), (3, .int .i64 xt3)]) w := by kernel_rfl
theorem j1_snd : ∀ c, subC [1, 1, 1, 1, 1] body = some c → Snd Tryd.prog 132 c j1T := by
  refine cut_of (hT := hT) (D := D) (l := j1tb) (b := j1b) (lo := j1LO) (by kernel_rfl) (by
    intro x hx
    simp only [j1tb, List.mem_cons, List.not_mem_nil, or_false] at hx
    rcases hx with rfl | rfl | rfl
    · exact l2_snd
    · exact j3_snd
    · exact l4_snd) (by kernel_rfl) (by kernel_rfl) ?_
  intro Q σ w h
  unfold j1T at h
  obtain ⟨At0, nt0, ct0, h0, hn⟩ := gSlice_elim h
  clear h
  have h := hn
  clear hn
  obtain ⟨At1, nt1, ct1, h1, hn⟩ := gSlice_elim h
  clear h
  have h := hn
  clear hn
  obtain ⟨At2, nt2, ct2, h2, hn⟩ := gSlice_elim h
  clear h
  have h := hn
  clear hn
  obtain ⟨xt3, h3, hn⟩ := gInt_elim h
  clear h
  have h := hn
  clear hn
  rw [j1_eq (σ := σ)] at h
  have e : (ov σ [(0, .slice At0 nt0 ct0), (1, .slice At1 nt1 ct1), (2, .slice At2 nt2 ct2), (3, .int .i64 xt3)]) = σ := ov_self (by simp [h0, h1, h2, h3])
  rw [e] at h
  exact h
def j0LO : LO := ⟨[], [8], [], []⟩
def j0T : Spec := fun Q σ w =>
  gSlice (σ 0) fun At0 nt0 ct0 =>
  gSlice (σ 1) fun At1 nt1 ct1 =>
  gSlice (σ 2) fun At2 nt2 ct2 =>
  gInt .i64 (σ 3) fun xt3 =>
  gInt .i64 (σ 9) fun xt9 =>
  j0 At0 nt0 ct0 At1 nt1 ct1 At2 nt2 ct2 xt3 xt9 w (fun (Aq8 : Option Addr) (nq8 : Nat) (cq8 : Nat) (w : World) => ∀ d : Fr, Q .ret (ov d [(8, .slice Aq8 nq8 cq8)]) w)
def j0tb : List (List Nat × Spec) := [([0, 1, 0, 1, 0, 1, 1, 1, 1, 1, 1, 1, 1], l2T), ([1, 1, 1, 1, 1, 1, 1, 1, 1], j3T), ([0, 1, 1, 1, 1, 0, 1, 1, 1, 1, 1, 1, 1, 1], l4T), ([1, 1, 1, 1, 1], j1T)]
noncomputable def j0b : Code := (subC [1, 1, 1] body).getD .skip
theorem j0_eq (At0 : Option Addr) (nt0 : Nat) (ct0 : Nat) (At1 : Option Addr) (nt1 : Nat) (ct1 : Nat) (At2 : Option Addr) (nt2 : Nat) (ct2 : Nat) (xt3 : Int) (xt9 : Int) (Q : PQ) (σ : Fr) (w : World) :
    j0 At0 nt0 ct0 At1 nt1 ct1 At2 nt2 ct2 xt3 xt9 w (fun (Aq8 : Option Addr) (nq8 : Nat) (cq8 : Nat) (w : World) => ∀ d : Fr, Q .ret (ov d [(8, .slice Aq8 nq8 cq8)]) w) = codeW Tryd.prog hT 132 D (tab j0tb) [1, 1, 1] j0b (widen j0LO Q) (ov σ [(0, .slice At0 nt0 ct0), (1, .slice At1 nt1 ct1), (2, .slice At2 nt2 ct2), (3, .int .i64 xt3), (9, .int .i64 xt9)]) w := by kernel_rfl
theorem j0_snd : ∀ c, subC [1, 1, 1] body = some c → Snd Tryd.prog 132 c j0T := by
  refine cut_of (hT := hT) (D := D) (l := j0tb) (b := j0b) (lo := j0LO) (by kernel_rfl) (by
    intro x hx
    simp only [j0tb, List.mem_cons, List.not_mem_nil, or_false] at hx
    rcases hx with rfl | rfl | rfl | rfl
    · exact l2_snd
    · exact j3_snd
    · exact l4_snd
    · exact j1_snd) (by kernel_rfl) (by kernel_rfl) ?_
  intro Q σ w h
  unfold j0T at h
  obtain ⟨At0, nt0, ct0, h0, hn⟩ := gSlice_elim h
  clear h
  have h := hn
  clear hn
  obtain ⟨At1, nt1, ct1, h1, hn⟩ := gSlice_elim h
  clear h
  have h := hn
  clear hn
  obtain ⟨At2, nt2, ct2, h2, hn⟩ := gSlice_elim h
  clear h
  have h := hn
  clear hn
  obtain ⟨xt3, h3, hn⟩ := gInt_elim h
  clear h
  have h := hn
  clear hn
  obtain ⟨xt9, h9, hn⟩ := gInt_elim h
  clear h
  have h := hn
  clear hn
  rw [j0_eq (σ := σ)] at h
  have e : (ov σ [(0, .slice At0 nt0 ct0), (1, .slice At1 nt1 ct1), (2, .slice At2 nt2 ct2), (3, .int .i64 xt3), (9, .int .i64 xt9)]) = σ := ov_self (by simp [h0, h1, h2, h3, h9])
  rw [e] at h
  exact h
def tb : List (List Nat × Spec) := [([0, 1, 0, 1, 0, 1, 1, 1, 1, 1, 1, 1, 1], l2T), ([1, 1, 1, 1, 1, 1, 1, 1, 1], j3T), ([0, 1, 1, 1, 1, 0, 1, 1, 1, 1, 1, 1, 1, 1], l4T), ([1, 1, 1, 1, 1], j1T), ([1, 1, 1], j0T)]
theorem wp_eq (Aa0 : Option Addr) (na0 : Nat) (ca0 : Nat) (Aa1 : Option Addr) (na1 : Nat) (ca1 : Nat) (Aa2 : Option Addr) (na2 : Nat) (ca2 : Nat) (xa3 : Int) (w : World) (Q : Ending → World → Prop) :
    wp Aa0 na0 ca0 Aa1 na1 ca1 Aa2 na2 ca2 xa3 w Q = codeW Tryd.prog hT 132 D (tab tb) [] body (topQ Tryd.prog hT 132 [.tmp 8] Q) (argsF [.slice Aa0 na0 ca0, .slice Aa1 na1 ca1, .slice Aa2 na2 ca2, .int .i64 xa3]) w := by kernel_rfl
theorem ok (Aa0 : Option Addr) (na0 : Nat) (ca0 : Nat) (Aa1 : Option Addr) (na1 : Nat) (ca1 : Nat) (Aa2 : Option Addr) (na2 : Nat) (ca2 : Nat) (xa3 : Int) (w : World) (Q : Ending → World → Prop) (h : wp Aa0 na0 ca0 Aa1 na1 ca1 Aa2 na2 ca2 xa3 w Q) : Calls Tryd.prog 67 #[.slice Aa0 na0 ca0, .slice Aa1 na1 ca1, .slice Aa2 na2 ca2, .int .i64 xa3] w Q := by
  rw [wp_eq] at h
  exact calls_of_codeW (c := body) (rs := [.tmp 8]) Tryd.func67 (by kernel_rfl) (by kernel_rfl) (by kernel_rfl) (by kernel_rfl) (by kernel_rfl) (tab_snd (by
    intro x hx
    simp only [tb, List.mem_cons, List.not_mem_nil, or_false] at hx
    rcases hx with rfl | rfl | rfl | rfl | rfl
    · exact l2_snd
    · exact j3_snd
    · exact l4_snd
    · exact j1_snd
    · exact j0_snd)) (by kernel_rfl) h
end f_bytes_Replace
namespace f_bytes_Clone
/-! bytes.Clone: function 70 -/
noncomputable def body : Code := (Tryd.f70.body).getD .skip
def wp (Aa0 : Option Addr) (na0 : Nat) (ca0 : Nat) (w : World) (Q : Ending → World → Prop) : Prop :=
  sel Aa0.isNone (
  Q (.returned (.slice none 0 0)) w) (
  alW w (.cells #[] 5) fun B1 w2 =>
  Runs Tryd.prog (Builtin.append_ #[24, 24] 24 #[.slice (some (⟨B1, 0, Option.none⟩ : Addr)) 0 0, .slice Aa0 na0 ca0]) w2 fun v4 w3 => ∃ (A5 : Option Addr) (n5 : Nat) (c5 : Nat), v4 = (.slice A5 n5 c5) ∧ (
  Q (.returned (.slice A5 n5 c5)) w3))
def D : Nat → Option DH := dtab []
def tb : List (List Nat × Spec) := []
theorem wp_eq (Aa0 : Option Addr) (na0 : Nat) (ca0 : Nat) (w : World) (Q : Ending → World → Prop) :
    wp Aa0 na0 ca0 w Q = codeW Tryd.prog hT 8 D (tab tb) [] body (topQ Tryd.prog hT 8 [.tmp 2] Q) (argsF [.slice Aa0 na0 ca0]) w := by kernel_rfl
theorem ok (Aa0 : Option Addr) (na0 : Nat) (ca0 : Nat) (w : World) (Q : Ending → World → Prop) (h : wp Aa0 na0 ca0 w Q) : Calls Tryd.prog 70 #[.slice Aa0 na0 ca0] w Q := by
  rw [wp_eq] at h
  exact calls_of_codeW (c := body) (rs := [.tmp 2]) Tryd.func70 (by kernel_rfl) (by kernel_rfl) (by kernel_rfl) (by kernel_rfl) (by kernel_rfl) (tab_snd (by
    intro x hx
    simp only [tb, List.not_mem_nil] at hx
    )) (by kernel_rfl) h
end f_bytes_Clone
namespace f_bytes_Count
/-! bytes.Count: function 76 -/
noncomputable def body : Code := (Tryd.f76.body).getD .skip
def l0 : Nat → Option Addr → Nat → Nat → Option Addr → Nat → Nat → Int → World → (Int → World → Prop) → Prop
  | 0, _, _, _, _, _, _, _, _, _ => False
  | k + 1, At0, nt0, ct0, At1, nt1, ct1, xt5, w, Kr =>
    Calls Tryd.prog 77 #[.slice At0 nt0 ct0, .slice At1 nt1 ct1] w fun e9 w10 => ∃ (x11 : Int), e9 = .returned (.int .i64 x11) ∧ (
    sel (x11 == (-1 : Int)) (
    Kr xt5 w10) (
    req (decide (0 ≤ (IntKind.i64.wrap (x11 + (nt1 : Int))) ∧ (IntKind.i64.wrap (x11 + (nt1 : Int))) ≤ (nt0 : Int))) <|
    l0 k (slA At0 ((IntKind.i64.wrap (x11 + (nt1 : Int))).toNat) ct0 1) (nt0 - (IntKind.i64.wrap (x11 + (nt1 : Int))).toNat) (ct0 - (IntKind.i64.wrap (x11 + (nt1 : Int))).toNat) At1 nt1 ct1 (IntKind.i64.wrap (xt5 + (1 : Int))) w10 Kr))
def wp (Aa0 : Option Addr) (na0 : Nat) (ca0 : Nat) (Aa1 : Option Addr) (na1 : Nat) (ca1 : Nat) (w : World) (Q : Ending → World → Prop) : Prop :=
  sel ((na1 : Int) == (0 : Int)) (
  Calls Tryd.prog 84 #[.slice Aa0 na0 ca0] w fun e1 w2 => ∃ (x3 : Int), e1 = .returned (.int .i64 x3) ∧ (
  Q (.returned (.int .i64 (IntKind.i64.wrap (x3 + (1 : Int))))) w2)) (
  sel ((na1 : Int) == (1 : Int)) (
  optB Aa1 fun a4 =>
  req (decide (0 ≤ (0 : Int) ∧ (0 : Int) < (na1 : Int))) <|
  ldI w (a4.add ((0 : Int).toNat * 1)) .u8 fun x5 =>
  Runs Tryd.prog (callFunc 85 #[.slice Aa0 na0 ca0, .int .u8 x5]) w fun e6 w7 => ∃ (x8 : Int), e6 = .value (.int .i64 x8) ∧ (
  Q (.returned (.int .i64 x8)) w7)) (
  ∃ k14 : Nat, l0 k14 Aa0 na0 ca0 Aa1 na1 ca1 (0 : Int) w (fun (x12 : Int) (w13 : World) => ∀ _ : Fr,
  Q (.returned (.int .i64 x12)) w13)))
def D : Nat → Option DH := dtab []
def l0LO : LO := ⟨[], [4], [], []⟩
def l0Tk (k : Nat) : Spec := fun Q σ w =>
  gSlice (σ 0) fun At0 nt0 ct0 =>
  gSlice (σ 1) fun At1 nt1 ct1 =>
  gInt .i64 (σ 5) fun xt5 =>
  l0 k At0 nt0 ct0 At1 nt1 ct1 xt5 w (fun (xq4 : Int) (w : World) => ∀ d : Fr, Q .ret (ov d [(4, .int .i64 xq4)]) w)
def l0T : Spec := fun Q σ w => ∃ k, l0Tk k Q σ w
def l0tb : List (List Nat × Spec) := []
noncomputable def l0b : Code := (subC [0, 0, 1, 1, 1, 1] body).getD .skip
theorem l0_eq (k : Nat) (At0 : Option Addr) (nt0 : Nat) (ct0 : Nat) (At1 : Option Addr) (nt1 : Nat) (ct1 : Nat) (xt5 : Int) (Q : PQ) (σ : Fr) (w : World) :
    l0 (k + 1) At0 nt0 ct0 At1 nt1 ct1 xt5 w (fun (xq4 : Int) (w : World) => ∀ d : Fr, Q .ret (ov d [(4, .int .i64 xq4)]) w) = codeW Tryd.prog hT 35 D (tab l0tb) [0, 0, 1, 1, 1, 1] l0b (thenQ (l0Tk k Q) (widen l0LO Q)) (ov σ [(0, .slice At0 nt0 ct0), (1, .slice At1 nt1 ct1), (5, .int .i64 xt5)]) w := by kernel_rfl
theorem l0_snd : ∀ c, subC [0, 1, 1, 1, 1] body = some c → Snd Tryd.prog 35 c l0T := by
  refine loop_of (hT := hT) (D := D) (l := l0tb) (b := l0b) (lo := l0LO) (by kernel_rfl) (by
    intro x hx
    simp only [l0tb, List.not_mem_nil] at hx
    ) (by kernel_rfl) (by kernel_rfl) ?_ ?_
  · intro Q σ w h
    unfold l0Tk at h
    obtain ⟨At0, nt0, ct0, h0, hn⟩ := gSlice_elim h
    clear h
    have h := hn
    clear hn
    obtain ⟨At1, nt1, ct1, h1, hn⟩ := gSlice_elim h
    clear h
    have h := hn
    clear hn
    obtain ⟨xt5, h5, hn⟩ := gInt_elim h
    clear h
    have h := hn
    clear hn
    exact h
  · intro k Q σ w h
    unfold l0Tk at h
    obtain ⟨At0, nt0, ct0, h0, hn⟩ := gSlice_elim h
    clear h
    have h := hn
    clear hn
    obtain ⟨At1, nt1, ct1, h1, hn⟩ := gSlice_elim h
    clear h
    have h := hn
    clear hn
    obtain ⟨xt5, h5, hn⟩ := gInt_elim h
    clear h
    have h := hn
    clear hn
    rw [l0_eq (σ := σ)] at h
    have e : (ov σ [(0, .slice At0 nt0 ct0), (1, .slice At1 nt1 ct1), (5, .int .i64 xt5)]) = σ := ov_self (by simp [h0, h1, h5])
    rw [e] at h
    exact h
def tb : List (List Nat × Spec) := [([0, 1, 1, 1, 1], l0T)]
theorem wp_eq (Aa0 : Option Addr) (na0 : Nat) (ca0 : Nat) (Aa1 : Option Addr) (na1 : Nat) (ca1 : Nat) (w : World) (Q : Ending → World → Prop) :
    wp Aa0 na0 ca0 Aa1 na1 ca1 w Q = codeW Tryd.prog hT 35 D (tab tb) [] body (topQ Tryd.prog hT 35 [.tmp 4] Q) (argsF [.slice Aa0 na0 ca0, .slice Aa1 na1 ca1]) w := by kernel_rfl
theorem ok (Aa0 : Option Addr) (na0 : Nat) (ca0 : Nat) (Aa1 : Option Addr) (na1 : Nat) (ca1 : Nat) (w : World) (Q : Ending → World → Prop) (h : wp Aa0 na0 ca0 Aa1 na1 ca1 w Q) : Calls Tryd.prog 76 #[.slice Aa0 na0 ca0, .slice Aa1 na1 ca1] w Q := by
  rw [wp_eq] at h
  exact calls_of_codeW (c := body) (rs := [.tmp 4]) Tryd.func76 (by kernel_rfl) (by kernel_rfl) (by kernel_rfl) (by kernel_rfl) (by kernel_rfl) (tab_snd (by
    intro x hx
    simp only [tb, List.mem_cons, List.not_mem_nil, or_false] at hx
    subst hx
    exact l0_snd)) (by kernel_rfl) h
end f_bytes_Count
namespace f_bytes_Index
/-! bytes.Index: function 77 -/
noncomputable def body : Code := (Tryd.f77.body).getD .skip
def j1 (At0 : Option Addr) (nt0 : Nat) (ct0 : Nat) (At1 : Option Addr) (nt1 : Nat) (ct1 : Nat) (xt5 : Int) (xt7 : Int) (xt8 : Int) (xt10 : Int) (w : World) (Kn : Int → Int → World → Prop) (Kr : Int → World → Prop) : Prop :=
  optB At0 fun a22 =>
  req (decide (0 ≤ (IntKind.i64.wrap (xt8 + (1 : Int))) ∧ (IntKind.i64.wrap (xt8 + (1 : Int))) < (nt0 : Int))) <|
  ldI w (a22.add ((IntKind.i64.wrap (xt8 + (1 : Int))).toNat * 1)) .u8 fun x23 =>
  sel (x23 == xt7) (
  req (decide (0 ≤ (IntKind.i64.wrap (xt8 + xt5)) ∧ (IntKind.i64.wrap (xt8 + xt5)) ≤ (ct0 : Int))) <|
  req (decide (0 ≤ xt8 ∧ xt8 ≤ ((IntKind.i64.wrap (xt8 + xt5)).toNat : Int))) <|
  Calls Tryd.prog 48 #[.slice (slA At0 xt8.toNat ct0 1) ((IntKind.i64.wrap (xt8 + xt5)).toNat - xt8.toNat) (ct0 - xt8.toNat), .slice At1 nt1 ct1] w fun e24 w25 => ∃ (b26 : Bool), e24 = .returned (.bool b26) ∧ (
  sel b26 (
  Kr xt8 w25) (
  Calls Tryd.prog 88 #[.int .i64 (IntKind.i64.wrap (xt8 + (1 : Int)))] w25 fun e27 w28 => ∃ (x29 : Int), e27 = .returned (.int .i64 x29) ∧ (
  sel (decide ((IntKind.i64.wrap (xt10 + (1 : Int))) > x29)) (
  req (decide (0 ≤ (IntKind.i64.wrap (xt8 + (1 : Int))) ∧ (IntKind.i64.wrap (xt8 + (1 : Int))) ≤ (nt0 : Int))) <|
  Runs Tryd.prog (callFunc 87 #[.slice (slA At0 ((IntKind.i64.wrap (xt8 + (1 : Int))).toNat) ct0 1) (nt0 - (IntKind.i64.wrap (xt8 + (1 : Int))).toNat) (ct0 - (IntKind.i64.wrap (xt8 + (1 : Int))).toNat), .slice At1 nt1 ct1]) w28 fun e30 w31 => ∃ (x32 : Int), e30 = .value (.int .i64 x32) ∧ (
  sel (decide (x32 ≥ (0 : Int))) (
  Kr (IntKind.i64.wrap (x32 + (IntKind.i64.wrap (xt8 + (1 : Int))))) w31) (
  Kr (-1 : Int) w31))) (
  Kn (IntKind.i64.wrap (xt8 + (1 : Int))) (IntKind.i64.wrap (xt10 + (1 : Int))) w28))))) (
  Calls Tryd.prog 88 #[.int .i64 (IntKind.i64.wrap (xt8 + (1 : Int)))] w fun e33 w34 => ∃ (x35 : Int), e33 = .returned (.int .i64 x35) ∧ (
  sel (decide ((IntKind.i64.wrap (xt10 + (1 : Int))) > x35)) (
  req (decide (0 ≤ (IntKind.i64.wrap (xt8 + (1 : Int))) ∧ (IntKind.i64.wrap (xt8 + (1 : Int))) ≤ (nt0 : Int))) <|
  Runs Tryd.prog (callFunc 87 #[.slice (slA At0 ((IntKind.i64.wrap (xt8 + (1 : Int))).toNat) ct0 1) (nt0 - (IntKind.i64.wrap (xt8 + (1 : Int))).toNat) (ct0 - (IntKind.i64.wrap (xt8 + (1 : Int))).toNat), .slice At1 nt1 ct1]) w34 fun e36 w37 => ∃ (x38 : Int), e36 = .value (.int .i64 x38) ∧ (
  sel (decide (x38 ≥ (0 : Int))) (
  Kr (IntKind.i64.wrap (x38 + (IntKind.i64.wrap (xt8 + (1 : Int))))) w37) (
  Kr (-1 : Int) w37))) (
  Kn (IntKind.i64.wrap (xt8 + (1 : Int))) (IntKind.i64.wrap (xt10 + (1 : Int))) w34)))
def l0 : Nat → Option Addr → Nat → Nat → Option Addr → Nat → Nat → Int → Int → Int → Int → Int → Int → World → (World → Prop) → (Int → World → Prop) → Prop
  | 0, _, _, _, _, _, _, _, _, _, _, _, _, _, _, _ => False
  | k + 1, At0, nt0, ct0, At1, nt1, ct1, xt5, xt6, xt7, xt8, xt9, xt10, w, K1, Kr =>
    sel (decide (xt8 < xt9)) (
    optB At0 fun a17 =>
    req (decide (0 ≤ xt8 ∧ xt8 < (nt0 : Int))) <|
    ldI w (a17.add (xt8.toNat * 1)) .u8 fun x18 =>
    sel (x18 != xt6) (
    req (decide (0 ≤ xt9 ∧ xt9 ≤ (ct0 : Int))) <|
    req (decide (0 ≤ (IntKind.i64.wrap (xt8 + (1 : Int))) ∧ (IntKind.i64.wrap (xt8 + (1 : Int))) ≤ (xt9.toNat : Int))) <|
    Calls Tryd.prog 86 #[.slice (slA At0 ((IntKind.i64.wrap (xt8 + (1 : Int))).toNat) ct0 1) (xt9.toNat - (IntKind.i64.wrap (xt8 + (1 : Int))).toNat) (ct0 - (IntKind.i64.wrap (xt8 + (1 : Int))).toNat), .int .u8 xt6] w fun e19 w20 => ∃ (x21 : Int), e19 = .returned (.int .i64 x21) ∧ (
    sel (decide (x21 < (0 : Int))) (
    Kr (-1 : Int) w20) (
    j1 At0 nt0 ct0 At1 nt1 ct1 xt5 xt7 (IntKind.i64.wrap (xt8 + (IntKind.i64.wrap (x21 + (1 : Int))))) xt10 w20 (fun (x39 : Int) (x40 : Int) (w41 : World) => ∀ _ : Fr,
    l0 k At0 nt0 ct0 At1 nt1 ct1 xt5 xt6 xt7 x39 xt9 x40 w41 K1 Kr) (fun (x42 : Int) (w43 : World) => ∀ _ : Fr,
    Kr x42 w43)))) (
    j1 At0 nt0 ct0 At1 nt1 ct1 xt5 xt7 xt8 xt10 w (fun (x44 : Int) (x45 : Int) (w46 : World) => ∀ _ : Fr,
    l0 k At0 nt0 ct0 At1 nt1 ct1 xt5 xt6 xt7 x44 xt9 x45 w46 K1 Kr) (fun (x47 : Int) (w48 : World) => ∀ _ : Fr,
    Kr x47 w48))) (
    K1  w)
def j3 (At0 : Option Addr) (nt0 : Nat) (ct0 : Nat) (At1 : Option Addr) (nt1 : Nat) (ct1 : Nat) (xt5 : Int) (xt14 : Int) (xt15 : Int) (xt16 : Int) (xt17 : Int) (w : World) (Kn : Int → Int → World → Prop) (Kr : Int → World → Prop) : Prop :=
  optB At0 fun a62 =>
  req (decide (0 ≤ (IntKind.i64.wrap (xt15 + (1 : Int))) ∧ (IntKind.i64.wrap (xt15 + (1 : Int))) < (nt0 : Int))) <|
  ldI w (a62.add ((IntKind.i64.wrap (xt15 + (1 : Int))).toNat * 1)) .u8 fun x63 =>
  sel (x63 == xt14) (
  req (decide (0 ≤ (IntKind.i64.wrap (xt15 + xt5)) ∧ (IntKind.i64.wrap (xt15 + xt5)) ≤ (ct0 : Int))) <|
  req (decide (0 ≤ xt15 ∧ xt15 ≤ ((IntKind.i64.wrap (xt15 + xt5)).toNat : Int))) <|
  Calls Tryd.prog 48 #[.slice (slA At0 xt15.toNat ct0 1) ((IntKind.i64.wrap (xt15 + xt5)).toNat - xt15.toNat) (ct0 - xt15.toNat), .slice At1 nt1 ct1] w fun e64 w65 => ∃ (b66 : Bool), e64 = .returned (.bool b66) ∧ (
  sel b66 (
  Kr xt15 w65) (
  sel (decide ((IntKind.i64.wrap (xt16 + (1 : Int))) ≥ (IntKind.i64.wrap ((4 : Int) + ((IntKind.i64.wrap (xt15 + (1 : Int))).fdiv (2 ^ 4)))))) (
  sel (decide ((IntKind.i64.wrap (xt15 + (1 : Int))) < xt17)) (
  req (decide (0 ≤ (IntKind.i64.wrap (xt15 + (1 : Int))) ∧ (IntKind.i64.wrap (xt15 + (1 : Int))) ≤ (nt0 : Int))) <|
  Calls Tryd.prog 89 #[.slice (slA At0 ((IntKind.i64.wrap (xt15 + (1 : Int))).toNat) ct0 1) (nt0 - (IntKind.i64.wrap (xt15 + (1 : Int))).toNat) (ct0 - (IntKind.i64.wrap (xt15 + (1 : Int))).toNat), .slice At1 nt1 ct1] w65 fun e67 w68 => ∃ (x69 : Int), e67 = .returned (.int .i64 x69) ∧ (
  sel (decide (x69 < (0 : Int))) (
  Kr (-1 : Int) w68) (
  Kr (IntKind.i64.wrap ((IntKind.i64.wrap (xt15 + (1 : Int))) + x69)) w68))) (
  Kn (IntKind.i64.wrap (xt15 + (1 : Int))) (IntKind.i64.wrap (xt16 + (1 : Int))) w65)) (
  Kn (IntKind.i64.wrap (xt15 + (1 : Int))) (IntKind.i64.wrap (xt16 + (1 : Int))) w65)))) (
  sel (decide ((IntKind.i64.wrap (xt16 + (1 : Int))) ≥ (IntKind.i64.wrap ((4 : Int) + ((IntKind.i64.wrap (xt15 + (1 : Int))).fdiv (2 ^ 4)))))) (
  sel (decide ((IntKind.i64.wrap (xt15 + (1 : Int))) < xt17)) (
  req (decide (0 ≤ (IntKind.i64.wrap (xt15 + (1 : Int))) ∧ (IntKind.i64.wrap (xt15 + (1 : Int))) ≤ (nt0 : Int))) <|
  Calls Tryd.prog 89 #[.slice (slA At0 ((IntKind.i64.wrap (xt15 + (1 : Int))).toNat) ct0 1) (nt0 - (IntKind.i64.wrap (xt15 + (1 : Int))).toNat) (ct0 - (IntKind.i64.wrap (xt15 + (1 : Int))).toNat), .slice At1 nt1 ct1] w fun e70 w71 => ∃ (x72 : Int), e70 = .returned (.int .i64 x72) ∧ (
  sel (decide (x72 < (0 : Int))) (
  Kr (-1 : Int) w71) (
  Kr (IntKind.i64.wrap ((IntKind.i64.wrap (xt15 + (1 : Int))) + x72)) w71))) (
  Kn (IntKind.i64.wrap (xt15 + (1 : Int))) (IntKind.i64.wrap (xt16 + (1 : Int))) w)) (
  Kn (IntKind.i64.wrap (xt15 + (1 : Int))) (IntKind.i64.wrap (xt16 + (1 : Int))) w))
def l2 : Nat → Option Addr → Nat → Nat → Option Addr → Nat → Nat → Int → Int → Int → Int → Int → Int → World → (World → Prop) → (Int → World → Prop) → Prop
  | 0, _, _, _, _, _, _, _, _, _, _, _, _, _, _, _ => False
  | k + 1, At0, nt0, ct0, At1, nt1, ct1, xt5, xt13, xt14, xt15, xt16, xt17, w, K3, Kr =>
    sel (decide (xt15 < xt17)) (
    optB At0 fun a57 =>
    req (decide (0 ≤ xt15 ∧ xt15 < (nt0 : Int))) <|
    ldI w (a57.add (xt15.toNat * 1)) .u8 fun x58 =>
    sel (x58 != xt13) (
    req (decide (0 ≤ xt17 ∧ xt17 ≤ (ct0 : Int))) <|
    req (decide (0 ≤ (IntKind.i64.wrap (xt15 + (1 : Int))) ∧ (IntKind.i64.wrap (xt15 + (1 : Int))) ≤ (xt17.toNat : Int))) <|
    Calls Tryd.prog 86 #[.slice (slA At0 ((IntKind.i64.wrap (xt15 + (1 : Int))).toNat) ct0 1) (xt17.toNat - (IntKind.i64.wrap (xt15 + (1 : Int))).toNat) (ct0 - (IntKind.i64.wrap (xt15 + (1 : Int))).toNat), .int .u8 xt13] w fun e59 w60 => ∃ (x61 : Int), e59 = .returned (.int .i64 x61) ∧ (
    sel (decide (x61 < (0 : Int))) (
    K3  w60) (
    j3 At0 nt0 ct0 At1 nt1 ct1 xt5 xt14 (IntKind.i64.wrap (xt15 + (IntKind.i64.wrap (x61 + (1 : Int))))) xt16 xt17 w60 (fun (x73 : Int) (x74 : Int) (w75 : World) => ∀ _ : Fr,
    l2 k At0 nt0 ct0 At1 nt1 ct1 xt5 xt13 xt14 x73 x74 xt17 w75 K3 Kr) (fun (x76 : Int) (w77 : World) => ∀ _ : Fr,
    Kr x76 w77)))) (
    j3 At0 nt0 ct0 At1 nt1 ct1 xt5 xt14 xt15 xt16 xt17 w (fun (x78 : Int) (x79 : Int) (w80 : World) => ∀ _ : Fr,
    l2 k At0 nt0 ct0 At1 nt1 ct1 xt5 xt13 xt14 x78 x79 xt17 w80 K3 Kr) (fun (x81 : Int) (w82 : World) => ∀ _ : Fr,
    Kr x81 w82))) (
    K3  w)
def wp (Aa0 : Option Addr) (na0 : Nat) (ca0 : Nat) (Aa1 : Option Addr) (na1 : Nat) (ca1 : Nat) (w : World) (Q : Ending → World → Prop) : Prop :=
  sel ((na1 : Int) == (0 : Int)) (
  Q (.returned (.int .i64 (0 : Int))) w) (
  sel ((na1 : Int) == (1 : Int)) (
  optB Aa1 fun a1 =>
  req (decide (0 ≤ (0 : Int) ∧ (0 : Int) < (na1 : Int))) <|
  ldI w (a1.add ((0 : Int).toNat * 1)) .u8 fun x2 =>
  Calls Tryd.prog 86 #[.slice Aa0 na0 ca0, .int .u8 x2] w fun e3 w4 => ∃ (x5 : Int), e3 = .returned (.int .i64 x5) ∧ (
  Q (.returned (.int .i64 x5)) w4)) (
  sel ((na1 : Int) == (na0 : Int)) (
  Calls Tryd.prog 48 #[.slice Aa1 na1 ca1, .slice Aa0 na0 ca0] w fun e6 w7 => ∃ (b8 : Bool), e6 = .returned (.bool b8) ∧ (
  sel b8 (
  Q (.returned (.int .i64 (0 : Int))) w7) (
  Q (.returned (.int .i64 (-1 : Int))) w7))) (
  sel (decide ((na1 : Int) > (na0 : Int))) (
  Q (.returned (.int .i64 (-1 : Int))) w) (
  ldI w (⟨0, 0, Option.none⟩ : Addr) .i64 fun x9 =>
  sel (decide ((na1 : Int) ≤ x9)) (
  sel (decide ((na0 : Int) ≤ (64 : Int))) (
  Runs Tryd.prog (callFunc 87 #[.slice Aa0 na0 ca0, .slice Aa1 na1 ca1]) w fun e10 w11 => ∃ (x12 : Int), e10 = .value (.int .i64 x12) ∧ (
  Q (.returned (.int .i64 x12)) w11)) (
  optB Aa1 fun a13 =>
  req (decide (0 ≤ (0 : Int) ∧ (0 : Int) < (na1 : Int))) <|
  ldI w (a13.add ((0 : Int).toNat * 1)) .u8 fun x14 =>
  optB Aa1 fun a15 =>
  req (decide (0 ≤ (1 : Int) ∧ (1 : Int) < (na1 : Int))) <|
  ldI w (a15.add ((1 : Int).toNat * 1)) .u8 fun x16 =>
  ∃ k52 : Nat, l0 k52 Aa0 na0 ca0 Aa1 na1 ca1 (na1 : Int) x14 x16 (0 : Int) (IntKind.i64.wrap ((IntKind.i64.wrap ((na0 : Int) - (na1 : Int))) + (1 : Int))) (0 : Int) w (fun (w49 : World) => ∀ _ : Fr,
  Q (.returned (.int .i64 (-1 : Int))) w49) (fun (x50 : Int) (w51 : World) => ∀ _ : Fr,
  Q (.returned (.int .i64 x50)) w51))) (
  optB Aa1 fun a53 =>
  req (decide (0 ≤ (0 : Int) ∧ (0 : Int) < (na1 : Int))) <|
  ldI w (a53.add ((0 : Int).toNat * 1)) .u8 fun x54 =>
  optB Aa1 fun a55 =>
  req (decide (0 ≤ (1 : Int) ∧ (1 : Int) < (na1 : Int))) <|
  ldI w (a55.add ((1 : Int).toNat * 1)) .u8 fun x56 =>
  ∃ k86 : Nat, l2 k86 Aa0 na0 ca0 Aa1 na1 ca1 (na1 : Int) x54 x56 (0 : Int) (0 : Int) (IntKind.i64.wrap ((IntKind.i64.wrap ((na0 : Int) - (na1 : Int))) + (1 : Int))) w (fun (w83 : World) => ∀ _ : Fr,
  Q (.returned (.int .i64 (-1 : Int))) w83) (fun (x84 : Int) (w85 : World) => ∀ _ : Fr,
  Q (.returned (.int .i64 x84)) w85))))))
def D : Nat → Option DH := dtab []
def j1LO : LO := ⟨[0, 1, 5, 6, 7, 8, 9, 10], [4], [], []⟩
def j1T : Spec := fun Q σ w =>
  gSlice (σ 0) fun At0 nt0 ct0 =>
  gSlice (σ 1) fun At1 nt1 ct1 =>
  gInt .i64 (σ 5) fun xt5 =>
  gInt .u8 (σ 7) fun xt7 =>
  gInt .i64 (σ 8) fun xt8 =>
  gInt .i64 (σ 10) fun xt10 =>
  j1 At0 nt0 ct0 At1 nt1 ct1 xt5 xt7 xt8 xt10 w (fun (xq8 : Int) (xq10 : Int) (w : World) => ∀ d : Fr, Q .normal (ov d [(0, .slice At0 nt0 ct0), (1, .slice At1 nt1 ct1), (5, .int .i64 xt5), (6, σ 6), (7, .int .u8 xt7), (8, .int .i64 xq8), (9, σ 9), (10, .int .i64 xq10)]) w) (fun (xq4 : Int) (w : World) => ∀ d : Fr, Q .ret (ov d [(4, .int .i64 xq4)]) w)
def j1tb : List (List Nat × Spec) := []
noncomputable def j1b : Code := (subC [1, 0, 1, 0, 0, 0, 1, 1, 1, 1, 1, 1, 0, 1, 1, 1, 1, 1, 1, 1, 1, 1, 0, 0, 1, 1] body).getD .skip
theorem j1_eq (At0 : Option Addr) (nt0 : Nat) (ct0 : Nat) (At1 : Option Addr) (nt1 : Nat) (ct1 : Nat) (xt5 : Int) (xt7 : Int) (xt8 : Int) (xt10 : Int) (Q : PQ) (σ : Fr) (w : World) :
    j1 At0 nt0 ct0 At1 nt1 ct1 xt5 xt7 xt8 xt10 w (fun (xq8 : Int) (xq10 : Int) (w : World) => ∀ d : Fr, Q .normal (ov d [(0, .slice At0 nt0 ct0), (1, .slice At1 nt1 ct1), (5, .int .i64 xt5), (6, σ 6), (7, .int .u8 xt7), (8, .int .i64 xq8), (9, σ 9), (10, .int .i64 xq10)]) w) (fun (xq4 : Int) (w : World) => ∀ d : Fr, Q .ret (ov d [(4, .int .i64 xq4)]) w) = codeW Tryd.prog hT 200 D (tab j1tb) [1, 0, 1, 0, 0, 0, 1, 1, 1, 1, 1, 1, 0, 1, 1, 1, 1, 1, 1, 1, 1, 1, 0, 0, 1, 1] j1b (widen j1LO Q) (ov σ [(0, .slice At0 nt0 ct0), (1, .slice At1 nt1 ct1), (5, .int .i64 xt5), (7, .int .u8 xt7), (8, .int .i64 xt8), (10, .int .i64 xt10)]) w := by kernel_rfl
theorem j1_snd : ∀ c, subC [1, 0, 1, 0, 0, 0, 1, 1, 1, 1, 1, 1, 0, 1, 1, 1, 1, 1, 1, 1, 1, 1, 0, 0, 1, 1] body = some c → Snd Tryd.prog 200 c j1T := by
  refine cut_of (hT := hT) (D := D) (l := j1tb) (b := j1b) (lo := j1LO) (by kernel_rfl) (by
    intro x hx
    simp only [j1tb, List.not_mem_nil] at hx
    ) (by kernel_rfl) (by kernel_rfl) ?_
  intro Q σ w h
  unfold j1T at h
  obtain ⟨At0, nt0, ct0, h0, hn⟩ := gSlice_elim h
  clear h
  have h := hn
  clear hn
  obtain ⟨At1, nt1, ct1, h1, hn⟩ := gSlice_elim h
  clear h
  have h := hn
  clear hn
  obtain ⟨xt5, h5, hn⟩ := gInt_elim h
  clear h
  have h := hn
  clear hn
  obtain ⟨xt7, h7, hn⟩ := gInt_elim h
  clear h
  have h := hn
  clear hn
  obtain ⟨xt8, h8, hn⟩ := gInt_elim h
  clear h
  have h := hn
  clear hn
  obtain ⟨xt10, h10, hn⟩ := gInt_elim h
  clear h
  have h := hn
  clear hn
  rw [j1_eq (σ := σ)] at h
  have e : (ov σ [(0, .slice At0 nt0 ct0), (1, .slice At1 nt1 ct1), (5, .int .i64 xt5), (7, .int .u8 xt7), (8, .int .i64 xt8), (10, .int .i64 xt10)]) = σ := ov_self (by simp [h0, h1, h5, h7, h8, h10])
  rw [e] at h
  exact h
def l0LO : LO := ⟨[], [4], [(1, [])], []⟩
def l0Tk (k : Nat) : Spec := fun Q σ w =>
  gSlice (σ 0) fun At0 nt0 ct0 =>
  gSlice (σ 1) fun At1 nt1 ct1 =>
  gInt .i64 (σ 5) fun xt5 =>
  gInt .u8 (σ 6) fun xt6 =>
  gInt .u8 (σ 7) fun xt7 =>
  gInt .i64 (σ 8) fun xt8 =>
  gInt .i64 (σ 9) fun xt9 =>
  gInt .i64 (σ 10) fun xt10 =>
  l0 k At0 nt0 ct0 At1 nt1 ct1 xt5 xt6 xt7 xt8 xt9 xt10 w (fun (w : World) => ∀ d : Fr, Q (.exit 1) (ov d []) w) (fun (xq4 : Int) (w : World) => ∀ d : Fr, Q .ret (ov d [(4, .int .i64 xq4)]) w)
def l0T : Spec := fun Q σ w => ∃ k, l0Tk k Q σ w
def l0tb : List (List Nat × Spec) := [([1, 0, 1, 0, 0, 0, 1, 1, 1, 1, 1, 1, 0, 1, 1, 1, 1, 1, 1, 1, 1, 1, 0, 0, 1, 1], j1T)]
noncomputable def l0b : Code := (subC [0, 0, 0, 1, 1, 1, 1, 1, 1, 0, 1, 1, 1, 1, 1, 1, 1, 1, 1, 0, 0, 1, 1] body).getD .skip
theorem l0_eq (k : Nat) (At0 : Option Addr) (nt0 : Nat) (ct0 : Nat) (At1 : Option Addr) (nt1 : Nat) (ct1 : Nat) (xt5 : Int) (xt6 : Int) (xt7 : Int) (xt8 : Int) (xt9 : Int) (xt10 : Int) (Q : PQ) (σ : Fr) (w : World) :
    l0 (k + 1) At0 nt0 ct0 At1 nt1 ct1 xt5 xt6 xt7 xt8 xt9 xt10 w (fun (w : World) => ∀ d : Fr, Q (.exit 1) (ov d []) w) (fun (xq4 : Int) (w : World) => ∀ d : Fr, Q .ret (ov d [(4, .int .i64 xq4)]) w) = codeW Tryd.prog hT 200 D (tab l0tb) [0, 0, 0, 1, 1, 1, 1, 1, 1, 0, 1, 1, 1, 1, 1, 1, 1, 1, 1, 0, 0, 1, 1] l0b (thenQ (l0Tk k Q) (widen l0LO Q)) (ov σ [(0, .slice At0 nt0 ct0), (1, .slice At1 nt1 ct1), (5, .int .i64 xt5), (6, .int .u8 xt6), (7, .int .u8 xt7), (8, .int .i64 xt8), (9, .int .i64 xt9), (10, .int .i64 xt10)]) w := by kernel_rfl
theorem l0_snd : ∀ c, subC [0, 0, 1, 1, 1, 1, 1, 1, 0, 1, 1, 1, 1, 1, 1, 1, 1, 1, 0, 0, 1, 1] body = some c → Snd Tryd.prog 200 c l0T := by
  refine loop_of (hT := hT) (D := D) (l := l0tb) (b := l0b) (lo := l0LO) (by kernel_rfl) (by
    intro x hx
    simp only [l0tb, List.mem_cons, List.not_mem_nil, or_false] at hx
    subst hx
    exact j1_snd) (by kernel_rfl) (by kernel_rfl) ?_ ?_
  · intro Q σ w h
    unfold l0Tk at h
    obtain ⟨At0, nt0, ct0, h0, hn⟩ := gSlice_elim h
    clear h
    have h := hn
    clear hn
    obtain ⟨At1, nt1, ct1, h1, hn⟩ := gSlice_elim h
    clear h
    have h := hn
    clear hn
    obtain ⟨xt5, h5, hn⟩ := gInt_elim h
    clear h
    have h := hn
    clear hn
    obtain ⟨xt6, h6, hn⟩ := gInt_elim h
    clear h
    have h := hn
    clear hn
    obtain ⟨xt7, h7, hn⟩ := gInt_elim h
    clear h
    have h := hn
    clear hn
    obtain ⟨xt8, h8, hn⟩ := gInt_elim h
    clear h
    have h := hn
    clear hn
    obtain ⟨xt9, h9, hn⟩ := gInt_elim h
    clear h
    have h := hn
    clear hn
    obtain ⟨xt10, h10, hn⟩ := gInt_elim h
    clear h
    have h := hn
    clear hn
    exact h
  · intro k Q σ w h
    unfold l0Tk at h
    obtain ⟨At0, nt0, ct0, h0, hn⟩ := gSlice_elim h
    clear h
    have h := hn
    clear hn
    obtain ⟨At1, nt1, ct1, h1, hn⟩ := gSlice_elim h
    clear h
    have h := hn
    clear hn
    obtain ⟨xt5, h5, hn⟩ := gInt_elim h
    clear h
    have h := hn
    clear hn
    obtain ⟨xt6, h6, hn⟩ := gInt_elim h
    clear h
    have h := hn
    clear hn
    obtain ⟨xt7, h7, hn⟩ := gInt_elim h
    clear h
    have h := hn
    clear hn
    obtain ⟨xt8, h8, hn⟩ := gInt_elim h
    clear h
    have h := hn
    clear hn
    obtain ⟨xt9, h9, hn⟩ := gInt_elim h
    clear h
    have h := hn
    clear hn
    obtain ⟨xt10, h10, hn⟩ := gInt_elim h
    clear h
    have h := hn
    clear hn
    rw [l0_eq (σ := σ)] at h
    have e : (ov σ [(0, .slice At0 nt0 ct0), (1, .slice At1 nt1 ct1), (5, .int .i64 xt5), (6, .int .u8 xt6), (7, .int .u8 xt7), (8, .int .i64 xt8), (9, .int .i64 xt9), (10, .int .i64 xt10)]) = σ := ov_self (by simp [h0, h1, h5, h6, h7, h8, h9, h10])
    rw [e] at h
    exact h
def j3LO : LO := ⟨[0, 1, 5, 13, 14, 15, 16, 17], [4], [], []⟩
def j3T : Spec := fun Q σ w =>
  gSlice (σ 0) fun At0 nt0 ct0 =>
  gSlice (σ 1) fun At1 nt1 ct1 =>
  gInt .i64 (σ 5) fun xt5 =>
  gInt .u8 (σ 14) fun xt14 =>
  gInt .i64 (σ 15) fun xt15 =>
  gInt .i64 (σ 16) fun xt16 =>
  gInt .i64 (σ 17) fun xt17 =>
  j3 At0 nt0 ct0 At1 nt1 ct1 xt5 xt14 xt15 xt16 xt17 w (fun (xq15 : Int) (xq16 : Int) (w : World) => ∀ d : Fr, Q .normal (ov d [(0, .slice At0 nt0 ct0), (1, .slice At1 nt1 ct1), (5, .int .i64 xt5), (13, σ 13), (14, .int .u8 xt14), (15, .int .i64 xq15), (16, .int .i64 xq16), (17, .int .i64 xt17)]) w) (fun (xq4 : Int) (w : World) => ∀ d : Fr, Q .ret (ov d [(4, .int .i64 xq4)]) w)
def j3tb : List (List Nat × Spec) := []
noncomputable def j3b : Code := (subC [1, 0, 1, 0, 0, 0, 1, 1, 1, 1, 1, 1, 1, 1] body).getD .skip
theorem j3_eq (At0 : Option Addr) (nt0 : Nat) (ct0 : Nat) (At1 : Option Addr) (nt1 : Nat) (ct1 : Nat) (xt5 : Int) (xt14 : Int) (xt15 : Int) (xt16 : Int) (xt17 : Int) (Q : PQ) (σ : Fr) (w : World) :
    j3 At0 nt0 ct0 At1 nt1 ct1 xt5 xt14 xt15 xt16 xt17 w (fun (xq15 : Int) (xq16 : Int) (w : World) => ∀ d : Fr, Q .normal (ov d [(0, .slice At0 nt0 ct0), (1, .slice At1 nt1 ct1), (5, .int .i64 xt5), (13, σ 13), (14, .int .u8 xt14), (15, .int .i64 xq15), (16, .int .i64 xq16), (17, .int .i64 xt17)]) w) (fun (xq4 : Int) (w : World) => ∀ d : Fr, Q .ret (ov d [(4, .int .i64 xq4)]) w) = codeW Tryd.prog hT 200 D (tab j3tb) [1, 0, 1, 0, 0, 0, 1, 1, 1, 1, 1, 1, 1, 1] j3b (widen j3LO Q) (ov σ [(0, .slice At0 nt0 ct0), (1, .slice At1 nt1 ct1), (5, .int .i64 xt5), (14, .int .u8 xt14), (15, .int .i64 xt15), (16, .int .i64 xt16), (17, .int .i64 xt17)]) w := by kernel_rfl
theorem j3_snd : ∀ c, subC [1, 0, 1, 0, 0, 0, 1, 1, 1, 1, 1, 1, 1, 1] body = some c → Snd Tryd.prog 200 c j3T := by
  refine cut_of (hT := hT) (D := D) (l := j3tb) (b := j3b) (lo := j3LO) (by kernel_rfl) (by
    intro x hx
    simp only [j3tb, List.not_mem_nil] at hx
    ) (by kernel_rfl) (by kernel_rfl) ?_
  intro Q σ w h
  unfold j3T at h
  obtain ⟨At0, nt0, ct0, h0, hn⟩ := gSlice_elim h
  clear h
  have h := hn
  clear hn
  obtain ⟨At1, nt1, ct1, h1, hn⟩ := gSlice_elim h
  clear h
  have h := hn
  clear hn
  obtain ⟨xt5, h5, hn⟩ := gInt_elim h
  clear h
  have h := hn
  clear hn
  obtain ⟨xt14, h14, hn⟩ := gInt_elim h
  clear h
  have h := hn
  clear hn
  obtain ⟨xt15, h15, hn⟩ := gInt_elim h
  clear h
  have h := hn
  clear hn
  obtain ⟨xt16, h16, hn⟩ := gInt_elim h
  clear h
  have h := hn
  clear hn
  obtain ⟨xt17, h17, hn⟩ := gInt_elim h
  clear h
  have h := hn
  clear hn
  rw [j3_eq (σ := σ)] at h
  have e : (ov σ [(0, .slice At0 nt0 ct0), (1, .slice At1 nt1 ct1), (5, .int .i64 xt5), (14, .int .u8 xt14), (15, .int .i64 xt15), (16, .int .i64 xt16), (17, .int .i64 xt17)]) = σ := ov_self (by simp [h0, h1, h5, h14, h15, h16, h17])
  rw [e] at h
  exact h
def l2LO : LO := ⟨[], [4], [(3, [])], []⟩
def l2Tk (k : Nat) : Spec := fun Q σ w =>
  gSlice (σ 0) fun At0 nt0 ct0 =>
  gSlice (σ 1) fun At1 nt1 ct1 =>
  gInt .i64 (σ 5) fun xt5 =>
  gInt .u8 (σ 13) fun xt13 =>
  gInt .u8 (σ 14) fun xt14 =>
  gInt .i64 (σ 15) fun xt15 =>
  gInt .i64 (σ 16) fun xt16 =>
  gInt .i64 (σ 17) fun xt17 =>
  l2 k At0 nt0 ct0 At1 nt1 ct1 xt5 xt13 xt14 xt15 xt16 xt17 w (fun (w : World) => ∀ d : Fr, Q (.exit 3) (ov d []) w) (fun (xq4 : Int) (w : World) => ∀ d : Fr, Q .ret (ov d [(4, .int .i64 xq4)]) w)
def l2T : Spec := fun Q σ w => ∃ k, l2Tk k Q σ w
def l2tb : List (List Nat × Spec) := [([1, 0, 1, 0, 0, 0, 1, 1, 1, 1, 1, 1, 1, 1], j3T)]
noncomputable def l2b : Code := (subC [0, 0, 0, 1, 1, 1, 1, 1, 1, 1, 1] body).getD .skip
theorem l2_eq (k : Nat) (At0 : Option Addr) (nt0 : Nat) (ct0 : Nat) (At1 : Option Addr) (nt1 : Nat) (ct1 : Nat) (xt5 : Int) (xt13 : Int) (xt14 : Int) (xt15 : Int) (xt16 : Int) (xt17 : Int) (Q : PQ) (σ : Fr) (w : World) :
    l2 (k + 1) At0 nt0 ct0 At1 nt1 ct1 xt5 xt13 xt14 xt15 xt16 xt17 w (fun (w : World) => ∀ d : Fr, Q (.exit 3) (ov d []) w) (fun (xq4 : Int) (w : World) => ∀ d : Fr, Q .ret (ov d [(4, .int .i64 xq4)]) w) = codeW Tryd.prog hT 200 D (tab l2tb) [0, 0, 0, 1, 1, 1, 1, 1, 1, 1, 1] l2b (thenQ (l2Tk k Q) (widen l2LO Q)) (ov σ [(0, .slice At0 nt0 ct0), (1, .slice At1 nt1 ct1), (5, .int .i64 xt5), (13, .int .u8 xt13), (14, .int .u8 xt14), (15, .int .i64 xt15), (16, .int .i64 xt16), (17, .int .i64 xt17)]) w := by kernel_rfl
theorem l2_snd : ∀ c, subC [0, 0, 1, 1, 1, 1, 1, 1, 1, 1] body = some c → Snd Tryd.prog 200 c l2T := by
  refine loop_of (hT := hT) (D := D) (l := l2tb) (b := l2b) (lo := l2LO) (by kernel_rfl) (by
    intro x hx
    simp only [l2tb, List.mem_cons, List.not_mem_nil, or_false] at hx
    subst hx
    exact j3_snd) (by kernel_rfl) (by kernel_rfl) ?_ ?_
  · intro Q σ w h
    unfold l2Tk at h
    obtain ⟨At0, nt0, ct0, h0, hn⟩ := gSlice_elim h
    clear h
    have h := hn
    clear hn
    obtain ⟨At1, nt1, ct1, h1, hn⟩ := gSlice_elim h
    clear h
    have h := hn
    clear hn
    obtain ⟨xt5, h5, hn⟩ := gInt_elim h
    clear h
    have h := hn
    clear hn
    obtain ⟨xt13, h13, hn⟩ := gInt_elim h
    clear h
    have h := hn
    clear hn
    obtain ⟨xt14, h14, hn⟩ := gInt_elim h
    clear h
    have h := hn
    clear hn
    obtain ⟨xt15, h15, hn⟩ := gInt_elim h
    clear h
    have h := hn
    clear hn
    obtain ⟨xt16, h16, hn⟩ := gInt_elim h
    clear h
    have h := hn
    clear hn
    obtain ⟨xt17, h17, hn⟩ := gInt_elim h
    clear h
    have h := hn
    clear hn
    exact h
  · intro k Q σ w h
    unfold l2Tk at h
    obtain ⟨At0, nt0, ct0, h0, hn⟩ := gSlice_elim h
    clear h
    have h := hn
    clear hn
    obtain ⟨At1, nt1, ct1, h1, hn⟩ := gSlice_elim h
    clear h
    have h := hn
    clear hn
    obtain ⟨xt5, h5, hn⟩ := gInt_elim h
    clear h
    have h := hn
    clear hn
    obtain ⟨xt13, h13, hn⟩ := gInt_elim h
    clear h
    have h := hn
    clear hn
    obtain ⟨xt14, h14, hn⟩ := gInt_elim h
    clear h
    have h := hn
    clear hn
    obtain ⟨xt15, h15, hn⟩ := gInt_elim h
    clear h
    have h := hn
    clear hn
    obtain ⟨xt16, h16, hn⟩ := gInt_elim h
    clear h
    have h := hn
    clear hn
    obtain ⟨xt17, h17, hn⟩ := gInt_elim h
    clear h
    have h := hn
    clear hn
    rw [l2_eq (σ := σ)] at h
    have e : (ov σ [(0, .slice At0 nt0 ct0), (1, .slice At1 nt1 ct1), (5, .int .i64 xt5), (13, .int .u8 xt13), (14, .int .u8 xt14), (15, .int .i64 xt15), (16, .int .i64 xt16), (17, .int .i64 xt17)]) = σ := ov_self (by simp [h0, h1, h5, h13, h14, h15, h16, h17])
    rw [e] at h
    exact h
def tb : List (List Nat × Spec) := [([1, 0, 1, 0, 0, 0, 1, 1, 1, 1, 1, 1, 0, 1, 1, 1, 1, 1, 1, 1, 1, 1, 0, 0, 1, 1], j1T), ([0, 0, 1, 1, 1, 1, 1, 1, 0, 1, 1, 1, 1, 1, 1, 1, 1, 1, 0, 0, 1, 1], l0T), ([1, 0, 1, 0, 0, 0, 1, 1, 1, 1, 1, 1, 1, 1], j3T), ([0, 0, 1, 1, 1, 1, 1, 1, 1, 1], l2T)]
theorem wp_eq (Aa0 : Option Addr) (na0 : Nat) (ca0 : Nat) (Aa1 : Option Addr) (na1 : Nat) (ca1 : Nat) (w : World) (Q : Ending → World → Prop) :
    wp Aa0 na0 ca0 Aa1 na1 ca1 w Q = codeW Tryd.prog hT 200 D (tab tb) [] body (topQ Tryd.prog hT 200 [.tmp 4] Q) (argsF [.slice Aa0 na0 ca0, .slice Aa1 na1 ca1]) w := by kernel_rfl
theorem ok (Aa0 : Option Addr) (na0 : Nat) (ca0 : Nat) (Aa1 : Option Addr) (na1 : Nat) (ca1 : Nat) (w : World) (Q : Ending → World → Prop) (h : wp Aa0 na0 ca0 Aa1 na1 ca1 w Q) : Calls Tryd.prog 77 #[.slice Aa0 na0 ca0, .slice Aa1 na1 ca1] w Q := by
  rw [wp_eq] at h
  exact calls_of_codeW (c := body) (rs := [.tmp 4]) Tryd.func77 (by kernel_rfl) (by kernel_rfl) (by kernel_rfl) (by kernel_rfl) (by kernel_rfl) (tab_snd (by
    intro x hx
    simp only [tb, List.mem_cons, List.not_mem_nil, or_false] at hx
    rcases hx with rfl | rfl | rfl | rfl
    · exact j1_snd
    · exact l0_snd
    · exact j3_snd
    · exact l2_snd)) (by kernel_rfl) h
end f_bytes_Index
namespace f_bytes_IndexByte
/-! bytes.IndexByte: function 86 -/
noncomputable def body : Code := (Tryd.f86.body).getD .skip
def wp (Aa0 : Option Addr) (na0 : Nat) (ca0 : Nat) (xa1 : Int) (w : World) (Q : Ending → World → Prop) : Prop :=
  Runs Tryd.prog (callFunc 99 #[.slice Aa0 na0 ca0, .int .u8 xa1]) w fun e1 w2 => ∃ (x3 : Int), e1 = .value (.int .i64 x3) ∧ (
  Q (.returned (.int .i64 x3)) w2)
def D : Nat → Option DH := dtab []
def tb : List (List Nat × Spec) := []
theorem wp_eq (Aa0 : Option Addr) (na0 : Nat) (ca0 : Nat) (xa1 : Int) (w : World) (Q : Ending → World → Prop) :
    wp Aa0 na0 ca0 xa1 w Q = codeW Tryd.prog hT 8 D (tab tb) [] body (topQ Tryd.prog hT 8 [.tmp 4] Q) (argsF [.slice Aa0 na0 ca0, .int .u8 xa1]) w := by kernel_rfl
theorem ok (Aa0 : Option Addr) (na0 : Nat) (ca0 : Nat) (xa1 : Int) (w : World) (Q : Ending → World → Prop) (h : wp Aa0 na0 ca0 xa1 w Q) : Calls Tryd.prog 86 #[.slice Aa0 na0 ca0, .int .u8 xa1] w Q := by
  rw [wp_eq] at h
  exact calls_of_codeW (c := body) (rs := [.tmp 4]) Tryd.func86 (by kernel_rfl) (by kernel_rfl) (by kernel_rfl) (by kernel_rfl) (by kernel_rfl) (tab_snd (by
    intro x hx
    simp only [tb, List.not_mem_nil] at hx
    )) (by kernel_rfl) h
end f_bytes_IndexByte
end Go.Proofs.YtakgoekfnhkgaaaDoor.Rd
