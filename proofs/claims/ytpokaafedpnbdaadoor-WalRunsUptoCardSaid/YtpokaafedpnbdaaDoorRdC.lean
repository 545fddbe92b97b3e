/- The printed readings of some functions: each function's code reckoned by the kernel to its predicate transformer. -/
import Derived.Test.YtpokaafedpnbdaaDoorHint
namespace Go.Proofs.YtpokaafedpnbdaaDoor.Rd
open Go.Dn
set_option maxRecDepth 100000
set_option linter.unusedVariables false
namespace f_ref07_Later
/-! skein/skeinref07.Later: function 15 -/
noncomputable def body : Code := (Tryd.f15.body).getD .skip
def l0 : Nat → Option Addr → Nat → Nat → Int → Option Addr → Nat → Nat → Int → World → ((Option Addr) → Nat → Nat → World → Prop) → Prop
  | 0, _, _, _, _, _, _, _, _, _, _ => False
  | k + 1, At0, nt0, ct0, xt1, At5, nt5, ct5, xt6, w, K0 =>
    sel (decide (xt6 < (nt0 : Int))) (
    optB At0 fun a3 =>
    req (decide (0 ≤ xt6 ∧ xt6 < (nt0 : Int))) <|
    ldI w (a3.add (xt6.toNat * 2)) .i64 fun x4 =>
    sel (decide (x4 ≥ (1 : Int))) (
    optB At0 fun a5 =>
    req (decide (0 ≤ xt6 ∧ xt6 < (nt0 : Int))) <|
    ldI w (a5.add (xt6.toNat * 2)) .i64 fun x6 =>
    sel (decide (x6 ≤ (1099511627776 : Int))) (
    drW w fun w7 =>
    ∃ S8 : World → Prop, S8 w7 ∧ (
    optB At0 fun a9 =>
    req (decide (0 ≤ xt6 ∧ xt6 < (nt0 : Int))) <|
    hdI S8 (a9.add (xt6.toNat * 2)) .i64 fun x10 =>
    optB At0 fun a11 =>
    req (decide (0 ≤ xt6 ∧ xt6 < (nt0 : Int))) <|
    hdI S8 ((a11.add (xt6.toNat * 2)).add 1) .i64 fun x12 =>
    alW w7 (.cells #[.int .i64 (IntKind.i64.wrap (x10 + xt1)), .int .i64 x12] 51) fun B13 w14 =>
    S8 w14 ∧ (
    Runs Tryd.prog (Builtin.append_ #[31, 31] 31 #[.slice At5 nt5 ct5, .slice (some (⟨B13, 0, Option.none⟩ : Addr)) 1 1]) w14 fun v16 w15 => ∃ (A17 : Option Addr) (n17 : Nat) (c17 : Nat), v16 = (.slice A17 n17 c17) ∧ (
    l0 k At0 nt0 ct0 xt1 A17 n17 c17 (IntKind.i64.wrap (xt6 + (1 : Int))) w15 K0)))) (
    l0 k At0 nt0 ct0 xt1 At5 nt5 ct5 (IntKind.i64.wrap (xt6 + (1 : Int))) w K0)) (
    l0 k At0 nt0 ct0 xt1 At5 nt5 ct5 (IntKind.i64.wrap (xt6 + (1 : Int))) w K0)) (
    K0 At5 nt5 ct5 w)
def wp (Aa0 : Option Addr) (na0 : Nat) (ca0 : Nat) (xa1 : Int) (w : World) (Q : Ending → World → Prop) : Prop :=
  alW w (.cells #[] 51) fun B1 w2 =>
  ∃ k20 : Nat, l0 k20 Aa0 na0 ca0 xa1 (some (⟨B1, 0, Option.none⟩ : Addr)) 0 0 (0 : Int) w2 (fun (A18 : Option Addr) (n18 : Nat) (c18 : Nat) (w19 : World) => ∀ _ : Fr,
  Q (.returned (.slice A18 n18 c18)) w19)
def D : Nat → Option DH := dtab [(6, .held [.fst 0, .fst 1, .fst 2, .fst 3, .fst 4, .fst 5, .fst 6, .fst 7, .fst 8, .fst 9, .fst 10, .fst 11, .fst 12, .fst 13, .eff 14] [.eff 15, .fst 16])]
def l0LO : LO := ⟨[], [], [(0, [5])], []⟩
def l0Tk (k : Nat) : Spec := fun Q σ w =>
  gSlice (σ 0) fun At0 nt0 ct0 =>
  gInt .i64 (σ 1) fun xt1 =>
  gSlice (σ 5) fun At5 nt5 ct5 =>
  gInt .i64 (σ 6) fun xt6 =>
  l0 k At0 nt0 ct0 xt1 At5 nt5 ct5 xt6 w (fun (Aq5 : Option Addr) (nq5 : Nat) (cq5 : Nat) (w : World) => ∀ d : Fr, Q (.exit 0) (ov d [(5, .slice Aq5 nq5 cq5)]) w)
def l0T : Spec := fun Q σ w => ∃ k, l0Tk k Q σ w
def l0tb : List (List Nat × Spec) := []
noncomputable def l0b : Code := (subC [0, 0, 1, 0, 1, 1] body).getD .skip
theorem l0_eq (k : Nat) (At0 : Option Addr) (nt0 : Nat) (ct0 : Nat) (xt1 : Int) (At5 : Option Addr) (nt5 : Nat) (ct5 : Nat) (xt6 : Int) (Q : PQ) (σ : Fr) (w : World) :
    l0 (k + 1) At0 nt0 ct0 xt1 At5 nt5 ct5 xt6 w (fun (Aq5 : Option Addr) (nq5 : Nat) (cq5 : Nat) (w : World) => ∀ d : Fr, Q (.exit 0) (ov d [(5, .slice Aq5 nq5 cq5)]) w) = codeW Tryd.prog hT 45 D (tab l0tb) [0, 0, 1, 0, 1, 1] l0b (thenQ (l0Tk k Q) (widen l0LO Q)) (ov σ [(0, .slice At0 nt0 ct0), (1, .int .i64 xt1), (5, .slice At5 nt5 ct5), (6, .int .i64 xt6)]) w := by kernel_rfl
theorem l0_snd : ∀ c, subC [0, 1, 0, 1, 1] body = some c → Snd Tryd.prog 45 c l0T := by
  refine loop_of (hT := hT) (D := D) (l := l0tb) (b := l0b) (lo := l0LO) (by kernel_rfl) (by
    intro x hx
    simp only [l0tb, List.not_mem_nil] at hx
    ) (by kernel_rfl) (by kernel_rfl) ?_ ?_
  · intro Q σ w h
    unfold l0Tk at h
    obtain ⟨At0, nt0, ct0, h0, hn⟩ := gSlice_elim h
    clear h
    have h := hn
    clear hn
    obtain ⟨xt1, h1, hn⟩ := gInt_elim h
    clear h
    have h := hn
    clear hn
    obtain ⟨At5, nt5, ct5, h5, hn⟩ := gSlice_elim h
    clear h
    have h := hn
    clear hn
    obtain ⟨xt6, h6, hn⟩ := gInt_elim h
    clear h
    have h := hn
    clear hn
    exact h
  · intro k Q σ w h
    unfold l0Tk at h
    obtain ⟨At0, nt0, ct0, h0, hn⟩ := gSlice_elim h
    clear h
    have h := hn
    clear hn
    obtain ⟨xt1, h1, hn⟩ := gInt_elim h
    clear h
    have h := hn
    clear hn
    obtain ⟨At5, nt5, ct5, h5, hn⟩ := gSlice_elim h
    clear h
    have h := hn
    clear hn
    obtain ⟨xt6, h6, hn⟩ := gInt_elim h
    clear h
    have h := hn
    clear hn
    rw [l0_eq (σ := σ)] at h
    have e : (ov σ [(0, .slice At0 nt0 ct0), (1, .int .i64 xt1), (5, .slice At5 nt5 ct5), (6, .int .i64 xt6)]) = σ := ov_self (by simp [h0, h1, h5, h6])
    rw [e] at h
    exact h
def tb : List (List Nat × Spec) := [([0, 1, 0, 1, 1], l0T)]
theorem wp_eq (Aa0 : Option Addr) (na0 : Nat) (ca0 : Nat) (xa1 : Int) (w : World) (Q : Ending → World → Prop) :
    wp Aa0 na0 ca0 xa1 w Q = codeW Tryd.prog hT 45 D (tab tb) [] body (topQ Tryd.prog hT 45 [.tmp 4] Q) (argsF [.slice Aa0 na0 ca0, .int .i64 xa1]) w := by kernel_rfl
theorem ok (Aa0 : Option Addr) (na0 : Nat) (ca0 : Nat) (xa1 : Int) (w : World) (Q : Ending → World → Prop) (h : wp Aa0 na0 ca0 xa1 w Q) : Calls Tryd.prog 15 #[.slice Aa0 na0 ca0, .int .i64 xa1] w Q := by
  rw [wp_eq] at h
  exact calls_of_codeW (c := body) (rs := [.tmp 4]) Tryd.func15 (by kernel_rfl) (by kernel_rfl) (by kernel_rfl) (by kernel_rfl) (by kernel_rfl) (tab_snd (by
    intro x hx
    simp only [tb, List.mem_cons, List.not_mem_nil, or_false] at hx
    subst hx
    exact l0_snd)) (by kernel_rfl) h
end f_ref07_Later
namespace f_law09_begins
/-! skein/skeinlaw09.begins: function 19 -/
noncomputable def body : Code := (Tryd.f19.body).getD .skip
def wp (Aa0 : Option Addr) (na0 : Nat) (ca0 : Nat) (Aa1 : Option Addr) (na1 : Nat) (ca1 : Nat) (Aa2 : Option Addr) (na2 : Nat) (ca2 : Nat) (w : World) (Q : Ending → World → Prop) : Prop :=
  sel (decide ((na0 : Int) < (na1 : Int))) (
  Q (.returned (.bool false)) w) (
  sel (decide ((na0 : Int) > (IntKind.i64.wrap ((na1 : Int) + (na2 : Int))))) (
  Q (.returned (.bool false)) w) (
  alW w (.cells #[] 39) fun B1 w2 =>
  Runs Tryd.prog (Builtin.append_ #[28, 28] 28 #[.slice (some (⟨B1, 0, Option.none⟩ : Addr)) 0 0, .slice Aa1 na1 ca1]) w2 fun v4 w3 => ∃ (A5 : Option Addr) (n5 : Nat) (c5 : Nat), v4 = (.slice A5 n5 c5) ∧ (
  Runs Tryd.prog (Builtin.append_ #[28, 28] 28 #[.slice A5 n5 c5, .slice Aa2 na2 ca2]) w3 fun v7 w6 => ∃ (A8 : Option Addr) (n8 : Nat) (c8 : Nat), v7 = (.slice A8 n8 c8) ∧ (
  req (decide (0 ≤ (na0 : Int) ∧ (na0 : Int) ≤ (c8 : Int))) <|
  Calls Tryd.prog 25 #[.slice Aa0 na0 ca0, .slice (slA A8 0 c8 3) ((na0 : Int).toNat - 0) (c8 - 0)] w6 fun e9 w10 => ∃ (b11 : Bool), e9 = .returned (.bool b11) ∧ (
  Q (.returned (.bool b11)) w10)))))
def D : Nat → Option DH := dtab []
def tb : List (List Nat × Spec) := []
theorem wp_eq (Aa0 : Option Addr) (na0 : Nat) (ca0 : Nat) (Aa1 : Option Addr) (na1 : Nat) (ca1 : Nat) (Aa2 : Option Addr) (na2 : Nat) (ca2 : Nat) (w : World) (Q : Ending → World → Prop) :
    wp Aa0 na0 ca0 Aa1 na1 ca1 Aa2 na2 ca2 w Q = codeW Tryd.prog hT 36 D (tab tb) [] body (topQ Tryd.prog hT 36 [.tmp 6] Q) (argsF [.slice Aa0 na0 ca0, .slice Aa1 na1 ca1, .slice Aa2 na2 ca2]) w := by kernel_rfl
theorem ok (Aa0 : Option Addr) (na0 : Nat) (ca0 : Nat) (Aa1 : Option Addr) (na1 : Nat) (ca1 : Nat) (Aa2 : Option Addr) (na2 : Nat) (ca2 : Nat) (w : World) (Q : Ending → World → Prop) (h : wp Aa0 na0 ca0 Aa1 na1 ca1 Aa2 na2 ca2 w Q) : Calls Tryd.prog 19 #[.slice Aa0 na0 ca0, .slice Aa1 na1 ca1, .slice Aa2 na2 ca2] w Q := by
  rw [wp_eq] at h
  exact calls_of_codeW (c := body) (rs := [.tmp 6]) Tryd.func19 (by kernel_rfl) (by kernel_rfl) (by kernel_rfl) (by kernel_rfl) (by kernel_rfl) (tab_snd (by
    intro x hx
    simp only [tb, List.not_mem_nil] at hx
    )) (by kernel_rfl) h
end f_law09_begins
namespace f_ref09_Parse
/-! skein/skeinref09.Parse: function 22 -/
noncomputable def body : Code := (Tryd.f22.body).getD .skip
def l0 : Nat → Option Addr → Nat → Nat → Int → Int → World → (Int → World → Prop) → Prop
  | 0, _, _, _, _, _, _, _ => False
  | k + 1, At4, nt4, ct4, xt6, xt7, w, K0 =>
    sel (decide (xt7 ≥ (0 : Int))) (
    optB At4 fun a4 =>
    req (decide (0 ≤ xt7 ∧ xt7 < (nt4 : Int))) <|
    ldI w (a4.add (xt7.toNat * 1)) .u8 fun x5 =>
    l0 k At4 nt4 ct4 (IntKind.u64.wrap ((IntKind.u64.wrap (xt6 * (256 : Int))) + (IntKind.u64.wrap x5))) (IntKind.i64.wrap (xt7 - (1 : Int))) w K0) (
    K0 xt6 w)
def l1 : Nat → Option Addr → Nat → Nat → Int → World → (World → Prop) → (Int → (Option Addr) → Nat → Nat → World → Prop) → Prop
  | 0, _, _, _, _, _, _, _ => False
  | k + 1, At4, nt4, ct4, xt9, w, K2, Kr =>
    sel (decide (xt9 < (nt4 : Int))) (
    optB At4 fun a14 =>
    req (decide (0 ≤ xt9 ∧ xt9 < (nt4 : Int))) <|
    ldI w (a14.add (xt9.toNat * 1)) .u8 fun x15 =>
    sel (x15 != (0 : Int)) (
    Kr (0 : Int) none 0 0 w) (
    l1 k At4 nt4 ct4 (IntKind.i64.wrap (xt9 + (1 : Int))) w K2 Kr)) (
    K2  w)
def wp (Aa0 : Option Addr) (na0 : Nat) (ca0 : Nat) (w : World) (Q : Ending → World → Prop) : Prop :=
  Calls Tryd.prog 45 #[.slice Aa0 na0 ca0] w fun e1 w2 => ∃ (A3_0 : Option Addr) (n3_0 : Nat) (c3_0 : Nat) (b3_1 : Bool), e1 = .returned (.tuple #[.slice A3_0 n3_0 c3_0, .bool b3_1]) ∧ (
  sel (!b3_1) (
  Q (.returned (.tuple #[.int .i64 (0 : Int), .slice none 0 0])) w2) (
  ∃ k24 : Nat, l0 k24 A3_0 n3_0 c3_0 (0 : Int) (7 : Int) w2 (fun (x6 : Int) (w7 : World) => ∀ _ : Fr,
  drW w7 fun w8 =>
  optB A3_0 fun a10 =>
  req (decide (0 ≤ (8 : Int) ∧ (8 : Int) < (n3_0 : Int))) <|
  ldI w8 (a10.add ((8 : Int).toNat * 1)) .u8 fun x11 =>
  optB A3_0 fun a12 =>
  req (decide (0 ≤ (9 : Int) ∧ (9 : Int) < (n3_0 : Int))) <|
  ldI w8 (a12.add ((9 : Int).toNat * 1)) .u8 fun x13 =>
  sel (decide (x6 < (1 : Int))) (
  Q (.returned (.tuple #[.int .i64 (0 : Int), .slice none 0 0])) w8) (
  sel (decide (x6 > (274877906944 : Int))) (
  Q (.returned (.tuple #[.int .i64 (0 : Int), .slice none 0 0])) w8) (
  sel (decide ((IntKind.i64.wrap ((IntKind.i64.wrap x11) + (IntKind.i64.wrap ((256 : Int) * (IntKind.i64.wrap x13))))) > (498 : Int))) (
  Q (.returned (.tuple #[.int .i64 (0 : Int), .slice none 0 0])) w8) (
  ∃ k23 : Nat, l1 k23 A3_0 n3_0 c3_0 (IntKind.i64.wrap ((10 : Int) + (IntKind.i64.wrap ((IntKind.i64.wrap x11) + (IntKind.i64.wrap ((256 : Int) * (IntKind.i64.wrap x13))))))) w8 (fun (w16 : World) => ∀ _ : Fr,
  Calls Tryd.prog 46 #[.slice A3_0 n3_0 c3_0, .int .i64 (10 : Int), .int .i64 (IntKind.i64.wrap ((10 : Int) + (IntKind.i64.wrap ((IntKind.i64.wrap x11) + (IntKind.i64.wrap ((256 : Int) * (IntKind.i64.wrap x13)))))))] w16 fun e17 w18 => ∃ (A19 : Option Addr) (n19 : Nat) (c19 : Nat), e17 = .returned (.slice A19 n19 c19) ∧ (
  Q (.returned (.tuple #[.int .i64 (IntKind.i64.wrap x6), .slice A19 n19 c19])) w18)) (fun (x20 : Int) (A21 : Option Addr) (n21 : Nat) (c21 : Nat) (w22 : World) => ∀ _ : Fr,
  Q (.returned (.tuple #[.int .i64 x20, .slice A21 n21 c21])) w22)))))))
def D : Nat → Option DH := dtab [(9, .simple [.fst 0, .fst 1, .fst 2, .fst 3, .fst 4, .fst 5, .fst 6, .fst 7, .fst 8] [.fst 9, .fst 10])]
def l0LO : LO := ⟨[], [], [(0, [4, 6])], []⟩
def l0Tk (k : Nat) : Spec := fun Q σ w =>
  gSlice (σ 4) fun At4 nt4 ct4 =>
  gInt .u64 (σ 6) fun xt6 =>
  gInt .i64 (σ 7) fun xt7 =>
  l0 k At4 nt4 ct4 xt6 xt7 w (fun (xq6 : Int) (w : World) => ∀ d : Fr, Q (.exit 0) (ov d [(4, .slice At4 nt4 ct4), (6, .int .u64 xq6)]) w)
def l0T : Spec := fun Q σ w => ∃ k, l0Tk k Q σ w
def l0tb : List (List Nat × Spec) := []
noncomputable def l0b : Code := (subC [0, 0, 1, 0, 1, 1, 1, 1] body).getD .skip
theorem l0_eq (k : Nat) (At4 : Option Addr) (nt4 : Nat) (ct4 : Nat) (xt6 : Int) (xt7 : Int) (Q : PQ) (σ : Fr) (w : World) :
    l0 (k + 1) At4 nt4 ct4 xt6 xt7 w (fun (xq6 : Int) (w : World) => ∀ d : Fr, Q (.exit 0) (ov d [(4, .slice At4 nt4 ct4), (6, .int .u64 xq6)]) w) = codeW Tryd.prog hT 68 D (tab l0tb) [0, 0, 1, 0, 1, 1, 1, 1] l0b (thenQ (l0Tk k Q) (widen l0LO Q)) (ov σ [(4, .slice At4 nt4 ct4), (6, .int .u64 xt6), (7, .int .i64 xt7)]) w := by kernel_rfl
theorem l0_snd : ∀ c, subC [0, 1, 0, 1, 1, 1, 1] body = some c → Snd Tryd.prog 68 c l0T := by
  refine loop_of (hT := hT) (D := D) (l := l0tb) (b := l0b) (lo := l0LO) (by kernel_rfl) (by
    intro x hx
    simp only [l0tb, List.not_mem_nil] at hx
    ) (by kernel_rfl) (by kernel_rfl) ?_ ?_
  · intro Q σ w h
    unfold l0Tk at h
    obtain ⟨At4, nt4, ct4, h4, hn⟩ := gSlice_elim h
    clear h
    have h := hn
    clear hn
    obtain ⟨xt6, h6, hn⟩ := gInt_elim h
    clear h
    have h := hn
    clear hn
    obtain ⟨xt7, h7, hn⟩ := gInt_elim h
    clear h
    have h := hn
    clear hn
    exact h
  · intro k Q σ w h
    unfold l0Tk at h
    obtain ⟨At4, nt4, ct4, h4, hn⟩ := gSlice_elim h
    clear h
    have h := hn
    clear hn
    obtain ⟨xt6, h6, hn⟩ := gInt_elim h
    clear h
    have h := hn
    clear hn
    obtain ⟨xt7, h7, hn⟩ := gInt_elim h
    clear h
    have h := hn
    clear hn
    rw [l0_eq (σ := σ)] at h
    have e : (ov σ [(4, .slice At4 nt4 ct4), (6, .int .u64 xt6), (7, .int .i64 xt7)]) = σ := ov_self (by simp [h4, h6, h7])
    rw [e] at h
    exact h
def l1LO : LO := ⟨[], [2, 3], [(2, [4, 6, 8])], []⟩
def l1Tk (k : Nat) : Spec := fun Q σ w =>
  gSlice (σ 4) fun At4 nt4 ct4 =>
  gInt .i64 (σ 9) fun xt9 =>
  l1 k At4 nt4 ct4 xt9 w (fun (w : World) => ∀ d : Fr, Q (.exit 2) (ov d [(4, .slice At4 nt4 ct4), (6, σ 6), (8, σ 8)]) w) (fun (xq2 : Int) (Aq3 : Option Addr) (nq3 : Nat) (cq3 : Nat) (w : World) => ∀ d : Fr, Q .ret (ov d [(2, .int .i64 xq2), (3, .slice Aq3 nq3 cq3)]) w)
def l1T : Spec := fun Q σ w => ∃ k, l1Tk k Q σ w
def l1tb : List (List Nat × Spec) := []
noncomputable def l1b : Code := (subC [0, 0, 1, 0, 1, 1, 1, 1, 1, 1, 1] body).getD .skip
theorem l1_eq (k : Nat) (At4 : Option Addr) (nt4 : Nat) (ct4 : Nat) (xt9 : Int) (Q : PQ) (σ : Fr) (w : World) :
    l1 (k + 1) At4 nt4 ct4 xt9 w (fun (w : World) => ∀ d : Fr, Q (.exit 2) (ov d [(4, .slice At4 nt4 ct4), (6, σ 6), (8, σ 8)]) w) (fun (xq2 : Int) (Aq3 : Option Addr) (nq3 : Nat) (cq3 : Nat) (w : World) => ∀ d : Fr, Q .ret (ov d [(2, .int .i64 xq2), (3, .slice Aq3 nq3 cq3)]) w) = codeW Tryd.prog hT 68 D (tab l1tb) [0, 0, 1, 0, 1, 1, 1, 1, 1, 1, 1] l1b (thenQ (l1Tk k Q) (widen l1LO Q)) (ov σ [(4, .slice At4 nt4 ct4), (9, .int .i64 xt9)]) w := by kernel_rfl
theorem l1_snd : ∀ c, subC [0, 1, 0, 1, 1, 1, 1, 1, 1, 1] body = some c → Snd Tryd.prog 68 c l1T := by
  refine loop_of (hT := hT) (D := D) (l := l1tb) (b := l1b) (lo := l1LO) (by kernel_rfl) (by
    intro x hx
    simp only [l1tb, List.not_mem_nil] at hx
    ) (by kernel_rfl) (by kernel_rfl) ?_ ?_
  · intro Q σ w h
    unfold l1Tk at h
    obtain ⟨At4, nt4, ct4, h4, hn⟩ := gSlice_elim h
    clear h
    have h := hn
    clear hn
    obtain ⟨xt9, h9, hn⟩ := gInt_elim h
    clear h
    have h := hn
    clear hn
    exact h
  · intro k Q σ w h
    unfold l1Tk at h
    obtain ⟨At4, nt4, ct4, h4, hn⟩ := gSlice_elim h
    clear h
    have h := hn
    clear hn
    obtain ⟨xt9, h9, hn⟩ := gInt_elim h
    clear h
    have h := hn
    clear hn
    rw [l1_eq (σ := σ)] at h
    have e : (ov σ [(4, .slice At4 nt4 ct4), (9, .int .i64 xt9)]) = σ := ov_self (by simp [h4, h9])
    rw [e] at h
    exact h
def tb : List (List Nat × Spec) := [([0, 1, 0, 1, 1, 1, 1], l0T), ([0, 1, 0, 1, 1, 1, 1, 1, 1, 1], l1T)]
theorem wp_eq (Aa0 : Option Addr) (na0 : Nat) (ca0 : Nat) (w : World) (Q : Ending → World → Prop) :
    wp Aa0 na0 ca0 w Q = codeW Tryd.prog hT 68 D (tab tb) [] body (topQ Tryd.prog hT 68 [.tmp 2, .tmp 3] Q) (argsF [.slice Aa0 na0 ca0]) w := by kernel_rfl
theorem ok (Aa0 : Option Addr) (na0 : Nat) (ca0 : Nat) (w : World) (Q : Ending → World → Prop) (h : wp Aa0 na0 ca0 w Q) : Calls Tryd.prog 22 #[.slice Aa0 na0 ca0] w Q := by
  rw [wp_eq] at h
  exact calls_of_codeW (c := body) (rs := [.tmp 2, .tmp 3]) Tryd.func22 (by kernel_rfl) (by kernel_rfl) (by kernel_rfl) (by kernel_rfl) (by kernel_rfl) (tab_snd (by
    intro x hx
    simp only [tb, List.mem_cons, List.not_mem_nil, or_false] at hx
    rcases hx with rfl | rfl
    · exact l0_snd
    · exact l1_snd)) (by kernel_rfl) h
end f_ref09_Parse
namespace f_ref09_Alike
/-! skein/skeinref09.Alike: function 25 -/
noncomputable def body : Code := (Tryd.f25.body).getD .skip
def l0 : Nat → Option Addr → Nat → Nat → Option Addr → Nat → Nat → Int → World → (World → Prop) → (Bool → World → Prop) → Prop
  | 0, _, _, _, _, _, _, _, _, _, _ => False
  | k + 1, At0, nt0, ct0, At1, nt1, ct1, xt5, w, K0, Kr =>
    sel (decide (xt5 < (nt0 : Int))) (
    drW w fun w1 =>
    optB At0 fun a3 =>
    req (decide (0 ≤ xt5 ∧ xt5 < (nt0 : Int))) <|
    ldI w1 (a3.add (xt5.toNat * 3)) .i64 fun x4 =>
    optB At1 fun a5 =>
    req (decide (0 ≤ xt5 ∧ xt5 < (nt1 : Int))) <|
    ldI w1 (a5.add (xt5.toNat * 3)) .i64 fun x6 =>
    sel (x4 != x6) (
    Kr false w1) (
    optB At0 fun a7 =>
    req (decide (0 ≤ xt5 ∧ xt5 < (nt0 : Int))) <|
    ldI w1 ((a7.add (xt5.toNat * 3)).add 1) .i64 fun x8 =>
    optB At1 fun a9 =>
    req (decide (0 ≤ xt5 ∧ xt5 < (nt1 : Int))) <|
    ldI w1 ((a9.add (xt5.toNat * 3)).add 1) .i64 fun x10 =>
    sel (x8 != x10) (
    Kr false w1) (
    optB At0 fun a11 =>
    req (decide (0 ≤ xt5 ∧ xt5 < (nt0 : Int))) <|
    ldS w1 ((a11.add (xt5.toNat * 3)).add 2) fun A12 n12 c12 =>
    optB At1 fun a13 =>
    req (decide (0 ≤ xt5 ∧ xt5 < (nt1 : Int))) <|
    ldS w1 ((a13.add (xt5.toNat * 3)).add 2) fun A14 n14 c14 =>
    Calls Tryd.prog 50 #[.slice A12 n12 c12, .slice A14 n14 c14] w1 fun e15 w16 => ∃ (b17 : Bool), e15 = .returned (.bool b17) ∧ (
    sel (!b17) (
    Kr false w16) (
    l0 k At0 nt0 ct0 At1 nt1 ct1 (IntKind.i64.wrap (xt5 + (1 : Int))) w16 K0 Kr))))) (
    K0  w)
def wp (Aa0 : Option Addr) (na0 : Nat) (ca0 : Nat) (Aa1 : Option Addr) (na1 : Nat) (ca1 : Nat) (w : World) (Q : Ending → World → Prop) : Prop :=
  sel ((na0 : Int) != (na1 : Int)) (
  Q (.returned (.bool false)) w) (
  ∃ k21 : Nat, l0 k21 Aa0 na0 ca0 Aa1 na1 ca1 (0 : Int) w (fun (w18 : World) => ∀ _ : Fr,
  Q (.returned (.bool true)) w18) (fun (b19 : Bool) (w20 : World) => ∀ _ : Fr,
  Q (.returned (.bool b19)) w20))
def D : Nat → Option DH := dtab [(6, .simple [.fst 0, .fst 1, .fst 2, .fst 3, .fst 4, .fst 5, .fst 6, .fst 7, .fst 8, .fst 9, .fst 10, .fst 11, .fst 12, .fst 13, .fst 14, .fst 15, .fst 16, .fst 17, .fst 18, .fst 19, .fst 20, .fst 21, .fst 22, .fst 23, .fst 24, .fst 25, .fst 26, .fst 27, .fst 28, .fst 29, .fst 30, .fst 31, .fst 32, .fst 33, .fst 34] [.eff 35, .fst 36, .fst 37])]
def l0LO : LO := ⟨[], [4], [(0, [])], []⟩
def l0Tk (k : Nat) : Spec := fun Q σ w =>
  gSlice (σ 0) fun At0 nt0 ct0 =>
  gSlice (σ 1) fun At1 nt1 ct1 =>
  gInt .i64 (σ 5) fun xt5 =>
  l0 k At0 nt0 ct0 At1 nt1 ct1 xt5 w (fun (w : World) => ∀ d : Fr, Q (.exit 0) (ov d []) w) (fun (bq4 : Bool) (w : World) => ∀ d : Fr, Q .ret (ov d [(4, .bool bq4)]) w)
def l0T : Spec := fun Q σ w => ∃ k, l0Tk k Q σ w
def l0tb : List (List Nat × Spec) := []
noncomputable def l0b : Code := (subC [0, 0, 1, 0, 1, 1] body).getD .skip
theorem l0_eq (k : Nat) (At0 : Option Addr) (nt0 : Nat) (ct0 : Nat) (At1 : Option Addr) (nt1 : Nat) (ct1 : Nat) (xt5 : Int) (Q : PQ) (σ : Fr) (w : World) :
    l0 (k + 1) At0 nt0 ct0 At1 nt1 ct1 xt5 w (fun (w : World) => ∀ d : Fr, Q (.exit 0) (ov d []) w) (fun (bq4 : Bool) (w : World) => ∀ d : Fr, Q .ret (ov d [(4, .bool bq4)]) w) = codeW Tryd.prog hT 55 D (tab l0tb) [0, 0, 1, 0, 1, 1] l0b (thenQ (l0Tk k Q) (widen l0LO Q)) (ov σ [(0, .slice At0 nt0 ct0), (1, .slice At1 nt1 ct1), (5, .int .i64 xt5)]) w := by kernel_rfl
theorem l0_snd : ∀ c, subC [0, 1, 0, 1, 1] body = some c → Snd Tryd.prog 55 c l0T := by
  refine loop_of (hT := hT) (D := D) (l := l0tb) (b := l0b) (lo := l0LO) (by kernel_rfl) (by
    intro x hx
    simp only [l0tb, List.not_mem_nil] at hx
    ) (by kernel_rfl) (by kernel_rfl) ?_ ?_
  · intro Q σ w h
    unfold l0Tk at h
    obtain ⟨At0, nt0, ct0, h0, hn⟩ := gSlice_elim h
    clear h
    have h := hn
    clear hn
    obtain ⟨At1, nt1, ct1, h1, hn⟩ := gSlice_elim h
    clear h
    have h := hn
    clear hn
    obtain ⟨xt5, h5, hn⟩ := gInt_elim h
    clear h
    have h := hn
    clear hn
    exact h
  · intro k Q σ w h
    unfold l0Tk at h
    obtain ⟨At0, nt0, ct0, h0, hn⟩ := gSlice_elim h
    clear h
    have h := hn
    clear hn
    obtain ⟨At1, nt1, ct1, h1, hn⟩ := gSlice_elim h
    clear h
    have h := hn
    clear hn
    obtain ⟨xt5, h5, hn⟩ := gInt_elim h
    clear h
    have h := hn
    clear hn
    rw [l0_eq (σ := σ)] at h
    have e : (ov σ [(0, .slice At0 nt0 ct0), (1, .slice At1 nt1 ct1), (5, .int .i64 xt5)]) = σ := ov_self (by simp [h0, h1, h5])
    rw [e] at h
    exact h
def tb : List (List Nat × Spec) := [([0, 1, 0, 1, 1], l0T)]
theorem wp_eq (Aa0 : Option Addr) (na0 : Nat) (ca0 : Nat) (Aa1 : Option Addr) (na1 : Nat) (ca1 : Nat) (w : World) (Q : Ending → World → Prop) :
    wp Aa0 na0 ca0 Aa1 na1 ca1 w Q = codeW Tryd.prog hT 55 D (tab tb) [] body (topQ Tryd.prog hT 55 [.tmp 4] Q) (argsF [.slice Aa0 na0 ca0, .slice Aa1 na1 ca1]) w := by kernel_rfl
theorem ok (Aa0 : Option Addr) (na0 : Nat) (ca0 : Nat) (Aa1 : Option Addr) (na1 : Nat) (ca1 : Nat) (w : World) (Q : Ending → World → Prop) (h : wp Aa0 na0 ca0 Aa1 na1 ca1 w Q) : Calls Tryd.prog 25 #[.slice Aa0 na0 ca0, .slice Aa1 na1 ca1] w Q := by
  rw [wp_eq] at h
  exact calls_of_codeW (c := body) (rs := [.tmp 4]) Tryd.func25 (by kernel_rfl) (by kernel_rfl) (by kernel_rfl) (by kernel_rfl) (by kernel_rfl) (tab_snd (by
    intro x hx
    simp only [tb, List.mem_cons, List.not_mem_nil, or_false] at hx
    subst hx
    exact l0_snd)) (by kernel_rfl) h
end f_ref09_Alike
namespace f_ref09_From
/-! skein/skeinref09.From: function 27 -/
noncomputable def body : Code := (Tryd.f27.body).getD .skip
def l0 : Nat → Option Addr → Nat → Nat → Int → Option Addr → Nat → Nat → Int → World → ((Option Addr) → Nat → Nat → World → Prop) → Prop
  | 0, _, _, _, _, _, _, _, _, _, _ => False
  | k + 1, At0, nt0, ct0, xt1, At5, nt5, ct5, xt6, w, K0 =>
    sel (decide (xt6 < (nt0 : Int))) (
    optB At0 fun a3 =>
    req (decide (0 ≤ xt6 ∧ xt6 < (nt0 : Int))) <|
    ldI w (a3.add (xt6.toNat * 3)) .i64 fun x4 =>
    sel (decide (x4 ≥ xt1)) (
    optB At0 fun a5 =>
    req (decide (0 ≤ xt6 ∧ xt6 < (nt0 : Int))) <|
    ldI w (a5.add (xt6.toNat * 3)) .i64 fun x6 =>
    ldI w ((a5.add (xt6.toNat * 3)).add 1) .i64 fun x7 =>
    ldS w ((a5.add (xt6.toNat * 3)).add 2) fun A8 n8 c8 =>
    alW w (.cells #[.int .i64 x6, .int .i64 x7, .slice A8 n8 c8] 39) fun B9 w10 =>
    Runs Tryd.prog (Builtin.append_ #[28, 28] 28 #[.slice At5 nt5 ct5, .slice (some (⟨B9, 0, Option.none⟩ : Addr)) 1 1]) w10 fun v12 w11 => ∃ (A13 : Option Addr) (n13 : Nat) (c13 : Nat), v12 = (.slice A13 n13 c13) ∧ (
    l0 k At0 nt0 ct0 xt1 A13 n13 c13 (IntKind.i64.wrap (xt6 + (1 : Int))) w11 K0)) (
    l0 k At0 nt0 ct0 xt1 At5 nt5 ct5 (IntKind.i64.wrap (xt6 + (1 : Int))) w K0)) (
    K0 At5 nt5 ct5 w)
def wp (Aa0 : Option Addr) (na0 : Nat) (ca0 : Nat) (xa1 : Int) (w : World) (Q : Ending → World → Prop) : Prop :=
  alW w (.cells #[] 39) fun B1 w2 =>
  ∃ k16 : Nat, l0 k16 Aa0 na0 ca0 xa1 (some (⟨B1, 0, Option.none⟩ : Addr)) 0 0 (0 : Int) w2 (fun (A14 : Option Addr) (n14 : Nat) (c14 : Nat) (w15 : World) => ∀ _ : Fr,
  Q (.returned (.slice A14 n14 c14)) w15)
def D : Nat → Option DH := dtab []
def l0LO : LO := ⟨[], [], [(0, [5])], []⟩
def l0Tk (k : Nat) : Spec := fun Q σ w =>
  gSlice (σ 0) fun At0 nt0 ct0 =>
  gInt .i64 (σ 1) fun xt1 =>
  gSlice (σ 5) fun At5 nt5 ct5 =>
  gInt .i64 (σ 6) fun xt6 =>
  l0 k At0 nt0 ct0 xt1 At5 nt5 ct5 xt6 w (fun (Aq5 : Option Addr) (nq5 : Nat) (cq5 : Nat) (w : World) => ∀ d : Fr, Q (.exit 0) (ov d [(5, .slice Aq5 nq5 cq5)]) w)
def l0T : Spec := fun Q σ w => ∃ k, l0Tk k Q σ w
def l0tb : List (List Nat × Spec) := []
noncomputable def l0b : Code := (subC [0, 0, 1, 0, 1, 1] body).getD .skip
theorem l0_eq (k : Nat) (At0 : Option Addr) (nt0 : Nat) (ct0 : Nat) (xt1 : Int) (At5 : Option Addr) (nt5 : Nat) (ct5 : Nat) (xt6 : Int) (Q : PQ) (σ : Fr) (w : World) :
    l0 (k + 1) At0 nt0 ct0 xt1 At5 nt5 ct5 xt6 w (fun (Aq5 : Option Addr) (nq5 : Nat) (cq5 : Nat) (w : World) => ∀ d : Fr, Q (.exit 0) (ov d [(5, .slice Aq5 nq5 cq5)]) w) = codeW Tryd.prog hT 29 D (tab l0tb) [0, 0, 1, 0, 1, 1] l0b (thenQ (l0Tk k Q) (widen l0LO Q)) (ov σ [(0, .slice At0 nt0 ct0), (1, .int .i64 xt1), (5, .slice At5 nt5 ct5), (6, .int .i64 xt6)]) w := by kernel_rfl
theorem l0_snd : ∀ c, subC [0, 1, 0, 1, 1] body = some c → Snd Tryd.prog 29 c l0T := by
  refine loop_of (hT := hT) (D := D) (l := l0tb) (b := l0b) (lo := l0LO) (by kernel_rfl) (by
    intro x hx
    simp only [l0tb, List.not_mem_nil] at hx
    ) (by kernel_rfl) (by kernel_rfl) ?_ ?_
  · intro Q σ w h
    unfold l0Tk at h
    obtain ⟨At0, nt0, ct0, h0, hn⟩ := gSlice_elim h
    clear h
    have h := hn
    clear hn
    obtain ⟨xt1, h1, hn⟩ := gInt_elim h
    clear h
    have h := hn
    clear hn
    obtain ⟨At5, nt5, ct5, h5, hn⟩ := gSlice_elim h
    clear h
    have h := hn
    clear hn
    obtain ⟨xt6, h6, hn⟩ := gInt_elim h
    clear h
    have h := hn
    clear hn
    exact h
  · intro k Q σ w h
    unfold l0Tk at h
    obtain ⟨At0, nt0, ct0, h0, hn⟩ := gSlice_elim h
    clear h
    have h := hn
    clear hn
    obtain ⟨xt1, h1, hn⟩ := gInt_elim h
    clear h
    have h := hn
    clear hn
    obtain ⟨At5, nt5, ct5, h5, hn⟩ := gSlice_elim h
    clear h
    have h := hn
    clear hn
    obtain ⟨xt6, h6, hn⟩ := gInt_elim h
    clear h
    have h := hn
    clear hn
    rw [l0_eq (σ := σ)] at h
    have e : (ov σ [(0, .slice At0 nt0 ct0), (1, .int .i64 xt1), (5, .slice At5 nt5 ct5), (6, .int .i64 xt6)]) = σ := ov_self (by simp [h0, h1, h5, h6])
    rw [e] at h
    exact h
def tb : List (List Nat × Spec) := [([0, 1, 0, 1, 1], l0T)]
theorem wp_eq (Aa0 : Option Addr) (na0 : Nat) (ca0 : Nat) (xa1 : Int) (w : World) (Q : Ending → World → Prop) :
    wp Aa0 na0 ca0 xa1 w Q = codeW Tryd.prog hT 29 D (tab tb) [] body (topQ Tryd.prog hT 29 [.tmp 4] Q) (argsF [.slice Aa0 na0 ca0, .int .i64 xa1]) w := by kernel_rfl
theorem ok (Aa0 : Option Addr) (na0 : Nat) (ca0 : Nat) (xa1 : Int) (w : World) (Q : Ending → World → Prop) (h : wp Aa0 na0 ca0 xa1 w Q) : Calls Tryd.prog 27 #[.slice Aa0 na0 ca0, .int .i64 xa1] w Q := by
  rw [wp_eq] at h
  exact calls_of_codeW (c := body) (rs := [.tmp 4]) Tryd.func27 (by kernel_rfl) (by kernel_rfl) (by kernel_rfl) (by kernel_rfl) (by kernel_rfl) (tab_snd (by
    intro x hx
    simp only [tb, List.mem_cons, List.not_mem_nil, or_false] at hx
    subst hx
    exact l0_snd)) (by kernel_rfl) h
end f_ref09_From
namespace f_ref02_Open
/-! skein/skeinref02.Open: function 45 -/
noncomputable def body : Code := (Tryd.f45.body).getD .skip
def wp (Aa0 : Option Addr) (na0 : Nat) (ca0 : Nat) (w : World) (Q : Ending → World → Prop) : Prop :=
  sel (decide ((na0 : Int) < (4 : Int))) (
  Q (.returned (.tuple #[.slice none 0 0, .bool false])) w) (
  Calls Tryd.prog 46 #[.slice Aa0 na0 ca0, .int .i64 (4 : Int), .int .i64 (na0 : Int)] w fun e1 w2 => ∃ (A3 : Option Addr) (n3 : Nat) (c3 : Nat), e1 = .returned (.slice A3 n3 c3) ∧ (
  Calls Tryd.prog 69 #[.slice A3 n3 c3] w2 fun e4 w5 => ∃ (A6 : Option Addr) (n6 : Nat) (c6 : Nat), e4 = .returned (.slice A6 n6 c6) ∧ (
  Calls Tryd.prog 50 #[.slice A6 n6 c6, .slice Aa0 na0 ca0] w5 fun e7 w8 => ∃ (b9 : Bool), e7 = .returned (.bool b9) ∧ (
  sel (!b9) (
  Q (.returned (.tuple #[.slice none 0 0, .bool false])) w8) (
  Q (.returned (.tuple #[.slice A3 n3 c3, .bool true])) w8)))))
def D : Nat → Option DH := dtab []
def tb : List (List Nat × Spec) := []
theorem wp_eq (Aa0 : Option Addr) (na0 : Nat) (ca0 : Nat) (w : World) (Q : Ending → World → Prop) :
    wp Aa0 na0 ca0 w Q = codeW Tryd.prog hT 18 D (tab tb) [] body (topQ Tryd.prog hT 18 [.tmp 2, .tmp 3] Q) (argsF [.slice Aa0 na0 ca0]) w := by kernel_rfl
theorem ok (Aa0 : Option Addr) (na0 : Nat) (ca0 : Nat) (w : World) (Q : Ending → World → Prop) (h : wp Aa0 na0 ca0 w Q) : Calls Tryd.prog 45 #[.slice Aa0 na0 ca0] w Q := by
  rw [wp_eq] at h
  exact calls_of_codeW (c := body) (rs := [.tmp 2, .tmp 3]) Tryd.func45 (by kernel_rfl) (by kernel_rfl) (by kernel_rfl) (by kernel_rfl) (by kernel_rfl) (tab_snd (by
    intro x hx
    simp only [tb, List.not_mem_nil] at hx
    )) (by kernel_rfl) h
end f_ref02_Open
namespace f_ref01_Piece
/-! skein/skeinref01.Piece: function 46 -/
noncomputable def body : Code := (Tryd.f46.body).getD .skip
def l1 : Nat → Option Addr → Nat → Nat → Int → Option Addr → Nat → Nat → Int → World → ((Option Addr) → Nat → Nat → World → Prop) → Prop
  | 0, _, _, _, _, _, _, _, _, _, _ => False
  | k + 1, At0, nt0, ct0, xt2, At7, nt7, ct7, xt8, w, K0 =>
    sel (decide (xt8 < (nt0 : Int))) (
    sel (decide (xt8 < xt2)) (
    optB At0 fun a3 =>
    req (decide (0 ≤ xt8 ∧ xt8 < (nt0 : Int))) <|
    ldI w (a3.add (xt8.toNat * 1)) .u8 fun x4 =>
    alW w (.cells #[.int .u8 x4] 5) fun B5 w6 =>
    Runs Tryd.prog (Builtin.append_ #[29, 29] 29 #[.slice At7 nt7 ct7, .slice (some (⟨B5, 0, Option.none⟩ : Addr)) 1 1]) w6 fun v8 w7 => ∃ (A9 : Option Addr) (n9 : Nat) (c9 : Nat), v8 = (.slice A9 n9 c9) ∧ (
    l1 k At0 nt0 ct0 xt2 A9 n9 c9 (IntKind.i64.wrap (xt8 + (1 : Int))) w7 K0)) (
    K0 At7 nt7 ct7 w)) (
    K0 At7 nt7 ct7 w)
def j0 (At0 : Option Addr) (nt0 : Nat) (ct0 : Nat) (xt1 : Int) (xt2 : Int) (At7 : Option Addr) (nt7 : Nat) (ct7 : Nat) (w : World) (Kr : (Option Addr) → Nat → Nat → World → Prop) : Prop :=
  ∃ k12 : Nat, l1 k12 At0 nt0 ct0 xt2 At7 nt7 ct7 xt1 w (fun (A10 : Option Addr) (n10 : Nat) (c10 : Nat) (w11 : World) => ∀ _ : Fr,
  Kr A10 n10 c10 w11)
def wp (Aa0 : Option Addr) (na0 : Nat) (ca0 : Nat) (xa1 : Int) (xa2 : Int) (w : World) (Q : Ending → World → Prop) : Prop :=
  alW w (.cells #[] 5) fun B1 w2 =>
  sel (decide (xa1 < (0 : Int))) (
  j0 Aa0 na0 ca0 (0 : Int) xa2 (some (⟨B1, 0, Option.none⟩ : Addr)) 0 0 w2 (fun (A13 : Option Addr) (n13 : Nat) (c13 : Nat) (w14 : World) => ∀ _ : Fr,
  Q (.returned (.slice A13 n13 c13)) w14)) (
  j0 Aa0 na0 ca0 xa1 xa2 (some (⟨B1, 0, Option.none⟩ : Addr)) 0 0 w2 (fun (A15 : Option Addr) (n15 : Nat) (c15 : Nat) (w16 : World) => ∀ _ : Fr,
  Q (.returned (.slice A15 n15 c15)) w16))
def D : Nat → Option DH := dtab []
def l1LO : LO := ⟨[], [], [(0, [7])], []⟩
def l1Tk (k : Nat) : Spec := fun Q σ w =>
  gSlice (σ 0) fun At0 nt0 ct0 =>
  gInt .i64 (σ 2) fun xt2 =>
  gSlice (σ 7) fun At7 nt7 ct7 =>
  gInt .i64 (σ 8) fun xt8 =>
  l1 k At0 nt0 ct0 xt2 At7 nt7 ct7 xt8 w (fun (Aq7 : Option Addr) (nq7 : Nat) (cq7 : Nat) (w : World) => ∀ d : Fr, Q (.exit 0) (ov d [(7, .slice Aq7 nq7 cq7)]) w)
def l1T : Spec := fun Q σ w => ∃ k, l1Tk k Q σ w
def l1tb : List (List Nat × Spec) := []
noncomputable def l1b : Code := (subC [0, 0, 1, 0, 1, 1, 1] body).getD .skip
theorem l1_eq (k : Nat) (At0 : Option Addr) (nt0 : Nat) (ct0 : Nat) (xt2 : Int) (At7 : Option Addr) (nt7 : Nat) (ct7 : Nat) (xt8 : Int) (Q : PQ) (σ : Fr) (w : World) :
    l1 (k + 1) At0 nt0 ct0 xt2 At7 nt7 ct7 xt8 w (fun (Aq7 : Option Addr) (nq7 : Nat) (cq7 : Nat) (w : World) => ∀ d : Fr, Q (.exit 0) (ov d [(7, .slice Aq7 nq7 cq7)]) w) = codeW Tryd.prog hT 32 D (tab l1tb) [0, 0, 1, 0, 1, 1, 1] l1b (thenQ (l1Tk k Q) (widen l1LO Q)) (ov σ [(0, .slice At0 nt0 ct0), (2, .int .i64 xt2), (7, .slice At7 nt7 ct7), (8, .int .i64 xt8)]) w := by kernel_rfl
theorem l1_snd : ∀ c, subC [0, 1, 0, 1, 1, 1] body = some c → Snd Tryd.prog 32 c l1T := by
  refine loop_of (hT := hT) (D := D) (l := l1tb) (b := l1b) (lo := l1LO) (by kernel_rfl) (by
    intro x hx
    simp only [l1tb, List.not_mem_nil] at hx
    ) (by kernel_rfl) (by kernel_rfl) ?_ ?_
  · intro Q σ w h
    unfold l1Tk at h
    obtain ⟨At0, nt0, ct0, h0, hn⟩ := gSlice_elim h
    clear h
    have h := hn
    clear hn
    obtain ⟨xt2, h2, hn⟩ := gInt_elim h
    clear h
    have h := hn
    clear hn
    obtain ⟨At7, nt7, ct7, h7, hn⟩ := gSlice_elim h
    clear h
    have h := hn
    clear hn
    obtain ⟨xt8, h8, hn⟩ := gInt_elim h
    clear h
    have h := hn
    clear hn
    exact h
  · intro k Q σ w h
    unfold l1Tk at h
    obtain ⟨At0, nt0, ct0, h0, hn⟩ := gSlice_elim h
    clear h
    have h := hn
    clear hn
    obtain ⟨xt2, h2, hn⟩ := gInt_elim h
    clear h
    have h := hn
    clear hn
    obtain ⟨At7, nt7, ct7, h7, hn⟩ := gSlice_elim h
    clear h
    have h := hn
    clear hn
    obtain ⟨xt8, h8, hn⟩ := gInt_elim h
    clear h
    have h := hn
    clear hn
    rw [l1_eq (σ := σ)] at h
    have e : (ov σ [(0, .slice At0 nt0 ct0), (2, .int .i64 xt2), (7, .slice At7 nt7 ct7), (8, .int .i64 xt8)]) = σ := ov_self (by simp [h0, h2, h7, h8])
    rw [e] at h
    exact h
def j0LO : LO := ⟨[], [6], [], []⟩
def j0T : Spec := fun Q σ w =>
  gSlice (σ 0) fun At0 nt0 ct0 =>
  gInt .i64 (σ 1) fun xt1 =>
  gInt .i64 (σ 2) fun xt2 =>
  gSlice (σ 7) fun At7 nt7 ct7 =>
  j0 At0 nt0 ct0 xt1 xt2 At7 nt7 ct7 w (fun (Aq6 : Option Addr) (nq6 : Nat) (cq6 : Nat) (w : World) => ∀ d : Fr, Q .ret (ov d [(6, .slice Aq6 nq6 cq6)]) w)
def j0tb : List (List Nat × Spec) := [([0, 1, 0, 1, 1, 1], l1T)]
noncomputable def j0b : Code := (subC [1, 1, 1] body).getD .skip
theorem j0_eq (At0 : Option Addr) (nt0 : Nat) (ct0 : Nat) (xt1 : Int) (xt2 : Int) (At7 : Option Addr) (nt7 : Nat) (ct7 : Nat) (Q : PQ) (σ : Fr) (w : World) :
    j0 At0 nt0 ct0 xt1 xt2 At7 nt7 ct7 w (fun (Aq6 : Option Addr) (nq6 : Nat) (cq6 : Nat) (w : World) => ∀ d : Fr, Q .ret (ov d [(6, .slice Aq6 nq6 cq6)]) w) = codeW Tryd.prog hT 32 D (tab j0tb) [1, 1, 1] j0b (widen j0LO Q) (ov σ [(0, .slice At0 nt0 ct0), (1, .int .i64 xt1), (2, .int .i64 xt2), (7, .slice At7 nt7 ct7)]) w := by kernel_rfl
theorem j0_snd : ∀ c, subC [1, 1, 1] body = some c → Snd Tryd.prog 32 c j0T := by
  refine cut_of (hT := hT) (D := D) (l := j0tb) (b := j0b) (lo := j0LO) (by kernel_rfl) (by
    intro x hx
    simp only [j0tb, List.mem_cons, List.not_mem_nil, or_false] at hx
    subst hx
    exact l1_snd) (by kernel_rfl) (by kernel_rfl) ?_
  intro Q σ w h
  unfold j0T at h
  obtain ⟨At0, nt0, ct0, h0, hn⟩ := gSlice_elim h
  clear h
  have h := hn
  clear hn
  obtain ⟨xt1, h1, hn⟩ := gInt_elim h
  clear h
  have h := hn
  clear hn
  obtain ⟨xt2, h2, hn⟩ := gInt_elim h
  clear h
  have h := hn
  clear hn
  obtain ⟨At7, nt7, ct7, h7, hn⟩ := gSlice_elim h
  clear h
  have h := hn
  clear hn
  rw [j0_eq (σ := σ)] at h
  have e : (ov σ [(0, .slice At0 nt0 ct0), (1, .int .i64 xt1), (2, .int .i64 xt2), (7, .slice At7 nt7 ct7)]) = σ := ov_self (by simp [h0, h1, h2, h7])
  rw [e] at h
  exact h
def tb : List (List Nat × Spec) := [([0, 1, 0, 1, 1, 1], l1T), ([1, 1, 1], j0T)]
theorem wp_eq (Aa0 : Option Addr) (na0 : Nat) (ca0 : Nat) (xa1 : Int) (xa2 : Int) (w : World) (Q : Ending → World → Prop) :
    wp Aa0 na0 ca0 xa1 xa2 w Q = codeW Tryd.prog hT 32 D (tab tb) [] body (topQ Tryd.prog hT 32 [.tmp 6] Q) (argsF [.slice Aa0 na0 ca0, .int .i64 xa1, .int .i64 xa2]) w := by kernel_rfl
theorem ok (Aa0 : Option Addr) (na0 : Nat) (ca0 : Nat) (xa1 : Int) (xa2 : Int) (w : World) (Q : Ending → World → Prop) (h : wp Aa0 na0 ca0 xa1 xa2 w Q) : Calls Tryd.prog 46 #[.slice Aa0 na0 ca0, .int .i64 xa1, .int .i64 xa2] w Q := by
  rw [wp_eq] at h
  exact calls_of_codeW (c := body) (rs := [.tmp 6]) Tryd.func46 (by kernel_rfl) (by kernel_rfl) (by kernel_rfl) (by kernel_rfl) (by kernel_rfl) (tab_snd (by
    intro x hx
    simp only [tb, List.mem_cons, List.not_mem_nil, or_false] at hx
    rcases hx with rfl | rfl
    · exact l1_snd
    · exact j0_snd)) (by kernel_rfl) h
end f_ref01_Piece
namespace f_ref01_Same
/-! skein/skeinref01.Same: function 50 -/
noncomputable def body : Code := (Tryd.f50.body).getD .skip
def l0 : Nat → Option Addr → Nat → Nat → Option Addr → Nat → Nat → Int → World → (World → Prop) → (Bool → World → Prop) → Prop
  | 0, _, _, _, _, _, _, _, _, _, _ => False
  | k + 1, At0, nt0, ct0, At1, nt1, ct1, xt5, w, K0, Kr =>
    sel (decide (xt5 < (nt0 : Int))) (
    drW w fun w1 =>
    optB At0 fun a3 =>
    req (decide (0 ≤ xt5 ∧ xt5 < (nt0 : Int))) <|
    ldI w1 (a3.add (xt5.toNat * 1)) .u8 fun x4 =>
    optB At1 fun a5 =>
    req (decide (0 ≤ xt5 ∧ xt5 < (nt1 : Int))) <|
    ldI w1 (a5.add (xt5.toNat * 1)) .u8 fun x6 =>
    sel (x4 != x6) (
    Kr false w1) (
    l0 k At0 nt0 ct0 At1 nt1 ct1 (IntKind.i64.wrap (xt5 + (1 : Int))) w1 K0 Kr)) (
    K0  w)
def wp (Aa0 : Option Addr) (na0 : Nat) (ca0 : Nat) (Aa1 : Option Addr) (na1 : Nat) (ca1 : Nat) (w : World) (Q : Ending → World → Prop) : Prop :=
  sel ((na0 : Int) != (na1 : Int)) (
  Q (.returned (.bool false)) w) (
  ∃ k10 : Nat, l0 k10 Aa0 na0 ca0 Aa1 na1 ca1 (0 : Int) w (fun (w7 : World) => ∀ _ : Fr,
  Q (.returned (.bool true)) w7) (fun (b8 : Bool) (w9 : World) => ∀ _ : Fr,
  Q (.returned (.bool b8)) w9))
def D : Nat → Option DH := dtab [(6, .simple [.fst 0, .fst 1, .fst 2, .fst 3, .fst 4, .fst 5, .fst 6, .fst 7] [.fst 8])]
def l0LO : LO := ⟨[], [4], [(0, [])], []⟩
def l0Tk (k : Nat) : Spec := fun Q σ w =>
  gSlice (σ 0) fun At0 nt0 ct0 =>
  gSlice (σ 1) fun At1 nt1 ct1 =>
  gInt .i64 (σ 5) fun xt5 =>
  l0 k At0 nt0 ct0 At1 nt1 ct1 xt5 w (fun (w : World) => ∀ d : Fr, Q (.exit 0) (ov d []) w) (fun (bq4 : Bool) (w : World) => ∀ d : Fr, Q .ret (ov d [(4, .bool bq4)]) w)
def l0T : Spec := fun Q σ w => ∃ k, l0Tk k Q σ w
def l0tb : List (List Nat × Spec) := []
noncomputable def l0b : Code := (subC [0, 0, 1, 0, 1, 1] body).getD .skip
theorem l0_eq (k : Nat) (At0 : Option Addr) (nt0 : Nat) (ct0 : Nat) (At1 : Option Addr) (nt1 : Nat) (ct1 : Nat) (xt5 : Int) (Q : PQ) (σ : Fr) (w : World) :
    l0 (k + 1) At0 nt0 ct0 At1 nt1 ct1 xt5 w (fun (w : World) => ∀ d : Fr, Q (.exit 0) (ov d []) w) (fun (bq4 : Bool) (w : World) => ∀ d : Fr, Q .ret (ov d [(4, .bool bq4)]) w) = codeW Tryd.prog hT 26 D (tab l0tb) [0, 0, 1, 0, 1, 1] l0b (thenQ (l0Tk k Q) (widen l0LO Q)) (ov σ [(0, .slice At0 nt0 ct0), (1, .slice At1 nt1 ct1), (5, .int .i64 xt5)]) w := by kernel_rfl
theorem l0_snd : ∀ c, subC [0, 1, 0, 1, 1] body = some c → Snd Tryd.prog 26 c l0T := by
  refine loop_of (hT := hT) (D := D) (l := l0tb) (b := l0b) (lo := l0LO) (by kernel_rfl) (by
    intro x hx
    simp only [l0tb, List.not_mem_nil] at hx
    ) (by kernel_rfl) (by kernel_rfl) ?_ ?_
  · intro Q σ w h
    unfold l0Tk at h
    obtain ⟨At0, nt0, ct0, h0, hn⟩ := gSlice_elim h
    clear h
    have h := hn
    clear hn
    obtain ⟨At1, nt1, ct1, h1, hn⟩ := gSlice_elim h
    clear h
    have h := hn
    clear hn
    obtain ⟨xt5, h5, hn⟩ := gInt_elim h
    clear h
    have h := hn
    clear hn
    exact h
  · intro k Q σ w h
    unfold l0Tk at h
    obtain ⟨At0, nt0, ct0, h0, hn⟩ := gSlice_elim h
    clear h
    have h := hn
    clear hn
    obtain ⟨At1, nt1, ct1, h1, hn⟩ := gSlice_elim h
    clear h
    have h := hn
    clear hn
    obtain ⟨xt5, h5, hn⟩ := gInt_elim h
    clear h
    have h := hn
    clear hn
    rw [l0_eq (σ := σ)] at h
    have e : (ov σ [(0, .slice At0 nt0 ct0), (1, .slice At1 nt1 ct1), (5, .int .i64 xt5)]) = σ := ov_self (by simp [h0, h1, h5])
    rw [e] at h
    exact h
def tb : List (List Nat × Spec) := [([0, 1, 0, 1, 1], l0T)]
theorem wp_eq (Aa0 : Option Addr) (na0 : Nat) (ca0 : Nat) (Aa1 : Option Addr) (na1 : Nat) (ca1 : Nat) (w : World) (Q : Ending → World → Prop) :
    wp Aa0 na0 ca0 Aa1 na1 ca1 w Q = codeW Tryd.prog hT 26 D (tab tb) [] body (topQ Tryd.prog hT 26 [.tmp 4] Q) (argsF [.slice Aa0 na0 ca0, .slice Aa1 na1 ca1]) w := by kernel_rfl
theorem ok (Aa0 : Option Addr) (na0 : Nat) (ca0 : Nat) (Aa1 : Option Addr) (na1 : Nat) (ca1 : Nat) (w : World) (Q : Ending → World → Prop) (h : wp Aa0 na0 ca0 Aa1 na1 ca1 w Q) : Calls Tryd.prog 50 #[.slice Aa0 na0 ca0, .slice Aa1 na1 ca1] w Q := by
  rw [wp_eq] at h
  exact calls_of_codeW (c := body) (rs := [.tmp 4]) Tryd.func50 (by kernel_rfl) (by kernel_rfl) (by kernel_rfl) (by kernel_rfl) (by kernel_rfl) (tab_snd (by
    intro x hx
    simp only [tb, List.mem_cons, List.not_mem_nil, or_false] at hx
    subst hx
    exact l0_snd)) (by kernel_rfl) h
end f_ref01_Same
namespace f_ref01_Wide
/-! skein/skeinref01.Wide: function 52 -/
noncomputable def body : Code := (Tryd.f52.body).getD .skip
def l0 : Nat → Option Addr → Nat → Nat → Int → World → ((Option Addr) → Nat → Nat → World → Prop) → Prop
  | 0, _, _, _, _, _, _ => False
  | k + 1, At3, nt3, ct3, xt4, w, K0 =>
    sel (decide (xt4 < (64 : Int))) (
    alW w (.cells #[.int .u8 (IntKind.u8.wrap (IntKind.i64.wrap ((208 : Int) + (xt4.tmod (9 : Int)))))] 5) fun B4 w5 =>
    Runs Tryd.prog (Builtin.append_ #[29, 29] 29 #[.slice At3 nt3 ct3, .slice (some (⟨B4, 0, Option.none⟩ : Addr)) 1 1]) w5 fun v7 w6 => ∃ (A8 : Option Addr) (n8 : Nat) (c8 : Nat), v7 = (.slice A8 n8 c8) ∧ (
    l0 k A8 n8 c8 (IntKind.i64.wrap (xt4 + (1 : Int))) w6 K0)) (
    K0 At3 nt3 ct3 w)
def wp (Aa0 : Option Addr) (na0 : Nat) (ca0 : Nat) (w : World) (Q : Ending → World → Prop) : Prop :=
  Calls Tryd.prog 11 #[.slice Aa0 na0 ca0] w fun e1 w2 => ∃ (A3 : Option Addr) (n3 : Nat) (c3 : Nat), e1 = .returned (.slice A3 n3 c3) ∧ (
  ∃ k11 : Nat, l0 k11 A3 n3 c3 (0 : Int) w2 (fun (A9 : Option Addr) (n9 : Nat) (c9 : Nat) (w10 : World) => ∀ _ : Fr,
  Q (.returned (.slice A9 n9 c9)) w10))
def D : Nat → Option DH := dtab []
def l0LO : LO := ⟨[], [], [(0, [3])], []⟩
def l0Tk (k : Nat) : Spec := fun Q σ w =>
  gSlice (σ 3) fun At3 nt3 ct3 =>
  gInt .i64 (σ 4) fun xt4 =>
  l0 k At3 nt3 ct3 xt4 w (fun (Aq3 : Option Addr) (nq3 : Nat) (cq3 : Nat) (w : World) => ∀ d : Fr, Q (.exit 0) (ov d [(3, .slice Aq3 nq3 cq3)]) w)
def l0T : Spec := fun Q σ w => ∃ k, l0Tk k Q σ w
def l0tb : List (List Nat × Spec) := []
noncomputable def l0b : Code := (subC [0, 0, 1, 0, 1, 1] body).getD .skip
theorem l0_eq (k : Nat) (At3 : Option Addr) (nt3 : Nat) (ct3 : Nat) (xt4 : Int) (Q : PQ) (σ : Fr) (w : World) :
    l0 (k + 1) At3 nt3 ct3 xt4 w (fun (Aq3 : Option Addr) (nq3 : Nat) (cq3 : Nat) (w : World) => ∀ d : Fr, Q (.exit 0) (ov d [(3, .slice Aq3 nq3 cq3)]) w) = codeW Tryd.prog hT 19 D (tab l0tb) [0, 0, 1, 0, 1, 1] l0b (thenQ (l0Tk k Q) (widen l0LO Q)) (ov σ [(3, .slice At3 nt3 ct3), (4, .int .i64 xt4)]) w := by kernel_rfl
theorem l0_snd : ∀ c, subC [0, 1, 0, 1, 1] body = some c → Snd Tryd.prog 19 c l0T := by
  refine loop_of (hT := hT) (D := D) (l := l0tb) (b := l0b) (lo := l0LO) (by kernel_rfl) (by
    intro x hx
    simp only [l0tb, List.not_mem_nil] at hx
    ) (by kernel_rfl) (by kernel_rfl) ?_ ?_
  · intro Q σ w h
    unfold l0Tk at h
    obtain ⟨At3, nt3, ct3, h3, hn⟩ := gSlice_elim h
    clear h
    have h := hn
    clear hn
    obtain ⟨xt4, h4, hn⟩ := gInt_elim h
    clear h
    have h := hn
    clear hn
    exact h
  · intro k Q σ w h
    unfold l0Tk at h
    obtain ⟨At3, nt3, ct3, h3, hn⟩ := gSlice_elim h
    clear h
    have h := hn
    clear hn
    obtain ⟨xt4, h4, hn⟩ := gInt_elim h
    clear h
    have h := hn
    clear hn
    rw [l0_eq (σ := σ)] at h
    have e : (ov σ [(3, .slice At3 nt3 ct3), (4, .int .i64 xt4)]) = σ := ov_self (by simp [h3, h4])
    rw [e] at h
    exact h
def tb : List (List Nat × Spec) := [([0, 1, 0, 1, 1], l0T)]
theorem wp_eq (Aa0 : Option Addr) (na0 : Nat) (ca0 : Nat) (w : World) (Q : Ending → World → Prop) :
    wp Aa0 na0 ca0 w Q = codeW Tryd.prog hT 19 D (tab tb) [] body (topQ Tryd.prog hT 19 [.tmp 2] Q) (argsF [.slice Aa0 na0 ca0]) w := by kernel_rfl
theorem ok (Aa0 : Option Addr) (na0 : Nat) (ca0 : Nat) (w : World) (Q : Ending → World → Prop) (h : wp Aa0 na0 ca0 w Q) : Calls Tryd.prog 52 #[.slice Aa0 na0 ca0] w Q := by
  rw [wp_eq] at h
  exact calls_of_codeW (c := body) (rs := [.tmp 2]) Tryd.func52 (by kernel_rfl) (by kernel_rfl) (by kernel_rfl) (by kernel_rfl) (by kernel_rfl) (tab_snd (by
    intro x hx
    simp only [tb, List.mem_cons, List.not_mem_nil, or_false] at hx
    subst hx
    exact l0_snd)) (by kernel_rfl) h
end f_ref01_Wide
namespace f_ref01_Intact
/-! skein/skeinref01.Intact: function 53 -/
noncomputable def body : Code := (Tryd.f53.body).getD .skip
def l0 : Nat → Option Addr → Nat → Nat → Option Addr → Nat → Nat → Int → World → (World → Prop) → (Bool → World → Prop) → Prop
  | 0, _, _, _, _, _, _, _, _, _, _ => False
  | k + 1, At0, nt0, ct0, At1, nt1, ct1, xt5, w, K0, Kr =>
    sel (decide (xt5 < (nt1 : Int))) (
    drW w fun w1 =>
    optB At0 fun a3 =>
    req (decide (0 ≤ xt5 ∧ xt5 < (nt0 : Int))) <|
    ldI w1 (a3.add (xt5.toNat * 1)) .u8 fun x4 =>
    optB At1 fun a5 =>
    req (decide (0 ≤ xt5 ∧ xt5 < (nt1 : Int))) <|
    ldI w1 (a5.add (xt5.toNat * 1)) .u8 fun x6 =>
    sel (x4 != x6) (
    Kr false w1) (
    l0 k At0 nt0 ct0 At1 nt1 ct1 (IntKind.i64.wrap (xt5 + (1 : Int))) w1 K0 Kr)) (
    K0  w)
def l1 : Nat → Option Addr → Nat → Nat → Option Addr → Nat → Nat → Int → World → (World → Prop) → (Bool → World → Prop) → Prop
  | 0, _, _, _, _, _, _, _, _, _, _ => False
  | k + 1, At0, nt0, ct0, At1, nt1, ct1, xt6, w, K2, Kr =>
    sel (decide (xt6 < (64 : Int))) (
    optB At0 fun a8 =>
    req (decide (0 ≤ (IntKind.i64.wrap ((nt1 : Int) + xt6)) ∧ (IntKind.i64.wrap ((nt1 : Int) + xt6)) < (nt0 : Int))) <|
    ldI w (a8.add ((IntKind.i64.wrap ((nt1 : Int) + xt6)).toNat * 1)) .u8 fun x9 =>
    sel (x9 != (IntKind.u8.wrap (IntKind.i64.wrap ((208 : Int) + (xt6.tmod (9 : Int)))))) (
    Kr false w) (
    l1 k At0 nt0 ct0 At1 nt1 ct1 (IntKind.i64.wrap (xt6 + (1 : Int))) w K2 Kr)) (
    K2  w)
def wp (Aa0 : Option Addr) (na0 : Nat) (ca0 : Nat) (Aa1 : Option Addr) (na1 : Nat) (ca1 : Nat) (w : World) (Q : Ending → World → Prop) : Prop :=
  sel ((na0 : Int) != (IntKind.i64.wrap ((na1 : Int) + (64 : Int)))) (
  Q (.returned (.bool false)) w) (
  ∃ k16 : Nat, l0 k16 Aa0 na0 ca0 Aa1 na1 ca1 (0 : Int) w (fun (w7 : World) => ∀ _ : Fr,
  ∃ k13 : Nat, l1 k13 Aa0 na0 ca0 Aa1 na1 ca1 (0 : Int) w7 (fun (w10 : World) => ∀ _ : Fr,
  Q (.returned (.bool true)) w10) (fun (b11 : Bool) (w12 : World) => ∀ _ : Fr,
  Q (.returned (.bool b11)) w12)) (fun (b14 : Bool) (w15 : World) => ∀ _ : Fr,
  Q (.returned (.bool b14)) w15))
def D : Nat → Option DH := dtab [(6, .simple [.fst 0, .fst 1, .fst 2, .fst 3, .fst 4, .fst 5, .fst 6, .fst 7] [.fst 8])]
def l0LO : LO := ⟨[], [4], [(0, [0, 1])], []⟩
def l0Tk (k : Nat) : Spec := fun Q σ w =>
  gSlice (σ 0) fun At0 nt0 ct0 =>
  gSlice (σ 1) fun At1 nt1 ct1 =>
  gInt .i64 (σ 5) fun xt5 =>
  l0 k At0 nt0 ct0 At1 nt1 ct1 xt5 w (fun (w : World) => ∀ d : Fr, Q (.exit 0) (ov d [(0, .slice At0 nt0 ct0), (1, .slice At1 nt1 ct1)]) w) (fun (bq4 : Bool) (w : World) => ∀ d : Fr, Q .ret (ov d [(4, .bool bq4)]) w)
def l0T : Spec := fun Q σ w => ∃ k, l0Tk k Q σ w
def l0tb : List (List Nat × Spec) := []
noncomputable def l0b : Code := (subC [0, 0, 1, 0, 1, 1] body).getD .skip
theorem l0_eq (k : Nat) (At0 : Option Addr) (nt0 : Nat) (ct0 : Nat) (At1 : Option Addr) (nt1 : Nat) (ct1 : Nat) (xt5 : Int) (Q : PQ) (σ : Fr) (w : World) :
    l0 (k + 1) At0 nt0 ct0 At1 nt1 ct1 xt5 w (fun (w : World) => ∀ d : Fr, Q (.exit 0) (ov d [(0, .slice At0 nt0 ct0), (1, .slice At1 nt1 ct1)]) w) (fun (bq4 : Bool) (w : World) => ∀ d : Fr, Q .ret (ov d [(4, .bool bq4)]) w) = codeW Tryd.prog hT 44 D (tab l0tb) [0, 0, 1, 0, 1, 1] l0b (thenQ (l0Tk k Q) (widen l0LO Q)) (ov σ [(0, .slice At0 nt0 ct0), (1, .slice At1 nt1 ct1), (5, .int .i64 xt5)]) w := by kernel_rfl
theorem l0_snd : ∀ c, subC [0, 1, 0, 1, 1] body = some c → Snd Tryd.prog 44 c l0T := by
  refine loop_of (hT := hT) (D := D) (l := l0tb) (b := l0b) (lo := l0LO) (by kernel_rfl) (by
    intro x hx
    simp only [l0tb, List.not_mem_nil] at hx
    ) (by kernel_rfl) (by kernel_rfl) ?_ ?_
  · intro Q σ w h
    unfold l0Tk at h
    obtain ⟨At0, nt0, ct0, h0, hn⟩ := gSlice_elim h
    clear h
    have h := hn
    clear hn
    obtain ⟨At1, nt1, ct1, h1, hn⟩ := gSlice_elim h
    clear h
    have h := hn
    clear hn
    obtain ⟨xt5, h5, hn⟩ := gInt_elim h
    clear h
    have h := hn
    clear hn
    exact h
  · intro k Q σ w h
    unfold l0Tk at h
    obtain ⟨At0, nt0, ct0, h0, hn⟩ := gSlice_elim h
    clear h
    have h := hn
    clear hn
    obtain ⟨At1, nt1, ct1, h1, hn⟩ := gSlice_elim h
    clear h
    have h := hn
    clear hn
    obtain ⟨xt5, h5, hn⟩ := gInt_elim h
    clear h
    have h := hn
    clear hn
    rw [l0_eq (σ := σ)] at h
    have e : (ov σ [(0, .slice At0 nt0 ct0), (1, .slice At1 nt1 ct1), (5, .int .i64 xt5)]) = σ := ov_self (by simp [h0, h1, h5])
    rw [e] at h
    exact h
def l1LO : LO := ⟨[], [4], [(2, [])], []⟩
def l1Tk (k : Nat) : Spec := fun Q σ w =>
  gSlice (σ 0) fun At0 nt0 ct0 =>
  gSlice (σ 1) fun At1 nt1 ct1 =>
  gInt .i64 (σ 6) fun xt6 =>
  l1 k At0 nt0 ct0 At1 nt1 ct1 xt6 w (fun (w : World) => ∀ d : Fr, Q (.exit 2) (ov d []) w) (fun (bq4 : Bool) (w : World) => ∀ d : Fr, Q .ret (ov d [(4, .bool bq4)]) w)
def l1T : Spec := fun Q σ w => ∃ k, l1Tk k Q σ w
def l1tb : List (List Nat × Spec) := []
noncomputable def l1b : Code := (subC [0, 0, 1, 0, 1, 1, 1] body).getD .skip
theorem l1_eq (k : Nat) (At0 : Option Addr) (nt0 : Nat) (ct0 : Nat) (At1 : Option Addr) (nt1 : Nat) (ct1 : Nat) (xt6 : Int) (Q : PQ) (σ : Fr) (w : World) :
    l1 (k + 1) At0 nt0 ct0 At1 nt1 ct1 xt6 w (fun (w : World) => ∀ d : Fr, Q (.exit 2) (ov d []) w) (fun (bq4 : Bool) (w : World) => ∀ d : Fr, Q .ret (ov d [(4, .bool bq4)]) w) = codeW Tryd.prog hT 44 D (tab l1tb) [0, 0, 1, 0, 1, 1, 1] l1b (thenQ (l1Tk k Q) (widen l1LO Q)) (ov σ [(0, .slice At0 nt0 ct0), (1, .slice At1 nt1 ct1), (6, .int .i64 xt6)]) w := by kernel_rfl
theorem l1_snd : ∀ c, subC [0, 1, 0, 1, 1, 1] body = some c → Snd Tryd.prog 44 c l1T := by
  refine loop_of (hT := hT) (D := D) (l := l1tb) (b := l1b) (lo := l1LO) (by kernel_rfl) (by
    intro x hx
    simp only [l1tb, List.not_mem_nil] at hx
    ) (by kernel_rfl) (by kernel_rfl) ?_ ?_
  · intro Q σ w h
    unfold l1Tk at h
    obtain ⟨At0, nt0, ct0, h0, hn⟩ := gSlice_elim h
    clear h
    have h := hn
    clear hn
    obtain ⟨At1, nt1, ct1, h1, hn⟩ := gSlice_elim h
    clear h
    have h := hn
    clear hn
    obtain ⟨xt6, h6, hn⟩ := gInt_elim h
    clear h
    have h := hn
    clear hn
    exact h
  · intro k Q σ w h
    unfold l1Tk at h
    obtain ⟨At0, nt0, ct0, h0, hn⟩ := gSlice_elim h
    clear h
    have h := hn
    clear hn
    obtain ⟨At1, nt1, ct1, h1, hn⟩ := gSlice_elim h
    clear h
    have h := hn
    clear hn
    obtain ⟨xt6, h6, hn⟩ := gInt_elim h
    clear h
    have h := hn
    clear hn
    rw [l1_eq (σ := σ)] at h
    have e : (ov σ [(0, .slice At0 nt0 ct0), (1, .slice At1 nt1 ct1), (6, .int .i64 xt6)]) = σ := ov_self (by simp [h0, h1, h6])
    rw [e] at h
    exact h
def tb : List (List Nat × Spec) := [([0, 1, 0, 1, 1], l0T), ([0, 1, 0, 1, 1, 1], l1T)]
theorem wp_eq (Aa0 : Option Addr) (na0 : Nat) (ca0 : Nat) (Aa1 : Option Addr) (na1 : Nat) (ca1 : Nat) (w : World) (Q : Ending → World → Prop) :
    wp Aa0 na0 ca0 Aa1 na1 ca1 w Q = codeW Tryd.prog hT 44 D (tab tb) [] body (topQ Tryd.prog hT 44 [.tmp 4] Q) (argsF [.slice Aa0 na0 ca0, .slice Aa1 na1 ca1]) w := by kernel_rfl
theorem ok (Aa0 : Option Addr) (na0 : Nat) (ca0 : Nat) (Aa1 : Option Addr) (na1 : Nat) (ca1 : Nat) (w : World) (Q : Ending → World → Prop) (h : wp Aa0 na0 ca0 Aa1 na1 ca1 w Q) : Calls Tryd.prog 53 #[.slice Aa0 na0 ca0, .slice Aa1 na1 ca1] w Q := by
  rw [wp_eq] at h
  exact calls_of_codeW (c := body) (rs := [.tmp 4]) Tryd.func53 (by kernel_rfl) (by kernel_rfl) (by kernel_rfl) (by kernel_rfl) (by kernel_rfl) (tab_snd (by
    intro x hx
    simp only [tb, List.mem_cons, List.not_mem_nil, or_false] at hx
    rcases hx with rfl | rfl
    · exact l0_snd
    · exact l1_snd)) (by kernel_rfl) h
end f_ref01_Intact
namespace f_ref01_Spoil
/-! skein/skeinref01.Spoil: function 54 -/
noncomputable def body : Code := (Tryd.f54.body).getD .skip
def l0 : Nat → Option Addr → Nat → Nat → Int → World → (World → Prop) → Prop
  | 0, _, _, _, _, _, _ => False
  | k + 1, At0, nt0, ct0, xt2, w, K0 =>
    sel (decide (xt2 < (nt0 : Int))) (
    optB At0 fun a1 =>
    req (decide (0 ≤ xt2 ∧ xt2 < (nt0 : Int))) <|
    ldI w (a1.add (xt2.toNat * 1)) .u8 fun x2 =>
    optB At0 fun a3 =>
    req (decide (0 ≤ xt2 ∧ xt2 < (nt0 : Int))) <|
    stW w (a3.add (xt2.toNat * 1)) (.int .u8 (bxor .u8 x2 (90 : Int))) fun w4 =>
    l0 k At0 nt0 ct0 (IntKind.i64.wrap (xt2 + (1 : Int))) w4 K0) (
    K0  w)
def wp (Aa0 : Option Addr) (na0 : Nat) (ca0 : Nat) (w : World) (Q : Ending → World → Prop) : Prop :=
  ∃ k6 : Nat, l0 k6 Aa0 na0 ca0 (0 : Int) w (fun (w5 : World) => ∀ _ : Fr,
  Q (.returned (.tuple #[])) w5)
def D : Nat → Option DH := dtab []
def l0LO : LO := ⟨[], [], [(0, [])], []⟩
def l0Tk (k : Nat) : Spec := fun Q σ w =>
  gSlice (σ 0) fun At0 nt0 ct0 =>
  gInt .i64 (σ 2) fun xt2 =>
  l0 k At0 nt0 ct0 xt2 w (fun (w : World) => ∀ d : Fr, Q (.exit 0) (ov d []) w)
def l0T : Spec := fun Q σ w => ∃ k, l0Tk k Q σ w
def l0tb : List (List Nat × Spec) := []
noncomputable def l0b : Code := (subC [0, 0, 1] body).getD .skip
theorem l0_eq (k : Nat) (At0 : Option Addr) (nt0 : Nat) (ct0 : Nat) (xt2 : Int) (Q : PQ) (σ : Fr) (w : World) :
    l0 (k + 1) At0 nt0 ct0 xt2 w (fun (w : World) => ∀ d : Fr, Q (.exit 0) (ov d []) w) = codeW Tryd.prog hT 17 D (tab l0tb) [0, 0, 1] l0b (thenQ (l0Tk k Q) (widen l0LO Q)) (ov σ [(0, .slice At0 nt0 ct0), (2, .int .i64 xt2)]) w := by kernel_rfl
theorem l0_snd : ∀ c, subC [0, 1] body = some c → Snd Tryd.prog 17 c l0T := by
  refine loop_of (hT := hT) (D := D) (l := l0tb) (b := l0b) (lo := l0LO) (by kernel_rfl) (by
    intro x hx
    simp only [l0tb, List.not_mem_nil] at hx
    ) (by kernel_rfl) (by kernel_rfl) ?_ ?_
  · intro Q σ w h
    unfold l0Tk at h
    obtain ⟨At0, nt0, ct0, h0, hn⟩ := gSlice_elim h
    clear h
    have h := hn
    clear hn
    obtain ⟨xt2, h2, hn⟩ := gInt_elim h
    clear h
    have h := hn
    clear hn
    exact h
  · intro k Q σ w h
    unfold l0Tk at h
    obtain ⟨At0, nt0, ct0, h0, hn⟩ := gSlice_elim h
    clear h
    have h := hn
    clear hn
    obtain ⟨xt2, h2, hn⟩ := gInt_elim h
    clear h
    have h := hn
    clear hn
    rw [l0_eq (σ := σ)] at h
    have e : (ov σ [(0, .slice At0 nt0 ct0), (2, .int .i64 xt2)]) = σ := ov_self (by simp [h0, h2])
    rw [e] at h
    exact h
def tb : List (List Nat × Spec) := [([0, 1], l0T)]
theorem wp_eq (Aa0 : Option Addr) (na0 : Nat) (ca0 : Nat) (w : World) (Q : Ending → World → Prop) :
    wp Aa0 na0 ca0 w Q = codeW Tryd.prog hT 17 D (tab tb) [] body (topQ Tryd.prog hT 17 [] Q) (argsF [.slice Aa0 na0 ca0]) w := by kernel_rfl
theorem ok (Aa0 : Option Addr) (na0 : Nat) (ca0 : Nat) (w : World) (Q : Ending → World → Prop) (h : wp Aa0 na0 ca0 w Q) : Calls Tryd.prog 54 #[.slice Aa0 na0 ca0] w Q := by
  rw [wp_eq] at h
  exact calls_of_codeW (c := body) (rs := []) Tryd.func54 (by kernel_rfl) (by kernel_rfl) (by kernel_rfl) (by kernel_rfl) (by kernel_rfl) (tab_snd (by
    intro x hx
    simp only [tb, List.mem_cons, List.not_mem_nil, or_false] at hx
    subst hx
    exact l0_snd)) (by kernel_rfl) h
end f_ref01_Spoil
namespace f_ref02_Seal
/-! skein/skeinref02.Seal: function 69 -/
noncomputable def body : Code := (Tryd.f69.body).getD .skip
def l0 : Nat → Option Addr → Nat → Nat → Int → Int → World → ((Option Addr) → Nat → Nat → World → Prop) → Prop
  | 0, _, _, _, _, _, _, _ => False
  | k + 1, At3, nt3, ct3, xt4, xt5, w, K0 =>
    sel (decide (xt5 < (4 : Int))) (
    alW w (.cells #[.int .u8 (IntKind.u8.wrap (xt4.tmod (256 : Int)))] 5) fun B6 w7 =>
    Runs Tryd.prog (Builtin.append_ #[29, 29] 29 #[.slice At3 nt3 ct3, .slice (some (⟨B6, 0, Option.none⟩ : Addr)) 1 1]) w7 fun v9 w8 => ∃ (A10 : Option Addr) (n10 : Nat) (c10 : Nat), v9 = (.slice A10 n10 c10) ∧ (
    l0 k A10 n10 c10 (IntKind.u32.wrap (xt4.tdiv (256 : Int))) (IntKind.i64.wrap (xt5 + (1 : Int))) w8 K0)) (
    K0 At3 nt3 ct3 w)
def wp (Aa0 : Option Addr) (na0 : Nat) (ca0 : Nat) (w : World) (Q : Ending → World → Prop) : Prop :=
  alW w (.cells #[] 5) fun B1 w2 =>
  Calls Tryd.prog 85 #[.slice Aa0 na0 ca0] w2 fun e3 w4 => ∃ (x5 : Int), e3 = .returned (.int .u32 x5) ∧ (
  ∃ k16 : Nat, l0 k16 (some (⟨B1, 0, Option.none⟩ : Addr)) 0 0 x5 (0 : Int) w4 (fun (A11 : Option Addr) (n11 : Nat) (c11 : Nat) (w12 : World) => ∀ _ : Fr,
  Calls Tryd.prog 72 #[.slice A11 n11 c11, .slice Aa0 na0 ca0] w12 fun e13 w14 => ∃ (A15 : Option Addr) (n15 : Nat) (c15 : Nat), e13 = .returned (.slice A15 n15 c15) ∧ (
  Q (.returned (.slice A15 n15 c15)) w14)))
def D : Nat → Option DH := dtab []
def l0LO : LO := ⟨[], [], [(0, [0, 3])], []⟩
def l0Tk (k : Nat) : Spec := fun Q σ w =>
  gSlice (σ 3) fun At3 nt3 ct3 =>
  gInt .u32 (σ 4) fun xt4 =>
  gInt .i64 (σ 5) fun xt5 =>
  l0 k At3 nt3 ct3 xt4 xt5 w (fun (Aq3 : Option Addr) (nq3 : Nat) (cq3 : Nat) (w : World) => ∀ d : Fr, Q (.exit 0) (ov d [(0, σ 0), (3, .slice Aq3 nq3 cq3)]) w)
def l0T : Spec := fun Q σ w => ∃ k, l0Tk k Q σ w
def l0tb : List (List Nat × Spec) := []
noncomputable def l0b : Code := (subC [0, 0, 1, 0, 1, 1, 1] body).getD .skip
theorem l0_eq (k : Nat) (At3 : Option Addr) (nt3 : Nat) (ct3 : Nat) (xt4 : Int) (xt5 : Int) (Q : PQ) (σ : Fr) (w : World) :
    l0 (k + 1) At3 nt3 ct3 xt4 xt5 w (fun (Aq3 : Option Addr) (nq3 : Nat) (cq3 : Nat) (w : World) => ∀ d : Fr, Q (.exit 0) (ov d [(0, σ 0), (3, .slice Aq3 nq3 cq3)]) w) = codeW Tryd.prog hT 24 D (tab l0tb) [0, 0, 1, 0, 1, 1, 1] l0b (thenQ (l0Tk k Q) (widen l0LO Q)) (ov σ [(3, .slice At3 nt3 ct3), (4, .int .u32 xt4), (5, .int .i64 xt5)]) w := by kernel_rfl
theorem l0_snd : ∀ c, subC [0, 1, 0, 1, 1, 1] body = some c → Snd Tryd.prog 24 c l0T := by
  refine loop_of (hT := hT) (D := D) (l := l0tb) (b := l0b) (lo := l0LO) (by kernel_rfl) (by
    intro x hx
    simp only [l0tb, List.not_mem_nil] at hx
    ) (by kernel_rfl) (by kernel_rfl) ?_ ?_
  · intro Q σ w h
    unfold l0Tk at h
    obtain ⟨At3, nt3, ct3, h3, hn⟩ := gSlice_elim h
    clear h
    have h := hn
    clear hn
    obtain ⟨xt4, h4, hn⟩ := gInt_elim h
    clear h
    have h := hn
    clear hn
    obtain ⟨xt5, h5, hn⟩ := gInt_elim h
    clear h
    have h := hn
    clear hn
    exact h
  · intro k Q σ w h
    unfold l0Tk at h
    obtain ⟨At3, nt3, ct3, h3, hn⟩ := gSlice_elim h
    clear h
    have h := hn
    clear hn
    obtain ⟨xt4, h4, hn⟩ := gInt_elim h
    clear h
    have h := hn
    clear hn
    obtain ⟨xt5, h5, hn⟩ := gInt_elim h
    clear h
    have h := hn
    clear hn
    rw [l0_eq (σ := σ)] at h
    have e : (ov σ [(3, .slice At3 nt3 ct3), (4, .int .u32 xt4), (5, .int .i64 xt5)]) = σ := ov_self (by simp [h3, h4, h5])
    rw [e] at h
    exact h
def tb : List (List Nat × Spec) := [([0, 1, 0, 1, 1, 1], l0T)]
theorem wp_eq (Aa0 : Option Addr) (na0 : Nat) (ca0 : Nat) (w : World) (Q : Ending → World → Prop) :
    wp Aa0 na0 ca0 w Q = codeW Tryd.prog hT 24 D (tab tb) [] body (topQ Tryd.prog hT 24 [.tmp 2] Q) (argsF [.slice Aa0 na0 ca0]) w := by kernel_rfl
theorem ok (Aa0 : Option Addr) (na0 : Nat) (ca0 : Nat) (w : World) (Q : Ending → World → Prop) (h : wp Aa0 na0 ca0 w Q) : Calls Tryd.prog 69 #[.slice Aa0 na0 ca0] w Q := by
  rw [wp_eq] at h
  exact calls_of_codeW (c := body) (rs := [.tmp 2]) Tryd.func69 (by kernel_rfl) (by kernel_rfl) (by kernel_rfl) (by kernel_rfl) (by kernel_rfl) (tab_snd (by
    intro x hx
    simp only [tb, List.mem_cons, List.not_mem_nil, or_false] at hx
    subst hx
    exact l0_snd)) (by kernel_rfl) h
end f_ref02_Seal
namespace f_ref01_Cat
/-! skein/skeinref01.Cat: function 72 -/
noncomputable def body : Code := (Tryd.f72.body).getD .skip
def l0 : Nat → Option Addr → Nat → Nat → Option Addr → Nat → Nat → Int → World → ((Option Addr) → Nat → Nat → World → Prop) → Prop
  | 0, _, _, _, _, _, _, _, _, _ => False
  | k + 1, At0, nt0, ct0, At5, nt5, ct5, xt6, w, K0 =>
    sel (decide (xt6 < (nt0 : Int))) (
    optB At0 fun a3 =>
    req (decide (0 ≤ xt6 ∧ xt6 < (nt0 : Int))) <|
    ldI w (a3.add (xt6.toNat * 1)) .u8 fun x4 =>
    alW w (.cells #[.int .u8 x4] 5) fun B5 w6 =>
    Runs Tryd.prog (Builtin.append_ #[29, 29] 29 #[.slice At5 nt5 ct5, .slice (some (⟨B5, 0, Option.none⟩ : Addr)) 1 1]) w6 fun v8 w7 => ∃ (A9 : Option Addr) (n9 : Nat) (c9 : Nat), v8 = (.slice A9 n9 c9) ∧ (
    l0 k At0 nt0 ct0 A9 n9 c9 (IntKind.i64.wrap (xt6 + (1 : Int))) w7 K0)) (
    K0 At5 nt5 ct5 w)
def l1 : Nat → Option Addr → Nat → Nat → Option Addr → Nat → Nat → Int → World → ((Option Addr) → Nat → Nat → World → Prop) → Prop
  | 0, _, _, _, _, _, _, _, _, _ => False
  | k + 1, At1, nt1, ct1, At5, nt5, ct5, xt7, w, K2 =>
    sel (decide (xt7 < (nt1 : Int))) (
    optB At1 fun a12 =>
    req (decide (0 ≤ xt7 ∧ xt7 < (nt1 : Int))) <|
    ldI w (a12.add (xt7.toNat * 1)) .u8 fun x13 =>
    alW w (.cells #[.int .u8 x13] 5) fun B14 w15 =>
    Runs Tryd.prog (Builtin.append_ #[29, 29] 29 #[.slice At5 nt5 ct5, .slice (some (⟨B14, 0, Option.none⟩ : Addr)) 1 1]) w15 fun v17 w16 => ∃ (A18 : Option Addr) (n18 : Nat) (c18 : Nat), v17 = (.slice A18 n18 c18) ∧ (
    l1 k At1 nt1 ct1 A18 n18 c18 (IntKind.i64.wrap (xt7 + (1 : Int))) w16 K2)) (
    K2 At5 nt5 ct5 w)
def wp (Aa0 : Option Addr) (na0 : Nat) (ca0 : Nat) (Aa1 : Option Addr) (na1 : Nat) (ca1 : Nat) (w : World) (Q : Ending → World → Prop) : Prop :=
  alW w (.cells #[] 5) fun B1 w2 =>
  ∃ k22 : Nat, l0 k22 Aa0 na0 ca0 (some (⟨B1, 0, Option.none⟩ : Addr)) 0 0 (0 : Int) w2 (fun (A10 : Option Addr) (n10 : Nat) (c10 : Nat) (w11 : World) => ∀ _ : Fr,
  ∃ k21 : Nat, l1 k21 Aa1 na1 ca1 A10 n10 c10 (0 : Int) w11 (fun (A19 : Option Addr) (n19 : Nat) (c19 : Nat) (w20 : World) => ∀ _ : Fr,
  Q (.returned (.slice A19 n19 c19)) w20))
def D : Nat → Option DH := dtab []
def l0LO : LO := ⟨[], [], [(0, [1, 5])], []⟩
def l0Tk (k : Nat) : Spec := fun Q σ w =>
  gSlice (σ 0) fun At0 nt0 ct0 =>
  gSlice (σ 5) fun At5 nt5 ct5 =>
  gInt .i64 (σ 6) fun xt6 =>
  l0 k At0 nt0 ct0 At5 nt5 ct5 xt6 w (fun (Aq5 : Option Addr) (nq5 : Nat) (cq5 : Nat) (w : World) => ∀ d : Fr, Q (.exit 0) (ov d [(1, σ 1), (5, .slice Aq5 nq5 cq5)]) w)
def l0T : Spec := fun Q σ w => ∃ k, l0Tk k Q σ w
def l0tb : List (List Nat × Spec) := []
noncomputable def l0b : Code := (subC [0, 0, 1, 0, 1, 1] body).getD .skip
theorem l0_eq (k : Nat) (At0 : Option Addr) (nt0 : Nat) (ct0 : Nat) (At5 : Option Addr) (nt5 : Nat) (ct5 : Nat) (xt6 : Int) (Q : PQ) (σ : Fr) (w : World) :
    l0 (k + 1) At0 nt0 ct0 At5 nt5 ct5 xt6 w (fun (Aq5 : Option Addr) (nq5 : Nat) (cq5 : Nat) (w : World) => ∀ d : Fr, Q (.exit 0) (ov d [(1, σ 1), (5, .slice Aq5 nq5 cq5)]) w) = codeW Tryd.prog hT 36 D (tab l0tb) [0, 0, 1, 0, 1, 1] l0b (thenQ (l0Tk k Q) (widen l0LO Q)) (ov σ [(0, .slice At0 nt0 ct0), (5, .slice At5 nt5 ct5), (6, .int .i64 xt6)]) w := by kernel_rfl
theorem l0_snd : ∀ c, subC [0, 1, 0, 1, 1] body = some c → Snd Tryd.prog 36 c l0T := by
  refine loop_of (hT := hT) (D := D) (l := l0tb) (b := l0b) (lo := l0LO) (by kernel_rfl) (by
    intro x hx
    simp only [l0tb, List.not_mem_nil] at hx
    ) (by kernel_rfl) (by kernel_rfl) ?_ ?_
  · intro Q σ w h
    unfold l0Tk at h
    obtain ⟨At0, nt0, ct0, h0, hn⟩ := gSlice_elim h
    clear h
    have h := hn
    clear hn
    obtain ⟨At5, nt5, ct5, h5, hn⟩ := gSlice_elim h
    clear h
    have h := hn
    clear hn
    obtain ⟨xt6, h6, hn⟩ := gInt_elim h
    clear h
    have h := hn
    clear hn
    exact h
  · intro k Q σ w h
    unfold l0Tk at h
    obtain ⟨At0, nt0, ct0, h0, hn⟩ := gSlice_elim h
    clear h
    have h := hn
    clear hn
    obtain ⟨At5, nt5, ct5, h5, hn⟩ := gSlice_elim h
    clear h
    have h := hn
    clear hn
    obtain ⟨xt6, h6, hn⟩ := gInt_elim h
    clear h
    have h := hn
    clear hn
    rw [l0_eq (σ := σ)] at h
    have e : (ov σ [(0, .slice At0 nt0 ct0), (5, .slice At5 nt5 ct5), (6, .int .i64 xt6)]) = σ := ov_self (by simp [h0, h5, h6])
    rw [e] at h
    exact h
def l1LO : LO := ⟨[], [], [(2, [5])], []⟩
def l1Tk (k : Nat) : Spec := fun Q σ w =>
  gSlice (σ 1) fun At1 nt1 ct1 =>
  gSlice (σ 5) fun At5 nt5 ct5 =>
  gInt .i64 (σ 7) fun xt7 =>
  l1 k At1 nt1 ct1 At5 nt5 ct5 xt7 w (fun (Aq5 : Option Addr) (nq5 : Nat) (cq5 : Nat) (w : World) => ∀ d : Fr, Q (.exit 2) (ov d [(5, .slice Aq5 nq5 cq5)]) w)
def l1T : Spec := fun Q σ w => ∃ k, l1Tk k Q σ w
def l1tb : List (List Nat × Spec) := []
noncomputable def l1b : Code := (subC [0, 0, 1, 0, 1, 1, 1] body).getD .skip
theorem l1_eq (k : Nat) (At1 : Option Addr) (nt1 : Nat) (ct1 : Nat) (At5 : Option Addr) (nt5 : Nat) (ct5 : Nat) (xt7 : Int) (Q : PQ) (σ : Fr) (w : World) :
    l1 (k + 1) At1 nt1 ct1 At5 nt5 ct5 xt7 w (fun (Aq5 : Option Addr) (nq5 : Nat) (cq5 : Nat) (w : World) => ∀ d : Fr, Q (.exit 2) (ov d [(5, .slice Aq5 nq5 cq5)]) w) = codeW Tryd.prog hT 36 D (tab l1tb) [0, 0, 1, 0, 1, 1, 1] l1b (thenQ (l1Tk k Q) (widen l1LO Q)) (ov σ [(1, .slice At1 nt1 ct1), (5, .slice At5 nt5 ct5), (7, .int .i64 xt7)]) w := by kernel_rfl
theorem l1_snd : ∀ c, subC [0, 1, 0, 1, 1, 1] body = some c → Snd Tryd.prog 36 c l1T := by
  refine loop_of (hT := hT) (D := D) (l := l1tb) (b := l1b) (lo := l1LO) (by kernel_rfl) (by
    intro x hx
    simp only [l1tb, List.not_mem_nil] at hx
    ) (by kernel_rfl) (by kernel_rfl) ?_ ?_
  · intro Q σ w h
    unfold l1Tk at h
    obtain ⟨At1, nt1, ct1, h1, hn⟩ := gSlice_elim h
    clear h
    have h := hn
    clear hn
    obtain ⟨At5, nt5, ct5, h5, hn⟩ := gSlice_elim h
    clear h
    have h := hn
    clear hn
    obtain ⟨xt7, h7, hn⟩ := gInt_elim h
    clear h
    have h := hn
    clear hn
    exact h
  · intro k Q σ w h
    unfold l1Tk at h
    obtain ⟨At1, nt1, ct1, h1, hn⟩ := gSlice_elim h
    clear h
    have h := hn
    clear hn
    obtain ⟨At5, nt5, ct5, h5, hn⟩ := gSlice_elim h
    clear h
    have h := hn
    clear hn
    obtain ⟨xt7, h7, hn⟩ := gInt_elim h
    clear h
    have h := hn
    clear hn
    rw [l1_eq (σ := σ)] at h
    have e : (ov σ [(1, .slice At1 nt1 ct1), (5, .slice At5 nt5 ct5), (7, .int .i64 xt7)]) = σ := ov_self (by simp [h1, h5, h7])
    rw [e] at h
    exact h
def tb : List (List Nat × Spec) := [([0, 1, 0, 1, 1], l0T), ([0, 1, 0, 1, 1, 1], l1T)]
theorem wp_eq (Aa0 : Option Addr) (na0 : Nat) (ca0 : Nat) (Aa1 : Option Addr) (na1 : Nat) (ca1 : Nat) (w : World) (Q : Ending → World → Prop) :
    wp Aa0 na0 ca0 Aa1 na1 ca1 w Q = codeW Tryd.prog hT 36 D (tab tb) [] body (topQ Tryd.prog hT 36 [.tmp 4] Q) (argsF [.slice Aa0 na0 ca0, .slice Aa1 na1 ca1]) w := by kernel_rfl
theorem ok (Aa0 : Option Addr) (na0 : Nat) (ca0 : Nat) (Aa1 : Option Addr) (na1 : Nat) (ca1 : Nat) (w : World) (Q : Ending → World → Prop) (h : wp Aa0 na0 ca0 Aa1 na1 ca1 w Q) : Calls Tryd.prog 72 #[.slice Aa0 na0 ca0, .slice Aa1 na1 ca1] w Q := by
  rw [wp_eq] at h
  exact calls_of_codeW (c := body) (rs := [.tmp 4]) Tryd.func72 (by kernel_rfl) (by kernel_rfl) (by kernel_rfl) (by kernel_rfl) (by kernel_rfl) (tab_snd (by
    intro x hx
    simp only [tb, List.mem_cons, List.not_mem_nil, or_false] at hx
    rcases hx with rfl | rfl
    · exact l0_snd
    · exact l1_snd)) (by kernel_rfl) h
end f_ref01_Cat
namespace f_ref01_PutText
/-! skein/skeinref01.PutText: function 73 -/
noncomputable def body : Code := (Tryd.f73.body).getD .skip
def wp (Aa0 : Option Addr) (na0 : Nat) (ca0 : Nat) (w : World) (Q : Ending → World → Prop) : Prop :=
  Calls Tryd.prog 87 #[.int .u64 (IntKind.u64.wrap (na0 : Int))] w fun e1 w2 => ∃ (A3 : Option Addr) (n3 : Nat) (c3 : Nat), e1 = .returned (.slice A3 n3 c3) ∧ (
  Calls Tryd.prog 72 #[.slice A3 n3 c3, .slice Aa0 na0 ca0] w2 fun e4 w5 => ∃ (A6 : Option Addr) (n6 : Nat) (c6 : Nat), e4 = .returned (.slice A6 n6 c6) ∧ (
  Q (.returned (.slice A6 n6 c6)) w5))
def D : Nat → Option DH := dtab []
def tb : List (List Nat × Spec) := []
theorem wp_eq (Aa0 : Option Addr) (na0 : Nat) (ca0 : Nat) (w : World) (Q : Ending → World → Prop) :
    wp Aa0 na0 ca0 w Q = codeW Tryd.prog hT 9 D (tab tb) [] body (topQ Tryd.prog hT 9 [.tmp 2] Q) (argsF [.slice Aa0 na0 ca0]) w := by kernel_rfl
theorem ok (Aa0 : Option Addr) (na0 : Nat) (ca0 : Nat) (w : World) (Q : Ending → World → Prop) (h : wp Aa0 na0 ca0 w Q) : Calls Tryd.prog 73 #[.slice Aa0 na0 ca0] w Q := by
  rw [wp_eq] at h
  exact calls_of_codeW (c := body) (rs := [.tmp 2]) Tryd.func73 (by kernel_rfl) (by kernel_rfl) (by kernel_rfl) (by kernel_rfl) (by kernel_rfl) (tab_snd (by
    intro x hx
    simp only [tb, List.not_mem_nil] at hx
    )) (by kernel_rfl) h
end f_ref01_PutText
namespace f_ref09_Build
/-! skein/skeinref09.Build: function 76 -/
noncomputable def body : Code := (Tryd.f76.body).getD .skip
def l0 : Nat → Option Addr → Nat → Nat → Int → Int → World → ((Option Addr) → Nat → Nat → World → Prop) → Prop
  | 0, _, _, _, _, _, _, _ => False
  | k + 1, At5, nt5, ct5, xt6, xt7, w, K0 =>
    sel (decide (xt7 < (8 : Int))) (
    alW w (.cells #[.int .u8 (IntKind.u8.wrap (xt6.tmod (256 : Int)))] 5) fun B3 w4 =>
    Runs Tryd.prog (Builtin.append_ #[29, 29] 29 #[.slice At5 nt5 ct5, .slice (some (⟨B3, 0, Option.none⟩ : Addr)) 1 1]) w4 fun v6 w5 => ∃ (A7 : Option Addr) (n7 : Nat) (c7 : Nat), v6 = (.slice A7 n7 c7) ∧ (
    l0 k A7 n7 c7 (IntKind.u64.wrap (xt6.tdiv (256 : Int))) (IntKind.i64.wrap (xt7 + (1 : Int))) w5 K0)) (
    K0 At5 nt5 ct5 w)
def l1 : Nat → Option Addr → Nat → Nat → World → ((Option Addr) → Nat → Nat → World → Prop) → Prop
  | 0, _, _, _, _, _ => False
  | k + 1, At5, nt5, ct5, w, K2 =>
    sel (decide ((nt5 : Int) < (508 : Int))) (
    alW w (.cells #[.int .u8 (0 : Int)] 5) fun B23 w24 =>
    Runs Tryd.prog (Builtin.append_ #[29, 29] 29 #[.slice At5 nt5 ct5, .slice (some (⟨B23, 0, Option.none⟩ : Addr)) 1 1]) w24 fun v26 w25 => ∃ (A27 : Option Addr) (n27 : Nat) (c27 : Nat), v26 = (.slice A27 n27 c27) ∧ (
    l1 k A27 n27 c27 w25 K2)) (
    K2 At5 nt5 ct5 w)
def wp (xa0 : Int) (Aa1 : Option Addr) (na1 : Nat) (ca1 : Nat) (w : World) (Q : Ending → World → Prop) : Prop :=
  alW w (.cells #[] 5) fun B1 w2 =>
  ∃ k34 : Nat, l0 k34 (some (⟨B1, 0, Option.none⟩ : Addr)) 0 0 (IntKind.u64.wrap xa0) (0 : Int) w2 (fun (A8 : Option Addr) (n8 : Nat) (c8 : Nat) (w9 : World) => ∀ _ : Fr,
  alW w9 (.cells #[.int .u8 (IntKind.u8.wrap ((na1 : Int).tmod (256 : Int)))] 5) fun B10 w11 =>
  Runs Tryd.prog (Builtin.append_ #[29, 29] 29 #[.slice A8 n8 c8, .slice (some (⟨B10, 0, Option.none⟩ : Addr)) 1 1]) w11 fun v13 w12 => ∃ (A14 : Option Addr) (n14 : Nat) (c14 : Nat), v13 = (.slice A14 n14 c14) ∧ (
  alW w12 (.cells #[.int .u8 (IntKind.u8.wrap (IntKind.i64.wrap ((na1 : Int).tdiv (256 : Int))))] 5) fun B15 w16 =>
  Runs Tryd.prog (Builtin.append_ #[29, 29] 29 #[.slice A14 n14 c14, .slice (some (⟨B15, 0, Option.none⟩ : Addr)) 1 1]) w16 fun v18 w17 => ∃ (A19 : Option Addr) (n19 : Nat) (c19 : Nat), v18 = (.slice A19 n19 c19) ∧ (
  Calls Tryd.prog 72 #[.slice A19 n19 c19, .slice Aa1 na1 ca1] w17 fun e20 w21 => ∃ (A22 : Option Addr) (n22 : Nat) (c22 : Nat), e20 = .returned (.slice A22 n22 c22) ∧ (
  ∃ k33 : Nat, l1 k33 A22 n22 c22 w21 (fun (A28 : Option Addr) (n28 : Nat) (c28 : Nat) (w29 : World) => ∀ _ : Fr,
  Calls Tryd.prog 69 #[.slice A28 n28 c28] w29 fun e30 w31 => ∃ (A32 : Option Addr) (n32 : Nat) (c32 : Nat), e30 = .returned (.slice A32 n32 c32) ∧ (
  Q (.returned (.slice A32 n32 c32)) w31))))))
def D : Nat → Option DH := dtab []
def l0LO : LO := ⟨[], [], [(0, [1, 5])], []⟩
def l0Tk (k : Nat) : Spec := fun Q σ w =>
  gSlice (σ 5) fun At5 nt5 ct5 =>
  gInt .u64 (σ 6) fun xt6 =>
  gInt .i64 (σ 7) fun xt7 =>
  l0 k At5 nt5 ct5 xt6 xt7 w (fun (Aq5 : Option Addr) (nq5 : Nat) (cq5 : Nat) (w : World) => ∀ d : Fr, Q (.exit 0) (ov d [(1, σ 1), (5, .slice Aq5 nq5 cq5)]) w)
def l0T : Spec := fun Q σ w => ∃ k, l0Tk k Q σ w
def l0tb : List (List Nat × Spec) := []
noncomputable def l0b : Code := (subC [0, 0, 1, 0, 1, 1, 1] body).getD .skip
theorem l0_eq (k : Nat) (At5 : Option Addr) (nt5 : Nat) (ct5 : Nat) (xt6 : Int) (xt7 : Int) (Q : PQ) (σ : Fr) (w : World) :
    l0 (k + 1) At5 nt5 ct5 xt6 xt7 w (fun (Aq5 : Option Addr) (nq5 : Nat) (cq5 : Nat) (w : World) => ∀ d : Fr, Q (.exit 0) (ov d [(1, σ 1), (5, .slice Aq5 nq5 cq5)]) w) = codeW Tryd.prog hT 48 D (tab l0tb) [0, 0, 1, 0, 1, 1, 1] l0b (thenQ (l0Tk k Q) (widen l0LO Q)) (ov σ [(5, .slice At5 nt5 ct5), (6, .int .u64 xt6), (7, .int .i64 xt7)]) w := by kernel_rfl
theorem l0_snd : ∀ c, subC [0, 1, 0, 1, 1, 1] body = some c → Snd Tryd.prog 48 c l0T := by
  refine loop_of (hT := hT) (D := D) (l := l0tb) (b := l0b) (lo := l0LO) (by kernel_rfl) (by
    intro x hx
    simp only [l0tb, List.not_mem_nil] at hx
    ) (by kernel_rfl) (by kernel_rfl) ?_ ?_
  · intro Q σ w h
    unfold l0Tk at h
    obtain ⟨At5, nt5, ct5, h5, hn⟩ := gSlice_elim h
    clear h
    have h := hn
    clear hn
    obtain ⟨xt6, h6, hn⟩ := gInt_elim h
    clear h
    have h := hn
    clear hn
    obtain ⟨xt7, h7, hn⟩ := gInt_elim h
    clear h
    have h := hn
    clear hn
    exact h
  · intro k Q σ w h
    unfold l0Tk at h
    obtain ⟨At5, nt5, ct5, h5, hn⟩ := gSlice_elim h
    clear h
    have h := hn
    clear hn
    obtain ⟨xt6, h6, hn⟩ := gInt_elim h
    clear h
    have h := hn
    clear hn
    obtain ⟨xt7, h7, hn⟩ := gInt_elim h
    clear h
    have h := hn
    clear hn
    rw [l0_eq (σ := σ)] at h
    have e : (ov σ [(5, .slice At5 nt5 ct5), (6, .int .u64 xt6), (7, .int .i64 xt7)]) = σ := ov_self (by simp [h5, h6, h7])
    rw [e] at h
    exact h
def l1LO : LO := ⟨[], [], [(2, [5])], []⟩
def l1Tk (k : Nat) : Spec := fun Q σ w =>
  gSlice (σ 5) fun At5 nt5 ct5 =>
  l1 k At5 nt5 ct5 w (fun (Aq5 : Option Addr) (nq5 : Nat) (cq5 : Nat) (w : World) => ∀ d : Fr, Q (.exit 2) (ov d [(5, .slice Aq5 nq5 cq5)]) w)
def l1T : Spec := fun Q σ w => ∃ k, l1Tk k Q σ w
def l1tb : List (List Nat × Spec) := []
noncomputable def l1b : Code := (subC [0, 0, 0, 1, 1, 1, 1, 1, 1, 1] body).getD .skip
theorem l1_eq (k : Nat) (At5 : Option Addr) (nt5 : Nat) (ct5 : Nat) (Q : PQ) (σ : Fr) (w : World) :
    l1 (k + 1) At5 nt5 ct5 w (fun (Aq5 : Option Addr) (nq5 : Nat) (cq5 : Nat) (w : World) => ∀ d : Fr, Q (.exit 2) (ov d [(5, .slice Aq5 nq5 cq5)]) w) = codeW Tryd.prog hT 48 D (tab l1tb) [0, 0, 0, 1, 1, 1, 1, 1, 1, 1] l1b (thenQ (l1Tk k Q) (widen l1LO Q)) (ov σ [(5, .slice At5 nt5 ct5)]) w := by kernel_rfl
theorem l1_snd : ∀ c, subC [0, 0, 1, 1, 1, 1, 1, 1, 1] body = some c → Snd Tryd.prog 48 c l1T := by
  refine loop_of (hT := hT) (D := D) (l := l1tb) (b := l1b) (lo := l1LO) (by kernel_rfl) (by
    intro x hx
    simp only [l1tb, List.not_mem_nil] at hx
    ) (by kernel_rfl) (by kernel_rfl) ?_ ?_
  · intro Q σ w h
    unfold l1Tk at h
    obtain ⟨At5, nt5, ct5, h5, hn⟩ := gSlice_elim h
    clear h
    have h := hn
    clear hn
    exact h
  · intro k Q σ w h
    unfold l1Tk at h
    obtain ⟨At5, nt5, ct5, h5, hn⟩ := gSlice_elim h
    clear h
    have h := hn
    clear hn
    rw [l1_eq (σ := σ)] at h
    have e : (ov σ [(5, .slice At5 nt5 ct5)]) = σ := ov_self (by simp [h5])
    rw [e] at h
    exact h
def tb : List (List Nat × Spec) := [([0, 1, 0, 1, 1, 1], l0T), ([0, 0, 1, 1, 1, 1, 1, 1, 1], l1T)]
theorem wp_eq (xa0 : Int) (Aa1 : Option Addr) (na1 : Nat) (ca1 : Nat) (w : World) (Q : Ending → World → Prop) :
    wp xa0 Aa1 na1 ca1 w Q = codeW Tryd.prog hT 48 D (tab tb) [] body (topQ Tryd.prog hT 48 [.tmp 4] Q) (argsF [.int .i64 xa0, .slice Aa1 na1 ca1]) w := by kernel_rfl
theorem ok (xa0 : Int) (Aa1 : Option Addr) (na1 : Nat) (ca1 : Nat) (w : World) (Q : Ending → World → Prop) (h : wp xa0 Aa1 na1 ca1 w Q) : Calls Tryd.prog 76 #[.int .i64 xa0, .slice Aa1 na1 ca1] w Q := by
  rw [wp_eq] at h
  exact calls_of_codeW (c := body) (rs := [.tmp 4]) Tryd.func76 (by kernel_rfl) (by kernel_rfl) (by kernel_rfl) (by kernel_rfl) (by kernel_rfl) (tab_snd (by
    intro x hx
    simp only [tb, List.mem_cons, List.not_mem_nil, or_false] at hx
    rcases hx with rfl | rfl
    · exact l0_snd
    · exact l1_snd)) (by kernel_rfl) h
end f_ref09_Build
namespace f_ref02_Sum
/-! skein/skeinref02.Sum: function 85 -/
noncomputable def body : Code := (Tryd.f85.body).getD .skip
def l1 : Nat → Int → Int → World → (Int → World → Prop) → Prop
  | 0, _, _, _, _ => False
  | k + 1, xt3, xt5, w, K2 =>
    sel (decide (xt5 < (8 : Int))) (
    sel ((xt3.tmod (2 : Int)) == (1 : Int)) (
    l1 k (bxor .u32 (IntKind.u32.wrap (xt3.tdiv (2 : Int))) (3988292384 : Int)) (IntKind.i64.wrap (xt5 + (1 : Int))) w K2) (
    l1 k (IntKind.u32.wrap (xt3.tdiv (2 : Int))) (IntKind.i64.wrap (xt5 + (1 : Int))) w K2)) (
    K2 xt3 w)
def l0 : Nat → Option Addr → Nat → Nat → Int → Int → World → (Int → World → Prop) → Prop
  | 0, _, _, _, _, _, _, _ => False
  | k + 1, At0, nt0, ct0, xt3, xt4, w, K0 =>
    sel (decide (xt4 < (nt0 : Int))) (
    optB At0 fun a1 =>
    req (decide (0 ≤ xt4 ∧ xt4 < (nt0 : Int))) <|
    ldI w (a1.add (xt4.toNat * 1)) .u8 fun x2 =>
    ∃ k5 : Nat, l1 k5 (bxor .u32 xt3 (IntKind.u32.wrap x2)) (0 : Int) w (fun (x3 : Int) (w4 : World) => ∀ _ : Fr,
    l0 k At0 nt0 ct0 x3 (IntKind.i64.wrap (xt4 + (1 : Int))) w4 K0)) (
    K0 xt3 w)
def wp (Aa0 : Option Addr) (na0 : Nat) (ca0 : Nat) (w : World) (Q : Ending → World → Prop) : Prop :=
  ∃ k8 : Nat, l0 k8 Aa0 na0 ca0 (4294967295 : Int) (0 : Int) w (fun (x6 : Int) (w7 : World) => ∀ _ : Fr,
  Q (.returned (.int .u32 (bxor .u32 x6 (4294967295 : Int)))) w7)
def D : Nat → Option DH := dtab []
def l1LO : LO := ⟨[], [], [(2, [0, 3, 4])], []⟩
def l1Tk (k : Nat) : Spec := fun Q σ w =>
  gInt .u32 (σ 3) fun xt3 =>
  gInt .i64 (σ 5) fun xt5 =>
  l1 k xt3 xt5 w (fun (xq3 : Int) (w : World) => ∀ d : Fr, Q (.exit 2) (ov d [(0, σ 0), (3, .int .u32 xq3), (4, σ 4)]) w)
def l1T : Spec := fun Q σ w => ∃ k, l1Tk k Q σ w
def l1tb : List (List Nat × Spec) := []
noncomputable def l1b : Code := (subC [0, 0, 1, 1, 0, 0, 1, 0, 0, 1, 0, 1, 1] body).getD .skip
theorem l1_eq (k : Nat) (xt3 : Int) (xt5 : Int) (Q : PQ) (σ : Fr) (w : World) :
    l1 (k + 1) xt3 xt5 w (fun (xq3 : Int) (w : World) => ∀ d : Fr, Q (.exit 2) (ov d [(0, σ 0), (3, .int .u32 xq3), (4, σ 4)]) w) = codeW Tryd.prog hT 33 D (tab l1tb) [0, 0, 1, 1, 0, 0, 1, 0, 0, 1, 0, 1, 1] l1b (thenQ (l1Tk k Q) (widen l1LO Q)) (ov σ [(3, .int .u32 xt3), (5, .int .i64 xt5)]) w := by kernel_rfl
theorem l1_snd : ∀ c, subC [0, 1, 1, 0, 0, 1, 0, 0, 1, 0, 1, 1] body = some c → Snd Tryd.prog 33 c l1T := by
  refine loop_of (hT := hT) (D := D) (l := l1tb) (b := l1b) (lo := l1LO) (by kernel_rfl) (by
    intro x hx
    simp only [l1tb, List.not_mem_nil] at hx
    ) (by kernel_rfl) (by kernel_rfl) ?_ ?_
  · intro Q σ w h
    unfold l1Tk at h
    obtain ⟨xt3, h3, hn⟩ := gInt_elim h
    clear h
    have h := hn
    clear hn
    obtain ⟨xt5, h5, hn⟩ := gInt_elim h
    clear h
    have h := hn
    clear hn
    exact h
  · intro k Q σ w h
    unfold l1Tk at h
    obtain ⟨xt3, h3, hn⟩ := gInt_elim h
    clear h
    have h := hn
    clear hn
    obtain ⟨xt5, h5, hn⟩ := gInt_elim h
    clear h
    have h := hn
    clear hn
    rw [l1_eq (σ := σ)] at h
    have e : (ov σ [(3, .int .u32 xt3), (5, .int .i64 xt5)]) = σ := ov_self (by simp [h3, h5])
    rw [e] at h
    exact h
def l0LO : LO := ⟨[], [], [(0, [3])], []⟩
def l0Tk (k : Nat) : Spec := fun Q σ w =>
  gSlice (σ 0) fun At0 nt0 ct0 =>
  gInt .u32 (σ 3) fun xt3 =>
  gInt .i64 (σ 4) fun xt4 =>
  l0 k At0 nt0 ct0 xt3 xt4 w (fun (xq3 : Int) (w : World) => ∀ d : Fr, Q (.exit 0) (ov d [(3, .int .u32 xq3)]) w)
def l0T : Spec := fun Q σ w => ∃ k, l0Tk k Q σ w
def l0tb : List (List Nat × Spec) := [([0, 1, 1, 0, 0, 1, 0, 0, 1, 0, 1, 1], l1T)]
noncomputable def l0b : Code := (subC [0, 0, 1, 0, 1, 1] body).getD .skip
theorem l0_eq (k : Nat) (At0 : Option Addr) (nt0 : Nat) (ct0 : Nat) (xt3 : Int) (xt4 : Int) (Q : PQ) (σ : Fr) (w : World) :
    l0 (k + 1) At0 nt0 ct0 xt3 xt4 w (fun (xq3 : Int) (w : World) => ∀ d : Fr, Q (.exit 0) (ov d [(3, .int .u32 xq3)]) w) = codeW Tryd.prog hT 33 D (tab l0tb) [0, 0, 1, 0, 1, 1] l0b (thenQ (l0Tk k Q) (widen l0LO Q)) (ov σ [(0, .slice At0 nt0 ct0), (3, .int .u32 xt3), (4, .int .i64 xt4)]) w := by kernel_rfl
theorem l0_snd : ∀ c, subC [0, 1, 0, 1, 1] body = some c → Snd Tryd.prog 33 c l0T := by
  refine loop_of (hT := hT) (D := D) (l := l0tb) (b := l0b) (lo := l0LO) (by kernel_rfl) (by
    intro x hx
    simp only [l0tb, List.mem_cons, List.not_mem_nil, or_false] at hx
    subst hx
    exact l1_snd) (by kernel_rfl) (by kernel_rfl) ?_ ?_
  · intro Q σ w h
    unfold l0Tk at h
    obtain ⟨At0, nt0, ct0, h0, hn⟩ := gSlice_elim h
    clear h
    have h := hn
    clear hn
    obtain ⟨xt3, h3, hn⟩ := gInt_elim h
    clear h
    have h := hn
    clear hn
    obtain ⟨xt4, h4, hn⟩ := gInt_elim h
    clear h
    have h := hn
    clear hn
    exact h
  · intro k Q σ w h
    unfold l0Tk at h
    obtain ⟨At0, nt0, ct0, h0, hn⟩ := gSlice_elim h
    clear h
    have h := hn
    clear hn
    obtain ⟨xt3, h3, hn⟩ := gInt_elim h
    clear h
    have h := hn
    clear hn
    obtain ⟨xt4, h4, hn⟩ := gInt_elim h
    clear h
    have h := hn
    clear hn
    rw [l0_eq (σ := σ)] at h
    have e : (ov σ [(0, .slice At0 nt0 ct0), (3, .int .u32 xt3), (4, .int .i64 xt4)]) = σ := ov_self (by simp [h0, h3, h4])
    rw [e] at h
    exact h
def tb : List (List Nat × Spec) := [([0, 1, 1, 0, 0, 1, 0, 0, 1, 0, 1, 1], l1T), ([0, 1, 0, 1, 1], l0T)]
theorem wp_eq (Aa0 : Option Addr) (na0 : Nat) (ca0 : Nat) (w : World) (Q : Ending → World → Prop) :
    wp Aa0 na0 ca0 w Q = codeW Tryd.prog hT 33 D (tab tb) [] body (topQ Tryd.prog hT 33 [.tmp 2] Q) (argsF [.slice Aa0 na0 ca0]) w := by kernel_rfl
theorem ok (Aa0 : Option Addr) (na0 : Nat) (ca0 : Nat) (w : World) (Q : Ending → World → Prop) (h : wp Aa0 na0 ca0 w Q) : Calls Tryd.prog 85 #[.slice Aa0 na0 ca0] w Q := by
  rw [wp_eq] at h
  exact calls_of_codeW (c := body) (rs := [.tmp 2]) Tryd.func85 (by kernel_rfl) (by kernel_rfl) (by kernel_rfl) (by kernel_rfl) (by kernel_rfl) (tab_snd (by
    intro x hx
    simp only [tb, List.mem_cons, List.not_mem_nil, or_false] at hx
    rcases hx with rfl | rfl
    · exact l1_snd
    · exact l0_snd)) (by kernel_rfl) h
end f_ref02_Sum
namespace f_ref01_Put
/-! skein/skeinref01.Put: function 87 -/
noncomputable def body : Code := (Tryd.f87.body).getD .skip
def l0 : Nat → Int → Option Addr → Nat → Nat → World → (Int → (Option Addr) → Nat → Nat → World → Prop) → Prop
  | 0, _, _, _, _, _, _ => False
  | k + 1, xt0, At3, nt3, ct3, w, K0 =>
    sel (decide (xt0 > (127 : Int))) (
    alW w (.cells #[.int .u8 (IntKind.u8.wrap (IntKind.u64.wrap ((xt0.tmod (128 : Int)) + (128 : Int))))] 5) fun B3 w4 =>
    Runs Tryd.prog (Builtin.append_ #[29, 29] 29 #[.slice At3 nt3 ct3, .slice (some (⟨B3, 0, Option.none⟩ : Addr)) 1 1]) w4 fun v6 w5 => ∃ (A7 : Option Addr) (n7 : Nat) (c7 : Nat), v6 = (.slice A7 n7 c7) ∧ (
    l0 k (IntKind.u64.wrap (xt0.tdiv (128 : Int))) A7 n7 c7 w5 K0)) (
    K0 xt0 At3 nt3 ct3 w)
def wp (xa0 : Int) (w : World) (Q : Ending → World → Prop) : Prop :=
  alW w (.cells #[] 5) fun B1 w2 =>
  ∃ k16 : Nat, l0 k16 xa0 (some (⟨B1, 0, Option.none⟩ : Addr)) 0 0 w2 (fun (x8 : Int) (A9 : Option Addr) (n9 : Nat) (c9 : Nat) (w10 : World) => ∀ _ : Fr,
  alW w10 (.cells #[.int .u8 (IntKind.u8.wrap x8)] 5) fun B11 w12 =>
  Runs Tryd.prog (Builtin.append_ #[29, 29] 29 #[.slice A9 n9 c9, .slice (some (⟨B11, 0, Option.none⟩ : Addr)) 1 1]) w12 fun v14 w13 => ∃ (A15 : Option Addr) (n15 : Nat) (c15 : Nat), v14 = (.slice A15 n15 c15) ∧ (
  Q (.returned (.slice A15 n15 c15)) w13))
def D : Nat → Option DH := dtab []
def l0LO : LO := ⟨[], [], [(0, [0, 3])], []⟩
def l0Tk (k : Nat) : Spec := fun Q σ w =>
  gInt .u64 (σ 0) fun xt0 =>
  gSlice (σ 3) fun At3 nt3 ct3 =>
  l0 k xt0 At3 nt3 ct3 w (fun (xq0 : Int) (Aq3 : Option Addr) (nq3 : Nat) (cq3 : Nat) (w : World) => ∀ d : Fr, Q (.exit 0) (ov d [(0, .int .u64 xq0), (3, .slice Aq3 nq3 cq3)]) w)
def l0T : Spec := fun Q σ w => ∃ k, l0Tk k Q σ w
def l0tb : List (List Nat × Spec) := []
noncomputable def l0b : Code := (subC [0, 0, 0, 1, 1] body).getD .skip
theorem l0_eq (k : Nat) (xt0 : Int) (At3 : Option Addr) (nt3 : Nat) (ct3 : Nat) (Q : PQ) (σ : Fr) (w : World) :
    l0 (k + 1) xt0 At3 nt3 ct3 w (fun (xq0 : Int) (Aq3 : Option Addr) (nq3 : Nat) (cq3 : Nat) (w : World) => ∀ d : Fr, Q (.exit 0) (ov d [(0, .int .u64 xq0), (3, .slice Aq3 nq3 cq3)]) w) = codeW Tryd.prog hT 22 D (tab l0tb) [0, 0, 0, 1, 1] l0b (thenQ (l0Tk k Q) (widen l0LO Q)) (ov σ [(0, .int .u64 xt0), (3, .slice At3 nt3 ct3)]) w := by kernel_rfl
theorem l0_snd : ∀ c, subC [0, 0, 1, 1] body = some c → Snd Tryd.prog 22 c l0T := by
  refine loop_of (hT := hT) (D := D) (l := l0tb) (b := l0b) (lo := l0LO) (by kernel_rfl) (by
    intro x hx
    simp only [l0tb, List.not_mem_nil] at hx
    ) (by kernel_rfl) (by kernel_rfl) ?_ ?_
  · intro Q σ w h
    unfold l0Tk at h
    obtain ⟨xt0, h0, hn⟩ := gInt_elim h
    clear h
    have h := hn
    clear hn
    obtain ⟨At3, nt3, ct3, h3, hn⟩ := gSlice_elim h
    clear h
    have h := hn
    clear hn
    exact h
  · intro k Q σ w h
    unfold l0Tk at h
    obtain ⟨xt0, h0, hn⟩ := gInt_elim h
    clear h
    have h := hn
    clear hn
    obtain ⟨At3, nt3, ct3, h3, hn⟩ := gSlice_elim h
    clear h
    have h := hn
    clear hn
    rw [l0_eq (σ := σ)] at h
    have e : (ov σ [(0, .int .u64 xt0), (3, .slice At3 nt3 ct3)]) = σ := ov_self (by simp [h0, h3])
    rw [e] at h
    exact h
def tb : List (List Nat × Spec) := [([0, 0, 1, 1], l0T)]
theorem wp_eq (xa0 : Int) (w : World) (Q : Ending → World → Prop) :
    wp xa0 w Q = codeW Tryd.prog hT 22 D (tab tb) [] body (topQ Tryd.prog hT 22 [.tmp 2] Q) (argsF [.int .u64 xa0]) w := by kernel_rfl
theorem ok (xa0 : Int) (w : World) (Q : Ending → World → Prop) (h : wp xa0 w Q) : Calls Tryd.prog 87 #[.int .u64 xa0] w Q := by
  rw [wp_eq] at h
  exact calls_of_codeW (c := body) (rs := [.tmp 2]) Tryd.func87 (by kernel_rfl) (by kernel_rfl) (by kernel_rfl) (by kernel_rfl) (by kernel_rfl) (tab_snd (by
    intro x hx
    simp only [tb, List.mem_cons, List.not_mem_nil, or_false] at hx
    subst hx
    exact l0_snd)) (by kernel_rfl) h
end f_ref01_Put
namespace f_law09_alive
/-! skein/skeinlaw09.alive: function 8 -/
noncomputable def body : Code := (Tryd.f8.body).getD .skip
def j0 (pt1 : Option Addr) (pt2 : Option Addr) (xt6 : Int) (xt7 : Int) (xt8 : Int) (xt9 : Int) (xt10 : Int) (xt11 : Int) (xt12 : Int) (w : World) (Kr : Bool → World → Prop) : Prop :=
  Calls Tryd.prog 18 #[.pointer pt1, .int .i64 (0 : Int), .int .i64 (4 : Int)] w fun e32 w33 => ∃ (p34_0 : Option Addr) (A34_1 : Option Addr) (n34_1 : Nat) (c34_1 : Nat) (x34_2 : Int), e32 = .returned (.tuple #[.pointer p34_0, .slice A34_1 n34_1 c34_1, .int .i64 x34_2]) ∧ (
  sel (xt6 == (111 : Int)) (
  sel (xt7 == (0 : Int)) (
  sel (xt8 == (33554432 : Int)) (
  sel (xt9 == (0 : Int)) (
  sel (xt10 == (33554436 : Int)) (
  sel (xt11 == (0 : Int)) (
  sel (xt12 == (0 : Int)) (
  sel (x34_2 == (0 : Int)) (
  sel (!p34_0.isNone) (
  sel ((n34_1 : Int) == (2 : Int)) (
  optB A34_1 fun a35 =>
  req (decide (0 ≤ (0 : Int) ∧ (0 : Int) < (n34_1 : Int))) <|
  ldS w33 ((a35.add ((0 : Int).toNat * 3)).add 2) fun A36 n36 c36 =>
  Runs Tryd.prog (Go.convert 29 9 (.slice A36 n36 c36)) w33 fun v38 w37 => ∃ (s39 : ByteArray), v38 = (.string s39) ∧ (
  sel (s39.toList == (⟨#[97, 98]⟩ : ByteArray).toList) (
  Calls Tryd.prog 21 #[.pointer pt2] w37 fun e40 w41 => ∃ (x42 : Int), e40 = .returned (.int .i64 x42) ∧ (
  Kr (x42 == (1986 : Int)) w41)) (
  Kr false w37))) (
  Kr false w33)) (
  Kr false w33)) (
  Kr false w33)) (
  Kr false w33)) (
  Kr false w33)) (
  Kr false w33)) (
  Kr false w33)) (
  Kr false w33)) (
  Kr false w33)) (
  Kr false w33))
def wp  (w : World) (Q : Ending → World → Prop) : Prop :=
  Calls Tryd.prog 30 #[.int .i64 (8 : Int)] w fun e1 w2 => ∃ (p3 : Option Addr), e1 = .returned (.pointer p3) ∧ (
  sel p3.isNone (
  Q (.returned (.bool false)) w2) (
  Calls Tryd.prog 31 #[.pointer p3, .int .i64 (0 : Int), .int .i64 (4 : Int)] w2 fun e4 w5 => ∃ (x6 : Int), e4 = .returned (.int .i64 x6) ∧ (
  sel (x6 != (0 : Int)) (
  Q (.returned (.bool false)) w5) (
  Calls Tryd.prog 18 #[.pointer p3, .int .i64 (0 : Int), .int .i64 (4 : Int)] w5 fun e7 w8 => ∃ (p9_0 : Option Addr) (A9_1 : Option Addr) (n9_1 : Nat) (c9_1 : Nat) (x9_2 : Int), e7 = .returned (.tuple #[.pointer p9_0, .slice A9_1 n9_1 c9_1, .int .i64 x9_2]) ∧ (
  sel (x9_2 != (0 : Int)) (
  Q (.returned (.bool false)) w8) (
  sel p9_0.isNone (
  Q (.returned (.bool false)) w8) (
  sel ((n9_1 : Int) != (0 : Int)) (
  Q (.returned (.bool false)) w8) (
  Calls Tryd.prog 10 #[.pointer p9_0, .int .i64 (1 : Int), .slice none 0 0] w8 fun e10 w11 => ∃ (x12_0 : Int) (x12_1 : Int), e10 = .returned (.tuple #[.int .i64 x12_0, .int .i64 x12_1]) ∧ (
  Calls Tryd.prog 13 #[.pointer p9_0] w11 fun e13 w14 => ∃ (x15 : Int), e13 = .returned (.int .i64 x15) ∧ (
  alW w14 (.cells #[.int .u8 (97 : Int), .int .u8 (98 : Int)] 5) fun B16 w17 =>
  Runs Tryd.prog (Go.convert 29 29 (.slice (some (⟨B16, 0, Option.none⟩ : Addr)) 2 2)) w17 fun v19 w18 => ∃ (A20 : Option Addr) (n20 : Nat) (c20 : Nat), v19 = (.slice A20 n20 c20) ∧ (
  Calls Tryd.prog 10 #[.pointer p9_0, .int .i64 (1 : Int), .slice A20 n20 c20] w18 fun e21 w22 => ∃ (x23_0 : Int) (x23_1 : Int), e21 = .returned (.tuple #[.int .i64 x23_0, .int .i64 x23_1]) ∧ (
  Calls Tryd.prog 10 #[.pointer p9_0, .int .i64 (2 : Int), .slice none 0 0] w22 fun e24 w25 => ∃ (x26_0 : Int) (x26_1 : Int), e24 = .returned (.tuple #[.int .i64 x26_0, .int .i64 x26_1]) ∧ (
  Calls Tryd.prog 12 #[.pointer p9_0] w25 fun e27 w28 => ∃ (x29 : Int), e27 = .returned (.int .i64 x29) ∧ (
  Calls Tryd.prog 17 #[.pointer p3, .slice none 0 0] w28 fun e30 w31 => e30 = .returned (.tuple #[]) ∧ (
  j0 p3 p9_0 x12_1 x15 x23_0 x23_1 x26_0 x26_1 x29 w31 (fun (b43 : Bool) (w44 : World) => ∀ _ : Fr,
  Q (.returned (.bool b43)) w44))))))))))))))))
def D : Nat → Option DH := dtab []
def j0LO : LO := ⟨[], [0], [], []⟩
def j0T : Spec := fun Q σ w =>
  gPtr (σ 1) fun pt1 =>
  gPtr (σ 2) fun pt2 =>
  gInt .i64 (σ 6) fun xt6 =>
  gInt .i64 (σ 7) fun xt7 =>
  gInt .i64 (σ 8) fun xt8 =>
  gInt .i64 (σ 9) fun xt9 =>
  gInt .i64 (σ 10) fun xt10 =>
  gInt .i64 (σ 11) fun xt11 =>
  gInt .i64 (σ 12) fun xt12 =>
  j0 pt1 pt2 xt6 xt7 xt8 xt9 xt10 xt11 xt12 w (fun (bq0 : Bool) (w : World) => ∀ d : Fr, Q .ret (ov d [(0, .bool bq0)]) w)
def j0tb : List (List Nat × Spec) := []
noncomputable def j0b : Code := (subC [1, 1, 1, 1, 1, 1, 1, 1, 1, 1, 1] body).getD .skip
theorem j0_eq (pt1 : Option Addr) (pt2 : Option Addr) (xt6 : Int) (xt7 : Int) (xt8 : Int) (xt9 : Int) (xt10 : Int) (xt11 : Int) (xt12 : Int) (Q : PQ) (σ : Fr) (w : World) :
    j0 pt1 pt2 xt6 xt7 xt8 xt9 xt10 xt11 xt12 w (fun (bq0 : Bool) (w : World) => ∀ d : Fr, Q .ret (ov d [(0, .bool bq0)]) w) = codeW Tryd.prog hT 121 D (tab j0tb) [1, 1, 1, 1, 1, 1, 1, 1, 1, 1, 1] j0b (widen j0LO Q) (ov σ [(1, .pointer pt1), (2, .pointer pt2), (6, .int .i64 xt6), (7, .int .i64 xt7), (8, .int .i64 xt8), (9, .int .i64 xt9), (10, .int .i64 xt10), (11, .int .i64 xt11), (12, .int .i64 xt12)]) w := by kernel_rfl
theorem j0_snd : ∀ c, subC [1, 1, 1, 1, 1, 1, 1, 1, 1, 1, 1] body = some c → Snd Tryd.prog 121 c j0T := by
  refine cut_of (hT := hT) (D := D) (l := j0tb) (b := j0b) (lo := j0LO) (by kernel_rfl) (by
    intro x hx
    simp only [j0tb, List.not_mem_nil] at hx
    ) (by kernel_rfl) (by kernel_rfl) ?_
  intro Q σ w h
  unfold j0T at h
  obtain ⟨pt1, h1, hn⟩ := gPtr_elim h
  clear h
  have h := hn
  clear hn
  obtain ⟨pt2, h2, hn⟩ := gPtr_elim h
  clear h
  have h := hn
  clear hn
  obtain ⟨xt6, h6, hn⟩ := gInt_elim h
  clear h
  have h := hn
  clear hn
  obtain ⟨xt7, h7, hn⟩ := gInt_elim h
  clear h
  have h := hn
  clear hn
  obtain ⟨xt8, h8, hn⟩ := gInt_elim h
  clear h
  have h := hn
  clear hn
  obtain ⟨xt9, h9, hn⟩ := gInt_elim h
  clear h
  have h := hn
  clear hn
  obtain ⟨xt10, h10, hn⟩ := gInt_elim h
  clear h
  have h := hn
  clear hn
  obtain ⟨xt11, h11, hn⟩ := gInt_elim h
  clear h
  have h := hn
  clear hn
  obtain ⟨xt12, h12, hn⟩ := gInt_elim h
  clear h
  have h := hn
  clear hn
  rw [j0_eq (σ := σ)] at h
  have e : (ov σ [(1, .pointer pt1), (2, .pointer pt2), (6, .int .i64 xt6), (7, .int .i64 xt7), (8, .int .i64 xt8), (9, .int .i64 xt9), (10, .int .i64 xt10), (11, .int .i64 xt11), (12, .int .i64 xt12)]) = σ := ov_self (by simp [h1, h2, h6, h7, h8, h9, h10, h11, h12])
  rw [e] at h
  exact h
def tb : List (List Nat × Spec) := [([1, 1, 1, 1, 1, 1, 1, 1, 1, 1, 1], j0T)]
theorem wp_eq  (w : World) (Q : Ending → World → Prop) :
    wp  w Q = codeW Tryd.prog hT 121 D (tab tb) [] body (topQ Tryd.prog hT 121 [.tmp 0] Q) (argsF []) w := by kernel_rfl
theorem ok  (w : World) (Q : Ending → World → Prop) (h : wp  w Q) : Calls Tryd.prog 8 #[] w Q := by
  rw [wp_eq] at h
  exact calls_of_codeW (c := body) (rs := [.tmp 0]) Tryd.func8 (by kernel_rfl) (by kernel_rfl) (by kernel_rfl) (by kernel_rfl) (by kernel_rfl) (tab_snd (by
    intro x hx
    simp only [tb, List.mem_cons, List.not_mem_nil, or_false] at hx
    subst hx
    exact j0_snd)) (by kernel_rfl) h
end f_law09_alive
namespace f_law09_made
/-! skein/skeinlaw09.made: function 9 -/
noncomputable def body : Code := (Tryd.f9.body).getD .skip
def wp (xa0 : Int) (w : World) (Q : Ending → World → Prop) : Prop :=
  Calls Tryd.prog 30 #[.int .i64 (10 : Int)] w fun e1 w2 => ∃ (p3 : Option Addr), e1 = .returned (.pointer p3) ∧ (
  sel p3.isNone (
  Q (.returned (.tuple #[.pointer none, .pointer none])) w2) (
  Calls Tryd.prog 31 #[.pointer p3, .int .i64 (1 : Int), .int .i64 xa0] w2 fun e4 w5 => ∃ (x6 : Int), e4 = .returned (.int .i64 x6) ∧ (
  sel (x6 != (0 : Int)) (
  Q (.returned (.tuple #[.pointer none, .pointer none])) w5) (
  Calls Tryd.prog 18 #[.pointer p3, .int .i64 (1 : Int), .int .i64 xa0] w5 fun e7 w8 => ∃ (p9_0 : Option Addr) (A9_1 : Option Addr) (n9_1 : Nat) (c9_1 : Nat) (x9_2 : Int), e7 = .returned (.tuple #[.pointer p9_0, .slice A9_1 n9_1 c9_1, .int .i64 x9_2]) ∧ (
  sel (x9_2 != (0 : Int)) (
  Q (.returned (.tuple #[.pointer none, .pointer none])) w8) (
  sel p9_0.isNone (
  Q (.returned (.tuple #[.pointer none, .pointer none])) w8) (
  Calls Tryd.prog 13 #[.pointer p9_0] w8 fun e10 w11 => ∃ (x12 : Int), e10 = .returned (.int .i64 x12) ∧ (
  sel (x12 != (0 : Int)) (
  Q (.returned (.tuple #[.pointer none, .pointer none])) w11) (
  Q (.returned (.tuple #[.pointer p3, .pointer p9_0])) w11)))))))))
def D : Nat → Option DH := dtab []
def tb : List (List Nat × Spec) := []
theorem wp_eq (xa0 : Int) (w : World) (Q : Ending → World → Prop) :
    wp xa0 w Q = codeW Tryd.prog hT 37 D (tab tb) [] body (topQ Tryd.prog hT 37 [.tmp 2, .tmp 3] Q) (argsF [.int .i64 xa0]) w := by kernel_rfl
theorem ok (xa0 : Int) (w : World) (Q : Ending → World → Prop) (h : wp xa0 w Q) : Calls Tryd.prog 9 #[.int .i64 xa0] w Q := by
  rw [wp_eq] at h
  exact calls_of_codeW (c := body) (rs := [.tmp 2, .tmp 3]) Tryd.func9 (by kernel_rfl) (by kernel_rfl) (by kernel_rfl) (by kernel_rfl) (by kernel_rfl) (tab_snd (by
    intro x hx
    simp only [tb, List.not_mem_nil] at hx
    )) (by kernel_rfl) h
end f_law09_made
end Go.Proofs.YtpokaafedpnbdaaDoor.Rd
