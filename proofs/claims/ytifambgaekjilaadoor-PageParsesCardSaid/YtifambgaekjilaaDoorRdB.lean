/- The printed readings of some functions: each function's code reckoned by the kernel to its predicate transformer. -/
import Derived.Test.YtifambgaekjilaaDoorHint
namespace Go.Proofs.YtifambgaekjilaaDoor.Rd
open Go.Dn
set_option maxRecDepth 100000
set_option linter.unusedVariables false
namespace f_page_Parse
/-! skein/page.Parse: function 9 -/
noncomputable def body : Code := (Tryd.f9.body).getD .skip
def j1  (w : World) (Kr : (Option Addr) → Int → World → Prop) : Prop :=
  Kr none (80 : Int) w
def l2 : Nat → Option Addr → Nat → Nat → Addr → Int → Int → Int → World → (Int → World → Prop) → (World → Prop) → Prop
  | 0, _, _, _, _, _, _, _, _, _, _ => False
  | k + 1, At0, nt0, ct0, at4, xt5, xt6, xt10, w, K0, Kg0 =>
    sel (decide (xt10 < xt6)) (
    drW w fun w29 =>
    optB At0 fun a31 =>
    req (decide (0 ≤ xt10 ∧ xt10 < (nt0 : Int))) <|
    ldI w29 (a31.add (xt10.toNat * 1)) .u8 fun x32 =>
    optB At0 fun a33 =>
    req (decide (0 ≤ (IntKind.i64.wrap (xt10 + (1 : Int))) ∧ (IntKind.i64.wrap (xt10 + (1 : Int))) < (nt0 : Int))) <|
    ldI w29 (a33.add ((IntKind.i64.wrap (xt10 + (1 : Int))).toNat * 1)) .u8 fun x34 =>
    sel (decide ((bor .i64 (IntKind.i64.wrap x32) (IntKind.i64.wrap ((IntKind.i64.wrap x34) * 2 ^ 8))) > xt5)) (
    Kg0  w29) (
    sel (decide ((bor .i64 (IntKind.i64.wrap x32) (IntKind.i64.wrap ((IntKind.i64.wrap x34) * 2 ^ 8))) < xt6)) (
    Kg0  w29) (
    sel (decide ((IntKind.i64.wrap (xt5 - (bor .i64 (IntKind.i64.wrap x32) (IntKind.i64.wrap ((IntKind.i64.wrap x34) * 2 ^ 8))))) > (200 : Int))) (
    Kg0  w29) (
    drW w29 fun w35 =>
    ∃ S36 : World → Prop, S36 w35 ∧ (
    hdS S36 (at4.add 3) fun A37 n37 c37 =>
    req (decide (0 ≤ xt5 ∧ xt5 ≤ (ct0 : Int))) <|
    req (decide (0 ≤ (bor .i64 (IntKind.i64.wrap x32) (IntKind.i64.wrap ((IntKind.i64.wrap x34) * 2 ^ 8))) ∧ (bor .i64 (IntKind.i64.wrap x32) (IntKind.i64.wrap ((IntKind.i64.wrap x34) * 2 ^ 8))) ≤ (xt5.toNat : Int))) <|
    Calls Tryd.prog 33 #[.slice (slA At0 ((bor .i64 (IntKind.i64.wrap x32) (IntKind.i64.wrap ((IntKind.i64.wrap x34) * 2 ^ 8))).toNat) ct0 1) (xt5.toNat - (bor .i64 (IntKind.i64.wrap x32) (IntKind.i64.wrap ((IntKind.i64.wrap x34) * 2 ^ 8))).toNat) (ct0 - (bor .i64 (IntKind.i64.wrap x32) (IntKind.i64.wrap ((IntKind.i64.wrap x34) * 2 ^ 8))).toNat)] w35 fun e38 w39 => ∃ (A40 : Option Addr) (n40 : Nat) (c40 : Nat), e38 = .returned (.slice A40 n40 c40) ∧ (
    S36 w39 ∧ (
    alW w39 (.cells #[.slice A40 n40 c40] 22) fun B41 w42 =>
    S36 w42 ∧ (
    Runs Tryd.prog (Builtin.append_ #[30, 30] 30 #[.slice A37 n37 c37, .slice (some (⟨B41, 0, Option.none⟩ : Addr)) 1 1]) w42 fun v44 w43 => ∃ (A45 : Option Addr) (n45 : Nat) (c45 : Nat), v44 = (.slice A45 n45 c45) ∧ (
    S36 w43 ∧ (
    stW w43 (at4.add 3) (.slice A45 n45 c45) fun w46 =>
    l2 k At0 nt0 ct0 at4 (bor .i64 (IntKind.i64.wrap x32) (IntKind.i64.wrap ((IntKind.i64.wrap x34) * 2 ^ 8))) xt6 (IntKind.i64.wrap (xt10 + (2 : Int))) w46 K0 Kg0)))))))))) (
    K0 xt5 w)
def g0 : Nat → World → ((Option Addr) → Int → World → Prop) → Prop
  | 0, _, _ => False
  | k + 1, w, Kr =>
    j1  w Kr
def s0 (At0 : Option Addr) (nt0 : Nat) (ct0 : Nat) (w : World) (Kr : (Option Addr) → Int → World → Prop) : Prop :=
  sel ((nt0 : Int) != (512 : Int)) (
  ∃ k4 : Nat, g0 k4  w Kr) (
  Calls Tryd.prog 31 #[.slice At0 nt0 ct0] w fun e5 w6 => ∃ (A7_0 : Option Addr) (n7_0 : Nat) (c7_0 : Nat) (b7_1 : Bool), e5 = .returned (.tuple #[.slice A7_0 n7_0 c7_0, .bool b7_1]) ∧ (
  sel (!b7_1) (
  ∃ k8 : Nat, g0 k8  w6 Kr) (
  req (decide (0 ≤ (12 : Int) ∧ (12 : Int) ≤ (ct0 : Int))) <|
  Calls Tryd.prog 32 #[.slice (slA At0 4 ct0 1) (12 - 4) (ct0 - 4)] w6 fun e9 w10 => ∃ (x11 : Int), e9 = .returned (.int .u64 x11) ∧ (
  sel (decide (x11 > (9223372036854775807 : Int))) (
  ∃ k12 : Nat, g0 k12  w10 Kr) (
  optB At0 fun a13 =>
  req (decide (0 ≤ (17 : Int) ∧ (17 : Int) < (nt0 : Int))) <|
  ldI w10 (a13.add ((17 : Int).toNat * 1)) .u8 fun x14 =>
  sel (decide (x14 > (100 : Int))) (
  ∃ k15 : Nat, g0 k15  w10 Kr) (
  drW w10 fun w16 =>
  ∃ S17 : World → Prop, S17 w16 ∧ (
  optB At0 fun a18 =>
  req (decide (0 ≤ (12 : Int) ∧ (12 : Int) < (nt0 : Int))) <|
  hdI S17 (a18.add ((12 : Int).toNat * 1)) .u8 fun x19 =>
  req (decide (0 ≤ (17 : Int) ∧ (17 : Int) ≤ (ct0 : Int))) <|
  Calls Tryd.prog 32 #[.slice (slA At0 13 ct0 1) (17 - 13) (ct0 - 13)] w16 fun e20 w21 => ∃ (x22 : Int), e20 = .returned (.int .u64 x22) ∧ (
  S17 w21 ∧ (
  alW w21 (.cells #[.int .i64 (IntKind.i64.wrap x11), .int .u8 x19, .int .u32 (IntKind.u32.wrap x22), .slice none 0 0] 62) fun B23 w24 =>
  drW w24 fun w25 =>
  optB At0 fun a27 =>
  req (decide (0 ≤ (17 : Int) ∧ (17 : Int) < (nt0 : Int))) <|
  ldI w25 (a27.add ((17 : Int).toNat * 1)) .u8 fun x28 =>
  ∃ k55 : Nat, l2 k55 At0 nt0 ct0 (⟨B23, 0, Option.none⟩ : Addr) (512 : Int) (IntKind.i64.wrap ((18 : Int) + (IntKind.i64.wrap ((2 : Int) * (IntKind.i64.wrap x28))))) (18 : Int) w25 (fun (x47 : Int) (w48 : World) => ∀ _ : Fr,
  req (decide (0 ≤ x47 ∧ x47 ≤ (ct0 : Int))) <|
  req (decide (0 ≤ (IntKind.i64.wrap ((18 : Int) + (IntKind.i64.wrap ((2 : Int) * (IntKind.i64.wrap x28))))) ∧ (IntKind.i64.wrap ((18 : Int) + (IntKind.i64.wrap ((2 : Int) * (IntKind.i64.wrap x28))))) ≤ (x47.toNat : Int))) <|
  Calls Tryd.prog 34 #[.slice (slA At0 ((IntKind.i64.wrap ((18 : Int) + (IntKind.i64.wrap ((2 : Int) * (IntKind.i64.wrap x28))))).toNat) ct0 1) (x47.toNat - (IntKind.i64.wrap ((18 : Int) + (IntKind.i64.wrap ((2 : Int) * (IntKind.i64.wrap x28))))).toNat) (ct0 - (IntKind.i64.wrap ((18 : Int) + (IntKind.i64.wrap ((2 : Int) * (IntKind.i64.wrap x28))))).toNat), .string (⟨#[0]⟩ : ByteArray)] w48 fun e49 w50 => ∃ (A51 : Option Addr) (n51 : Nat) (c51 : Nat), e49 = .returned (.slice A51 n51 c51) ∧ (
  sel (decide ((n51 : Int) > (0 : Int))) (
  ∃ k52 : Nat, g0 k52  w50 Kr) (
  Kr (some (⟨B23, 0, Option.none⟩ : Addr)) (0 : Int) w50))) (fun (w53 : World) => ∀ _ : Fr,
  ∃ k54 : Nat, g0 k54  w53 Kr))))))))))
def wp (Aa0 : Option Addr) (na0 : Nat) (ca0 : Nat) (w : World) (Q : Ending → World → Prop) : Prop :=
  s0 Aa0 na0 ca0 w (fun (p56 : Option Addr) (x57 : Int) (w58 : World) => ∀ _ : Fr,
  Q (.returned (.tuple #[.pointer p56, .int .i64 x57])) w58)
def D : Nat → Option DH := dtab [(9, .held [.fst 0, .fst 1, .fst 2, .fst 3, .fst 4, .fst 5, .fst 6, .eff 7, .fst 8] [.fst 9, .eff 10, .fst 11]), (10, .simple [.fst 0, .fst 1, .fst 2, .fst 3, .fst 4, .fst 5, .fst 6] [.fst 7]), (14, .simple [.fst 0, .fst 1, .fst 2, .fst 3, .fst 4, .fst 5, .fst 6, .fst 7, .fst 8, .fst 9, .fst 10, .fst 11] [.fst 12, .fst 13]), (16, .held [.fst 0, .fst 1, .fst 2, .fst 3, .fst 4, .fst 5, .fst 6, .fst 7, .fst 8, .eff 9, .eff 10, .eff 11] [.fst 12, .fst 13, .eff 14])]
def j1LO : LO := ⟨[], [2, 3], [], []⟩
def j1T : Spec := fun Q σ w =>
  j1  w (fun (pq2 : Option Addr) (xq3 : Int) (w : World) => ∀ d : Fr, Q .ret (ov d [(2, .pointer pq2), (3, .int .i64 xq3)]) w)
def j1tb : List (List Nat × Spec) := []
noncomputable def j1b : Code := (subC [1, 1, 1, 1, 1, 1, 1, 1, 1, 1, 1, 1, 1, 0, 1] body).getD .skip
theorem j1_eq  (Q : PQ) (σ : Fr) (w : World) :
    j1  w (fun (pq2 : Option Addr) (xq3 : Int) (w : World) => ∀ d : Fr, Q .ret (ov d [(2, .pointer pq2), (3, .int .i64 xq3)]) w) = codeW Tryd.prog hT 105 D (tab j1tb) [1, 1, 1, 1, 1, 1, 1, 1, 1, 1, 1, 1, 1, 0, 1] j1b (widen j1LO Q) (ov σ []) w := by kernel_rfl
theorem j1_snd : ∀ c, subC [1, 1, 1, 1, 1, 1, 1, 1, 1, 1, 1, 1, 1, 0, 1] body = some c → Snd Tryd.prog 105 c j1T := by
  refine cut_of (hT := hT) (D := D) (l := j1tb) (b := j1b) (lo := j1LO) (by kernel_rfl) (by
    intro x hx
    simp only [j1tb, List.not_mem_nil] at hx
    ) (by kernel_rfl) (by kernel_rfl) ?_
  intro Q σ w h
  unfold j1T at h
  rw [j1_eq (σ := σ)] at h
  have e : (ov σ []) = σ := ov_self (by simp [])
  rw [e] at h
  exact h
def l2LO : LO := ⟨[], [], [(0, [0, 4, 5, 6])], [(0, [])]⟩
def l2Tk (k : Nat) : Spec := fun Q σ w =>
  gSlice (σ 0) fun At0 nt0 ct0 =>
  gAd (σ 4) fun at4 =>
  gInt .i64 (σ 5) fun xt5 =>
  gInt .i64 (σ 6) fun xt6 =>
  gInt .i64 (σ 10) fun xt10 =>
  l2 k At0 nt0 ct0 at4 xt5 xt6 xt10 w (fun (xq5 : Int) (w : World) => ∀ d : Fr, Q (.exit 0) (ov d [(0, .slice At0 nt0 ct0), (4, .pointer (some at4)), (5, .int .i64 xq5), (6, .int .i64 xt6)]) w) (fun (w : World) => ∀ d : Fr, Q (.goto 0) (ov d []) w)
def l2T : Spec := fun Q σ w => ∃ k, l2Tk k Q σ w
def l2tb : List (List Nat × Spec) := []
noncomputable def l2b : Code := (subC [0, 0, 1, 0, 1, 1, 1, 1, 1, 1, 1, 1, 1, 0, 1] body).getD .skip
theorem l2_eq (k : Nat) (At0 : Option Addr) (nt0 : Nat) (ct0 : Nat) (at4 : Addr) (xt5 : Int) (xt6 : Int) (xt10 : Int) (Q : PQ) (σ : Fr) (w : World) :
    l2 (k + 1) At0 nt0 ct0 at4 xt5 xt6 xt10 w (fun (xq5 : Int) (w : World) => ∀ d : Fr, Q (.exit 0) (ov d [(0, .slice At0 nt0 ct0), (4, .pointer (some at4)), (5, .int .i64 xq5), (6, .int .i64 xt6)]) w) (fun (w : World) => ∀ d : Fr, Q (.goto 0) (ov d []) w) = codeW Tryd.prog hT 105 D (tab l2tb) [0, 0, 1, 0, 1, 1, 1, 1, 1, 1, 1, 1, 1, 0, 1] l2b (thenQ (l2Tk k Q) (widen l2LO Q)) (ov σ [(0, .slice At0 nt0 ct0), (4, .pointer (some at4)), (5, .int .i64 xt5), (6, .int .i64 xt6), (10, .int .i64 xt10)]) w := by kernel_rfl
theorem l2_snd : ∀ c, subC [0, 1, 0, 1, 1, 1, 1, 1, 1, 1, 1, 1, 0, 1] body = some c → Snd Tryd.prog 105 c l2T := by
  refine loop_of (hT := hT) (D := D) (l := l2tb) (b := l2b) (lo := l2LO) (by kernel_rfl) (by
    intro x hx
    simp only [l2tb, List.not_mem_nil] at hx
    ) (by kernel_rfl) (by kernel_rfl) ?_ ?_
  · intro Q σ w h
    unfold l2Tk at h
    obtain ⟨At0, nt0, ct0, h0, hn⟩ := gSlice_elim h
    clear h
    have h := hn
    clear hn
    obtain ⟨at4, h4, hn⟩ := gAd_elim h
    clear h
    have h := hn
    clear hn
    obtain ⟨xt5, h5, hn⟩ := gInt_elim h
    clear h
    have h := hn
    clear hn
    obtain ⟨xt6, h6, hn⟩ := gInt_elim h
    clear h
    have h := hn
    clear hn
    obtain ⟨xt10, h10, hn⟩ := gInt_elim h
    clear h
    have h := hn
    clear hn
    exact h
  · intro k Q σ w h
    unfold l2Tk at h
    obtain ⟨At0, nt0, ct0, h0, hn⟩ := gSlice_elim h
    clear h
    have h := hn
    clear hn
    obtain ⟨at4, h4, hn⟩ := gAd_elim h
    clear h
    have h := hn
    clear hn
    obtain ⟨xt5, h5, hn⟩ := gInt_elim h
    clear h
    have h := hn
    clear hn
    obtain ⟨xt6, h6, hn⟩ := gInt_elim h
    clear h
    have h := hn
    clear hn
    obtain ⟨xt10, h10, hn⟩ := gInt_elim h
    clear h
    have h := hn
    clear hn
    rw [l2_eq (σ := σ)] at h
    have e : (ov σ [(0, .slice At0 nt0 ct0), (4, .pointer (some at4)), (5, .int .i64 xt5), (6, .int .i64 xt6), (10, .int .i64 xt10)]) = σ := ov_self (by simp [h0, h4, h5, h6, h10])
    rw [e] at h
    exact h
def s0LO : LO := ⟨[], [2, 3], [], []⟩
def s0T : Spec := fun Q σ w =>
  gSlice (σ 0) fun At0 nt0 ct0 =>
  s0 At0 nt0 ct0 w (fun (pq2 : Option Addr) (xq3 : Int) (w : World) => ∀ d : Fr, Q .ret (ov d [(2, .pointer pq2), (3, .int .i64 xq3)]) w)
def s0tb : List (List Nat × Spec) := [([1, 1, 1, 1, 1, 1, 1, 1, 1, 1, 1, 1, 1, 0, 1], j1T), ([0, 1, 0, 1, 1, 1, 1, 1, 1, 1, 1, 1, 0, 1], l2T)]
def g0Tk (k : Nat) : Spec := fun Q σ w =>
  g0 k  w (fun (pq2 : Option Addr) (xq3 : Int) (w : World) => ∀ d : Fr, Q .ret (ov d [(2, .pointer pq2), (3, .int .i64 xq3)]) w)
theorem g0_eq (k : Nat)  (Q : PQ) (σ : Fr) (w : World) :
    g0 (k + 1)  w (fun (pq2 : Option Addr) (xq3 : Int) (w : World) => ∀ d : Fr, Q .ret (ov d [(2, .pointer pq2), (3, .int .i64 xq3)]) w) = j1T (gotoQ 0 (g0Tk k Q) Q) (ov σ []) w := by kernel_rfl
noncomputable def s0b : Code := (subC [0, 1] body).getD .skip
theorem s0_eq (At0 : Option Addr) (nt0 : Nat) (ct0 : Nat) (Q : PQ) (σ : Fr) (w : World) :
    s0 At0 nt0 ct0 w (fun (pq2 : Option Addr) (xq3 : Int) (w : World) => ∀ d : Fr, Q .ret (ov d [(2, .pointer pq2), (3, .int .i64 xq3)]) w) = codeW Tryd.prog hT 105 D (tab s0tb) [0, 1] s0b (gotoQ 0 (fun σ w => ∃ k, g0Tk k Q σ w) (widen s0LO Q)) (ov σ [(0, .slice At0 nt0 ct0)]) w := by kernel_rfl
theorem s0_snd : ∀ c, subC [1] body = some c → Snd Tryd.prog 105 c s0T := by
  refine scope_of (hT := hT) (D := D) (l := s0tb) (b := s0b) (b' := j1b) (pb := [1, 1, 1, 1, 1, 1, 1, 1, 1, 1, 1, 1, 1, 0, 1]) (lb := 0) (Tk := g0Tk) (Tb := j1T) (lo := s0LO) (by kernel_rfl) (by
    intro x hx
    simp only [s0tb, List.mem_cons, List.not_mem_nil, or_false] at hx
    rcases hx with rfl | rfl
    · exact j1_snd
    · exact l2_snd) (by kernel_rfl) (by kernel_rfl) (by kernel_rfl) (by kernel_rfl) j1_snd ?_ ?_ ?_
  · intro Q σ w h
    unfold g0Tk at h
    exact h
  · intro k Q σ w h
    unfold g0Tk at h
    rw [g0_eq (σ := σ)] at h
    have e : (ov σ []) = σ := ov_self (by simp [])
    rw [e] at h
    exact h
  · intro Q σ w h
    unfold s0T at h
    obtain ⟨At0, nt0, ct0, h0, hn⟩ := gSlice_elim h
    clear h
    have h := hn
    clear hn
    rw [s0_eq (σ := σ)] at h
    have e : (ov σ [(0, .slice At0 nt0 ct0)]) = σ := ov_self (by simp [h0])
    rw [e] at h
    exact h
def tb : List (List Nat × Spec) := [([1, 1, 1, 1, 1, 1, 1, 1, 1, 1, 1, 1, 1, 0, 1], j1T), ([0, 1, 0, 1, 1, 1, 1, 1, 1, 1, 1, 1, 0, 1], l2T), ([1], s0T)]
theorem wp_eq (Aa0 : Option Addr) (na0 : Nat) (ca0 : Nat) (w : World) (Q : Ending → World → Prop) :
    wp Aa0 na0 ca0 w Q = codeW Tryd.prog hT 105 D (tab tb) [] body (topQ Tryd.prog hT 105 [.tmp 2, .tmp 3] Q) (argsF [.slice Aa0 na0 ca0]) w := by kernel_rfl
theorem ok (Aa0 : Option Addr) (na0 : Nat) (ca0 : Nat) (w : World) (Q : Ending → World → Prop) (h : wp Aa0 na0 ca0 w Q) : Calls Tryd.prog 9 #[.slice Aa0 na0 ca0] w Q := by
  rw [wp_eq] at h
  exact calls_of_codeW (c := body) (rs := [.tmp 2, .tmp 3]) Tryd.func9 (by kernel_rfl) (by kernel_rfl) (by kernel_rfl) (by kernel_rfl) (by kernel_rfl) (tab_snd (by
    intro x hx
    simp only [tb, List.mem_cons, List.not_mem_nil, or_false] at hx
    rcases hx with rfl | rfl | rfl
    · exact j1_snd
    · exact l2_snd
    · exact s0_snd)) (by kernel_rfl) h
end f_page_Parse
namespace f_page_Page_Bytes
/-! (*skein/page.Page).Bytes: function 15 -/
noncomputable def body : Code := (Tryd.f15.body).getD .skip
def l0 : Nat → Option Addr → Nat → Nat → Int → Option Addr → Nat → Nat → Int → Int → World → (World → Prop) → Prop
  | 0, _, _, _, _, _, _, _, _, _, _, _ => False
  | k + 1, At3, nt3, ct3, xt4, At41, nt41, ct41, xt42, xt43, w, K0 =>
    sel (decide (xt43 < xt42)) (
    optB At41 fun a21 =>
    req (decide (0 ≤ xt43 ∧ xt43 < (nt41 : Int))) <|
    ldS w (a21.add (xt43.toNat * 1)) fun A22 n22 c22 =>
    req (decide (0 ≤ (IntKind.i64.wrap (xt4 - (n22 : Int))) ∧ (IntKind.i64.wrap (xt4 - (n22 : Int))) ≤ (nt3 : Int))) <|
    Runs Tryd.prog (Builtin.copy_ #[22, 22] 3 #[.slice (slA At3 ((IntKind.i64.wrap (xt4 - (n22 : Int))).toNat) ct3 1) (nt3 - (IntKind.i64.wrap (xt4 - (n22 : Int))).toNat) (ct3 - (IntKind.i64.wrap (xt4 - (n22 : Int))).toNat), .slice A22 n22 c22]) w fun v24 w23 => ∃ (x25 : Int), v24 = (.int .i64 x25) ∧ (
    optB At3 fun a26 =>
    req (decide (0 ≤ (IntKind.i64.wrap ((18 : Int) + (IntKind.i64.wrap ((2 : Int) * xt43)))) ∧ (IntKind.i64.wrap ((18 : Int) + (IntKind.i64.wrap ((2 : Int) * xt43)))) < (nt3 : Int))) <|
    stW w23 (a26.add ((IntKind.i64.wrap ((18 : Int) + (IntKind.i64.wrap ((2 : Int) * xt43)))).toNat * 1)) (.int .u8 (IntKind.u8.wrap (IntKind.i64.wrap (xt4 - (n22 : Int))))) fun w27 =>
    optB At3 fun a28 =>
    req (decide (0 ≤ (IntKind.i64.wrap ((IntKind.i64.wrap ((18 : Int) + (IntKind.i64.wrap ((2 : Int) * xt43)))) + (1 : Int))) ∧ (IntKind.i64.wrap ((IntKind.i64.wrap ((18 : Int) + (IntKind.i64.wrap ((2 : Int) * xt43)))) + (1 : Int))) < (nt3 : Int))) <|
    stW w27 (a28.add ((IntKind.i64.wrap ((IntKind.i64.wrap ((18 : Int) + (IntKind.i64.wrap ((2 : Int) * xt43)))) + (1 : Int))).toNat * 1)) (.int .u8 (IntKind.u8.wrap ((IntKind.i64.wrap (xt4 - (n22 : Int))).fdiv (2 ^ 8)))) fun w29 =>
    l0 k At3 nt3 ct3 (IntKind.i64.wrap (xt4 - (n22 : Int))) At41 nt41 ct41 xt42 (IntKind.i64.wrap (xt43 + (1 : Int))) w29 K0)) (
    K0  w)
def wp (aa0 : Addr) (w : World) (Q : Ending → World → Prop) : Prop :=
  Runs Tryd.prog (Instr.makeSlice 22 (.int .i64 (512 : Int)) (.int .i64 (512 : Int))) w fun v2 w1 => ∃ (A3 : Option Addr) (n3 : Nat) (c3 : Nat), v2 = (.slice A3 n3 c3) ∧ (
  drW w1 fun w4 =>
  req (decide (0 ≤ (12 : Int) ∧ (12 : Int) ≤ (c3 : Int))) <|
  ldI w4 aa0 .i64 fun x6 =>
  Calls Tryd.prog 40 #[.slice (slA A3 4 c3 1) (12 - 4) (c3 - 4), .int .u64 (IntKind.u64.wrap x6)] w4 fun e7 w8 => e7 = .returned (.tuple #[]) ∧ (
  ldI w8 (aa0.add 1) .u8 fun x9 =>
  optB A3 fun a10 =>
  req (decide (0 ≤ (12 : Int) ∧ (12 : Int) < (n3 : Int))) <|
  stW w8 (a10.add ((12 : Int).toNat * 1)) (.int .u8 x9) fun w11 =>
  drW w11 fun w12 =>
  req (decide (0 ≤ (17 : Int) ∧ (17 : Int) ≤ (c3 : Int))) <|
  ldI w12 (aa0.add 2) .u32 fun x14 =>
  Calls Tryd.prog 40 #[.slice (slA A3 13 c3 1) (17 - 13) (c3 - 13), .int .u64 (IntKind.u64.wrap x14)] w12 fun e15 w16 => e15 = .returned (.tuple #[]) ∧ (
  ldS w16 (aa0.add 3) fun A17 n17 c17 =>
  optB A3 fun a18 =>
  req (decide (0 ≤ (17 : Int) ∧ (17 : Int) < (n3 : Int))) <|
  stW w16 (a18.add ((17 : Int).toNat * 1)) (.int .u8 (IntKind.u8.wrap (n17 : Int))) fun w19 =>
  ldS w19 (aa0.add 3) fun A20 n20 c20 =>
  ∃ k34 : Nat, l0 k34 A3 n3 c3 (512 : Int) A20 n20 c20 (n20 : Int) (0 : Int) w19 (fun (w30 : World) => ∀ _ : Fr,
  req (decide (0 ≤ (4 : Int) ∧ (4 : Int) ≤ (n3 : Int))) <|
  Calls Tryd.prog 41 #[.slice (slA A3 4 c3 1) (n3 - 4) (c3 - 4)] w30 fun e31 w32 => ∃ (A33 : Option Addr) (n33 : Nat) (c33 : Nat), e31 = .returned (.slice A33 n33 c33) ∧ (
  Q (.returned (.slice A33 n33 c33)) w32)))))
def D : Nat → Option DH := dtab [(2, .simple [.fst 0, .fst 1, .fst 2, .fst 3, .fst 4, .fst 5, .fst 6] [.eff 7]), (4, .simple [.fst 0, .fst 1, .fst 2, .fst 3, .fst 4, .fst 5, .fst 6] [.eff 7])]
def l0LO : LO := ⟨[], [], [(0, [3])], []⟩
def l0Tk (k : Nat) : Spec := fun Q σ w =>
  gSlice (σ 3) fun At3 nt3 ct3 =>
  gInt .i64 (σ 4) fun xt4 =>
  gSlice (σ 41) fun At41 nt41 ct41 =>
  gInt .i64 (σ 42) fun xt42 =>
  gInt .i64 (σ 43) fun xt43 =>
  l0 k At3 nt3 ct3 xt4 At41 nt41 ct41 xt42 xt43 w (fun (w : World) => ∀ d : Fr, Q (.exit 0) (ov d [(3, .slice At3 nt3 ct3)]) w)
def l0T : Spec := fun Q σ w => ∃ k, l0Tk k Q σ w
def l0tb : List (List Nat × Spec) := []
noncomputable def l0b : Code := (subC [0, 0, 1, 0, 1, 1, 1, 1, 1, 1, 1] body).getD .skip
theorem l0_eq (k : Nat) (At3 : Option Addr) (nt3 : Nat) (ct3 : Nat) (xt4 : Int) (At41 : Option Addr) (nt41 : Nat) (ct41 : Nat) (xt42 : Int) (xt43 : Int) (Q : PQ) (σ : Fr) (w : World) :
    l0 (k + 1) At3 nt3 ct3 xt4 At41 nt41 ct41 xt42 xt43 w (fun (w : World) => ∀ d : Fr, Q (.exit 0) (ov d [(3, .slice At3 nt3 ct3)]) w) = codeW Tryd.prog hT 77 D (tab l0tb) [0, 0, 1, 0, 1, 1, 1, 1, 1, 1, 1] l0b (thenQ (l0Tk k Q) (widen l0LO Q)) (ov σ [(3, .slice At3 nt3 ct3), (4, .int .i64 xt4), (41, .slice At41 nt41 ct41), (42, .int .i64 xt42), (43, .int .i64 xt43)]) w := by kernel_rfl
theorem l0_snd : ∀ c, subC [0, 1, 0, 1, 1, 1, 1, 1, 1, 1] body = some c → Snd Tryd.prog 77 c l0T := by
  refine loop_of (hT := hT) (D := D) (l := l0tb) (b := l0b) (lo := l0LO) (by kernel_rfl) (by
    intro x hx
    simp only [l0tb, List.not_mem_nil] at hx
    ) (by kernel_rfl) (by kernel_rfl) ?_ ?_
  · intro Q σ w h
    unfold l0Tk at h
    obtain ⟨At3, nt3, ct3, h3, hn⟩ := gSlice_elim h
    clear h
    have h := hn
    clear hn
    obtain ⟨xt4, h4, hn⟩ := gInt_elim h
    clear h
    have h := hn
    clear hn
    obtain ⟨At41, nt41, ct41, h41, hn⟩ := gSlice_elim h
    clear h
    have h := hn
    clear hn
    obtain ⟨xt42, h42, hn⟩ := gInt_elim h
    clear h
    have h := hn
    clear hn
    obtain ⟨xt43, h43, hn⟩ := gInt_elim h
    clear h
    have h := hn
    clear hn
    exact h
  · intro k Q σ w h
    unfold l0Tk at h
    obtain ⟨At3, nt3, ct3, h3, hn⟩ := gSlice_elim h
    clear h
    have h := hn
    clear hn
    obtain ⟨xt4, h4, hn⟩ := gInt_elim h
    clear h
    have h := hn
    clear hn
    obtain ⟨At41, nt41, ct41, h41, hn⟩ := gSlice_elim h
    clear h
    have h := hn
    clear hn
    obtain ⟨xt42, h42, hn⟩ := gInt_elim h
    clear h
    have h := hn
    clear hn
    obtain ⟨xt43, h43, hn⟩ := gInt_elim h
    clear h
    have h := hn
    clear hn
    rw [l0_eq (σ := σ)] at h
    have e : (ov σ [(3, .slice At3 nt3 ct3), (4, .int .i64 xt4), (41, .slice At41 nt41 ct41), (42, .int .i64 xt42), (43, .int .i64 xt43)]) = σ := ov_self (by simp [h3, h4, h41, h42, h43])
    rw [e] at h
    exact h
def tb : List (List Nat × Spec) := [([0, 1, 0, 1, 1, 1, 1, 1, 1, 1], l0T)]
theorem wp_eq (aa0 : Addr) (w : World) (Q : Ending → World → Prop) :
    wp aa0 w Q = codeW Tryd.prog hT 77 D (tab tb) [] body (topQ Tryd.prog hT 77 [.tmp 2] Q) (argsF [.pointer (some aa0)]) w := by kernel_rfl
theorem ok (aa0 : Addr) (w : World) (Q : Ending → World → Prop) (h : wp aa0 w Q) : Calls Tryd.prog 15 #[.pointer (some aa0)] w Q := by
  rw [wp_eq] at h
  exact calls_of_codeW (c := body) (rs := [.tmp 2]) Tryd.func15 (by kernel_rfl) (by kernel_rfl) (by kernel_rfl) (by kernel_rfl) (by kernel_rfl) (tab_snd (by
    intro x hx
    simp only [tb, List.mem_cons, List.not_mem_nil, or_false] at hx
    subst hx
    exact l0_snd)) (by kernel_rfl) h
end f_page_Page_Bytes
namespace f_page_Page_Room
/-! (*skein/page.Page).Room: function 18 -/
noncomputable def body : Code := (Tryd.f18.body).getD .skip
def wp (aa0 : Addr) (w : World) (Q : Ending → World → Prop) : Prop :=
  ldS w (aa0.add 3) fun A1 n1 c1 =>
  sel (decide ((n1 : Int) ≥ (100 : Int))) (
  Q (.returned (.int .i64 (-1 : Int))) w) (
  Calls Tryd.prog 42 #[.pointer (some aa0)] w fun e2 w3 => ∃ (x4 : Int), e2 = .returned (.int .i64 x4) ∧ (
  Q (.returned (.int .i64 (if (200 : Int) < (if (-1 : Int) > (IntKind.i64.wrap (x4 - (2 : Int))) then (-1 : Int) else (IntKind.i64.wrap (x4 - (2 : Int)))) then (200 : Int) else (if (-1 : Int) > (IntKind.i64.wrap (x4 - (2 : Int))) then (-1 : Int) else (IntKind.i64.wrap (x4 - (2 : Int))))))) w3))
def D : Nat → Option DH := dtab []
def tb : List (List Nat × Spec) := []
theorem wp_eq (aa0 : Addr) (w : World) (Q : Ending → World → Prop) :
    wp aa0 w Q = codeW Tryd.prog hT 14 D (tab tb) [] body (topQ Tryd.prog hT 14 [.tmp 2] Q) (argsF [.pointer (some aa0)]) w := by kernel_rfl
theorem ok (aa0 : Addr) (w : World) (Q : Ending → World → Prop) (h : wp aa0 w Q) : Calls Tryd.prog 18 #[.pointer (some aa0)] w Q := by
  rw [wp_eq] at h
  exact calls_of_codeW (c := body) (rs := [.tmp 2]) Tryd.func18 (by kernel_rfl) (by kernel_rfl) (by kernel_rfl) (by kernel_rfl) (by kernel_rfl) (tab_snd (by
    intro x hx
    simp only [tb, List.not_mem_nil] at hx
    )) (by kernel_rfl) h
end f_page_Page_Room
namespace f_page_Page_Len
/-! (*skein/page.Page).Len: function 19 -/
noncomputable def body : Code := (Tryd.f19.body).getD .skip
def wp (aa0 : Addr) (w : World) (Q : Ending → World → Prop) : Prop :=
  ldS w (aa0.add 3) fun A1 n1 c1 =>
  Q (.returned (.int .i64 (n1 : Int))) w
def D : Nat → Option DH := dtab []
def tb : List (List Nat × Spec) := []
theorem wp_eq (aa0 : Addr) (w : World) (Q : Ending → World → Prop) :
    wp aa0 w Q = codeW Tryd.prog hT 8 D (tab tb) [] body (topQ Tryd.prog hT 8 [.tmp 2] Q) (argsF [.pointer (some aa0)]) w := by kernel_rfl
theorem ok (aa0 : Addr) (w : World) (Q : Ending → World → Prop) (h : wp aa0 w Q) : Calls Tryd.prog 19 #[.pointer (some aa0)] w Q := by
  rw [wp_eq] at h
  exact calls_of_codeW (c := body) (rs := [.tmp 2]) Tryd.func19 (by kernel_rfl) (by kernel_rfl) (by kernel_rfl) (by kernel_rfl) (by kernel_rfl) (tab_snd (by
    intro x hx
    simp only [tb, List.not_mem_nil] at hx
    )) (by kernel_rfl) h
end f_page_Page_Len
namespace f_page_Page_Insert
/-! (*skein/page.Page).Insert: function 20 -/
noncomputable def body : Code := (Tryd.f20.body).getD .skip
def wp (aa0 : Addr) (xa1 : Int) (Aa2 : Option Addr) (na2 : Nat) (ca2 : Nat) (w : World) (Q : Ending → World → Prop) : Prop :=
  Calls Tryd.prog 43 #[.pointer (some aa0), .int .i64 xa1] w fun e1 w2 => ∃ (b3 : Bool), e1 = .returned (.bool b3) ∧ (
  sel b3 (
  ldS w2 (aa0.add 3) fun A4 n4 c4 =>
  sel (xa1 != (n4 : Int)) (
  Q (.returned (.int .i64 (82 : Int))) w2) (
  sel (decide ((na2 : Int) > (200 : Int))) (
  Q (.returned (.int .i64 (4 : Int))) w2) (
  Calls Tryd.prog 18 #[.pointer (some aa0)] w2 fun e5 w6 => ∃ (x7 : Int), e5 = .returned (.int .i64 x7) ∧ (
  sel (decide ((na2 : Int) > x7)) (
  Q (.returned (.int .i64 (81 : Int))) w6) (
  drW w6 fun w8 =>
  ∃ S9 : World → Prop, S9 w8 ∧ (
  hdS S9 (aa0.add 3) fun A10 n10 c10 =>
  Calls Tryd.prog 33 #[.slice Aa2 na2 ca2] w8 fun e11 w12 => ∃ (A13 : Option Addr) (n13 : Nat) (c13 : Nat), e11 = .returned (.slice A13 n13 c13) ∧ (
  S9 w12 ∧ (
  alW w12 (.cells #[.slice A13 n13 c13] 22) fun B14 w15 =>
  S9 w15 ∧ (
  Calls Tryd.prog 44 #[.slice A10 n10 c10, .int .i64 xa1, .slice (some (⟨B14, 0, Option.none⟩ : Addr)) 1 1] w15 fun e16 w17 => ∃ (A18 : Option Addr) (n18 : Nat) (c18 : Nat), e16 = .returned (.slice A18 n18 c18) ∧ (
  S9 w17 ∧ (
  stW w17 (aa0.add 3) (.slice A18 n18 c18) fun w19 =>
  Q (.returned (.int .i64 (0 : Int))) w19))))))))))) (
  sel (decide ((na2 : Int) > (200 : Int))) (
  Q (.returned (.int .i64 (4 : Int))) w2) (
  Calls Tryd.prog 18 #[.pointer (some aa0)] w2 fun e20 w21 => ∃ (x22 : Int), e20 = .returned (.int .i64 x22) ∧ (
  sel (decide ((na2 : Int) > x22)) (
  Q (.returned (.int .i64 (81 : Int))) w21) (
  drW w21 fun w23 =>
  ∃ S24 : World → Prop, S24 w23 ∧ (
  hdS S24 (aa0.add 3) fun A25 n25 c25 =>
  Calls Tryd.prog 33 #[.slice Aa2 na2 ca2] w23 fun e26 w27 => ∃ (A28 : Option Addr) (n28 : Nat) (c28 : Nat), e26 = .returned (.slice A28 n28 c28) ∧ (
  S24 w27 ∧ (
  alW w27 (.cells #[.slice A28 n28 c28] 22) fun B29 w30 =>
  S24 w30 ∧ (
  Calls Tryd.prog 44 #[.slice A25 n25 c25, .int .i64 xa1, .slice (some (⟨B29, 0, Option.none⟩ : Addr)) 1 1] w30 fun e31 w32 => ∃ (A33 : Option Addr) (n33 : Nat) (c33 : Nat), e31 = .returned (.slice A33 n33 c33) ∧ (
  S24 w32 ∧ (
  stW w32 (aa0.add 3) (.slice A33 n33 c33) fun w34 =>
  Q (.returned (.int .i64 (0 : Int))) w34)))))))))))
def D : Nat → Option DH := dtab [(7, .held [.fst 0, .fst 1, .fst 2, .fst 3, .fst 4, .fst 5, .fst 6, .eff 7, .eff 8, .eff 9] [.fst 10, .fst 11, .eff 12])]
def tb : List (List Nat × Spec) := []
theorem wp_eq (aa0 : Addr) (xa1 : Int) (Aa2 : Option Addr) (na2 : Nat) (ca2 : Nat) (w : World) (Q : Ending → World → Prop) :
    wp aa0 xa1 Aa2 na2 ca2 w Q = codeW Tryd.prog hT 42 D (tab tb) [] body (topQ Tryd.prog hT 42 [.tmp 6] Q) (argsF [.pointer (some aa0), .int .i64 xa1, .slice Aa2 na2 ca2]) w := by kernel_rfl
theorem ok (aa0 : Addr) (xa1 : Int) (Aa2 : Option Addr) (na2 : Nat) (ca2 : Nat) (w : World) (Q : Ending → World → Prop) (h : wp aa0 xa1 Aa2 na2 ca2 w Q) : Calls Tryd.prog 20 #[.pointer (some aa0), .int .i64 xa1, .slice Aa2 na2 ca2] w Q := by
  rw [wp_eq] at h
  exact calls_of_codeW (c := body) (rs := [.tmp 6]) Tryd.func20 (by kernel_rfl) (by kernel_rfl) (by kernel_rfl) (by kernel_rfl) (by kernel_rfl) (tab_snd (by
    intro x hx
    simp only [tb, List.not_mem_nil] at hx
    )) (by kernel_rfl) h
end f_page_Page_Insert
namespace f_page_Page_Item
/-! (*skein/page.Page).Item: function 21 -/
noncomputable def body : Code := (Tryd.f21.body).getD .skip
def wp (aa0 : Addr) (xa1 : Int) (w : World) (Q : Ending → World → Prop) : Prop :=
  Calls Tryd.prog 43 #[.pointer (some aa0), .int .i64 xa1] w fun e1 w2 => ∃ (b3 : Bool), e1 = .returned (.bool b3) ∧ (
  sel b3 (
  Q (.returned (.tuple #[.slice none 0 0, .int .i64 (82 : Int)])) w2) (
  ldS w2 (aa0.add 3) fun A4 n4 c4 =>
  optB A4 fun a5 =>
  req (decide (0 ≤ xa1 ∧ xa1 < (n4 : Int))) <|
  ldS w2 (a5.add (xa1.toNat * 1)) fun A6 n6 c6 =>
  Calls Tryd.prog 33 #[.slice A6 n6 c6] w2 fun e7 w8 => ∃ (A9 : Option Addr) (n9 : Nat) (c9 : Nat), e7 = .returned (.slice A9 n9 c9) ∧ (
  Q (.returned (.tuple #[.slice A9 n9 c9, .int .i64 (0 : Int)])) w8)))
def D : Nat → Option DH := dtab []
def tb : List (List Nat × Spec) := []
theorem wp_eq (aa0 : Addr) (xa1 : Int) (w : World) (Q : Ending → World → Prop) :
    wp aa0 xa1 w Q = codeW Tryd.prog hT 17 D (tab tb) [] body (topQ Tryd.prog hT 17 [.tmp 4, .tmp 5] Q) (argsF [.pointer (some aa0), .int .i64 xa1]) w := by kernel_rfl
theorem ok (aa0 : Addr) (xa1 : Int) (w : World) (Q : Ending → World → Prop) (h : wp aa0 xa1 w Q) : Calls Tryd.prog 21 #[.pointer (some aa0), .int .i64 xa1] w Q := by
  rw [wp_eq] at h
  exact calls_of_codeW (c := body) (rs := [.tmp 4, .tmp 5]) Tryd.func21 (by kernel_rfl) (by kernel_rfl) (by kernel_rfl) (by kernel_rfl) (by kernel_rfl) (tab_snd (by
    intro x hx
    simp only [tb, List.not_mem_nil] at hx
    )) (by kernel_rfl) h
end f_page_Page_Item
namespace f_page_Page_Remove
/-! (*skein/page.Page).Remove: function 22 -/
noncomputable def body : Code := (Tryd.f22.body).getD .skip
def wp (aa0 : Addr) (xa1 : Int) (w : World) (Q : Ending → World → Prop) : Prop :=
  Calls Tryd.prog 43 #[.pointer (some aa0), .int .i64 xa1] w fun e1 w2 => ∃ (b3 : Bool), e1 = .returned (.bool b3) ∧ (
  sel b3 (
  Q (.returned (.int .i64 (82 : Int))) w2) (
  ldS w2 (aa0.add 3) fun A4 n4 c4 =>
  Calls Tryd.prog 45 #[.slice A4 n4 c4, .int .i64 xa1, .int .i64 (IntKind.i64.wrap (xa1 + (1 : Int)))] w2 fun e5 w6 => ∃ (A7 : Option Addr) (n7 : Nat) (c7 : Nat), e5 = .returned (.slice A7 n7 c7) ∧ (
  stW w6 (aa0.add 3) (.slice A7 n7 c7) fun w8 =>
  Q (.returned (.int .i64 (0 : Int))) w8)))
def D : Nat → Option DH := dtab []
def tb : List (List Nat × Spec) := []
theorem wp_eq (aa0 : Addr) (xa1 : Int) (w : World) (Q : Ending → World → Prop) :
    wp aa0 xa1 w Q = codeW Tryd.prog hT 19 D (tab tb) [] body (topQ Tryd.prog hT 19 [.tmp 4] Q) (argsF [.pointer (some aa0), .int .i64 xa1]) w := by kernel_rfl
theorem ok (aa0 : Addr) (xa1 : Int) (w : World) (Q : Ending → World → Prop) (h : wp aa0 xa1 w Q) : Calls Tryd.prog 22 #[.pointer (some aa0), .int .i64 xa1] w Q := by
  rw [wp_eq] at h
  exact calls_of_codeW (c := body) (rs := [.tmp 4]) Tryd.func22 (by kernel_rfl) (by kernel_rfl) (by kernel_rfl) (by kernel_rfl) (by kernel_rfl) (tab_snd (by
    intro x hx
    simp only [tb, List.not_mem_nil] at hx
    )) (by kernel_rfl) h
end f_page_Page_Remove
namespace f_page_Page_Replace
/-! (*skein/page.Page).Replace: function 24 -/
noncomputable def body : Code := (Tryd.f24.body).getD .skip
def wp (aa0 : Addr) (xa1 : Int) (Aa2 : Option Addr) (na2 : Nat) (ca2 : Nat) (w : World) (Q : Ending → World → Prop) : Prop :=
  Calls Tryd.prog 43 #[.pointer (some aa0), .int .i64 xa1] w fun e1 w2 => ∃ (b3 : Bool), e1 = .returned (.bool b3) ∧ (
  sel b3 (
  Q (.returned (.int .i64 (82 : Int))) w2) (
  sel (decide ((na2 : Int) > (200 : Int))) (
  Q (.returned (.int .i64 (4 : Int))) w2) (
  drW w2 fun w4 =>
  ∃ S5 : World → Prop, S5 w4 ∧ (
  hdS S5 (aa0.add 3) fun A6 n6 c6 =>
  optB A6 fun a7 =>
  req (decide (0 ≤ xa1 ∧ xa1 < (n6 : Int))) <|
  hdS S5 (a7.add (xa1.toNat * 1)) fun A8 n8 c8 =>
  Calls Tryd.prog 42 #[.pointer (some aa0)] w4 fun e9 w10 => ∃ (x11 : Int), e9 = .returned (.int .i64 x11) ∧ (
  S5 w10 ∧ (
  sel (decide ((na2 : Int) > (IntKind.i64.wrap (x11 + (n8 : Int))))) (
  Q (.returned (.int .i64 (81 : Int))) w10) (
  drW w10 fun w12 =>
  ∃ S13 : World → Prop, S13 w12 ∧ (
  hdS S13 (aa0.add 3) fun A14 n14 c14 =>
  Calls Tryd.prog 33 #[.slice Aa2 na2 ca2] w12 fun e15 w16 => ∃ (A17 : Option Addr) (n17 : Nat) (c17 : Nat), e15 = .returned (.slice A17 n17 c17) ∧ (
  S13 w16 ∧ (
  optB A14 fun a18 =>
  req (decide (0 ≤ xa1 ∧ xa1 < (n14 : Int))) <|
  stW w16 (a18.add (xa1.toNat * 1)) (.slice A17 n17 c17) fun w19 =>
  Q (.returned (.int .i64 (0 : Int))) w19))))))))))
def D : Nat → Option DH := dtab [(5, .held [.fst 0, .fst 1, .fst 2, .fst 4, .fst 5, .fst 6, .fst 7, .fst 8, .fst 9, .fst 10, .fst 11, .eff 3, .fst 12] [.fst 13, .fst 14]), (7, .held [.fst 0, .fst 1, .fst 2, .fst 3, .fst 4, .fst 5, .eff 6] [.fst 7, .eff 8])]
def tb : List (List Nat × Spec) := []
theorem wp_eq (aa0 : Addr) (xa1 : Int) (Aa2 : Option Addr) (na2 : Nat) (ca2 : Nat) (w : World) (Q : Ending → World → Prop) :
    wp aa0 xa1 Aa2 na2 ca2 w Q = codeW Tryd.prog hT 38 D (tab tb) [] body (topQ Tryd.prog hT 38 [.tmp 6] Q) (argsF [.pointer (some aa0), .int .i64 xa1, .slice Aa2 na2 ca2]) w := by kernel_rfl
theorem ok (aa0 : Addr) (xa1 : Int) (Aa2 : Option Addr) (na2 : Nat) (ca2 : Nat) (w : World) (Q : Ending → World → Prop) (h : wp aa0 xa1 Aa2 na2 ca2 w Q) : Calls Tryd.prog 24 #[.pointer (some aa0), .int .i64 xa1, .slice Aa2 na2 ca2] w Q := by
  rw [wp_eq] at h
  exact calls_of_codeW (c := body) (rs := [.tmp 6]) Tryd.func24 (by kernel_rfl) (by kernel_rfl) (by kernel_rfl) (by kernel_rfl) (by kernel_rfl) (tab_snd (by
    intro x hx
    simp only [tb, List.not_mem_nil] at hx
    )) (by kernel_rfl) h
end f_page_Page_Replace
namespace f_page_Page_LSN
/-! (*skein/page.Page).LSN: function 26 -/
noncomputable def body : Code := (Tryd.f26.body).getD .skip
def wp (aa0 : Addr) (w : World) (Q : Ending → World → Prop) : Prop :=
  ldI w aa0 .i64 fun x1 =>
  Q (.returned (.int .i64 x1)) w
def D : Nat → Option DH := dtab []
def tb : List (List Nat × Spec) := []
theorem wp_eq (aa0 : Addr) (w : World) (Q : Ending → World → Prop) :
    wp aa0 w Q = codeW Tryd.prog hT 7 D (tab tb) [] body (topQ Tryd.prog hT 7 [.tmp 2] Q) (argsF [.pointer (some aa0)]) w := by kernel_rfl
theorem ok (aa0 : Addr) (w : World) (Q : Ending → World → Prop) (h : wp aa0 w Q) : Calls Tryd.prog 26 #[.pointer (some aa0)] w Q := by
  rw [wp_eq] at h
  exact calls_of_codeW (c := body) (rs := [.tmp 2]) Tryd.func26 (by kernel_rfl) (by kernel_rfl) (by kernel_rfl) (by kernel_rfl) (by kernel_rfl) (tab_snd (by
    intro x hx
    simp only [tb, List.not_mem_nil] at hx
    )) (by kernel_rfl) h
end f_page_Page_LSN
namespace f_page_Page_Extra
/-! (*skein/page.Page).Extra: function 27 -/
noncomputable def body : Code := (Tryd.f27.body).getD .skip
def wp (aa0 : Addr) (w : World) (Q : Ending → World → Prop) : Prop :=
  ldI w (aa0.add 2) .u32 fun x1 =>
  Q (.returned (.int .u32 x1)) w
def D : Nat → Option DH := dtab []
def tb : List (List Nat × Spec) := []
theorem wp_eq (aa0 : Addr) (w : World) (Q : Ending → World → Prop) :
    wp aa0 w Q = codeW Tryd.prog hT 7 D (tab tb) [] body (topQ Tryd.prog hT 7 [.tmp 2] Q) (argsF [.pointer (some aa0)]) w := by kernel_rfl
theorem ok (aa0 : Addr) (w : World) (Q : Ending → World → Prop) (h : wp aa0 w Q) : Calls Tryd.prog 27 #[.pointer (some aa0)] w Q := by
  rw [wp_eq] at h
  exact calls_of_codeW (c := body) (rs := [.tmp 2]) Tryd.func27 (by kernel_rfl) (by kernel_rfl) (by kernel_rfl) (by kernel_rfl) (by kernel_rfl) (tab_snd (by
    intro x hx
    simp only [tb, List.not_mem_nil] at hx
    )) (by kernel_rfl) h
end f_page_Page_Extra
namespace f_page_New
/-! skein/page.New: function 28 -/
noncomputable def body : Code := (Tryd.f28.body).getD .skip
def wp (xa0 : Int) (xa1 : Int) (w : World) (Q : Ending → World → Prop) : Prop :=
  alW w (.cells #[.int .i64 (0 : Int), .int .u8 (IntKind.u8.wrap xa0), .int .u32 xa1, .slice none 0 0] 62) fun B1 w2 =>
  Q (.returned (.pointer (some (⟨B1, 0, Option.none⟩ : Addr)))) w2
def D : Nat → Option DH := dtab []
def tb : List (List Nat × Spec) := []
theorem wp_eq (xa0 : Int) (xa1 : Int) (w : World) (Q : Ending → World → Prop) :
    wp xa0 xa1 w Q = codeW Tryd.prog hT 10 D (tab tb) [] body (topQ Tryd.prog hT 10 [.tmp 4] Q) (argsF [.int .i64 xa0, .int .u32 xa1]) w := by kernel_rfl
theorem ok (xa0 : Int) (xa1 : Int) (w : World) (Q : Ending → World → Prop) (h : wp xa0 xa1 w Q) : Calls Tryd.prog 28 #[.int .i64 xa0, .int .u32 xa1] w Q := by
  rw [wp_eq] at h
  exact calls_of_codeW (c := body) (rs := [.tmp 4]) Tryd.func28 (by kernel_rfl) (by kernel_rfl) (by kernel_rfl) (by kernel_rfl) (by kernel_rfl) (tab_snd (by
    intro x hx
    simp only [tb, List.not_mem_nil] at hx
    )) (by kernel_rfl) h
end f_page_New
namespace f_page_Page_Kind
/-! (*skein/page.Page).Kind: function 29 -/
noncomputable def body : Code := (Tryd.f29.body).getD .skip
def wp (aa0 : Addr) (w : World) (Q : Ending → World → Prop) : Prop :=
  ldI w (aa0.add 1) .u8 fun x1 =>
  Q (.returned (.int .i64 (IntKind.i64.wrap x1))) w
def D : Nat → Option DH := dtab []
def tb : List (List Nat × Spec) := []
theorem wp_eq (aa0 : Addr) (w : World) (Q : Ending → World → Prop) :
    wp aa0 w Q = codeW Tryd.prog hT 8 D (tab tb) [] body (topQ Tryd.prog hT 8 [.tmp 2] Q) (argsF [.pointer (some aa0)]) w := by kernel_rfl
theorem ok (aa0 : Addr) (w : World) (Q : Ending → World → Prop) (h : wp aa0 w Q) : Calls Tryd.prog 29 #[.pointer (some aa0)] w Q := by
  rw [wp_eq] at h
  exact calls_of_codeW (c := body) (rs := [.tmp 2]) Tryd.func29 (by kernel_rfl) (by kernel_rfl) (by kernel_rfl) (by kernel_rfl) (by kernel_rfl) (tab_snd (by
    intro x hx
    simp only [tb, List.not_mem_nil] at hx
    )) (by kernel_rfl) h
end f_page_Page_Kind
namespace f_page_setLow
/-! skein/page.setLow: function 40 -/
noncomputable def body : Code := (Tryd.f40.body).getD .skip
def l0 : Nat → Option Addr → Nat → Nat → Int → Int → Int → World → (World → Prop) → Prop
  | 0, _, _, _, _, _, _, _, _ => False
  | k + 1, At0, nt0, ct0, xt1, xt6, xt7, w, K0 =>
    sel (decide (xt7 < xt6)) (
    optB At0 fun a1 =>
    req (decide (0 ≤ xt7 ∧ xt7 < (nt0 : Int))) <|
    stW w (a1.add (xt7.toNat * 1)) (.int .u8 (IntKind.u8.wrap xt1)) fun w2 =>
    l0 k At0 nt0 ct0 (xt1.fdiv (2 ^ 8)) xt6 (IntKind.i64.wrap (xt7 + (1 : Int))) w2 K0) (
    K0  w)
def wp (Aa0 : Option Addr) (na0 : Nat) (ca0 : Nat) (xa1 : Int) (w : World) (Q : Ending → World → Prop) : Prop :=
  ∃ k4 : Nat, l0 k4 Aa0 na0 ca0 xa1 (na0 : Int) (0 : Int) w (fun (w3 : World) => ∀ _ : Fr,
  Q (.returned (.tuple #[])) w3)
def D : Nat → Option DH := dtab []
def l0LO : LO := ⟨[], [], [(0, [])], []⟩
def l0Tk (k : Nat) : Spec := fun Q σ w =>
  gSlice (σ 0) fun At0 nt0 ct0 =>
  gInt .u64 (σ 1) fun xt1 =>
  gInt .i64 (σ 6) fun xt6 =>
  gInt .i64 (σ 7) fun xt7 =>
  l0 k At0 nt0 ct0 xt1 xt6 xt7 w (fun (w : World) => ∀ d : Fr, Q (.exit 0) (ov d []) w)
def l0T : Spec := fun Q σ w => ∃ k, l0Tk k Q σ w
def l0tb : List (List Nat × Spec) := []
noncomputable def l0b : Code := (subC [0, 0, 1] body).getD .skip
theorem l0_eq (k : Nat) (At0 : Option Addr) (nt0 : Nat) (ct0 : Nat) (xt1 : Int) (xt6 : Int) (xt7 : Int) (Q : PQ) (σ : Fr) (w : World) :
    l0 (k + 1) At0 nt0 ct0 xt1 xt6 xt7 w (fun (w : World) => ∀ d : Fr, Q (.exit 0) (ov d []) w) = codeW Tryd.prog hT 18 D (tab l0tb) [0, 0, 1] l0b (thenQ (l0Tk k Q) (widen l0LO Q)) (ov σ [(0, .slice At0 nt0 ct0), (1, .int .u64 xt1), (6, .int .i64 xt6), (7, .int .i64 xt7)]) w := by kernel_rfl
theorem l0_snd : ∀ c, subC [0, 1] body = some c → Snd Tryd.prog 18 c l0T := by
  refine loop_of (hT := hT) (D := D) (l := l0tb) (b := l0b) (lo := l0LO) (by kernel_rfl) (by
    intro x hx
    simp only [l0tb, List.not_mem_nil] at hx
    ) (by kernel_rfl) (by kernel_rfl) ?_ ?_
  · intro Q σ w h
    unfold l0Tk at h
    obtain ⟨At0, nt0, ct0, h0, hn⟩ := gSlice_elim h
    clear h
    have h := hn
    clear hn
    obtain ⟨xt1, h1, hn⟩ := gInt_elim h
    clear h
    have h := hn
    clear hn
    obtain ⟨xt6, h6, hn⟩ := gInt_elim h
    clear h
    have h := hn
    clear hn
    obtain ⟨xt7, h7, hn⟩ := gInt_elim h
    clear h
    have h := hn
    clear hn
    exact h
  · intro k Q σ w h
    unfold l0Tk at h
    obtain ⟨At0, nt0, ct0, h0, hn⟩ := gSlice_elim h
    clear h
    have h := hn
    clear hn
    obtain ⟨xt1, h1, hn⟩ := gInt_elim h
    clear h
    have h := hn
    clear hn
    obtain ⟨xt6, h6, hn⟩ := gInt_elim h
    clear h
    have h := hn
    clear hn
    obtain ⟨xt7, h7, hn⟩ := gInt_elim h
    clear h
    have h := hn
    clear hn
    rw [l0_eq (σ := σ)] at h
    have e : (ov σ [(0, .slice At0 nt0 ct0), (1, .int .u64 xt1), (6, .int .i64 xt6), (7, .int .i64 xt7)]) = σ := ov_self (by simp [h0, h1, h6, h7])
    rw [e] at h
    exact h
def tb : List (List Nat × Spec) := [([0, 1], l0T)]
theorem wp_eq (Aa0 : Option Addr) (na0 : Nat) (ca0 : Nat) (xa1 : Int) (w : World) (Q : Ending → World → Prop) :
    wp Aa0 na0 ca0 xa1 w Q = codeW Tryd.prog hT 18 D (tab tb) [] body (topQ Tryd.prog hT 18 [] Q) (argsF [.slice Aa0 na0 ca0, .int .u64 xa1]) w := by kernel_rfl
theorem ok (Aa0 : Option Addr) (na0 : Nat) (ca0 : Nat) (xa1 : Int) (w : World) (Q : Ending → World → Prop) (h : wp Aa0 na0 ca0 xa1 w Q) : Calls Tryd.prog 40 #[.slice Aa0 na0 ca0, .int .u64 xa1] w Q := by
  rw [wp_eq] at h
  exact calls_of_codeW (c := body) (rs := []) Tryd.func40 (by kernel_rfl) (by kernel_rfl) (by kernel_rfl) (by kernel_rfl) (by kernel_rfl) (tab_snd (by
    intro x hx
    simp only [tb, List.mem_cons, List.not_mem_nil, or_false] at hx
    subst hx
    exact l0_snd)) (by kernel_rfl) h
end f_page_setLow
namespace f_page_Page_free
/-! (*skein/page.Page).free: function 42 -/
noncomputable def body : Code := (Tryd.f42.body).getD .skip
def l0 : Nat → Int → Option Addr → Nat → Nat → Int → Int → World → (Int → World → Prop) → Prop
  | 0, _, _, _, _, _, _, _, _ => False
  | k + 1, xt3, At16, nt16, ct16, xt17, xt18, w, K0 =>
    sel (decide (xt18 < xt17)) (
    optB At16 fun a3 =>
    req (decide (0 ≤ xt18 ∧ xt18 < (nt16 : Int))) <|
    ldS w (a3.add (xt18.toNat * 1)) fun A4 n4 c4 =>
    l0 k (IntKind.i64.wrap (xt3 - (n4 : Int))) At16 nt16 ct16 xt17 (IntKind.i64.wrap (xt18 + (1 : Int))) w K0) (
    K0 xt3 w)
def wp (aa0 : Addr) (w : World) (Q : Ending → World → Prop) : Prop :=
  ldS w (aa0.add 3) fun A1 n1 c1 =>
  ldS w (aa0.add 3) fun A2 n2 c2 =>
  ∃ k7 : Nat, l0 k7 (IntKind.i64.wrap ((494 : Int) - (IntKind.i64.wrap ((2 : Int) * (n1 : Int))))) A2 n2 c2 (n2 : Int) (0 : Int) w (fun (x5 : Int) (w6 : World) => ∀ _ : Fr,
  Q (.returned (.int .i64 x5)) w6)
def D : Nat → Option DH := dtab []
def l0LO : LO := ⟨[], [], [(0, [3])], []⟩
def l0Tk (k : Nat) : Spec := fun Q σ w =>
  gInt .i64 (σ 3) fun xt3 =>
  gSlice (σ 16) fun At16 nt16 ct16 =>
  gInt .i64 (σ 17) fun xt17 =>
  gInt .i64 (σ 18) fun xt18 =>
  l0 k xt3 At16 nt16 ct16 xt17 xt18 w (fun (xq3 : Int) (w : World) => ∀ d : Fr, Q (.exit 0) (ov d [(3, .int .i64 xq3)]) w)
def l0T : Spec := fun Q σ w => ∃ k, l0Tk k Q σ w
def l0tb : List (List Nat × Spec) := []
noncomputable def l0b : Code := (subC [0, 0, 1, 0, 1, 1] body).getD .skip
theorem l0_eq (k : Nat) (xt3 : Int) (At16 : Option Addr) (nt16 : Nat) (ct16 : Nat) (xt17 : Int) (xt18 : Int) (Q : PQ) (σ : Fr) (w : World) :
    l0 (k + 1) xt3 At16 nt16 ct16 xt17 xt18 w (fun (xq3 : Int) (w : World) => ∀ d : Fr, Q (.exit 0) (ov d [(3, .int .i64 xq3)]) w) = codeW Tryd.prog hT 28 D (tab l0tb) [0, 0, 1, 0, 1, 1] l0b (thenQ (l0Tk k Q) (widen l0LO Q)) (ov σ [(3, .int .i64 xt3), (16, .slice At16 nt16 ct16), (17, .int .i64 xt17), (18, .int .i64 xt18)]) w := by kernel_rfl
theorem l0_snd : ∀ c, subC [0, 1, 0, 1, 1] body = some c → Snd Tryd.prog 28 c l0T := by
  refine loop_of (hT := hT) (D := D) (l := l0tb) (b := l0b) (lo := l0LO) (by kernel_rfl) (by
    intro x hx
    simp only [l0tb, List.not_mem_nil] at hx
    ) (by kernel_rfl) (by kernel_rfl) ?_ ?_
  · intro Q σ w h
    unfold l0Tk at h
    obtain ⟨xt3, h3, hn⟩ := gInt_elim h
    clear h
    have h := hn
    clear hn
    obtain ⟨At16, nt16, ct16, h16, hn⟩ := gSlice_elim h
    clear h
    have h := hn
    clear hn
    obtain ⟨xt17, h17, hn⟩ := gInt_elim h
    clear h
    have h := hn
    clear hn
    obtain ⟨xt18, h18, hn⟩ := gInt_elim h
    clear h
    have h := hn
    clear hn
    exact h
  · intro k Q σ w h
    unfold l0Tk at h
    obtain ⟨xt3, h3, hn⟩ := gInt_elim h
    clear h
    have h := hn
    clear hn
    obtain ⟨At16, nt16, ct16, h16, hn⟩ := gSlice_elim h
    clear h
    have h := hn
    clear hn
    obtain ⟨xt17, h17, hn⟩ := gInt_elim h
    clear h
    have h := hn
    clear hn
    obtain ⟨xt18, h18, hn⟩ := gInt_elim h
    clear h
    have h := hn
    clear hn
    rw [l0_eq (σ := σ)] at h
    have e : (ov σ [(3, .int .i64 xt3), (16, .slice At16 nt16 ct16), (17, .int .i64 xt17), (18, .int .i64 xt18)]) = σ := ov_self (by simp [h3, h16, h17, h18])
    rw [e] at h
    exact h
def tb : List (List Nat × Spec) := [([0, 1, 0, 1, 1], l0T)]
theorem wp_eq (aa0 : Addr) (w : World) (Q : Ending → World → Prop) :
    wp aa0 w Q = codeW Tryd.prog hT 28 D (tab tb) [] body (topQ Tryd.prog hT 28 [.tmp 2] Q) (argsF [.pointer (some aa0)]) w := by kernel_rfl
theorem ok (aa0 : Addr) (w : World) (Q : Ending → World → Prop) (h : wp aa0 w Q) : Calls Tryd.prog 42 #[.pointer (some aa0)] w Q := by
  rw [wp_eq] at h
  exact calls_of_codeW (c := body) (rs := [.tmp 2]) Tryd.func42 (by kernel_rfl) (by kernel_rfl) (by kernel_rfl) (by kernel_rfl) (by kernel_rfl) (tab_snd (by
    intro x hx
    simp only [tb, List.mem_cons, List.not_mem_nil, or_false] at hx
    subst hx
    exact l0_snd)) (by kernel_rfl) h
end f_page_Page_free
namespace f_page_Page_bad
/-! (*skein/page.Page).bad: function 43 -/
noncomputable def body : Code := (Tryd.f43.body).getD .skip
def wp (aa0 : Addr) (xa1 : Int) (w : World) (Q : Ending → World → Prop) : Prop :=
  sel (decide (xa1 < (0 : Int))) (
  Q (.returned (.bool true)) w) (
  ldS w (aa0.add 3) fun A1 n1 c1 =>
  Q (.returned (.bool (decide (xa1 ≥ (n1 : Int))))) w)
def D : Nat → Option DH := dtab []
def tb : List (List Nat × Spec) := []
theorem wp_eq (aa0 : Addr) (xa1 : Int) (w : World) (Q : Ending → World → Prop) :
    wp aa0 xa1 w Q = codeW Tryd.prog hT 16 D (tab tb) [] body (topQ Tryd.prog hT 16 [.tmp 4] Q) (argsF [.pointer (some aa0), .int .i64 xa1]) w := by kernel_rfl
theorem ok (aa0 : Addr) (xa1 : Int) (w : World) (Q : Ending → World → Prop) (h : wp aa0 xa1 w Q) : Calls Tryd.prog 43 #[.pointer (some aa0), .int .i64 xa1] w Q := by
  rw [wp_eq] at h
  exact calls_of_codeW (c := body) (rs := [.tmp 4]) Tryd.func43 (by kernel_rfl) (by kernel_rfl) (by kernel_rfl) (by kernel_rfl) (by kernel_rfl) (tab_snd (by
    intro x hx
    simp only [tb, List.not_mem_nil] at hx
    )) (by kernel_rfl) h
end f_page_Page_bad
namespace f_page_Page_SetExtra
/-! (*skein/page.Page).SetExtra: function 50 -/
noncomputable def body : Code := (Tryd.f50.body).getD .skip
def wp (aa0 : Addr) (xa1 : Int) (w : World) (Q : Ending → World → Prop) : Prop :=
  stW w (aa0.add 2) (.int .u32 xa1) fun w1 =>
  Q (.returned (.tuple #[])) w1
def D : Nat → Option DH := dtab []
def tb : List (List Nat × Spec) := []
theorem wp_eq (aa0 : Addr) (xa1 : Int) (w : World) (Q : Ending → World → Prop) :
    wp aa0 xa1 w Q = codeW Tryd.prog hT 8 D (tab tb) [] body (topQ Tryd.prog hT 8 [] Q) (argsF [.pointer (some aa0), .int .u32 xa1]) w := by kernel_rfl
theorem ok (aa0 : Addr) (xa1 : Int) (w : World) (Q : Ending → World → Prop) (h : wp aa0 xa1 w Q) : Calls Tryd.prog 50 #[.pointer (some aa0), .int .u32 xa1] w Q := by
  rw [wp_eq] at h
  exact calls_of_codeW (c := body) (rs := []) Tryd.func50 (by kernel_rfl) (by kernel_rfl) (by kernel_rfl) (by kernel_rfl) (by kernel_rfl) (tab_snd (by
    intro x hx
    simp only [tb, List.not_mem_nil] at hx
    )) (by kernel_rfl) h
end f_page_Page_SetExtra
namespace f_page_Page_SetLSN
/-! (*skein/page.Page).SetLSN: function 51 -/
noncomputable def body : Code := (Tryd.f51.body).getD .skip
def wp (aa0 : Addr) (xa1 : Int) (w : World) (Q : Ending → World → Prop) : Prop :=
  stW w aa0 (.int .i64 (if (0 : Int) > xa1 then (0 : Int) else xa1)) fun w1 =>
  Q (.returned (.tuple #[])) w1
def D : Nat → Option DH := dtab []
def tb : List (List Nat × Spec) := []
theorem wp_eq (aa0 : Addr) (xa1 : Int) (w : World) (Q : Ending → World → Prop) :
    wp aa0 xa1 w Q = codeW Tryd.prog hT 9 D (tab tb) [] body (topQ Tryd.prog hT 9 [] Q) (argsF [.pointer (some aa0), .int .i64 xa1]) w := by kernel_rfl
theorem ok (aa0 : Addr) (xa1 : Int) (w : World) (Q : Ending → World → Prop) (h : wp aa0 xa1 w Q) : Calls Tryd.prog 51 #[.pointer (some aa0), .int .i64 xa1] w Q := by
  rw [wp_eq] at h
  exact calls_of_codeW (c := body) (rs := []) Tryd.func51 (by kernel_rfl) (by kernel_rfl) (by kernel_rfl) (by kernel_rfl) (by kernel_rfl) (tab_snd (by
    intro x hx
    simp only [tb, List.not_mem_nil] at hx
    )) (by kernel_rfl) h
end f_page_Page_SetLSN
namespace f_slices_Insert_byte_byte_Ins
/-! slices.Insert[[][]byte,[]byte]: function 44 -/
noncomputable def body : Code := (Tryd.f44.body).getD .skip
def wp (Aa0 : Option Addr) (na0 : Nat) (ca0 : Nat) (xa1 : Int) (Aa2 : Option Addr) (na2 : Nat) (ca2 : Nat) (w : World) (Q : Ending → World → Prop) : Prop :=
  req (decide (0 ≤ xa1 ∧ xa1 ≤ (na0 : Int))) <|
  sel ((na2 : Int) == (0 : Int)) (
  Q (.returned (.slice Aa0 na0 ca0)) w) (
  sel (xa1 == (na0 : Int)) (
  Runs Tryd.prog (Builtin.append_ #[30, 30] 30 #[.slice Aa0 na0 ca0, .slice Aa2 na2 ca2]) w fun v2 w1 => ∃ (A3 : Option Addr) (n3 : Nat) (c3 : Nat), v2 = (.slice A3 n3 c3) ∧ (
  Q (.returned (.slice A3 n3 c3)) w1)) (
  sel (decide ((IntKind.i64.wrap ((na0 : Int) + (na2 : Int))) > (ca0 : Int))) (
  req (decide (0 ≤ xa1 ∧ xa1 ≤ (ca0 : Int))) <|
  Runs Tryd.prog (Builtin.append_ #[30, 3] 30 #[.slice (slA Aa0 0 ca0 1) (xa1.toNat - 0) (ca0 - 0), .int .i64 (IntKind.i64.wrap ((IntKind.i64.wrap ((na0 : Int) + (na2 : Int))) - xa1))]) w fun v5 w4 => ∃ (A6 : Option Addr) (n6 : Nat) (c6 : Nat), v5 = (.slice A6 n6 c6) ∧ (
  req (decide (0 ≤ xa1 ∧ xa1 ≤ (n6 : Int))) <|
  Runs Tryd.prog (Builtin.copy_ #[30, 30] 3 #[.slice (slA A6 xa1.toNat c6 1) (n6 - xa1.toNat) (c6 - xa1.toNat), .slice Aa2 na2 ca2]) w4 fun v8 w7 => ∃ (x9 : Int), v8 = (.int .i64 x9) ∧ (
  drW w7 fun w10 =>
  req (decide (0 ≤ (IntKind.i64.wrap (xa1 + (na2 : Int))) ∧ (IntKind.i64.wrap (xa1 + (na2 : Int))) ≤ (n6 : Int))) <|
  req (decide (0 ≤ xa1 ∧ xa1 ≤ (na0 : Int))) <|
  Runs Tryd.prog (Builtin.copy_ #[30, 30] 3 #[.slice (slA A6 ((IntKind.i64.wrap (xa1 + (na2 : Int))).toNat) c6 1) (n6 - (IntKind.i64.wrap (xa1 + (na2 : Int))).toNat) (c6 - (IntKind.i64.wrap (xa1 + (na2 : Int))).toNat), .slice (slA Aa0 xa1.toNat ca0 1) (na0 - xa1.toNat) (ca0 - xa1.toNat)]) w10 fun v13 w12 => ∃ (x14 : Int), v13 = (.int .i64 x14) ∧ (
  Q (.returned (.slice A6 n6 c6)) w12)))) (
  req (decide (0 ≤ (IntKind.i64.wrap ((na0 : Int) + (na2 : Int))) ∧ (IntKind.i64.wrap ((na0 : Int) + (na2 : Int))) ≤ (ca0 : Int))) <|
  req (decide (0 ≤ (IntKind.i64.wrap (xa1 + (na2 : Int))) ∧ (IntKind.i64.wrap (xa1 + (na2 : Int))) ≤ (((IntKind.i64.wrap ((na0 : Int) + (na2 : Int))).toNat - 0) : Int))) <|
  Runs Tryd.prog (callFunc 66 #[.slice Aa2 na2 ca2, .slice (slA (slA Aa0 0 ca0 1) ((IntKind.i64.wrap (xa1 + (na2 : Int))).toNat) (ca0 - 0) 1) (((IntKind.i64.wrap ((na0 : Int) + (na2 : Int))).toNat - 0) - (IntKind.i64.wrap (xa1 + (na2 : Int))).toNat) ((ca0 - 0) - (IntKind.i64.wrap (xa1 + (na2 : Int))).toNat)]) w fun e15 w16 => ∃ (b17 : Bool), e15 = .value (.bool b17) ∧ (
  sel (!b17) (
  drW w16 fun w18 =>
  req (decide (0 ≤ (IntKind.i64.wrap (xa1 + (na2 : Int))) ∧ (IntKind.i64.wrap (xa1 + (na2 : Int))) ≤ (((IntKind.i64.wrap ((na0 : Int) + (na2 : Int))).toNat - 0) : Int))) <|
  req (decide (0 ≤ xa1 ∧ xa1 ≤ (((IntKind.i64.wrap ((na0 : Int) + (na2 : Int))).toNat - 0) : Int))) <|
  Runs Tryd.prog (Builtin.copy_ #[30, 30] 3 #[.slice (slA (slA Aa0 0 ca0 1) ((IntKind.i64.wrap (xa1 + (na2 : Int))).toNat) (ca0 - 0) 1) (((IntKind.i64.wrap ((na0 : Int) + (na2 : Int))).toNat - 0) - (IntKind.i64.wrap (xa1 + (na2 : Int))).toNat) ((ca0 - 0) - (IntKind.i64.wrap (xa1 + (na2 : Int))).toNat), .slice (slA (slA Aa0 0 ca0 1) xa1.toNat (ca0 - 0) 1) (((IntKind.i64.wrap ((na0 : Int) + (na2 : Int))).toNat - 0) - xa1.toNat) ((ca0 - 0) - xa1.toNat)]) w18 fun v21 w20 => ∃ (x22 : Int), v21 = (.int .i64 x22) ∧ (
  req (decide (0 ≤ xa1 ∧ xa1 ≤ (((IntKind.i64.wrap ((na0 : Int) + (na2 : Int))).toNat - 0) : Int))) <|
  Runs Tryd.prog (Builtin.copy_ #[30, 30] 3 #[.slice (slA (slA Aa0 0 ca0 1) xa1.toNat (ca0 - 0) 1) (((IntKind.i64.wrap ((na0 : Int) + (na2 : Int))).toNat - 0) - xa1.toNat) ((ca0 - 0) - xa1.toNat), .slice Aa2 na2 ca2]) w20 fun v24 w23 => ∃ (x25 : Int), v24 = (.int .i64 x25) ∧ (
  Q (.returned (.slice (slA Aa0 0 ca0 1) ((IntKind.i64.wrap ((na0 : Int) + (na2 : Int))).toNat - 0) (ca0 - 0))) w23))) (
  req (decide (0 ≤ (na0 : Int) ∧ (na0 : Int) ≤ (((IntKind.i64.wrap ((na0 : Int) + (na2 : Int))).toNat - 0) : Int))) <|
  Runs Tryd.prog (Builtin.copy_ #[30, 30] 3 #[.slice (slA (slA Aa0 0 ca0 1) ((na0 : Int).toNat) (ca0 - 0) 1) (((IntKind.i64.wrap ((na0 : Int) + (na2 : Int))).toNat - 0) - (na0 : Int).toNat) ((ca0 - 0) - (na0 : Int).toNat), .slice Aa2 na2 ca2]) w16 fun v27 w26 => ∃ (x28 : Int), v27 = (.int .i64 x28) ∧ (
  req (decide (0 ≤ xa1 ∧ xa1 ≤ (((IntKind.i64.wrap ((na0 : Int) + (na2 : Int))).toNat - 0) : Int))) <|
  Calls Tryd.prog 67 #[.slice (slA (slA Aa0 0 ca0 1) xa1.toNat (ca0 - 0) 1) (((IntKind.i64.wrap ((na0 : Int) + (na2 : Int))).toNat - 0) - xa1.toNat) ((ca0 - 0) - xa1.toNat), .int .i64 (na2 : Int)] w26 fun e29 w30 => e29 = .returned (.tuple #[]) ∧ (
  Q (.returned (.slice (slA Aa0 0 ca0 1) ((IntKind.i64.wrap ((na0 : Int) + (na2 : Int))).toNat - 0) (ca0 - 0))) w30)))))))
def D : Nat → Option DH := dtab [(11, .simple [] [.fst 0, .fst 1, .fst 2, .fst 3, .fst 4, .fst 5, .fst 6, .fst 7, .eff 8]), (15, .simple [] [.fst 0, .fst 1, .fst 2, .fst 3, .fst 4, .fst 5, .fst 6, .fst 7, .eff 8])]
def tb : List (List Nat × Spec) := []
theorem wp_eq (Aa0 : Option Addr) (na0 : Nat) (ca0 : Nat) (xa1 : Int) (Aa2 : Option Addr) (na2 : Nat) (ca2 : Nat) (w : World) (Q : Ending → World → Prop) :
    wp Aa0 na0 ca0 xa1 Aa2 na2 ca2 w Q = codeW Tryd.prog hT 95 D (tab tb) [] body (topQ Tryd.prog hT 95 [.tmp 6] Q) (argsF [.slice Aa0 na0 ca0, .int .i64 xa1, .slice Aa2 na2 ca2]) w := by kernel_rfl
theorem ok (Aa0 : Option Addr) (na0 : Nat) (ca0 : Nat) (xa1 : Int) (Aa2 : Option Addr) (na2 : Nat) (ca2 : Nat) (w : World) (Q : Ending → World → Prop) (h : wp Aa0 na0 ca0 xa1 Aa2 na2 ca2 w Q) : Calls Tryd.prog 44 #[.slice Aa0 na0 ca0, .int .i64 xa1, .slice Aa2 na2 ca2] w Q := by
  rw [wp_eq] at h
  exact calls_of_codeW (c := body) (rs := [.tmp 6]) Tryd.func44 (by kernel_rfl) (by kernel_rfl) (by kernel_rfl) (by kernel_rfl) (by kernel_rfl) (tab_snd (by
    intro x hx
    simp only [tb, List.not_mem_nil] at hx
    )) (by kernel_rfl) h
end f_slices_Insert_byte_byte_Ins
namespace f_slices_Delete_byte_byte_Del
/-! slices.Delete[[][]byte,[]byte]: function 45 -/
noncomputable def body : Code := (Tryd.f45.body).getD .skip
def wp (Aa0 : Option Addr) (na0 : Nat) (ca0 : Nat) (xa1 : Int) (xa2 : Int) (w : World) (Q : Ending → World → Prop) : Prop :=
  req (decide (0 ≤ (na0 : Int) ∧ (na0 : Int) ≤ (ca0 : Int))) <|
  req (decide (0 ≤ xa2 ∧ xa2 ≤ ((na0 : Int).toNat : Int))) <|
  req (decide (0 ≤ xa1 ∧ xa1 ≤ (xa2.toNat : Int))) <|
  sel (xa1 == xa2) (
  Q (.returned (.slice Aa0 na0 ca0)) w) (
  drW w fun w1 =>
  req (decide (0 ≤ xa1 ∧ xa1 ≤ (ca0 : Int))) <|
  req (decide (0 ≤ xa2 ∧ xa2 ≤ (na0 : Int))) <|
  Runs Tryd.prog (Builtin.append_ #[30, 30] 30 #[.slice (slA Aa0 0 ca0 1) (xa1.toNat - 0) (ca0 - 0), .slice (slA Aa0 xa2.toNat ca0 1) (na0 - xa2.toNat) (ca0 - xa2.toNat)]) w1 fun v4 w3 => ∃ (A5 : Option Addr) (n5 : Nat) (c5 : Nat), v4 = (.slice A5 n5 c5) ∧ (
  req (decide (0 ≤ (na0 : Int) ∧ (na0 : Int) ≤ (c5 : Int))) <|
  req (decide (0 ≤ (n5 : Int) ∧ (n5 : Int) ≤ ((na0 : Int).toNat : Int))) <|
  Runs Tryd.prog (Builtin.clear_ #[30] 0 #[.slice (slA A5 ((n5 : Int).toNat) c5 1) ((na0 : Int).toNat - (n5 : Int).toNat) (c5 - (n5 : Int).toNat)]) w3 fun v7 w6 => v7 = (.tuple #[]) ∧ (
  Q (.returned (.slice A5 n5 c5)) w6)))
def D : Nat → Option DH := dtab [(5, .simple [] [.fst 0, .fst 1, .fst 2, .fst 3, .fst 4, .fst 5, .eff 6, .fst 7])]
def tb : List (List Nat × Spec) := []
theorem wp_eq (Aa0 : Option Addr) (na0 : Nat) (ca0 : Nat) (xa1 : Int) (xa2 : Int) (w : World) (Q : Ending → World → Prop) :
    wp Aa0 na0 ca0 xa1 xa2 w Q = codeW Tryd.prog hT 33 D (tab tb) [] body (topQ Tryd.prog hT 33 [.tmp 6] Q) (argsF [.slice Aa0 na0 ca0, .int .i64 xa1, .int .i64 xa2]) w := by kernel_rfl
theorem ok (Aa0 : Option Addr) (na0 : Nat) (ca0 : Nat) (xa1 : Int) (xa2 : Int) (w : World) (Q : Ending → World → Prop) (h : wp Aa0 na0 ca0 xa1 xa2 w Q) : Calls Tryd.prog 45 #[.slice Aa0 na0 ca0, .int .i64 xa1, .int .i64 xa2] w Q := by
  rw [wp_eq] at h
  exact calls_of_codeW (c := body) (rs := [.tmp 6]) Tryd.func45 (by kernel_rfl) (by kernel_rfl) (by kernel_rfl) (by kernel_rfl) (by kernel_rfl) (tab_snd (by
    intro x hx
    simp only [tb, List.not_mem_nil] at hx
    )) (by kernel_rfl) h
end f_slices_Delete_byte_byte_Del
end Go.Proofs.YtifambgaekjilaaDoor.Rd
