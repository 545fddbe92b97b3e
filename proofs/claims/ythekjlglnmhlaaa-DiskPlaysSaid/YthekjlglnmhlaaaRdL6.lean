/- The printed readings of some functions: each function's code reckoned by the kernel to its predicate transformer. -/
import Derived.Test.YthekjlglnmhlaaaHint
namespace Go.Proofs.Ythekjlglnmhlaaa.Rd
open Go.Dn
set_option maxRecDepth 100000
set_option linter.unusedVariables false
namespace f_law07_DiskPlays
/-! skein/skeinlaw07.DiskPlays: function 6 -/
noncomputable def body : Code := (Try.f6.body).getD .skip
def l1 : Nat → Option Addr → Addr → Option Addr → Nat → Nat → Int → Int → World → (World → Prop) → (Bool → World → Prop) → Prop
  | 0, _, _, _, _, _, _, _, _, _, _ => False
  | k + 1, pt6, at7, At38, nt38, ct38, xt39, xt40, w, K0, Kr =>
    sel (decide (xt40 < xt39)) (
    optB At38 fun a24 =>
    req (decide (0 ≤ xt40 ∧ xt40 < (nt38 : Int))) <|
    ldI w (a24.add (xt40.toNat * 5)) .i64 fun x25 =>
    ldI w ((a24.add (xt40.toNat * 5)).add 1) .i64 fun x26 =>
    ldS w ((a24.add (xt40.toNat * 5)).add 2) fun A27 n27 c27 =>
    ldS w ((a24.add (xt40.toNat * 5)).add 3) fun A28 n28 c28 =>
    ldS w ((a24.add (xt40.toNat * 5)).add 4) fun A29 n29 c29 =>
    alW w (.cells #[.int .i64 (0 : Int), .int .i64 (0 : Int), .slice none 0 0, .slice none 0 0, .slice none 0 0] 41) fun B30 w31 =>
    stW w31 (⟨B30, 0, Option.none⟩ : Addr) (.int .i64 x25) fun w32 =>
    stW w32 ((⟨B30, 0, Option.none⟩ : Addr).add 1) (.int .i64 x26) fun w33 =>
    stW w33 ((⟨B30, 0, Option.none⟩ : Addr).add 2) (.slice A27 n27 c27) fun w34 =>
    stW w34 ((⟨B30, 0, Option.none⟩ : Addr).add 3) (.slice A28 n28 c28) fun w35 =>
    stW w35 ((⟨B30, 0, Option.none⟩ : Addr).add 4) (.slice A29 n29 c29) fun w36 =>
    ldS w36 at7 fun A37 n37 c37 =>
    ldS w36 (at7.add 1) fun A38 n38 c38 =>
    ldI w36 (at7.add 2) .i64 fun x39 =>
    ldB w36 (at7.add 3) fun b40 =>
    ldI w36 (⟨B30, 0, Option.none⟩ : Addr) .i64 fun x41 =>
    ldI w36 ((⟨B30, 0, Option.none⟩ : Addr).add 1) .i64 fun x42 =>
    ldS w36 ((⟨B30, 0, Option.none⟩ : Addr).add 2) fun A43 n43 c43 =>
    ldS w36 ((⟨B30, 0, Option.none⟩ : Addr).add 3) fun A44 n44 c44 =>
    ldS w36 ((⟨B30, 0, Option.none⟩ : Addr).add 4) fun A45 n45 c45 =>
    Calls Try.prog 33 #[.pointer pt6, .agg #[.slice A37 n37 c37, .slice A38 n38 c38, .int .i64 x39, .bool b40], .agg #[.int .i64 x41, .int .i64 x42, .slice A43 n43 c43, .slice A44 n44 c44, .slice A45 n45 c45]] w36 fun e46 w47 => ∃ (A48_0_0 : Option Addr) (n48_0_0 : Nat) (c48_0_0 : Nat) (A48_0_1 : Option Addr) (n48_0_1 : Nat) (c48_0_1 : Nat) (x48_0_2 : Int) (b48_0_3 : Bool) (b48_1 : Bool), e46 = .returned (.tuple #[.agg #[.slice A48_0_0 n48_0_0 c48_0_0, .slice A48_0_1 n48_0_1 c48_0_1, .int .i64 x48_0_2, .bool b48_0_3], .bool b48_1]) ∧ (
    alW w47 (.cells #[.slice none 0 0, .slice none 0 0, .int .i64 (0 : Int), .bool false] 28) fun B49 w50 =>
    stW w50 (⟨B49, 0, Option.none⟩ : Addr) (.slice A48_0_0 n48_0_0 c48_0_0) fun w51 =>
    stW w51 ((⟨B49, 0, Option.none⟩ : Addr).add 1) (.slice A48_0_1 n48_0_1 c48_0_1) fun w52 =>
    stW w52 ((⟨B49, 0, Option.none⟩ : Addr).add 2) (.int .i64 x48_0_2) fun w53 =>
    stW w53 ((⟨B49, 0, Option.none⟩ : Addr).add 3) (.bool b48_0_3) fun w54 =>
    ldS w54 (⟨B49, 0, Option.none⟩ : Addr) fun A55 n55 c55 =>
    ldS w54 ((⟨B49, 0, Option.none⟩ : Addr).add 1) fun A56 n56 c56 =>
    ldI w54 ((⟨B49, 0, Option.none⟩ : Addr).add 2) .i64 fun x57 =>
    ldB w54 ((⟨B49, 0, Option.none⟩ : Addr).add 3) fun b58 =>
    stW w54 at7 (.slice A55 n55 c55) fun w59 =>
    stW w59 (at7.add 1) (.slice A56 n56 c56) fun w60 =>
    stW w60 (at7.add 2) (.int .i64 x57) fun w61 =>
    stW w61 (at7.add 3) (.bool b58) fun w62 =>
    sel (!b48_1) (
    Kr false w62) (
    ldS w62 at7 fun A63 n63 c63 =>
    ldS w62 (at7.add 1) fun A64 n64 c64 =>
    ldI w62 (at7.add 2) .i64 fun x65 =>
    ldB w62 (at7.add 3) fun b66 =>
    Calls Try.prog 34 #[.pointer pt6, .agg #[.slice A63 n63 c63, .slice A64 n64 c64, .int .i64 x65, .bool b66]] w62 fun e67 w68 => ∃ (b69 : Bool), e67 = .returned (.bool b69) ∧ (
    sel (!b69) (
    Kr false w68) (
    l1 k pt6 at7 At38 nt38 ct38 xt39 (IntKind.i64.wrap (xt40 + (1 : Int))) w68 K0 Kr))))) (
    K0  w)
def j0 (At0 : Option Addr) (nt0 : Nat) (ct0 : Nat) (At1 : Option Addr) (nt1 : Nat) (ct1 : Nat) (w : World) (Kr : Bool → World → Prop) : Prop :=
  Calls Try.prog 29 #[.slice At0 nt0 ct0] w fun e4 w5 => ∃ (A6 : Option Addr) (n6 : Nat) (c6 : Nat), e4 = .returned (.slice A6 n6 c6) ∧ (
  req (decide (0 ≤ (nt0 : Int) ∧ (nt0 : Int) ≤ (c6 : Int))) <|
  Calls Try.prog 25 #[.slice (slA A6 0 c6 1) ((nt0 : Int).toNat - 0) (c6 - 0)] w5 fun e7 w8 => ∃ (p9 : Option Addr), e7 = .returned (.pointer p9) ∧ (
  sel p9.isNone (
  Kr false w8) (
  Calls Try.prog 30 #[.slice A6 n6 c6, .slice At0 nt0 ct0] w8 fun e10 w11 => ∃ (b12 : Bool), e10 = .returned (.bool b12) ∧ (
  sel (!b12) (
  Kr false w11) (
  Calls Try.prog 31 #[.slice A6 n6 c6] w11 fun e13 w14 => e13 = .returned (.tuple #[]) ∧ (
  Calls Try.prog 32 #[.slice At0 nt0 ct0] w14 fun e15 w16 => ∃ (A17_0 : Option Addr) (n17_0 : Nat) (c17_0 : Nat) (A17_1 : Option Addr) (n17_1 : Nat) (c17_1 : Nat) (x17_2 : Int) (b17_3 : Bool), e15 = .returned (.agg #[.slice A17_0 n17_0 c17_0, .slice A17_1 n17_1 c17_1, .int .i64 x17_2, .bool b17_3]) ∧ (
  alW w16 (.cells #[.slice none 0 0, .slice none 0 0, .int .i64 (0 : Int), .bool false] 28) fun B18 w19 =>
  stW w19 (⟨B18, 0, Option.none⟩ : Addr) (.slice A17_0 n17_0 c17_0) fun w20 =>
  stW w20 ((⟨B18, 0, Option.none⟩ : Addr).add 1) (.slice A17_1 n17_1 c17_1) fun w21 =>
  stW w21 ((⟨B18, 0, Option.none⟩ : Addr).add 2) (.int .i64 x17_2) fun w22 =>
  stW w22 ((⟨B18, 0, Option.none⟩ : Addr).add 3) (.bool b17_3) fun w23 =>
  ∃ k80 : Nat, l1 k80 p9 (⟨B18, 0, Option.none⟩ : Addr) At1 nt1 ct1 (nt1 : Int) (0 : Int) w23 (fun (w70 : World) => ∀ _ : Fr,
  ldS w70 (⟨B18, 0, Option.none⟩ : Addr) fun A71 n71 c71 =>
  ldS w70 ((⟨B18, 0, Option.none⟩ : Addr).add 1) fun A72 n72 c72 =>
  ldI w70 ((⟨B18, 0, Option.none⟩ : Addr).add 2) .i64 fun x73 =>
  ldB w70 ((⟨B18, 0, Option.none⟩ : Addr).add 3) fun b74 =>
  Calls Try.prog 34 #[.pointer p9, .agg #[.slice A71 n71 c71, .slice A72 n72 c72, .int .i64 x73, .bool b74]] w70 fun e75 w76 => ∃ (b77 : Bool), e75 = .returned (.bool b77) ∧ (
  Kr b77 w76)) (fun (b78 : Bool) (w79 : World) => ∀ _ : Fr,
  Kr b78 w79))))))))
def wp (Aa0 : Option Addr) (na0 : Nat) (ca0 : Nat) (Aa1 : Option Addr) (na1 : Nat) (ca1 : Nat) (w : World) (Q : Ending → World → Prop) : Prop :=
  Calls Try.prog 9 #[] w fun e1 w2 => ∃ (b3 : Bool), e1 = .returned (.bool b3) ∧ (
  sel (!b3) (
  Q (.returned (.bool false)) w2) (
  sel (decide ((na0 : Int) > (20000 : Int))) (
  req (decide (0 ≤ (20000 : Int) ∧ (20000 : Int) ≤ (ca0 : Int))) <|
  j0 (slA Aa0 0 ca0 1) (20000 - 0) (ca0 - 0) Aa1 na1 ca1 w2 (fun (b81 : Bool) (w82 : World) => ∀ _ : Fr,
  Q (.returned (.bool b81)) w82)) (
  j0 Aa0 na0 ca0 Aa1 na1 ca1 w2 (fun (b83 : Bool) (w84 : World) => ∀ _ : Fr,
  Q (.returned (.bool b83)) w84))))
def D : Nat → Option DH := dtab []
def l1LO : LO := ⟨[], [4], [(0, [6, 7])], []⟩
def l1Tk (k : Nat) : Spec := fun Q σ w =>
  gPtr (σ 6) fun pt6 =>
  gAd (σ 7) fun at7 =>
  gSlice (σ 38) fun At38 nt38 ct38 =>
  gInt .i64 (σ 39) fun xt39 =>
  gInt .i64 (σ 40) fun xt40 =>
  l1 k pt6 at7 At38 nt38 ct38 xt39 xt40 w (fun (w : World) => ∀ d : Fr, Q (.exit 0) (ov d [(6, .pointer pt6), (7, .pointer (some at7))]) w) (fun (bq4 : Bool) (w : World) => ∀ d : Fr, Q .ret (ov d [(4, .bool bq4)]) w)
def l1T : Spec := fun Q σ w => ∃ k, l1Tk k Q σ w
def l1tb : List (List Nat × Spec) := []
noncomputable def l1b : Code := (subC [0, 0, 1, 0, 1, 1, 1, 1, 1, 1, 1, 1] body).getD .skip
theorem l1_eq (k : Nat) (pt6 : Option Addr) (at7 : Addr) (At38 : Option Addr) (nt38 : Nat) (ct38 : Nat) (xt39 : Int) (xt40 : Int) (Q : PQ) (σ : Fr) (w : World) :
    l1 (k + 1) pt6 at7 At38 nt38 ct38 xt39 xt40 w (fun (w : World) => ∀ d : Fr, Q (.exit 0) (ov d [(6, .pointer pt6), (7, .pointer (some at7))]) w) (fun (bq4 : Bool) (w : World) => ∀ d : Fr, Q .ret (ov d [(4, .bool bq4)]) w) = codeW Try.prog hT 64 D (tab l1tb) [0, 0, 1, 0, 1, 1, 1, 1, 1, 1, 1, 1] l1b (thenQ (l1Tk k Q) (widen l1LO Q)) (ov σ [(6, .pointer pt6), (7, .pointer (some at7)), (38, .slice At38 nt38 ct38), (39, .int .i64 xt39), (40, .int .i64 xt40)]) w := by kernel_rfl
theorem l1_snd : ∀ c, subC [0, 1, 0, 1, 1, 1, 1, 1, 1, 1, 1] body = some c → Snd Try.prog 64 c l1T := by
  refine loop_of (hT := hT) (D := D) (l := l1tb) (b := l1b) (lo := l1LO) (by kernel_rfl) (by
    intro x hx
    simp only [l1tb, List.not_mem_nil] at hx
    ) (by kernel_rfl) (by kernel_rfl) ?_ ?_
  · intro Q σ w h
    unfold l1Tk at h
    obtain ⟨pt6, h6, hn⟩ := gPtr_elim h
    clear h
    have h := hn
    clear hn
    obtain ⟨at7, h7, hn⟩ := gAd_elim h
    clear h
    have h := hn
    clear hn
    obtain ⟨At38, nt38, ct38, h38, hn⟩ := gSlice_elim h
    clear h
    have h := hn
    clear hn
    obtain ⟨xt39, h39, hn⟩ := gInt_elim h
    clear h
    have h := hn
    clear hn
    obtain ⟨xt40, h40, hn⟩ := gInt_elim h
    clear h
    have h := hn
    clear hn
    exact h
  · intro k Q σ w h
    unfold l1Tk at h
    obtain ⟨pt6, h6, hn⟩ := gPtr_elim h
    clear h
    have h := hn
    clear hn
    obtain ⟨at7, h7, hn⟩ := gAd_elim h
    clear h
    have h := hn
    clear hn
    obtain ⟨At38, nt38, ct38, h38, hn⟩ := gSlice_elim h
    clear h
    have h := hn
    clear hn
    obtain ⟨xt39, h39, hn⟩ := gInt_elim h
    clear h
    have h := hn
    clear hn
    obtain ⟨xt40, h40, hn⟩ := gInt_elim h
    clear h
    have h := hn
    clear hn
    rw [l1_eq (σ := σ)] at h
    have e : (ov σ [(6, .pointer pt6), (7, .pointer (some at7)), (38, .slice At38 nt38 ct38), (39, .int .i64 xt39), (40, .int .i64 xt40)]) = σ := ov_self (by simp [h6, h7, h38, h39, h40])
    rw [e] at h
    exact h
def j0LO : LO := ⟨[], [4], [], []⟩
def j0T : Spec := fun Q σ w =>
  gSlice (σ 0) fun At0 nt0 ct0 =>
  gSlice (σ 1) fun At1 nt1 ct1 =>
  j0 At0 nt0 ct0 At1 nt1 ct1 w (fun (bq4 : Bool) (w : World) => ∀ d : Fr, Q .ret (ov d [(4, .bool bq4)]) w)
def j0tb : List (List Nat × Spec) := [([0, 1, 0, 1, 1, 1, 1, 1, 1, 1, 1], l1T)]
noncomputable def j0b : Code := (subC [1, 1, 1] body).getD .skip
theorem j0_eq (At0 : Option Addr) (nt0 : Nat) (ct0 : Nat) (At1 : Option Addr) (nt1 : Nat) (ct1 : Nat) (Q : PQ) (σ : Fr) (w : World) :
    j0 At0 nt0 ct0 At1 nt1 ct1 w (fun (bq4 : Bool) (w : World) => ∀ d : Fr, Q .ret (ov d [(4, .bool bq4)]) w) = codeW Try.prog hT 64 D (tab j0tb) [1, 1, 1] j0b (widen j0LO Q) (ov σ [(0, .slice At0 nt0 ct0), (1, .slice At1 nt1 ct1)]) w := by kernel_rfl
theorem j0_snd : ∀ c, subC [1, 1, 1] body = some c → Snd Try.prog 64 c j0T := by
  refine cut_of (hT := hT) (D := D) (l := j0tb) (b := j0b) (lo := j0LO) (by kernel_rfl) (by
    intro x hx
    simp only [j0tb, List.mem_cons, List.not_mem_nil, or_false] at hx
    subst hx
    exact l1_snd) (by kernel_rfl) (by kernel_rfl) ?_
  intro Q σ w h
  unfold j0T at h
  obtain ⟨At0, nt0, ct0, h0, hn⟩ := gSlice_elim h
  clear h
  have h := hn
  clear hn
  obtain ⟨At1, nt1, ct1, h1, hn⟩ := gSlice_elim h
  clear h
  have h := hn
  clear hn
  rw [j0_eq (σ := σ)] at h
  have e : (ov σ [(0, .slice At0 nt0 ct0), (1, .slice At1 nt1 ct1)]) = σ := ov_self (by simp [h0, h1])
  rw [e] at h
  exact h
def tb : List (List Nat × Spec) := [([0, 1, 0, 1, 1, 1, 1, 1, 1, 1, 1], l1T), ([1, 1, 1], j0T)]
theorem wp_eq (Aa0 : Option Addr) (na0 : Nat) (ca0 : Nat) (Aa1 : Option Addr) (na1 : Nat) (ca1 : Nat) (w : World) (Q : Ending → World → Prop) :
    wp Aa0 na0 ca0 Aa1 na1 ca1 w Q = codeW Try.prog hT 64 D (tab tb) [] body (topQ Try.prog hT 64 [.tmp 4] Q) (argsF [.slice Aa0 na0 ca0, .slice Aa1 na1 ca1]) w := by kernel_rfl
theorem ok (Aa0 : Option Addr) (na0 : Nat) (ca0 : Nat) (Aa1 : Option Addr) (na1 : Nat) (ca1 : Nat) (w : World) (Q : Ending → World → Prop) (h : wp Aa0 na0 ca0 Aa1 na1 ca1 w Q) : Calls Try.prog 6 #[.slice Aa0 na0 ca0, .slice Aa1 na1 ca1] w Q := by
  rw [wp_eq] at h
  exact calls_of_codeW (c := body) (rs := [.tmp 4]) Try.func6 (by kernel_rfl) (by kernel_rfl) (by kernel_rfl) (by kernel_rfl) (by kernel_rfl) (tab_snd (by
    intro x hx
    simp only [tb, List.mem_cons, List.not_mem_nil, or_false] at hx
    rcases hx with rfl | rfl
    · exact l1_snd
    · exact j0_snd)) (by kernel_rfl) h
end f_law07_DiskPlays
end Go.Proofs.Ythekjlglnmhlaaa.Rd
