/- The printed readings of some functions: each function's code reckoned by the kernel to its predicate transformer. -/
import Derived.Test.YtpokaafedpnbdaaDoorHint
namespace Go.Proofs.YtpokaafedpnbdaaDoor.Rd
open Go.Dn
set_option maxRecDepth 100000
set_option linter.unusedVariables false
namespace f_law09_WalDies
/-! skein/skeinlaw09.WalDies: function 4 -/
noncomputable def body : Code := (Tryd.f4.body).getD .skip
def j1 (xt1 : Int) (pt7 : Option Addr) (pt8 : Option Addr) (xt9 : Int) (bt10 : Bool) (At12 : Option Addr) (nt12 : Nat) (ct12 : Nat) (w : World) (Kn : Bool → World → Prop) (Kr : Bool → World → Prop) : Prop :=
  Calls Tryd.prog 16 #[.pointer pt7] w fun e16 w17 => ∃ (x18 : Int), e16 = .returned (.int .i64 x18) ∧ (
  Calls Tryd.prog 11 #[.slice At12 nt12 ct12] w17 fun e19 w20 => ∃ (A21 : Option Addr) (n21 : Nat) (c21 : Nat), e19 = .returned (.slice A21 n21 c21) ∧ (
  Calls Tryd.prog 10 #[.pointer pt8, .int .i64 (1 : Int), .slice A21 n21 c21] w20 fun e22 w23 => ∃ (x24_0 : Int) (x24_1 : Int), e22 = .returned (.tuple #[.int .i64 x24_0, .int .i64 x24_1]) ∧ (
  Calls Tryd.prog 12 #[.pointer pt8] w23 fun e25 w26 => ∃ (x27 : Int), e25 = .returned (.int .i64 x27) ∧ (
  sel bt10 (
  sel (x24_1 != (91 : Int)) (
  Kr false w26) (
  sel (x27 != (91 : Int)) (
  Kr false w26) (
  Calls Tryd.prog 16 #[.pointer pt7] w26 fun e28 w29 => ∃ (x30 : Int), e28 = .returned (.int .i64 x30) ∧ (
  sel (x30 != x18) (
  Kr false w29) (
  sel (!bt10) (
  sel (decide (x18 < (IntKind.i64.wrap (xt9 + xt1)))) (
  Calls Tryd.prog 16 #[.pointer pt7] w29 fun e31 w32 => ∃ (x33 : Int), e31 = .returned (.int .i64 x33) ∧ (
  sel (!((x27 != (0 : Int)) == (decide (x33 ≥ (IntKind.i64.wrap (xt9 + xt1)))))) (
  Kr false w32) (
  sel bt10 (
  Calls Tryd.prog 16 #[.pointer pt7] w32 fun e34 w35 => ∃ (x36 : Int), e34 = .returned (.int .i64 x36) ∧ (
  Kn true w35)) (
  Calls Tryd.prog 16 #[.pointer pt7] w32 fun e37 w38 => ∃ (x39 : Int), e37 = .returned (.int .i64 x39) ∧ (
  sel (!(x27 != (0 : Int))) (
  Calls Tryd.prog 12 #[.pointer pt8] w38 fun e40 w41 => ∃ (x42 : Int), e40 = .returned (.int .i64 x42) ∧ (
  sel (x42 != (0 : Int)) (
  Kr false w41) (
  Calls Tryd.prog 16 #[.pointer pt7] w41 fun e43 w44 => ∃ (x45 : Int), e43 = .returned (.int .i64 x45) ∧ (
  sel (x45 != x39) (
  Kr false w44) (
  Kn (x27 != (0 : Int)) w44))))) (
  Kn (x27 != (0 : Int)) w38)))))) (
  sel (!((x27 != (0 : Int)) == false)) (
  Kr false w29) (
  sel bt10 (
  Calls Tryd.prog 16 #[.pointer pt7] w29 fun e46 w47 => ∃ (x48 : Int), e46 = .returned (.int .i64 x48) ∧ (
  Kn true w47)) (
  Calls Tryd.prog 16 #[.pointer pt7] w29 fun e49 w50 => ∃ (x51 : Int), e49 = .returned (.int .i64 x51) ∧ (
  sel (!(x27 != (0 : Int))) (
  Calls Tryd.prog 12 #[.pointer pt8] w50 fun e52 w53 => ∃ (x54 : Int), e52 = .returned (.int .i64 x54) ∧ (
  sel (x54 != (0 : Int)) (
  Kr false w53) (
  Calls Tryd.prog 16 #[.pointer pt7] w53 fun e55 w56 => ∃ (x57 : Int), e55 = .returned (.int .i64 x57) ∧ (
  sel (x57 != x51) (
  Kr false w56) (
  Kn (x27 != (0 : Int)) w56))))) (
  Kn (x27 != (0 : Int)) w50)))))) (
  sel bt10 (
  Calls Tryd.prog 16 #[.pointer pt7] w29 fun e58 w59 => ∃ (x60 : Int), e58 = .returned (.int .i64 x60) ∧ (
  Kn true w59)) (
  Calls Tryd.prog 16 #[.pointer pt7] w29 fun e61 w62 => ∃ (x63 : Int), e61 = .returned (.int .i64 x63) ∧ (
  sel (!(x27 != (0 : Int))) (
  Calls Tryd.prog 12 #[.pointer pt8] w62 fun e64 w65 => ∃ (x66 : Int), e64 = .returned (.int .i64 x66) ∧ (
  sel (x66 != (0 : Int)) (
  Kr false w65) (
  Calls Tryd.prog 16 #[.pointer pt7] w65 fun e67 w68 => ∃ (x69 : Int), e67 = .returned (.int .i64 x69) ∧ (
  sel (x69 != x63) (
  Kr false w68) (
  Kn (x27 != (0 : Int)) w68))))) (
  Kn (x27 != (0 : Int)) w62))))))))) (
  sel (!bt10) (
  sel (decide (x18 < (IntKind.i64.wrap (xt9 + xt1)))) (
  Calls Tryd.prog 16 #[.pointer pt7] w26 fun e70 w71 => ∃ (x72 : Int), e70 = .returned (.int .i64 x72) ∧ (
  sel (!((x27 != (0 : Int)) == (decide (x72 ≥ (IntKind.i64.wrap (xt9 + xt1)))))) (
  Kr false w71) (
  sel bt10 (
  Calls Tryd.prog 16 #[.pointer pt7] w71 fun e73 w74 => ∃ (x75 : Int), e73 = .returned (.int .i64 x75) ∧ (
  Kn true w74)) (
  Calls Tryd.prog 16 #[.pointer pt7] w71 fun e76 w77 => ∃ (x78 : Int), e76 = .returned (.int .i64 x78) ∧ (
  sel (!(x27 != (0 : Int))) (
  Calls Tryd.prog 12 #[.pointer pt8] w77 fun e79 w80 => ∃ (x81 : Int), e79 = .returned (.int .i64 x81) ∧ (
  sel (x81 != (0 : Int)) (
  Kr false w80) (
  Calls Tryd.prog 16 #[.pointer pt7] w80 fun e82 w83 => ∃ (x84 : Int), e82 = .returned (.int .i64 x84) ∧ (
  sel (x84 != x78) (
  Kr false w83) (
  Kn (x27 != (0 : Int)) w83))))) (
  Kn (x27 != (0 : Int)) w77)))))) (
  sel (!((x27 != (0 : Int)) == false)) (
  Kr false w26) (
  sel bt10 (
  Calls Tryd.prog 16 #[.pointer pt7] w26 fun e85 w86 => ∃ (x87 : Int), e85 = .returned (.int .i64 x87) ∧ (
  Kn true w86)) (
  Calls Tryd.prog 16 #[.pointer pt7] w26 fun e88 w89 => ∃ (x90 : Int), e88 = .returned (.int .i64 x90) ∧ (
  sel (!(x27 != (0 : Int))) (
  Calls Tryd.prog 12 #[.pointer pt8] w89 fun e91 w92 => ∃ (x93 : Int), e91 = .returned (.int .i64 x93) ∧ (
  sel (x93 != (0 : Int)) (
  Kr false w92) (
  Calls Tryd.prog 16 #[.pointer pt7] w92 fun e94 w95 => ∃ (x96 : Int), e94 = .returned (.int .i64 x96) ∧ (
  sel (x96 != x90) (
  Kr false w95) (
  Kn (x27 != (0 : Int)) w95))))) (
  Kn (x27 != (0 : Int)) w89)))))) (
  sel bt10 (
  Calls Tryd.prog 16 #[.pointer pt7] w26 fun e97 w98 => ∃ (x99 : Int), e97 = .returned (.int .i64 x99) ∧ (
  Kn true w98)) (
  Calls Tryd.prog 16 #[.pointer pt7] w26 fun e100 w101 => ∃ (x102 : Int), e100 = .returned (.int .i64 x102) ∧ (
  sel (!(x27 != (0 : Int))) (
  Calls Tryd.prog 12 #[.pointer pt8] w101 fun e103 w104 => ∃ (x105 : Int), e103 = .returned (.int .i64 x105) ∧ (
  sel (x105 != (0 : Int)) (
  Kr false w104) (
  Calls Tryd.prog 16 #[.pointer pt7] w104 fun e106 w107 => ∃ (x108 : Int), e106 = .returned (.int .i64 x108) ∧ (
  sel (x108 != x102) (
  Kr false w107) (
  Kn (x27 != (0 : Int)) w107))))) (
  Kn (x27 != (0 : Int)) w101)))))))))
def l0 : Nat → Int → Option Addr → Option Addr → Int → Bool → Option Addr → Nat → Nat → Int → Int → World → (Bool → World → Prop) → (Bool → World → Prop) → Prop
  | 0, _, _, _, _, _, _, _, _, _, _, _, _, _ => False
  | k + 1, xt1, pt7, pt8, xt9, bt10, At55, nt55, ct55, xt56, xt57, w, K0, Kr =>
    sel (decide (xt57 < xt56)) (
    optB At55 fun a14 =>
    req (decide (0 ≤ xt57 ∧ xt57 < (nt55 : Int))) <|
    ldS w (a14.add (xt57.toNat * 1)) fun A15 n15 c15 =>
    sel (decide ((n15 : Int) > (100 : Int))) (
    req (decide (0 ≤ (100 : Int) ∧ (100 : Int) ≤ (c15 : Int))) <|
    j1 xt1 pt7 pt8 xt9 bt10 (slA A15 0 c15 1) (100 - 0) (c15 - 0) w (fun (b109 : Bool) (w110 : World) => ∀ _ : Fr,
    l0 k xt1 pt7 pt8 xt9 b109 At55 nt55 ct55 xt56 (IntKind.i64.wrap (xt57 + (1 : Int))) w110 K0 Kr) (fun (b111 : Bool) (w112 : World) => ∀ _ : Fr,
    Kr b111 w112)) (
    j1 xt1 pt7 pt8 xt9 bt10 A15 n15 c15 w (fun (b113 : Bool) (w114 : World) => ∀ _ : Fr,
    l0 k xt1 pt7 pt8 xt9 b113 At55 nt55 ct55 xt56 (IntKind.i64.wrap (xt57 + (1 : Int))) w114 K0 Kr) (fun (b115 : Bool) (w116 : World) => ∀ _ : Fr,
    Kr b115 w116))) (
    K0 bt10 w)
def wp (Aa0 : Option Addr) (na0 : Nat) (ca0 : Nat) (xa1 : Int) (xa2 : Int) (w : World) (Q : Ending → World → Prop) : Prop :=
  Calls Tryd.prog 8 #[] w fun e1 w2 => ∃ (b3 : Bool), e1 = .returned (.bool b3) ∧ (
  sel (!b3) (
  Q (.returned (.bool false)) w2) (
  Calls Tryd.prog 9 #[.int .i64 (6 : Int)] w2 fun e4 w5 => ∃ (p6_0 : Option Addr) (p6_1 : Option Addr), e4 = .returned (.tuple #[.pointer p6_0, .pointer p6_1]) ∧ (
  sel p6_0.isNone (
  Q (.returned (.bool false)) w5) (
  sel p6_1.isNone (
  Q (.returned (.bool false)) w5) (
  sel (decide (xa2 < (1 : Int))) (
  Q (.returned (.bool true)) w5) (
  sel (decide (xa2 > (3 : Int))) (
  Q (.returned (.bool true)) w5) (
  sel (decide (xa1 < (1 : Int))) (
  Q (.returned (.bool true)) w5) (
  sel (decide (xa1 > (1000 : Int))) (
  Q (.returned (.bool true)) w5) (
  Calls Tryd.prog 16 #[.pointer p6_0] w5 fun e7 w8 => ∃ (x9 : Int), e7 = .returned (.int .i64 x9) ∧ (
  alW w8 (.cells #[.int .i64 (IntKind.i64.wrap (x9 + xa1)), .int .i64 xa2] 51) fun B10 w11 =>
  Calls Tryd.prog 14 #[.pointer p6_0, .slice (some (⟨B10, 0, Option.none⟩ : Addr)) 1 1] w11 fun e12 w13 => e12 = .returned (.tuple #[]) ∧ (
  ∃ k130 : Nat, l0 k130 xa1 p6_0 p6_1 x9 false Aa0 na0 ca0 (na0 : Int) (0 : Int) w13 (fun (b117 : Bool) (w118 : World) => ∀ _ : Fr,
  sel (!b117) (
  Q (.returned (.bool true)) w118) (
  Calls Tryd.prog 16 #[.pointer p6_0] w118 fun e119 w120 => ∃ (x121 : Int), e119 = .returned (.int .i64 x121) ∧ (
  Calls Tryd.prog 13 #[.pointer p6_1] w120 fun e122 w123 => ∃ (x124 : Int), e122 = .returned (.int .i64 x124) ∧ (
  sel (x124 == (91 : Int)) (
  Calls Tryd.prog 16 #[.pointer p6_0] w123 fun e125 w126 => ∃ (x127 : Int), e125 = .returned (.int .i64 x127) ∧ (
  Q (.returned (.bool (x127 == x121))) w126)) (
  Q (.returned (.bool false)) w123))))) (fun (b128 : Bool) (w129 : World) => ∀ _ : Fr,
  Q (.returned (.bool b128)) w129))))))))))))
def D : Nat → Option DH := dtab []
def j1LO : LO := ⟨[1, 7, 8, 9, 10, 55, 56, 57], [6], [], []⟩
def j1T : Spec := fun Q σ w =>
  gInt .i64 (σ 1) fun xt1 =>
  gPtr (σ 7) fun pt7 =>
  gPtr (σ 8) fun pt8 =>
  gInt .i64 (σ 9) fun xt9 =>
  gBool (σ 10) fun bt10 =>
  gSlice (σ 12) fun At12 nt12 ct12 =>
  j1 xt1 pt7 pt8 xt9 bt10 At12 nt12 ct12 w (fun (bq10 : Bool) (w : World) => ∀ d : Fr, Q .normal (ov d [(1, .int .i64 xt1), (7, .pointer pt7), (8, .pointer pt8), (9, .int .i64 xt9), (10, .bool bq10), (55, σ 55), (56, σ 56), (57, σ 57)]) w) (fun (bq6 : Bool) (w : World) => ∀ d : Fr, Q .ret (ov d [(6, .bool bq6)]) w)
def j1tb : List (List Nat × Spec) := []
noncomputable def j1b : Code := (subC [1, 1, 0, 0, 1, 1, 0, 0, 1, 0, 1, 1, 1, 1, 1, 1, 1, 1] body).getD .skip
theorem j1_eq (xt1 : Int) (pt7 : Option Addr) (pt8 : Option Addr) (xt9 : Int) (bt10 : Bool) (At12 : Option Addr) (nt12 : Nat) (ct12 : Nat) (Q : PQ) (σ : Fr) (w : World) :
    j1 xt1 pt7 pt8 xt9 bt10 At12 nt12 ct12 w (fun (bq10 : Bool) (w : World) => ∀ d : Fr, Q .normal (ov d [(1, .int .i64 xt1), (7, .pointer pt7), (8, .pointer pt8), (9, .int .i64 xt9), (10, .bool bq10), (55, σ 55), (56, σ 56), (57, σ 57)]) w) (fun (bq6 : Bool) (w : World) => ∀ d : Fr, Q .ret (ov d [(6, .bool bq6)]) w) = codeW Tryd.prog hT 146 D (tab j1tb) [1, 1, 0, 0, 1, 1, 0, 0, 1, 0, 1, 1, 1, 1, 1, 1, 1, 1] j1b (widen j1LO Q) (ov σ [(1, .int .i64 xt1), (7, .pointer pt7), (8, .pointer pt8), (9, .int .i64 xt9), (10, .bool bt10), (12, .slice At12 nt12 ct12)]) w := by cases bt10 <;> kernel_rfl
theorem j1_snd : ∀ c, subC [1, 1, 0, 0, 1, 1, 0, 0, 1, 0, 1, 1, 1, 1, 1, 1, 1, 1] body = some c → Snd Tryd.prog 146 c j1T := by
  refine cut_of (hT := hT) (D := D) (l := j1tb) (b := j1b) (lo := j1LO) (by kernel_rfl) (by
    intro x hx
    simp only [j1tb, List.not_mem_nil] at hx
    ) (by kernel_rfl) (by kernel_rfl) ?_
  intro Q σ w h
  unfold j1T at h
  obtain ⟨xt1, h1, hn⟩ := gInt_elim h
  clear h
  have h := hn
  clear hn
  obtain ⟨pt7, h7, hn⟩ := gPtr_elim h
  clear h
  have h := hn
  clear hn
  obtain ⟨pt8, h8, hn⟩ := gPtr_elim h
  clear h
  have h := hn
  clear hn
  obtain ⟨xt9, h9, hn⟩ := gInt_elim h
  clear h
  have h := hn
  clear hn
  obtain ⟨bt10, h10, hn⟩ := gBool_elim h
  clear h
  have h := hn
  clear hn
  obtain ⟨At12, nt12, ct12, h12, hn⟩ := gSlice_elim h
  clear h
  have h := hn
  clear hn
  rw [j1_eq (σ := σ)] at h
  have e : (ov σ [(1, .int .i64 xt1), (7, .pointer pt7), (8, .pointer pt8), (9, .int .i64 xt9), (10, .bool bt10), (12, .slice At12 nt12 ct12)]) = σ := ov_self (by simp [h1, h7, h8, h9, h10, h12])
  rw [e] at h
  exact h
def l0LO : LO := ⟨[], [6], [(0, [7, 8, 10])], []⟩
def l0Tk (k : Nat) : Spec := fun Q σ w =>
  gInt .i64 (σ 1) fun xt1 =>
  gPtr (σ 7) fun pt7 =>
  gPtr (σ 8) fun pt8 =>
  gInt .i64 (σ 9) fun xt9 =>
  gBool (σ 10) fun bt10 =>
  gSlice (σ 55) fun At55 nt55 ct55 =>
  gInt .i64 (σ 56) fun xt56 =>
  gInt .i64 (σ 57) fun xt57 =>
  l0 k xt1 pt7 pt8 xt9 bt10 At55 nt55 ct55 xt56 xt57 w (fun (bq10 : Bool) (w : World) => ∀ d : Fr, Q (.exit 0) (ov d [(7, .pointer pt7), (8, .pointer pt8), (10, .bool bq10)]) w) (fun (bq6 : Bool) (w : World) => ∀ d : Fr, Q .ret (ov d [(6, .bool bq6)]) w)
def l0T : Spec := fun Q σ w => ∃ k, l0Tk k Q σ w
def l0tb : List (List Nat × Spec) := [([1, 1, 0, 0, 1, 1, 0, 0, 1, 0, 1, 1, 1, 1, 1, 1, 1, 1], j1T)]
noncomputable def l0b : Code := (subC [0, 0, 1, 0, 1, 1, 1, 1, 1, 1, 1, 1] body).getD .skip
theorem l0_eq (k : Nat) (xt1 : Int) (pt7 : Option Addr) (pt8 : Option Addr) (xt9 : Int) (bt10 : Bool) (At55 : Option Addr) (nt55 : Nat) (ct55 : Nat) (xt56 : Int) (xt57 : Int) (Q : PQ) (σ : Fr) (w : World) :
    l0 (k + 1) xt1 pt7 pt8 xt9 bt10 At55 nt55 ct55 xt56 xt57 w (fun (bq10 : Bool) (w : World) => ∀ d : Fr, Q (.exit 0) (ov d [(7, .pointer pt7), (8, .pointer pt8), (10, .bool bq10)]) w) (fun (bq6 : Bool) (w : World) => ∀ d : Fr, Q .ret (ov d [(6, .bool bq6)]) w) = codeW Tryd.prog hT 146 D (tab l0tb) [0, 0, 1, 0, 1, 1, 1, 1, 1, 1, 1, 1] l0b (thenQ (l0Tk k Q) (widen l0LO Q)) (ov σ [(1, .int .i64 xt1), (7, .pointer pt7), (8, .pointer pt8), (9, .int .i64 xt9), (10, .bool bt10), (55, .slice At55 nt55 ct55), (56, .int .i64 xt56), (57, .int .i64 xt57)]) w := by cases bt10 <;> kernel_rfl
theorem l0_snd : ∀ c, subC [0, 1, 0, 1, 1, 1, 1, 1, 1, 1, 1] body = some c → Snd Tryd.prog 146 c l0T := by
  refine loop_of (hT := hT) (D := D) (l := l0tb) (b := l0b) (lo := l0LO) (by kernel_rfl) (by
    intro x hx
    simp only [l0tb, List.mem_cons, List.not_mem_nil, or_false] at hx
    subst hx
    exact j1_snd) (by kernel_rfl) (by kernel_rfl) ?_ ?_
  · intro Q σ w h
    unfold l0Tk at h
    obtain ⟨xt1, h1, hn⟩ := gInt_elim h
    clear h
    have h := hn
    clear hn
    obtain ⟨pt7, h7, hn⟩ := gPtr_elim h
    clear h
    have h := hn
    clear hn
    obtain ⟨pt8, h8, hn⟩ := gPtr_elim h
    clear h
    have h := hn
    clear hn
    obtain ⟨xt9, h9, hn⟩ := gInt_elim h
    clear h
    have h := hn
    clear hn
    obtain ⟨bt10, h10, hn⟩ := gBool_elim h
    clear h
    have h := hn
    clear hn
    obtain ⟨At55, nt55, ct55, h55, hn⟩ := gSlice_elim h
    clear h
    have h := hn
    clear hn
    obtain ⟨xt56, h56, hn⟩ := gInt_elim h
    clear h
    have h := hn
    clear hn
    obtain ⟨xt57, h57, hn⟩ := gInt_elim h
    clear h
    have h := hn
    clear hn
    exact h
  · intro k Q σ w h
    unfold l0Tk at h
    obtain ⟨xt1, h1, hn⟩ := gInt_elim h
    clear h
    have h := hn
    clear hn
    obtain ⟨pt7, h7, hn⟩ := gPtr_elim h
    clear h
    have h := hn
    clear hn
    obtain ⟨pt8, h8, hn⟩ := gPtr_elim h
    clear h
    have h := hn
    clear hn
    obtain ⟨xt9, h9, hn⟩ := gInt_elim h
    clear h
    have h := hn
    clear hn
    obtain ⟨bt10, h10, hn⟩ := gBool_elim h
    clear h
    have h := hn
    clear hn
    obtain ⟨At55, nt55, ct55, h55, hn⟩ := gSlice_elim h
    clear h
    have h := hn
    clear hn
    obtain ⟨xt56, h56, hn⟩ := gInt_elim h
    clear h
    have h := hn
    clear hn
    obtain ⟨xt57, h57, hn⟩ := gInt_elim h
    clear h
    have h := hn
    clear hn
    rw [l0_eq (σ := σ)] at h
    have e : (ov σ [(1, .int .i64 xt1), (7, .pointer pt7), (8, .pointer pt8), (9, .int .i64 xt9), (10, .bool bt10), (55, .slice At55 nt55 ct55), (56, .int .i64 xt56), (57, .int .i64 xt57)]) = σ := ov_self (by simp [h1, h7, h8, h9, h10, h55, h56, h57])
    rw [e] at h
    exact h
def tb : List (List Nat × Spec) := [([1, 1, 0, 0, 1, 1, 0, 0, 1, 0, 1, 1, 1, 1, 1, 1, 1, 1], j1T), ([0, 1, 0, 1, 1, 1, 1, 1, 1, 1, 1], l0T)]
theorem wp_eq (Aa0 : Option Addr) (na0 : Nat) (ca0 : Nat) (xa1 : Int) (xa2 : Int) (w : World) (Q : Ending → World → Prop) :
    wp Aa0 na0 ca0 xa1 xa2 w Q = codeW Tryd.prog hT 146 D (tab tb) [] body (topQ Tryd.prog hT 146 [.tmp 6] Q) (argsF [.slice Aa0 na0 ca0, .int .i64 xa1, .int .i64 xa2]) w := by kernel_rfl
theorem ok (Aa0 : Option Addr) (na0 : Nat) (ca0 : Nat) (xa1 : Int) (xa2 : Int) (w : World) (Q : Ending → World → Prop) (h : wp Aa0 na0 ca0 xa1 xa2 w Q) : Calls Tryd.prog 4 #[.slice Aa0 na0 ca0, .int .i64 xa1, .int .i64 xa2] w Q := by
  rw [wp_eq] at h
  exact calls_of_codeW (c := body) (rs := [.tmp 6]) Tryd.func4 (by kernel_rfl) (by kernel_rfl) (by kernel_rfl) (by kernel_rfl) (by kernel_rfl) (tab_snd (by
    intro x hx
    simp only [tb, List.mem_cons, List.not_mem_nil, or_false] at hx
    rcases hx with rfl | rfl
    · exact j1_snd
    · exact l0_snd)) (by kernel_rfl) h
end f_law09_WalDies
end Go.Proofs.YtpokaafedpnbdaaDoor.Rd
