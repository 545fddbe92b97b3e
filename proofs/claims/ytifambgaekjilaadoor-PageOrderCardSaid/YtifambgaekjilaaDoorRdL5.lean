/- The printed readings of some functions: each function's code reckoned by the kernel to its predicate transformer. -/
import Derived.Test.YtifambgaekjilaaDoorHint
namespace Go.Proofs.YtifambgaekjilaaDoor.Rd
open Go.Dn
set_option maxRecDepth 100000
set_option linter.unusedVariables false
namespace f_law08_PageOrder
/-! skein/skeinlaw08.PageOrder: function 5 -/
noncomputable def body : Code := (Tryd.f5.body).getD .skip
def j1 (At9 : Option Addr) (nt9 : Nat) (ct9 : Nat) (xt10 : Int) (At11 : Option Addr) (nt11 : Nat) (ct11 : Nat) (w : World) (Kn : World → Prop) (Kr : Bool → World → Prop) : Prop :=
  optB At9 fun a18 =>
  req (decide (0 ≤ xt10 ∧ xt10 < (nt9 : Int))) <|
  ldS w (a18.add (xt10.toNat * 1)) fun A19 n19 c19 =>
  Calls Tryd.prog 14 #[.slice A19 n19 c19, .slice At11 nt11 ct11] w fun e20 w21 => ∃ (b22 : Bool), e20 = .returned (.bool b22) ∧ (
  sel (!b22) (
  Kr false w21) (
  Kn  w21))
def l0 : Nat → Int → Option Addr → Nat → Nat → Option Addr → Nat → Nat → Option Addr → Nat → Nat → Int → Int → World → (World → Prop) → (Bool → World → Prop) → Prop
  | 0, _, _, _, _, _, _, _, _, _, _, _, _, _, _, _ => False
  | k + 1, xt1, At2, nt2, ct2, At8, nt8, ct8, At9, nt9, ct9, xt42, xt43, w, K0, Kr =>
    sel (decide (xt43 < xt42)) (
    optB At8 fun a16 =>
    req (decide (0 ≤ xt43 ∧ xt43 < (nt8 : Int))) <|
    ldS w (a16.add (xt43.toNat * 1)) fun A17 n17 c17 =>
    sel (xt43 == xt1) (
    j1 At9 nt9 ct9 xt43 At2 nt2 ct2 w (fun (w23 : World) => ∀ _ : Fr,
    l0 k xt1 At2 nt2 ct2 At8 nt8 ct8 At9 nt9 ct9 xt42 (IntKind.i64.wrap (xt43 + (1 : Int))) w23 K0 Kr) (fun (b24 : Bool) (w25 : World) => ∀ _ : Fr,
    Kr b24 w25)) (
    j1 At9 nt9 ct9 xt43 A17 n17 c17 w (fun (w26 : World) => ∀ _ : Fr,
    l0 k xt1 At2 nt2 ct2 At8 nt8 ct8 At9 nt9 ct9 xt42 (IntKind.i64.wrap (xt43 + (1 : Int))) w26 K0 Kr) (fun (b27 : Bool) (w28 : World) => ∀ _ : Fr,
    Kr b27 w28))) (
    K0  w)
def l3 : Nat → Int → Option Addr → Nat → Nat → Option Addr → Nat → Nat → Option Addr → Nat → Nat → Int → Int → World → (World → Prop) → (Bool → World → Prop) → Prop
  | 0, _, _, _, _, _, _, _, _, _, _, _, _, _, _, _ => False
  | k + 1, xt1, At2, nt2, ct2, At8, nt8, ct8, At12, nt12, ct12, xt75, xt76, w, K2, Kr =>
    sel (decide (xt76 < xt75)) (
    drW w fun w42 =>
    ∃ S43 : World → Prop, S43 w42 ∧ (
    sel (decide (xt76 < xt1)) (
    optB At12 fun a44 =>
    req (decide (0 ≤ xt76 ∧ xt76 < (nt12 : Int))) <|
    hdS S43 (a44.add (xt76.toNat * 1)) fun A45 n45 c45 =>
    optB At8 fun a46 =>
    req (decide (0 ≤ xt76 ∧ xt76 < (nt8 : Int))) <|
    hdS S43 (a46.add (xt76.toNat * 1)) fun A47 n47 c47 =>
    Calls Tryd.prog 14 #[.slice A45 n45 c45, .slice A47 n47 c47] w42 fun e48 w49 => ∃ (b50 : Bool), e48 = .returned (.bool b50) ∧ (
    S43 w49 ∧ (
    sel (!b50) (
    S43 w49 ∧ (
    Kr false w49)) (
    sel (xt76 == xt1) (
    optB At12 fun a51 =>
    req (decide (0 ≤ xt76 ∧ xt76 < (nt12 : Int))) <|
    hdS S43 (a51.add (xt76.toNat * 1)) fun A52 n52 c52 =>
    Calls Tryd.prog 14 #[.slice A52 n52 c52, .slice At2 nt2 ct2] w49 fun e53 w54 => ∃ (b55 : Bool), e53 = .returned (.bool b55) ∧ (
    S43 w54 ∧ (
    sel (!b55) (
    Kr false w54) (
    sel (decide (xt76 > xt1)) (
    optB At12 fun a56 =>
    req (decide (0 ≤ xt76 ∧ xt76 < (nt12 : Int))) <|
    hdS S43 (a56.add (xt76.toNat * 1)) fun A57 n57 c57 =>
    optB At8 fun a58 =>
    req (decide (0 ≤ (IntKind.i64.wrap (xt76 - (1 : Int))) ∧ (IntKind.i64.wrap (xt76 - (1 : Int))) < (nt8 : Int))) <|
    hdS S43 (a58.add ((IntKind.i64.wrap (xt76 - (1 : Int))).toNat * 1)) fun A59 n59 c59 =>
    Calls Tryd.prog 14 #[.slice A57 n57 c57, .slice A59 n59 c59] w54 fun e60 w61 => ∃ (b62 : Bool), e60 = .returned (.bool b62) ∧ (
    sel (!b62) (
    Kr false w61) (
    l3 k xt1 At2 nt2 ct2 At8 nt8 ct8 At12 nt12 ct12 xt75 (IntKind.i64.wrap (xt76 + (1 : Int))) w61 K2 Kr))) (
    l3 k xt1 At2 nt2 ct2 At8 nt8 ct8 At12 nt12 ct12 xt75 (IntKind.i64.wrap (xt76 + (1 : Int))) w54 K2 Kr))))) (
    S43 w49 ∧ (
    sel (decide (xt76 > xt1)) (
    optB At12 fun a63 =>
    req (decide (0 ≤ xt76 ∧ xt76 < (nt12 : Int))) <|
    hdS S43 (a63.add (xt76.toNat * 1)) fun A64 n64 c64 =>
    optB At8 fun a65 =>
    req (decide (0 ≤ (IntKind.i64.wrap (xt76 - (1 : Int))) ∧ (IntKind.i64.wrap (xt76 - (1 : Int))) < (nt8 : Int))) <|
    hdS S43 (a65.add ((IntKind.i64.wrap (xt76 - (1 : Int))).toNat * 1)) fun A66 n66 c66 =>
    Calls Tryd.prog 14 #[.slice A64 n64 c64, .slice A66 n66 c66] w49 fun e67 w68 => ∃ (b69 : Bool), e67 = .returned (.bool b69) ∧ (
    sel (!b69) (
    Kr false w68) (
    l3 k xt1 At2 nt2 ct2 At8 nt8 ct8 At12 nt12 ct12 xt75 (IntKind.i64.wrap (xt76 + (1 : Int))) w68 K2 Kr))) (
    l3 k xt1 At2 nt2 ct2 At8 nt8 ct8 At12 nt12 ct12 xt75 (IntKind.i64.wrap (xt76 + (1 : Int))) w49 K2 Kr))))))) (
    S43 w42 ∧ (
    sel (xt76 == xt1) (
    optB At12 fun a70 =>
    req (decide (0 ≤ xt76 ∧ xt76 < (nt12 : Int))) <|
    hdS S43 (a70.add (xt76.toNat * 1)) fun A71 n71 c71 =>
    Calls Tryd.prog 14 #[.slice A71 n71 c71, .slice At2 nt2 ct2] w42 fun e72 w73 => ∃ (b74 : Bool), e72 = .returned (.bool b74) ∧ (
    S43 w73 ∧ (
    sel (!b74) (
    Kr false w73) (
    sel (decide (xt76 > xt1)) (
    optB At12 fun a75 =>
    req (decide (0 ≤ xt76 ∧ xt76 < (nt12 : Int))) <|
    hdS S43 (a75.add (xt76.toNat * 1)) fun A76 n76 c76 =>
    optB At8 fun a77 =>
    req (decide (0 ≤ (IntKind.i64.wrap (xt76 - (1 : Int))) ∧ (IntKind.i64.wrap (xt76 - (1 : Int))) < (nt8 : Int))) <|
    hdS S43 (a77.add ((IntKind.i64.wrap (xt76 - (1 : Int))).toNat * 1)) fun A78 n78 c78 =>
    Calls Tryd.prog 14 #[.slice A76 n76 c76, .slice A78 n78 c78] w73 fun e79 w80 => ∃ (b81 : Bool), e79 = .returned (.bool b81) ∧ (
    sel (!b81) (
    Kr false w80) (
    l3 k xt1 At2 nt2 ct2 At8 nt8 ct8 At12 nt12 ct12 xt75 (IntKind.i64.wrap (xt76 + (1 : Int))) w80 K2 Kr))) (
    l3 k xt1 At2 nt2 ct2 At8 nt8 ct8 At12 nt12 ct12 xt75 (IntKind.i64.wrap (xt76 + (1 : Int))) w73 K2 Kr))))) (
    S43 w42 ∧ (
    sel (decide (xt76 > xt1)) (
    optB At12 fun a82 =>
    req (decide (0 ≤ xt76 ∧ xt76 < (nt12 : Int))) <|
    hdS S43 (a82.add (xt76.toNat * 1)) fun A83 n83 c83 =>
    optB At8 fun a84 =>
    req (decide (0 ≤ (IntKind.i64.wrap (xt76 - (1 : Int))) ∧ (IntKind.i64.wrap (xt76 - (1 : Int))) < (nt8 : Int))) <|
    hdS S43 (a84.add ((IntKind.i64.wrap (xt76 - (1 : Int))).toNat * 1)) fun A85 n85 c85 =>
    Calls Tryd.prog 14 #[.slice A83 n83 c83, .slice A85 n85 c85] w42 fun e86 w87 => ∃ (b88 : Bool), e86 = .returned (.bool b88) ∧ (
    sel (!b88) (
    Kr false w87) (
    l3 k xt1 At2 nt2 ct2 At8 nt8 ct8 At12 nt12 ct12 xt75 (IntKind.i64.wrap (xt76 + (1 : Int))) w87 K2 Kr))) (
    l3 k xt1 At2 nt2 ct2 At8 nt8 ct8 At12 nt12 ct12 xt75 (IntKind.i64.wrap (xt76 + (1 : Int))) w42 K2 Kr))))))) (
    K2  w)
def j2 (xt1 : Int) (At2 : Option Addr) (nt2 : Nat) (ct2 : Nat) (pt7 : Option Addr) (At8 : Option Addr) (nt8 : Nat) (ct8 : Nat) (w : World) (Kr : Bool → World → Prop) : Prop :=
  Calls Tryd.prog 20 #[.pointer pt7, .int .i64 xt1, .slice At2 nt2 ct2] w fun e30 w31 => ∃ (x32 : Int), e30 = .returned (.int .i64 x32) ∧ (
  sel (x32 != (0 : Int)) (
  Calls Tryd.prog 17 #[.pointer pt7] w31 fun e33 w34 => ∃ (A35 : Option Addr) (n35 : Nat) (c35 : Nat), e33 = .returned (.slice A35 n35 c35) ∧ (
  Calls Tryd.prog 23 #[.slice A35 n35 c35, .slice At8 nt8 ct8] w34 fun e36 w37 => ∃ (b38 : Bool), e36 = .returned (.bool b38) ∧ (
  Kr b38 w37))) (
  Calls Tryd.prog 17 #[.pointer pt7] w31 fun e39 w40 => ∃ (A41 : Option Addr) (n41 : Nat) (c41 : Nat), e39 = .returned (.slice A41 n41 c41) ∧ (
  ∃ k92 : Nat, l3 k92 xt1 At2 nt2 ct2 At8 nt8 ct8 A41 n41 c41 (n41 : Int) (0 : Int) w40 (fun (w89 : World) => ∀ _ : Fr,
  Kr ((n41 : Int) == (IntKind.i64.wrap ((nt8 : Int) + (1 : Int)))) w89) (fun (b90 : Bool) (w91 : World) => ∀ _ : Fr,
  Kr b90 w91))))
def wp (Aa0 : Option Addr) (na0 : Nat) (ca0 : Nat) (xa1 : Int) (Aa2 : Option Addr) (na2 : Nat) (ca2 : Nat) (w : World) (Q : Ending → World → Prop) : Prop :=
  Calls Tryd.prog 16 #[.slice Aa0 na0 ca0] w fun e1 w2 => ∃ (p3 : Option Addr), e1 = .returned (.pointer p3) ∧ (
  sel p3.isNone (
  Q (.returned (.bool false)) w2) (
  Calls Tryd.prog 7 #[] w2 fun e4 w5 => ∃ (b6 : Bool), e4 = .returned (.bool b6) ∧ (
  sel (!b6) (
  Q (.returned (.bool false)) w5) (
  Calls Tryd.prog 17 #[.pointer p3] w5 fun e7 w8 => ∃ (A9 : Option Addr) (n9 : Nat) (c9 : Nat), e7 = .returned (.slice A9 n9 c9) ∧ (
  sel (decide (xa1 ≥ (0 : Int))) (
  sel (decide (xa1 < (n9 : Int))) (
  Calls Tryd.prog 24 #[.pointer p3, .int .i64 xa1, .slice Aa2 na2 ca2] w8 fun e10 w11 => ∃ (x12 : Int), e10 = .returned (.int .i64 x12) ∧ (
  sel (x12 == (0 : Int)) (
  Calls Tryd.prog 17 #[.pointer p3] w11 fun e13 w14 => ∃ (A15 : Option Addr) (n15 : Nat) (c15 : Nat), e13 = .returned (.slice A15 n15 c15) ∧ (
  ∃ k97 : Nat, l0 k97 xa1 Aa2 na2 ca2 A9 n9 c9 A15 n15 c15 (n9 : Int) (0 : Int) w14 (fun (w29 : World) => ∀ _ : Fr,
  j2 xa1 Aa2 na2 ca2 p3 A15 n15 c15 w29 (fun (b93 : Bool) (w94 : World) => ∀ _ : Fr,
  Q (.returned (.bool b93)) w94)) (fun (b95 : Bool) (w96 : World) => ∀ _ : Fr,
  Q (.returned (.bool b95)) w96))) (
  j2 xa1 Aa2 na2 ca2 p3 A9 n9 c9 w11 (fun (b98 : Bool) (w99 : World) => ∀ _ : Fr,
  Q (.returned (.bool b98)) w99)))) (
  j2 xa1 Aa2 na2 ca2 p3 A9 n9 c9 w8 (fun (b100 : Bool) (w101 : World) => ∀ _ : Fr,
  Q (.returned (.bool b100)) w101))) (
  j2 xa1 Aa2 na2 ca2 p3 A9 n9 c9 w8 (fun (b102 : Bool) (w103 : World) => ∀ _ : Fr,
  Q (.returned (.bool b102)) w103)))))))
def D : Nat → Option DH := dtab [(23, .held [.fst 0, .fst 1, .fst 2, .fst 3, .fst 4, .fst 5, .fst 6, .fst 7, .fst 8, .fst 9, .fst 10, .fst 11, .eff 12, .fst 13, .fst 14, .fst 15, .fst 16, .fst 17, .fst 18, .fst 19, .fst 20, .fst 21, .fst 22, .fst 23, .fst 24, .eff 25, .fst 26, .fst 27, .fst 28, .fst 29, .fst 30, .fst 31, .fst 32, .fst 33, .fst 34, .fst 35, .fst 36, .fst 37, .fst 38, .fst 39, .fst 40, .fst 41, .fst 42] [.eff 43, .fst 44, .fst 45, .fst 46])]
def j1LO : LO := ⟨[1, 2, 7, 8, 9, 42, 43], [6], [], []⟩
def j1T : Spec := fun Q σ w =>
  gSlice (σ 9) fun At9 nt9 ct9 =>
  gInt .i64 (σ 10) fun xt10 =>
  gSlice (σ 11) fun At11 nt11 ct11 =>
  j1 At9 nt9 ct9 xt10 At11 nt11 ct11 w (fun (w : World) => ∀ d : Fr, Q .normal (ov d [(1, σ 1), (2, σ 2), (7, σ 7), (8, σ 8), (9, .slice At9 nt9 ct9), (42, σ 42), (43, σ 43)]) w) (fun (bq6 : Bool) (w : World) => ∀ d : Fr, Q .ret (ov d [(6, .bool bq6)]) w)
def j1tb : List (List Nat × Spec) := []
noncomputable def j1b : Code := (subC [1, 1, 1, 0, 0, 1, 1, 0, 0, 1, 0, 1, 0, 1, 0, 1, 1, 1, 1] body).getD .skip
theorem j1_eq (At9 : Option Addr) (nt9 : Nat) (ct9 : Nat) (xt10 : Int) (At11 : Option Addr) (nt11 : Nat) (ct11 : Nat) (Q : PQ) (σ : Fr) (w : World) :
    j1 At9 nt9 ct9 xt10 At11 nt11 ct11 w (fun (w : World) => ∀ d : Fr, Q .normal (ov d [(1, σ 1), (2, σ 2), (7, σ 7), (8, σ 8), (9, .slice At9 nt9 ct9), (42, σ 42), (43, σ 43)]) w) (fun (bq6 : Bool) (w : World) => ∀ d : Fr, Q .ret (ov d [(6, .bool bq6)]) w) = codeW Tryd.prog hT 133 D (tab j1tb) [1, 1, 1, 0, 0, 1, 1, 0, 0, 1, 0, 1, 0, 1, 0, 1, 1, 1, 1] j1b (widen j1LO Q) (ov σ [(9, .slice At9 nt9 ct9), (10, .int .i64 xt10), (11, .slice At11 nt11 ct11)]) w := by kernel_rfl
theorem j1_snd : ∀ c, subC [1, 1, 1, 0, 0, 1, 1, 0, 0, 1, 0, 1, 0, 1, 0, 1, 1, 1, 1] body = some c → Snd Tryd.prog 133 c j1T := by
  refine cut_of (hT := hT) (D := D) (l := j1tb) (b := j1b) (lo := j1LO) (by kernel_rfl) (by
    intro x hx
    simp only [j1tb, List.not_mem_nil] at hx
    ) (by kernel_rfl) (by kernel_rfl) ?_
  intro Q σ w h
  unfold j1T at h
  obtain ⟨At9, nt9, ct9, h9, hn⟩ := gSlice_elim h
  clear h
  have h := hn
  clear hn
  obtain ⟨xt10, h10, hn⟩ := gInt_elim h
  clear h
  have h := hn
  clear hn
  obtain ⟨At11, nt11, ct11, h11, hn⟩ := gSlice_elim h
  clear h
  have h := hn
  clear hn
  rw [j1_eq (σ := σ)] at h
  have e : (ov σ [(9, .slice At9 nt9 ct9), (10, .int .i64 xt10), (11, .slice At11 nt11 ct11)]) = σ := ov_self (by simp [h9, h10, h11])
  rw [e] at h
  exact h
def l0LO : LO := ⟨[], [6], [(0, [1, 2, 7, 9])], []⟩
def l0Tk (k : Nat) : Spec := fun Q σ w =>
  gInt .i64 (σ 1) fun xt1 =>
  gSlice (σ 2) fun At2 nt2 ct2 =>
  gSlice (σ 8) fun At8 nt8 ct8 =>
  gSlice (σ 9) fun At9 nt9 ct9 =>
  gInt .i64 (σ 42) fun xt42 =>
  gInt .i64 (σ 43) fun xt43 =>
  l0 k xt1 At2 nt2 ct2 At8 nt8 ct8 At9 nt9 ct9 xt42 xt43 w (fun (w : World) => ∀ d : Fr, Q (.exit 0) (ov d [(1, .int .i64 xt1), (2, .slice At2 nt2 ct2), (7, σ 7), (9, .slice At9 nt9 ct9)]) w) (fun (bq6 : Bool) (w : World) => ∀ d : Fr, Q .ret (ov d [(6, .bool bq6)]) w)
def l0T : Spec := fun Q σ w => ∃ k, l0Tk k Q σ w
def l0tb : List (List Nat × Spec) := [([1, 1, 1, 0, 0, 1, 1, 0, 0, 1, 0, 1, 0, 1, 0, 1, 1, 1, 1], j1T)]
noncomputable def l0b : Code := (subC [0, 0, 1, 0, 1, 0, 1, 0, 1, 1, 1, 1] body).getD .skip
theorem l0_eq (k : Nat) (xt1 : Int) (At2 : Option Addr) (nt2 : Nat) (ct2 : Nat) (At8 : Option Addr) (nt8 : Nat) (ct8 : Nat) (At9 : Option Addr) (nt9 : Nat) (ct9 : Nat) (xt42 : Int) (xt43 : Int) (Q : PQ) (σ : Fr) (w : World) :
    l0 (k + 1) xt1 At2 nt2 ct2 At8 nt8 ct8 At9 nt9 ct9 xt42 xt43 w (fun (w : World) => ∀ d : Fr, Q (.exit 0) (ov d [(1, .int .i64 xt1), (2, .slice At2 nt2 ct2), (7, σ 7), (9, .slice At9 nt9 ct9)]) w) (fun (bq6 : Bool) (w : World) => ∀ d : Fr, Q .ret (ov d [(6, .bool bq6)]) w) = codeW Tryd.prog hT 133 D (tab l0tb) [0, 0, 1, 0, 1, 0, 1, 0, 1, 1, 1, 1] l0b (thenQ (l0Tk k Q) (widen l0LO Q)) (ov σ [(1, .int .i64 xt1), (2, .slice At2 nt2 ct2), (8, .slice At8 nt8 ct8), (9, .slice At9 nt9 ct9), (42, .int .i64 xt42), (43, .int .i64 xt43)]) w := by kernel_rfl
theorem l0_snd : ∀ c, subC [0, 1, 0, 1, 0, 1, 0, 1, 1, 1, 1] body = some c → Snd Tryd.prog 133 c l0T := by
  refine loop_of (hT := hT) (D := D) (l := l0tb) (b := l0b) (lo := l0LO) (by kernel_rfl) (by
    intro x hx
    simp only [l0tb, List.mem_cons, List.not_mem_nil, or_false] at hx
    subst hx
    exact j1_snd) (by kernel_rfl) (by kernel_rfl) ?_ ?_
  · intro Q σ w h
    unfold l0Tk at h
    obtain ⟨xt1, h1, hn⟩ := gInt_elim h
    clear h
    have h := hn
    clear hn
    obtain ⟨At2, nt2, ct2, h2, hn⟩ := gSlice_elim h
    clear h
    have h := hn
    clear hn
    obtain ⟨At8, nt8, ct8, h8, hn⟩ := gSlice_elim h
    clear h
    have h := hn
    clear hn
    obtain ⟨At9, nt9, ct9, h9, hn⟩ := gSlice_elim h
    clear h
    have h := hn
    clear hn
    obtain ⟨xt42, h42, hn⟩ := gInt_elim h
    clear h
    have h := hn
    clear hn
    obtain ⟨xt43, h43, hn⟩ := gInt_elim h
    clear h
    have h := hn
    clear hn
    exact h
  · intro k Q σ w h
    unfold l0Tk at h
    obtain ⟨xt1, h1, hn⟩ := gInt_elim h
    clear h
    have h := hn
    clear hn
    obtain ⟨At2, nt2, ct2, h2, hn⟩ := gSlice_elim h
    clear h
    have h := hn
    clear hn
    obtain ⟨At8, nt8, ct8, h8, hn⟩ := gSlice_elim h
    clear h
    have h := hn
    clear hn
    obtain ⟨At9, nt9, ct9, h9, hn⟩ := gSlice_elim h
    clear h
    have h := hn
    clear hn
    obtain ⟨xt42, h42, hn⟩ := gInt_elim h
    clear h
    have h := hn
    clear hn
    obtain ⟨xt43, h43, hn⟩ := gInt_elim h
    clear h
    have h := hn
    clear hn
    rw [l0_eq (σ := σ)] at h
    have e : (ov σ [(1, .int .i64 xt1), (2, .slice At2 nt2 ct2), (8, .slice At8 nt8 ct8), (9, .slice At9 nt9 ct9), (42, .int .i64 xt42), (43, .int .i64 xt43)]) = σ := ov_self (by simp [h1, h2, h8, h9, h42, h43])
    rw [e] at h
    exact h
def l3LO : LO := ⟨[], [6], [(2, [8, 12])], []⟩
def l3Tk (k : Nat) : Spec := fun Q σ w =>
  gInt .i64 (σ 1) fun xt1 =>
  gSlice (σ 2) fun At2 nt2 ct2 =>
  gSlice (σ 8) fun At8 nt8 ct8 =>
  gSlice (σ 12) fun At12 nt12 ct12 =>
  gInt .i64 (σ 75) fun xt75 =>
  gInt .i64 (σ 76) fun xt76 =>
  l3 k xt1 At2 nt2 ct2 At8 nt8 ct8 At12 nt12 ct12 xt75 xt76 w (fun (w : World) => ∀ d : Fr, Q (.exit 2) (ov d [(8, .slice At8 nt8 ct8), (12, .slice At12 nt12 ct12)]) w) (fun (bq6 : Bool) (w : World) => ∀ d : Fr, Q .ret (ov d [(6, .bool bq6)]) w)
def l3T : Spec := fun Q σ w => ∃ k, l3Tk k Q σ w
def l3tb : List (List Nat × Spec) := []
noncomputable def l3b : Code := (subC [0, 0, 1, 0, 1, 1, 1, 1, 1, 1, 1] body).getD .skip
theorem l3_eq (k : Nat) (xt1 : Int) (At2 : Option Addr) (nt2 : Nat) (ct2 : Nat) (At8 : Option Addr) (nt8 : Nat) (ct8 : Nat) (At12 : Option Addr) (nt12 : Nat) (ct12 : Nat) (xt75 : Int) (xt76 : Int) (Q : PQ) (σ : Fr) (w : World) :
    l3 (k + 1) xt1 At2 nt2 ct2 At8 nt8 ct8 At12 nt12 ct12 xt75 xt76 w (fun (w : World) => ∀ d : Fr, Q (.exit 2) (ov d [(8, .slice At8 nt8 ct8), (12, .slice At12 nt12 ct12)]) w) (fun (bq6 : Bool) (w : World) => ∀ d : Fr, Q .ret (ov d [(6, .bool bq6)]) w) = codeW Tryd.prog hT 133 D (tab l3tb) [0, 0, 1, 0, 1, 1, 1, 1, 1, 1, 1] l3b (thenQ (l3Tk k Q) (widen l3LO Q)) (ov σ [(1, .int .i64 xt1), (2, .slice At2 nt2 ct2), (8, .slice At8 nt8 ct8), (12, .slice At12 nt12 ct12), (75, .int .i64 xt75), (76, .int .i64 xt76)]) w := by kernel_rfl
theorem l3_snd : ∀ c, subC [0, 1, 0, 1, 1, 1, 1, 1, 1, 1] body = some c → Snd Tryd.prog 133 c l3T := by
  refine loop_of (hT := hT) (D := D) (l := l3tb) (b := l3b) (lo := l3LO) (by kernel_rfl) (by
    intro x hx
    simp only [l3tb, List.not_mem_nil] at hx
    ) (by kernel_rfl) (by kernel_rfl) ?_ ?_
  · intro Q σ w h
    unfold l3Tk at h
    obtain ⟨xt1, h1, hn⟩ := gInt_elim h
    clear h
    have h := hn
    clear hn
    obtain ⟨At2, nt2, ct2, h2, hn⟩ := gSlice_elim h
    clear h
    have h := hn
    clear hn
    obtain ⟨At8, nt8, ct8, h8, hn⟩ := gSlice_elim h
    clear h
    have h := hn
    clear hn
    obtain ⟨At12, nt12, ct12, h12, hn⟩ := gSlice_elim h
    clear h
    have h := hn
    clear hn
    obtain ⟨xt75, h75, hn⟩ := gInt_elim h
    clear h
    have h := hn
    clear hn
    obtain ⟨xt76, h76, hn⟩ := gInt_elim h
    clear h
    have h := hn
    clear hn
    exact h
  · intro k Q σ w h
    unfold l3Tk at h
    obtain ⟨xt1, h1, hn⟩ := gInt_elim h
    clear h
    have h := hn
    clear hn
    obtain ⟨At2, nt2, ct2, h2, hn⟩ := gSlice_elim h
    clear h
    have h := hn
    clear hn
    obtain ⟨At8, nt8, ct8, h8, hn⟩ := gSlice_elim h
    clear h
    have h := hn
    clear hn
    obtain ⟨At12, nt12, ct12, h12, hn⟩ := gSlice_elim h
    clear h
    have h := hn
    clear hn
    obtain ⟨xt75, h75, hn⟩ := gInt_elim h
    clear h
    have h := hn
    clear hn
    obtain ⟨xt76, h76, hn⟩ := gInt_elim h
    clear h
    have h := hn
    clear hn
    rw [l3_eq (σ := σ)] at h
    have e : (ov σ [(1, .int .i64 xt1), (2, .slice At2 nt2 ct2), (8, .slice At8 nt8 ct8), (12, .slice At12 nt12 ct12), (75, .int .i64 xt75), (76, .int .i64 xt76)]) = σ := ov_self (by simp [h1, h2, h8, h12, h75, h76])
    rw [e] at h
    exact h
def j2LO : LO := ⟨[], [6], [], []⟩
def j2T : Spec := fun Q σ w =>
  gInt .i64 (σ 1) fun xt1 =>
  gSlice (σ 2) fun At2 nt2 ct2 =>
  gPtr (σ 7) fun pt7 =>
  gSlice (σ 8) fun At8 nt8 ct8 =>
  j2 xt1 At2 nt2 ct2 pt7 At8 nt8 ct8 w (fun (bq6 : Bool) (w : World) => ∀ d : Fr, Q .ret (ov d [(6, .bool bq6)]) w)
def j2tb : List (List Nat × Spec) := [([0, 1, 0, 1, 1, 1, 1, 1, 1, 1], l3T)]
noncomputable def j2b : Code := (subC [1, 1, 1, 1, 1] body).getD .skip
theorem j2_eq (xt1 : Int) (At2 : Option Addr) (nt2 : Nat) (ct2 : Nat) (pt7 : Option Addr) (At8 : Option Addr) (nt8 : Nat) (ct8 : Nat) (Q : PQ) (σ : Fr) (w : World) :
    j2 xt1 At2 nt2 ct2 pt7 At8 nt8 ct8 w (fun (bq6 : Bool) (w : World) => ∀ d : Fr, Q .ret (ov d [(6, .bool bq6)]) w) = codeW Tryd.prog hT 133 D (tab j2tb) [1, 1, 1, 1, 1] j2b (widen j2LO Q) (ov σ [(1, .int .i64 xt1), (2, .slice At2 nt2 ct2), (7, .pointer pt7), (8, .slice At8 nt8 ct8)]) w := by kernel_rfl
theorem j2_snd : ∀ c, subC [1, 1, 1, 1, 1] body = some c → Snd Tryd.prog 133 c j2T := by
  refine cut_of (hT := hT) (D := D) (l := j2tb) (b := j2b) (lo := j2LO) (by kernel_rfl) (by
    intro x hx
    simp only [j2tb, List.mem_cons, List.not_mem_nil, or_false] at hx
    subst hx
    exact l3_snd) (by kernel_rfl) (by kernel_rfl) ?_
  intro Q σ w h
  unfold j2T at h
  obtain ⟨xt1, h1, hn⟩ := gInt_elim h
  clear h
  have h := hn
  clear hn
  obtain ⟨At2, nt2, ct2, h2, hn⟩ := gSlice_elim h
  clear h
  have h := hn
  clear hn
  obtain ⟨pt7, h7, hn⟩ := gPtr_elim h
  clear h
  have h := hn
  clear hn
  obtain ⟨At8, nt8, ct8, h8, hn⟩ := gSlice_elim h
  clear h
  have h := hn
  clear hn
  rw [j2_eq (σ := σ)] at h
  have e : (ov σ [(1, .int .i64 xt1), (2, .slice At2 nt2 ct2), (7, .pointer pt7), (8, .slice At8 nt8 ct8)]) = σ := ov_self (by simp [h1, h2, h7, h8])
  rw [e] at h
  exact h
def tb : List (List Nat × Spec) := [([1, 1, 1, 0, 0, 1, 1, 0, 0, 1, 0, 1, 0, 1, 0, 1, 1, 1, 1], j1T), ([0, 1, 0, 1, 0, 1, 0, 1, 1, 1, 1], l0T), ([0, 1, 0, 1, 1, 1, 1, 1, 1, 1], l3T), ([1, 1, 1, 1, 1], j2T)]
theorem wp_eq (Aa0 : Option Addr) (na0 : Nat) (ca0 : Nat) (xa1 : Int) (Aa2 : Option Addr) (na2 : Nat) (ca2 : Nat) (w : World) (Q : Ending → World → Prop) :
    wp Aa0 na0 ca0 xa1 Aa2 na2 ca2 w Q = codeW Tryd.prog hT 133 D (tab tb) [] body (topQ Tryd.prog hT 133 [.tmp 6] Q) (argsF [.slice Aa0 na0 ca0, .int .i64 xa1, .slice Aa2 na2 ca2]) w := by kernel_rfl
theorem ok (Aa0 : Option Addr) (na0 : Nat) (ca0 : Nat) (xa1 : Int) (Aa2 : Option Addr) (na2 : Nat) (ca2 : Nat) (w : World) (Q : Ending → World → Prop) (h : wp Aa0 na0 ca0 xa1 Aa2 na2 ca2 w Q) : Calls Tryd.prog 5 #[.slice Aa0 na0 ca0, .int .i64 xa1, .slice Aa2 na2 ca2] w Q := by
  rw [wp_eq] at h
  exact calls_of_codeW (c := body) (rs := [.tmp 6]) Tryd.func5 (by kernel_rfl) (by kernel_rfl) (by kernel_rfl) (by kernel_rfl) (by kernel_rfl) (tab_snd (by
    intro x hx
    simp only [tb, List.mem_cons, List.not_mem_nil, or_false] at hx
    rcases hx with rfl | rfl | rfl | rfl
    · exact j1_snd
    · exact l0_snd
    · exact l3_snd
    · exact j2_snd)) (by kernel_rfl) h
end f_law08_PageOrder
end Go.Proofs.YtifambgaekjilaaDoor.Rd
