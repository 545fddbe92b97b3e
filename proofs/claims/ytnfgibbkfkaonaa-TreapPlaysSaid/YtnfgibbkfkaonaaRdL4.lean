/- The printed readings of some functions: each function's code reckoned by the kernel to its predicate transformer. -/
import Derived.Test.YtnfgibbkfkaonaaHint
namespace Go.Proofs.Ytnfgibbkfkaonaa.Rd
open Go.Dn
set_option maxRecDepth 100000
set_option linter.unusedVariables false
namespace f_law15_TreapRows
/-! skein/skeinlaw15.TreapRows: function 4 -/
noncomputable def body : Code := (Try.f4.body).getD .skip
def l0 : Nat → Option Addr → Int → Option Addr → Nat → Nat → Int → Int → World → (Int → World → Prop) → Prop
  | 0, _, _, _, _, _, _, _, _, _ => False
  | k + 1, pt11, xt12, At48, nt48, ct48, xt49, xt50, w, K0 =>
    sel (decide (xt50 < xt49)) (
    optB At48 fun a7 =>
    req (decide (0 ≤ xt50 ∧ xt50 < (nt48 : Int))) <|
    ldI w (a7.add (xt50.toNat * 5)) .i64 fun x8 =>
    ldI w ((a7.add (xt50.toNat * 5)).add 1) .i64 fun x9 =>
    ldI w ((a7.add (xt50.toNat * 5)).add 2) .i64 fun x10 =>
    ldI w ((a7.add (xt50.toNat * 5)).add 3) .i64 fun x11 =>
    ldI w ((a7.add (xt50.toNat * 5)).add 4) .u8 fun x12 =>
    alW w (.cells #[.int .i64 (0 : Int), .int .i64 (0 : Int), .int .i64 (0 : Int), .int .i64 (0 : Int), .int .u8 (0 : Int)] 30) fun B13 w14 =>
    stW w14 (⟨B13, 0, Option.none⟩ : Addr) (.int .i64 x8) fun w15 =>
    stW w15 ((⟨B13, 0, Option.none⟩ : Addr).add 1) (.int .i64 x9) fun w16 =>
    stW w16 ((⟨B13, 0, Option.none⟩ : Addr).add 2) (.int .i64 x10) fun w17 =>
    stW w17 ((⟨B13, 0, Option.none⟩ : Addr).add 3) (.int .i64 x11) fun w18 =>
    stW w18 ((⟨B13, 0, Option.none⟩ : Addr).add 4) (.int .u8 x12) fun w19 =>
    ldI w19 (⟨B13, 0, Option.none⟩ : Addr) .i64 fun x20 =>
    ldI w19 ((⟨B13, 0, Option.none⟩ : Addr).add 1) .i64 fun x21 =>
    ldI w19 ((⟨B13, 0, Option.none⟩ : Addr).add 2) .i64 fun x22 =>
    ldI w19 ((⟨B13, 0, Option.none⟩ : Addr).add 3) .i64 fun x23 =>
    ldI w19 ((⟨B13, 0, Option.none⟩ : Addr).add 4) .u8 fun x24 =>
    Calls Try.prog 10 #[.pointer pt11, .agg #[.slice none 0 0, .slice none 0 0, .slice none 0 0], .agg #[.int .i64 x20, .int .i64 x21, .int .i64 x22, .int .i64 x23, .int .u8 x24]] w19 fun e25 w26 => ∃ (A27_0_0 : Option Addr) (n27_0_0 : Nat) (c27_0_0 : Nat) (A27_0_1 : Option Addr) (n27_0_1 : Nat) (c27_0_1 : Nat) (A27_0_2 : Option Addr) (n27_0_2 : Nat) (c27_0_2 : Nat) (b27_1 : Bool), e25 = .returned (.tuple #[.agg #[.slice A27_0_0 n27_0_0 c27_0_0, .slice A27_0_1 n27_0_1 c27_0_1, .slice A27_0_2 n27_0_2 c27_0_2], .bool b27_1]) ∧ (
    ldI w26 (⟨B13, 0, Option.none⟩ : Addr) .i64 fun x28 =>
    sel (x28 == (1 : Int)) (
    l0 k pt11 (IntKind.i64.wrap (xt12 + (1 : Int))) At48 nt48 ct48 xt49 (IntKind.i64.wrap (xt50 + (1 : Int))) w26 K0) (
    l0 k pt11 xt12 At48 nt48 ct48 xt49 (IntKind.i64.wrap (xt50 + (1 : Int))) w26 K0))) (
    K0 xt12 w)
def l2 : Nat → Int → Int → Option Addr → Nat → Nat → Int → Int → World → (Int → World → Prop) → Prop
  | 0, _, _, _, _, _, _, _, _, _ => False
  | k + 1, xt16, xt19, At81, nt81, ct81, xt82, xt83, w, K4 =>
    sel (decide (xt83 < xt82)) (
    optB At81 fun a34 =>
    req (decide (0 ≤ xt83 ∧ xt83 < (nt81 : Int))) <|
    ldI w (a34.add (xt83.toNat * 1)) .i64 fun x35 =>
    sel (x35 == xt16) (
    l2 k xt16 (IntKind.i64.wrap (xt19 + (1 : Int))) At81 nt81 ct81 xt82 (IntKind.i64.wrap (xt83 + (1 : Int))) w K4) (
    l2 k xt16 xt19 At81 nt81 ct81 xt82 (IntKind.i64.wrap (xt83 + (1 : Int))) w K4)) (
    K4 xt19 w)
def l1 : Nat → Option Addr → Int → Int → Int → World → (Int → World → Prop) → (Bool → World → Prop) → Prop
  | 0, _, _, _, _, _, _, _ => False
  | k + 1, pt11, xt12, xt15, xt16, w, K2, Kr =>
    sel (decide (xt16 ≤ xt12)) (
    sel (decide (xt16 < (200 : Int))) (
    Calls Try.prog 11 #[.pointer pt11, .int .i64 xt16] w fun e31 w32 => ∃ (A33_0 : Option Addr) (n33_0 : Nat) (c33_0 : Nat) (x33_1 : Int), e31 = .returned (.tuple #[.slice A33_0 n33_0 c33_0, .int .i64 x33_1]) ∧ (
    sel (x33_1 != (0 : Int)) (
    Kr false w32) (
    ∃ k40 : Nat, l2 k40 xt16 (0 : Int) A33_0 n33_0 c33_0 (n33_0 : Int) (0 : Int) w32 (fun (x36 : Int) (w37 : World) => ∀ _ : Fr,
    sel (x36 != (1 : Int)) (
    Kr false w37) (
    optB A33_0 fun a38 =>
    req (decide (0 ≤ (0 : Int) ∧ (0 : Int) < (n33_0 : Int))) <|
    ldI w37 (a38.add ((0 : Int).toNat * 1)) .i64 fun x39 =>
    sel (x39 == xt16) (
    l1 k pt11 xt12 (IntKind.i64.wrap (xt15 + (n33_0 : Int))) (IntKind.i64.wrap (xt16 + (1 : Int))) w37 K2 Kr) (
    l1 k pt11 xt12 xt15 (IntKind.i64.wrap (xt16 + (1 : Int))) w37 K2 Kr)))))) (
    K2 xt15 w)) (
    K2 xt15 w)
def j3 (xt2 : Int) (xt4 : Int) (pt11 : Option Addr) (At22 : Option Addr) (nt22 : Nat) (ct22 : Nat) (xt23 : Int) (At24 : Option Addr) (nt24 : Nat) (ct24 : Nat) (xt25 : Int) (At26 : Option Addr) (nt26 : Nat) (ct26 : Nat) (bt28 : Bool) (bt30 : Bool) (bt32 : Bool) (xt34 : Int) (w : World) (Kr : Bool → World → Prop) : Prop :=
  Calls Try.prog 11 #[.pointer pt11, .int .i64 xt4] w fun e64 w65 => ∃ (A66_0 : Option Addr) (n66_0 : Nat) (c66_0 : Nat) (x66_1 : Int), e64 = .returned (.tuple #[.slice A66_0 n66_0 c66_0, .int .i64 x66_1]) ∧ (
  sel (xt23 != (0 : Int)) (
  sel (xt34 != (0 : Int)) (
  Calls Try.prog 15 #[.slice A66_0 n66_0 c66_0, .slice At26 nt26 ct26] w65 fun e67 w68 => ∃ (b69 : Bool), e67 = .returned (.bool b69) ∧ (
  Kr b69 w68)) (
  Kr false w65)) (
  sel (xt25 != (0 : Int)) (
  sel (xt34 != (0 : Int)) (
  Calls Try.prog 15 #[.slice A66_0 n66_0 c66_0, .slice At26 nt26 ct26] w65 fun e70 w71 => ∃ (b72 : Bool), e70 = .returned (.bool b72) ∧ (
  Kr b72 w71)) (
  Kr false w65)) (
  sel bt28 (
  sel (xt34 != (0 : Int)) (
  Calls Try.prog 15 #[.slice A66_0 n66_0 c66_0, .slice At26 nt26 ct26] w65 fun e73 w74 => ∃ (b75 : Bool), e73 = .returned (.bool b75) ∧ (
  Kr b75 w74)) (
  Kr false w65)) (
  Calls Try.prog 18 #[.slice At22 nt22 ct22] w65 fun e76 w77 => ∃ (A78 : Option Addr) (n78 : Nat) (c78 : Nat), e76 = .returned (.slice A78 n78 c78) ∧ (
  Runs Try.prog (Builtin.append_ #[22, 22] 22 #[.slice A78 n78 c78, .slice At24 nt24 ct24]) w77 fun v80 w79 => ∃ (A81 : Option Addr) (n81 : Nat) (c81 : Nat), v80 = (.slice A81 n81 c81) ∧ (
  Calls Try.prog 11 #[.pointer pt11, .int .i64 xt2] w79 fun e82 w83 => ∃ (A84_0 : Option Addr) (n84_0 : Nat) (c84_0 : Nat) (x84_1 : Int), e82 = .returned (.tuple #[.slice A84_0 n84_0 c84_0, .int .i64 x84_1]) ∧ (
  sel (xt34 == (0 : Int)) (
  sel (x84_1 == (0 : Int)) (
  Calls Try.prog 15 #[.slice A84_0 n84_0 c84_0, .slice A81 n81 c81] w83 fun e85 w86 => ∃ (b87 : Bool), e85 = .returned (.bool b87) ∧ (
  sel b87 (
  sel bt30 (
  Kr true w86) (
  sel bt32 (
  Kr true w86) (
  Calls Try.prog 15 #[.slice A66_0 n66_0 c66_0, .slice At26 nt26 ct26] w86 fun e88 w89 => ∃ (b90 : Bool), e88 = .returned (.bool b90) ∧ (
  Kr b90 w89)))) (
  Kr false w86))) (
  Kr false w83)) (
  Kr false w83))))))))
def wp (Aa0 : Option Addr) (na0 : Nat) (ca0 : Nat) (Aa1 : Option Addr) (na1 : Nat) (ca1 : Nat) (xa2 : Int) (xa3 : Int) (xa4 : Int) (w : World) (Q : Ending → World → Prop) : Prop :=
  Calls Try.prog 8 #[.slice Aa0 na0 ca0] w fun e1 w2 => ∃ (p3 : Option Addr), e1 = .returned (.pointer p3) ∧ (
  sel p3.isNone (
  Q (.returned (.bool false)) w2) (
  Calls Try.prog 9 #[] w2 fun e4 w5 => ∃ (b6 : Bool), e4 = .returned (.bool b6) ∧ (
  sel (!b6) (
  Q (.returned (.bool false)) w5) (
  ∃ k119 : Nat, l0 k119 p3 (0 : Int) Aa1 na1 ca1 (na1 : Int) (0 : Int) w5 (fun (x29 : Int) (w30 : World) => ∀ _ : Fr,
  ∃ k118 : Nat, l1 k118 p3 x29 (0 : Int) (1 : Int) w30 (fun (x41 : Int) (w42 : World) => ∀ _ : Fr,
  sel (decide (x29 < (200 : Int))) (
  sel (x41 != x29) (
  Q (.returned (.bool false)) w42) (
  Calls Try.prog 11 #[.pointer p3, .int .i64 xa2] w42 fun e43 w44 => ∃ (A45_0 : Option Addr) (n45_0 : Nat) (c45_0 : Nat) (x45_1 : Int), e43 = .returned (.tuple #[.slice A45_0 n45_0 c45_0, .int .i64 x45_1]) ∧ (
  Calls Try.prog 11 #[.pointer p3, .int .i64 xa3] w44 fun e46 w47 => ∃ (A48_0 : Option Addr) (n48_0 : Nat) (c48_0 : Nat) (x48_1 : Int), e46 = .returned (.tuple #[.slice A48_0 n48_0 c48_0, .int .i64 x48_1]) ∧ (
  Calls Try.prog 11 #[.pointer p3, .int .i64 xa4] w47 fun e49 w50 => ∃ (A51_0 : Option Addr) (n51_0 : Nat) (c51_0 : Nat) (x51_1 : Int), e49 = .returned (.tuple #[.slice A51_0 n51_0 c51_0, .int .i64 x51_1]) ∧ (
  Calls Try.prog 16 #[.pointer p3, .int .i64 xa2, .int .i64 xa3] w50 fun e52 w53 => ∃ (b54_0 : Bool) (x54_1 : Int), e52 = .returned (.tuple #[.bool b54_0, .int .i64 x54_1]) ∧ (
  Calls Try.prog 16 #[.pointer p3, .int .i64 xa2, .int .i64 xa4] w53 fun e55 w56 => ∃ (b57_0 : Bool) (x57_1 : Int), e55 = .returned (.tuple #[.bool b57_0, .int .i64 x57_1]) ∧ (
  Calls Try.prog 16 #[.pointer p3, .int .i64 xa3, .int .i64 xa4] w56 fun e58 w59 => ∃ (b60_0 : Bool) (x60_1 : Int), e58 = .returned (.tuple #[.bool b60_0, .int .i64 x60_1]) ∧ (
  Calls Try.prog 17 #[.pointer p3, .int .i64 xa2, .int .i64 xa3] w59 fun e61 w62 => ∃ (x63 : Int), e61 = .returned (.int .i64 x63) ∧ (
  j3 xa2 xa4 p3 A45_0 n45_0 c45_0 x45_1 A48_0 n48_0 c48_0 x48_1 A51_0 n51_0 c51_0 b54_0 b57_0 b60_0 x63 w62 (fun (b91 : Bool) (w92 : World) => ∀ _ : Fr,
  Q (.returned (.bool b91)) w92)))))))))) (
  Calls Try.prog 11 #[.pointer p3, .int .i64 xa2] w42 fun e93 w94 => ∃ (A95_0 : Option Addr) (n95_0 : Nat) (c95_0 : Nat) (x95_1 : Int), e93 = .returned (.tuple #[.slice A95_0 n95_0 c95_0, .int .i64 x95_1]) ∧ (
  Calls Try.prog 11 #[.pointer p3, .int .i64 xa3] w94 fun e96 w97 => ∃ (A98_0 : Option Addr) (n98_0 : Nat) (c98_0 : Nat) (x98_1 : Int), e96 = .returned (.tuple #[.slice A98_0 n98_0 c98_0, .int .i64 x98_1]) ∧ (
  Calls Try.prog 11 #[.pointer p3, .int .i64 xa4] w97 fun e99 w100 => ∃ (A101_0 : Option Addr) (n101_0 : Nat) (c101_0 : Nat) (x101_1 : Int), e99 = .returned (.tuple #[.slice A101_0 n101_0 c101_0, .int .i64 x101_1]) ∧ (
  Calls Try.prog 16 #[.pointer p3, .int .i64 xa2, .int .i64 xa3] w100 fun e102 w103 => ∃ (b104_0 : Bool) (x104_1 : Int), e102 = .returned (.tuple #[.bool b104_0, .int .i64 x104_1]) ∧ (
  Calls Try.prog 16 #[.pointer p3, .int .i64 xa2, .int .i64 xa4] w103 fun e105 w106 => ∃ (b107_0 : Bool) (x107_1 : Int), e105 = .returned (.tuple #[.bool b107_0, .int .i64 x107_1]) ∧ (
  Calls Try.prog 16 #[.pointer p3, .int .i64 xa3, .int .i64 xa4] w106 fun e108 w109 => ∃ (b110_0 : Bool) (x110_1 : Int), e108 = .returned (.tuple #[.bool b110_0, .int .i64 x110_1]) ∧ (
  Calls Try.prog 17 #[.pointer p3, .int .i64 xa2, .int .i64 xa3] w109 fun e111 w112 => ∃ (x113 : Int), e111 = .returned (.int .i64 x113) ∧ (
  j3 xa2 xa4 p3 A95_0 n95_0 c95_0 x95_1 A98_0 n98_0 c98_0 x98_1 A101_0 n101_0 c101_0 b104_0 b107_0 b110_0 x113 w112 (fun (b114 : Bool) (w115 : World) => ∀ _ : Fr,
  Q (.returned (.bool b114)) w115)))))))))) (fun (b116 : Bool) (w117 : World) => ∀ _ : Fr,
  Q (.returned (.bool b116)) w117))))))
def D : Nat → Option DH := dtab []
def l0LO : LO := ⟨[], [], [(0, [2, 3, 4, 11, 12])], []⟩
def l0Tk (k : Nat) : Spec := fun Q σ w =>
  gPtr (σ 11) fun pt11 =>
  gInt .i64 (σ 12) fun xt12 =>
  gSlice (σ 48) fun At48 nt48 ct48 =>
  gInt .i64 (σ 49) fun xt49 =>
  gInt .i64 (σ 50) fun xt50 =>
  l0 k pt11 xt12 At48 nt48 ct48 xt49 xt50 w (fun (xq12 : Int) (w : World) => ∀ d : Fr, Q (.exit 0) (ov d [(2, σ 2), (3, σ 3), (4, σ 4), (11, .pointer pt11), (12, .int .i64 xq12)]) w)
def l0T : Spec := fun Q σ w => ∃ k, l0Tk k Q σ w
def l0tb : List (List Nat × Spec) := []
noncomputable def l0b : Code := (subC [0, 0, 1, 0, 1, 1, 1, 1] body).getD .skip
theorem l0_eq (k : Nat) (pt11 : Option Addr) (xt12 : Int) (At48 : Option Addr) (nt48 : Nat) (ct48 : Nat) (xt49 : Int) (xt50 : Int) (Q : PQ) (σ : Fr) (w : World) :
    l0 (k + 1) pt11 xt12 At48 nt48 ct48 xt49 xt50 w (fun (xq12 : Int) (w : World) => ∀ d : Fr, Q (.exit 0) (ov d [(2, σ 2), (3, σ 3), (4, σ 4), (11, .pointer pt11), (12, .int .i64 xq12)]) w) = codeW Try.prog hT 209 D (tab l0tb) [0, 0, 1, 0, 1, 1, 1, 1] l0b (thenQ (l0Tk k Q) (widen l0LO Q)) (ov σ [(11, .pointer pt11), (12, .int .i64 xt12), (48, .slice At48 nt48 ct48), (49, .int .i64 xt49), (50, .int .i64 xt50)]) w := by kernel_rfl
theorem l0_snd : ∀ c, subC [0, 1, 0, 1, 1, 1, 1] body = some c → Snd Try.prog 209 c l0T := by
  refine loop_of (hT := hT) (D := D) (l := l0tb) (b := l0b) (lo := l0LO) (by kernel_rfl) (by
    intro x hx
    simp only [l0tb, List.not_mem_nil] at hx
    ) (by kernel_rfl) (by kernel_rfl) ?_ ?_
  · intro Q σ w h
    unfold l0Tk at h
    obtain ⟨pt11, h11, hn⟩ := gPtr_elim h
    clear h
    have h := hn
    clear hn
    obtain ⟨xt12, h12, hn⟩ := gInt_elim h
    clear h
    have h := hn
    clear hn
    obtain ⟨At48, nt48, ct48, h48, hn⟩ := gSlice_elim h
    clear h
    have h := hn
    clear hn
    obtain ⟨xt49, h49, hn⟩ := gInt_elim h
    clear h
    have h := hn
    clear hn
    obtain ⟨xt50, h50, hn⟩ := gInt_elim h
    clear h
    have h := hn
    clear hn
    exact h
  · intro k Q σ w h
    unfold l0Tk at h
    obtain ⟨pt11, h11, hn⟩ := gPtr_elim h
    clear h
    have h := hn
    clear hn
    obtain ⟨xt12, h12, hn⟩ := gInt_elim h
    clear h
    have h := hn
    clear hn
    obtain ⟨At48, nt48, ct48, h48, hn⟩ := gSlice_elim h
    clear h
    have h := hn
    clear hn
    obtain ⟨xt49, h49, hn⟩ := gInt_elim h
    clear h
    have h := hn
    clear hn
    obtain ⟨xt50, h50, hn⟩ := gInt_elim h
    clear h
    have h := hn
    clear hn
    rw [l0_eq (σ := σ)] at h
    have e : (ov σ [(11, .pointer pt11), (12, .int .i64 xt12), (48, .slice At48 nt48 ct48), (49, .int .i64 xt49), (50, .int .i64 xt50)]) = σ := ov_self (by simp [h11, h12, h48, h49, h50])
    rw [e] at h
    exact h
def l2LO : LO := ⟨[], [], [(4, [2, 3, 4, 11, 12, 15, 16, 17, 19])], []⟩
def l2Tk (k : Nat) : Spec := fun Q σ w =>
  gInt .i64 (σ 16) fun xt16 =>
  gInt .i64 (σ 19) fun xt19 =>
  gSlice (σ 81) fun At81 nt81 ct81 =>
  gInt .i64 (σ 82) fun xt82 =>
  gInt .i64 (σ 83) fun xt83 =>
  l2 k xt16 xt19 At81 nt81 ct81 xt82 xt83 w (fun (xq19 : Int) (w : World) => ∀ d : Fr, Q (.exit 4) (ov d [(2, σ 2), (3, σ 3), (4, σ 4), (11, σ 11), (12, σ 12), (15, σ 15), (16, .int .i64 xt16), (17, σ 17), (19, .int .i64 xq19)]) w)
def l2T : Spec := fun Q σ w => ∃ k, l2Tk k Q σ w
def l2tb : List (List Nat × Spec) := []
noncomputable def l2b : Code := (subC [0, 0, 1, 0, 1, 1, 1, 0, 0, 1, 0, 0, 1, 0, 1, 1, 1, 1, 1, 1] body).getD .skip
theorem l2_eq (k : Nat) (xt16 : Int) (xt19 : Int) (At81 : Option Addr) (nt81 : Nat) (ct81 : Nat) (xt82 : Int) (xt83 : Int) (Q : PQ) (σ : Fr) (w : World) :
    l2 (k + 1) xt16 xt19 At81 nt81 ct81 xt82 xt83 w (fun (xq19 : Int) (w : World) => ∀ d : Fr, Q (.exit 4) (ov d [(2, σ 2), (3, σ 3), (4, σ 4), (11, σ 11), (12, σ 12), (15, σ 15), (16, .int .i64 xt16), (17, σ 17), (19, .int .i64 xq19)]) w) = codeW Try.prog hT 209 D (tab l2tb) [0, 0, 1, 0, 1, 1, 1, 0, 0, 1, 0, 0, 1, 0, 1, 1, 1, 1, 1, 1] l2b (thenQ (l2Tk k Q) (widen l2LO Q)) (ov σ [(16, .int .i64 xt16), (19, .int .i64 xt19), (81, .slice At81 nt81 ct81), (82, .int .i64 xt82), (83, .int .i64 xt83)]) w := by kernel_rfl
theorem l2_snd : ∀ c, subC [0, 1, 0, 1, 1, 1, 0, 0, 1, 0, 0, 1, 0, 1, 1, 1, 1, 1, 1] body = some c → Snd Try.prog 209 c l2T := by
  refine loop_of (hT := hT) (D := D) (l := l2tb) (b := l2b) (lo := l2LO) (by kernel_rfl) (by
    intro x hx
    simp only [l2tb, List.not_mem_nil] at hx
    ) (by kernel_rfl) (by kernel_rfl) ?_ ?_
  · intro Q σ w h
    unfold l2Tk at h
    obtain ⟨xt16, h16, hn⟩ := gInt_elim h
    clear h
    have h := hn
    clear hn
    obtain ⟨xt19, h19, hn⟩ := gInt_elim h
    clear h
    have h := hn
    clear hn
    obtain ⟨At81, nt81, ct81, h81, hn⟩ := gSlice_elim h
    clear h
    have h := hn
    clear hn
    obtain ⟨xt82, h82, hn⟩ := gInt_elim h
    clear h
    have h := hn
    clear hn
    obtain ⟨xt83, h83, hn⟩ := gInt_elim h
    clear h
    have h := hn
    clear hn
    exact h
  · intro k Q σ w h
    unfold l2Tk at h
    obtain ⟨xt16, h16, hn⟩ := gInt_elim h
    clear h
    have h := hn
    clear hn
    obtain ⟨xt19, h19, hn⟩ := gInt_elim h
    clear h
    have h := hn
    clear hn
    obtain ⟨At81, nt81, ct81, h81, hn⟩ := gSlice_elim h
    clear h
    have h := hn
    clear hn
    obtain ⟨xt82, h82, hn⟩ := gInt_elim h
    clear h
    have h := hn
    clear hn
    obtain ⟨xt83, h83, hn⟩ := gInt_elim h
    clear h
    have h := hn
    clear hn
    rw [l2_eq (σ := σ)] at h
    have e : (ov σ [(16, .int .i64 xt16), (19, .int .i64 xt19), (81, .slice At81 nt81 ct81), (82, .int .i64 xt82), (83, .int .i64 xt83)]) = σ := ov_self (by simp [h16, h19, h81, h82, h83])
    rw [e] at h
    exact h
def l1LO : LO := ⟨[], [10], [(2, [2, 3, 4, 11, 12, 15])], []⟩
def l1Tk (k : Nat) : Spec := fun Q σ w =>
  gPtr (σ 11) fun pt11 =>
  gInt .i64 (σ 12) fun xt12 =>
  gInt .i64 (σ 15) fun xt15 =>
  gInt .i64 (σ 16) fun xt16 =>
  l1 k pt11 xt12 xt15 xt16 w (fun (xq15 : Int) (w : World) => ∀ d : Fr, Q (.exit 2) (ov d [(2, σ 2), (3, σ 3), (4, σ 4), (11, .pointer pt11), (12, .int .i64 xt12), (15, .int .i64 xq15)]) w) (fun (bq10 : Bool) (w : World) => ∀ d : Fr, Q .ret (ov d [(10, .bool bq10)]) w)
def l1T : Spec := fun Q σ w => ∃ k, l1Tk k Q σ w
def l1tb : List (List Nat × Spec) := [([0, 1, 0, 1, 1, 1, 0, 0, 1, 0, 0, 1, 0, 1, 1, 1, 1, 1, 1], l2T)]
noncomputable def l1b : Code := (subC [0, 0, 1, 0, 1, 1, 1, 1, 1, 1] body).getD .skip
theorem l1_eq (k : Nat) (pt11 : Option Addr) (xt12 : Int) (xt15 : Int) (xt16 : Int) (Q : PQ) (σ : Fr) (w : World) :
    l1 (k + 1) pt11 xt12 xt15 xt16 w (fun (xq15 : Int) (w : World) => ∀ d : Fr, Q (.exit 2) (ov d [(2, σ 2), (3, σ 3), (4, σ 4), (11, .pointer pt11), (12, .int .i64 xt12), (15, .int .i64 xq15)]) w) (fun (bq10 : Bool) (w : World) => ∀ d : Fr, Q .ret (ov d [(10, .bool bq10)]) w) = codeW Try.prog hT 209 D (tab l1tb) [0, 0, 1, 0, 1, 1, 1, 1, 1, 1] l1b (thenQ (l1Tk k Q) (widen l1LO Q)) (ov σ [(11, .pointer pt11), (12, .int .i64 xt12), (15, .int .i64 xt15), (16, .int .i64 xt16)]) w := by kernel_rfl
theorem l1_snd : ∀ c, subC [0, 1, 0, 1, 1, 1, 1, 1, 1] body = some c → Snd Try.prog 209 c l1T := by
  refine loop_of (hT := hT) (D := D) (l := l1tb) (b := l1b) (lo := l1LO) (by kernel_rfl) (by
    intro x hx
    simp only [l1tb, List.mem_cons, List.not_mem_nil, or_false] at hx
    subst hx
    exact l2_snd) (by kernel_rfl) (by kernel_rfl) ?_ ?_
  · intro Q σ w h
    unfold l1Tk at h
    obtain ⟨pt11, h11, hn⟩ := gPtr_elim h
    clear h
    have h := hn
    clear hn
    obtain ⟨xt12, h12, hn⟩ := gInt_elim h
    clear h
    have h := hn
    clear hn
    obtain ⟨xt15, h15, hn⟩ := gInt_elim h
    clear h
    have h := hn
    clear hn
    obtain ⟨xt16, h16, hn⟩ := gInt_elim h
    clear h
    have h := hn
    clear hn
    exact h
  · intro k Q σ w h
    unfold l1Tk at h
    obtain ⟨pt11, h11, hn⟩ := gPtr_elim h
    clear h
    have h := hn
    clear hn
    obtain ⟨xt12, h12, hn⟩ := gInt_elim h
    clear h
    have h := hn
    clear hn
    obtain ⟨xt15, h15, hn⟩ := gInt_elim h
    clear h
    have h := hn
    clear hn
    obtain ⟨xt16, h16, hn⟩ := gInt_elim h
    clear h
    have h := hn
    clear hn
    rw [l1_eq (σ := σ)] at h
    have e : (ov σ [(11, .pointer pt11), (12, .int .i64 xt12), (15, .int .i64 xt15), (16, .int .i64 xt16)]) = σ := ov_self (by simp [h11, h12, h15, h16])
    rw [e] at h
    exact h
def j3LO : LO := ⟨[], [10], [], []⟩
def j3T : Spec := fun Q σ w =>
  gInt .i64 (σ 2) fun xt2 =>
  gInt .i64 (σ 4) fun xt4 =>
  gPtr (σ 11) fun pt11 =>
  gSlice (σ 22) fun At22 nt22 ct22 =>
  gInt .i64 (σ 23) fun xt23 =>
  gSlice (σ 24) fun At24 nt24 ct24 =>
  gInt .i64 (σ 25) fun xt25 =>
  gSlice (σ 26) fun At26 nt26 ct26 =>
  gBool (σ 28) fun bt28 =>
  gBool (σ 30) fun bt30 =>
  gBool (σ 32) fun bt32 =>
  gInt .i64 (σ 34) fun xt34 =>
  j3 xt2 xt4 pt11 At22 nt22 ct22 xt23 At24 nt24 ct24 xt25 At26 nt26 ct26 bt28 bt30 bt32 xt34 w (fun (bq10 : Bool) (w : World) => ∀ d : Fr, Q .ret (ov d [(10, .bool bq10)]) w)
def j3tb : List (List Nat × Spec) := []
noncomputable def j3b : Code := (subC [1, 1, 1, 1, 1, 1, 1, 1, 1, 1, 1, 1, 1, 1, 1] body).getD .skip
theorem j3_eq (xt2 : Int) (xt4 : Int) (pt11 : Option Addr) (At22 : Option Addr) (nt22 : Nat) (ct22 : Nat) (xt23 : Int) (At24 : Option Addr) (nt24 : Nat) (ct24 : Nat) (xt25 : Int) (At26 : Option Addr) (nt26 : Nat) (ct26 : Nat) (bt28 : Bool) (bt30 : Bool) (bt32 : Bool) (xt34 : Int) (Q : PQ) (σ : Fr) (w : World) :
    j3 xt2 xt4 pt11 At22 nt22 ct22 xt23 At24 nt24 ct24 xt25 At26 nt26 ct26 bt28 bt30 bt32 xt34 w (fun (bq10 : Bool) (w : World) => ∀ d : Fr, Q .ret (ov d [(10, .bool bq10)]) w) = codeW Try.prog hT 209 D (tab j3tb) [1, 1, 1, 1, 1, 1, 1, 1, 1, 1, 1, 1, 1, 1, 1] j3b (widen j3LO Q) (ov σ [(2, .int .i64 xt2), (4, .int .i64 xt4), (11, .pointer pt11), (22, .slice At22 nt22 ct22), (23, .int .i64 xt23), (24, .slice At24 nt24 ct24), (25, .int .i64 xt25), (26, .slice At26 nt26 ct26), (28, .bool bt28), (30, .bool bt30), (32, .bool bt32), (34, .int .i64 xt34)]) w := by cases bt28 <;> cases bt30 <;> cases bt32 <;> kernel_rfl
theorem j3_snd : ∀ c, subC [1, 1, 1, 1, 1, 1, 1, 1, 1, 1, 1, 1, 1, 1, 1] body = some c → Snd Try.prog 209 c j3T := by
  refine cut_of (hT := hT) (D := D) (l := j3tb) (b := j3b) (lo := j3LO) (by kernel_rfl) (by
    intro x hx
    simp only [j3tb, List.not_mem_nil] at hx
    ) (by kernel_rfl) (by kernel_rfl) ?_
  intro Q σ w h
  unfold j3T at h
  obtain ⟨xt2, h2, hn⟩ := gInt_elim h
  clear h
  have h := hn
  clear hn
  obtain ⟨xt4, h4, hn⟩ := gInt_elim h
  clear h
  have h := hn
  clear hn
  obtain ⟨pt11, h11, hn⟩ := gPtr_elim h
  clear h
  have h := hn
  clear hn
  obtain ⟨At22, nt22, ct22, h22, hn⟩ := gSlice_elim h
  clear h
  have h := hn
  clear hn
  obtain ⟨xt23, h23, hn⟩ := gInt_elim h
  clear h
  have h := hn
  clear hn
  obtain ⟨At24, nt24, ct24, h24, hn⟩ := gSlice_elim h
  clear h
  have h := hn
  clear hn
  obtain ⟨xt25, h25, hn⟩ := gInt_elim h
  clear h
  have h := hn
  clear hn
  obtain ⟨At26, nt26, ct26, h26, hn⟩ := gSlice_elim h
  clear h
  have h := hn
  clear hn
  obtain ⟨bt28, h28, hn⟩ := gBool_elim h
  clear h
  have h := hn
  clear hn
  obtain ⟨bt30, h30, hn⟩ := gBool_elim h
  clear h
  have h := hn
  clear hn
  obtain ⟨bt32, h32, hn⟩ := gBool_elim h
  clear h
  have h := hn
  clear hn
  obtain ⟨xt34, h34, hn⟩ := gInt_elim h
  clear h
  have h := hn
  clear hn
  rw [j3_eq (σ := σ)] at h
  have e : (ov σ [(2, .int .i64 xt2), (4, .int .i64 xt4), (11, .pointer pt11), (22, .slice At22 nt22 ct22), (23, .int .i64 xt23), (24, .slice At24 nt24 ct24), (25, .int .i64 xt25), (26, .slice At26 nt26 ct26), (28, .bool bt28), (30, .bool bt30), (32, .bool bt32), (34, .int .i64 xt34)]) = σ := ov_self (by simp [h2, h4, h11, h22, h23, h24, h25, h26, h28, h30, h32, h34])
  rw [e] at h
  exact h
def tb : List (List Nat × Spec) := [([0, 1, 0, 1, 1, 1, 1], l0T), ([0, 1, 0, 1, 1, 1, 0, 0, 1, 0, 0, 1, 0, 1, 1, 1, 1, 1, 1], l2T), ([0, 1, 0, 1, 1, 1, 1, 1, 1], l1T), ([1, 1, 1, 1, 1, 1, 1, 1, 1, 1, 1, 1, 1, 1, 1], j3T)]
theorem wp_eq (Aa0 : Option Addr) (na0 : Nat) (ca0 : Nat) (Aa1 : Option Addr) (na1 : Nat) (ca1 : Nat) (xa2 : Int) (xa3 : Int) (xa4 : Int) (w : World) (Q : Ending → World → Prop) :
    wp Aa0 na0 ca0 Aa1 na1 ca1 xa2 xa3 xa4 w Q = codeW Try.prog hT 209 D (tab tb) [] body (topQ Try.prog hT 209 [.tmp 10] Q) (argsF [.slice Aa0 na0 ca0, .slice Aa1 na1 ca1, .int .i64 xa2, .int .i64 xa3, .int .i64 xa4]) w := by kernel_rfl
theorem ok (Aa0 : Option Addr) (na0 : Nat) (ca0 : Nat) (Aa1 : Option Addr) (na1 : Nat) (ca1 : Nat) (xa2 : Int) (xa3 : Int) (xa4 : Int) (w : World) (Q : Ending → World → Prop) (h : wp Aa0 na0 ca0 Aa1 na1 ca1 xa2 xa3 xa4 w Q) : Calls Try.prog 4 #[.slice Aa0 na0 ca0, .slice Aa1 na1 ca1, .int .i64 xa2, .int .i64 xa3, .int .i64 xa4] w Q := by
  rw [wp_eq] at h
  exact calls_of_codeW (c := body) (rs := [.tmp 10]) Try.func4 (by kernel_rfl) (by kernel_rfl) (by kernel_rfl) (by kernel_rfl) (by kernel_rfl) (tab_snd (by
    intro x hx
    simp only [tb, List.mem_cons, List.not_mem_nil, or_false] at hx
    rcases hx with rfl | rfl | rfl | rfl
    · exact l0_snd
    · exact l2_snd
    · exact l1_snd
    · exact j3_snd)) (by kernel_rfl) h
end f_law15_TreapRows
end Go.Proofs.Ytnfgibbkfkaonaa.Rd
