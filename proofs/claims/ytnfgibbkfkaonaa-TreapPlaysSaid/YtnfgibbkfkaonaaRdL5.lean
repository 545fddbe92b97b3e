/- The printed readings of some functions: each function's code reckoned by the kernel to its predicate transformer. -/
import Derived.Test.YtnfgibbkfkaonaaHint
namespace Go.Proofs.Ytnfgibbkfkaonaa.Rd
open Go.Dn
set_option maxRecDepth 100000
set_option linter.unusedVariables false
namespace f_law15_TreapSums
/-! skein/skeinlaw15.TreapSums: function 5 -/
noncomputable def body : Code := (Try.f5.body).getD .skip
def l0 : Nat → Option Addr → Option Addr → Nat → Nat → Int → Int → World → (World → Prop) → Prop
  | 0, _, _, _, _, _, _, _, _ => False
  | k + 1, pt11, At43, nt43, ct43, xt44, xt45, w, K0 =>
    sel (decide (xt45 < xt44)) (
    optB At43 fun a7 =>
    req (decide (0 ≤ xt45 ∧ xt45 < (nt43 : Int))) <|
    ldI w (a7.add (xt45.toNat * 5)) .i64 fun x8 =>
    ldI w ((a7.add (xt45.toNat * 5)).add 1) .i64 fun x9 =>
    ldI w ((a7.add (xt45.toNat * 5)).add 2) .i64 fun x10 =>
    ldI w ((a7.add (xt45.toNat * 5)).add 3) .i64 fun x11 =>
    ldI w ((a7.add (xt45.toNat * 5)).add 4) .u8 fun x12 =>
    alW w (.cells #[.int .i64 (0 : Int), .int .i64 (0 : Int), .int .i64 (0 : Int), .int .i64 (0 : Int), .int .u8 (0 : Int)] 30) fun B13 w14 =>
    stW w14 (⟨B13, 0, Option.none⟩ : Addr) (.int .i64 x8) fun w15 =>
    stW w15 ((⟨B13, 0, Option.none⟩ : Addr).add 1) (.int .i64 x9) fun w16 =>
    stW w16 ((⟨B13, 0, Option.none⟩ : Addr).add 2) (.int .i64 x10) fun w17 =>
    stW w17 ((⟨B13, 0, Option.none⟩ : Addr).add 3) (.int .i64 x11) fun w18 =>
    stW w18 ((⟨B13, 0, Option.none⟩ : Addr).add 4) (.int .u8 x12) fun w19 =>
    ldI w19 (⟨B13, 0, Option.none⟩ : Addr) .i64 fun x20 =>
    ldI w19 ((⟨B13, 0, Option.none⟩ : Addr).add 1) .i64 fun x21 =>
    ldI w19 ((⟨B13, 0, Option.none⟩ : Addr).add 2) .i64 fun x22 =>
    ldI w19 ((⟨B13, 0, Option.none⟩ : Addr).add 3) .i64 fun x23 =>
    ldI w19 ((⟨B13, 0, Option.none⟩ : Addr).add 4) .u8 fun x24 =>
    Calls Try.prog 10 #[.pointer pt11, .agg #[.slice none 0 0, .slice none 0 0, .slice none 0 0], .agg #[.int .i64 x20, .int .i64 x21, .int .i64 x22, .int .i64 x23, .int .u8 x24]] w19 fun e25 w26 => ∃ (A27_0_0 : Option Addr) (n27_0_0 : Nat) (c27_0_0 : Nat) (A27_0_1 : Option Addr) (n27_0_1 : Nat) (c27_0_1 : Nat) (A27_0_2 : Option Addr) (n27_0_2 : Nat) (c27_0_2 : Nat) (b27_1 : Bool), e25 = .returned (.tuple #[.agg #[.slice A27_0_0 n27_0_0 c27_0_0, .slice A27_0_1 n27_0_1 c27_0_1, .slice A27_0_2 n27_0_2 c27_0_2], .bool b27_1]) ∧ (
    l0 k pt11 At43 nt43 ct43 xt44 (IntKind.i64.wrap (xt45 + (1 : Int))) w26 K0)) (
    K0  w)
def l1 : Nat → Option Addr → Addr → Option Addr → Nat → Nat → Int → Int → World → (World → Prop) → (Bool → World → Prop) → Prop
  | 0, _, _, _, _, _, _, _, _, _, _ => False
  | k + 1, pt11, at20, At96, nt96, ct96, xt97, xt98, w, K2, Kr =>
    sel (decide (xt98 < xt97)) (
    optB At96 fun a48 =>
    req (decide (0 ≤ xt98 ∧ xt98 < (nt96 : Int))) <|
    ldI w (a48.add (xt98.toNat * 1)) .i64 fun x49 =>
    Calls Try.prog 20 #[.pointer pt11, .int .i64 x49] w fun e50 w51 => ∃ (x52_0_0 : Int) (x52_0_1 : Int) (x52_1 : Int), e50 = .returned (.tuple #[.agg #[.int .i64 x52_0_0, .int .i64 x52_0_1], .int .i64 x52_1]) ∧ (
    alW w51 (.cells #[.int .i64 (0 : Int), .int .i64 (0 : Int)] 27) fun B53 w54 =>
    stW w54 (⟨B53, 0, Option.none⟩ : Addr) (.int .i64 x52_0_0) fun w55 =>
    stW w55 ((⟨B53, 0, Option.none⟩ : Addr).add 1) (.int .i64 x52_0_1) fun w56 =>
    sel (x52_1 != (0 : Int)) (
    Kr false w56) (
    ldI w56 at20 .i64 fun x57 =>
    ldI w56 (at20.add 1) .i64 fun x58 =>
    ldI w56 (⟨B53, 0, Option.none⟩ : Addr) .i64 fun x59 =>
    ldI w56 ((⟨B53, 0, Option.none⟩ : Addr).add 1) .i64 fun x60 =>
    Calls Try.prog 21 #[.agg #[.int .i64 x57, .int .i64 x58], .agg #[.int .i64 x59, .int .i64 x60]] w56 fun e61 w62 => ∃ (x63_0 : Int) (x63_1 : Int), e61 = .returned (.agg #[.int .i64 x63_0, .int .i64 x63_1]) ∧ (
    stW w62 at20 (.int .i64 x63_0) fun w64 =>
    stW w64 (at20.add 1) (.int .i64 x63_1) fun w65 =>
    l1 k pt11 at20 At96 nt96 ct96 xt97 (IntKind.i64.wrap (xt98 + (1 : Int))) w65 K2 Kr)))) (
    K2  w)
def wp (Aa0 : Option Addr) (na0 : Nat) (ca0 : Nat) (Aa1 : Option Addr) (na1 : Nat) (ca1 : Nat) (xa2 : Int) (xa3 : Int) (xa4 : Int) (w : World) (Q : Ending → World → Prop) : Prop :=
  Calls Try.prog 8 #[.slice Aa0 na0 ca0] w fun e1 w2 => ∃ (p3 : Option Addr), e1 = .returned (.pointer p3) ∧ (
  sel p3.isNone (
  Q (.returned (.bool false)) w2) (
  Calls Try.prog 9 #[] w2 fun e4 w5 => ∃ (b6 : Bool), e4 = .returned (.bool b6) ∧ (
  sel (!b6) (
  Q (.returned (.bool false)) w5) (
  ∃ k118 : Nat, l0 k118 p3 Aa1 na1 ca1 (na1 : Int) (0 : Int) w5 (fun (w28 : World) => ∀ _ : Fr,
  Calls Try.prog 11 #[.pointer p3, .int .i64 xa2] w28 fun e29 w30 => ∃ (A31_0 : Option Addr) (n31_0 : Nat) (c31_0 : Nat) (x31_1 : Int), e29 = .returned (.tuple #[.slice A31_0 n31_0 c31_0, .int .i64 x31_1]) ∧ (
  Calls Try.prog 12 #[.pointer p3, .int .i64 xa2] w30 fun e32 w33 => ∃ (x34_0_0 : Int) (x34_0_1 : Int) (x34_1 : Int), e32 = .returned (.tuple #[.agg #[.int .i64 x34_0_0, .int .i64 x34_0_1], .int .i64 x34_1]) ∧ (
  alW w33 (.cells #[.int .i64 (0 : Int), .int .i64 (0 : Int)] 27) fun B35 w36 =>
  stW w36 (⟨B35, 0, Option.none⟩ : Addr) (.int .i64 x34_0_0) fun w37 =>
  stW w37 ((⟨B35, 0, Option.none⟩ : Addr).add 1) (.int .i64 x34_0_1) fun w38 =>
  Calls Try.prog 19 #[.pointer p3, .int .i64 xa2] w38 fun e39 w40 => ∃ (x41_0 : Int) (x41_1 : Int), e39 = .returned (.tuple #[.int .i64 x41_0, .int .i64 x41_1]) ∧ (
  sel (x31_1 != x34_1) (
  Q (.returned (.bool false)) w40) (
  sel (x34_1 != x41_1) (
  Q (.returned (.bool false)) w40) (
  sel (x41_0 != (n31_0 : Int)) (
  Q (.returned (.bool false)) w40) (
  sel (x31_1 != (0 : Int)) (
  sel (x31_1 == (150 : Int)) (
  ldI w40 (⟨B35, 0, Option.none⟩ : Addr) .i64 fun x42 =>
  ldI w40 ((⟨B35, 0, Option.none⟩ : Addr).add 1) .i64 fun x43 =>
  Q (.returned (.bool ((x42 == (0 : Int)) && ((x43 == (0 : Int)) && true)))) w40) (
  Q (.returned (.bool false)) w40)) (
  alW w40 (.cells #[.int .i64 (0 : Int), .int .i64 (0 : Int)] 27) fun B44 w45 =>
  stW w45 (⟨B44, 0, Option.none⟩ : Addr) (.int .i64 (0 : Int)) fun w46 =>
  stW w46 ((⟨B44, 0, Option.none⟩ : Addr).add 1) (.int .i64 (0 : Int)) fun w47 =>
  ∃ k117 : Nat, l1 k117 p3 (⟨B44, 0, Option.none⟩ : Addr) A31_0 n31_0 c31_0 (n31_0 : Int) (0 : Int) w47 (fun (w66 : World) => ∀ _ : Fr,
  ldI w66 (⟨B35, 0, Option.none⟩ : Addr) .i64 fun x67 =>
  ldI w66 ((⟨B35, 0, Option.none⟩ : Addr).add 1) .i64 fun x68 =>
  ldI w66 (⟨B44, 0, Option.none⟩ : Addr) .i64 fun x69 =>
  ldI w66 ((⟨B44, 0, Option.none⟩ : Addr).add 1) .i64 fun x70 =>
  sel (!((x67 == x69) && ((x68 == x70) && true))) (
  Q (.returned (.bool false)) w66) (
  Calls Try.prog 12 #[.pointer p3, .int .i64 xa3] w66 fun e71 w72 => ∃ (x73_0_0 : Int) (x73_0_1 : Int) (x73_1 : Int), e71 = .returned (.tuple #[.agg #[.int .i64 x73_0_0, .int .i64 x73_0_1], .int .i64 x73_1]) ∧ (
  alW w72 (.cells #[.int .i64 (0 : Int), .int .i64 (0 : Int)] 27) fun B74 w75 =>
  stW w75 (⟨B74, 0, Option.none⟩ : Addr) (.int .i64 x73_0_0) fun w76 =>
  stW w76 ((⟨B74, 0, Option.none⟩ : Addr).add 1) (.int .i64 x73_0_1) fun w77 =>
  Calls Try.prog 16 #[.pointer p3, .int .i64 xa2, .int .i64 xa3] w77 fun e78 w79 => ∃ (b80_0 : Bool) (x80_1 : Int), e78 = .returned (.tuple #[.bool b80_0, .int .i64 x80_1]) ∧ (
  Calls Try.prog 20 #[.pointer p3, .int .i64 xa2] w79 fun e81 w82 => ∃ (x83_0_0 : Int) (x83_0_1 : Int) (x83_1 : Int), e81 = .returned (.tuple #[.agg #[.int .i64 x83_0_0, .int .i64 x83_0_1], .int .i64 x83_1]) ∧ (
  alW w82 (.cells #[.int .i64 (0 : Int), .int .i64 (0 : Int)] 27) fun B84 w85 =>
  stW w85 (⟨B84, 0, Option.none⟩ : Addr) (.int .i64 x83_0_0) fun w86 =>
  stW w86 ((⟨B84, 0, Option.none⟩ : Addr).add 1) (.int .i64 x83_0_1) fun w87 =>
  ldI w87 ((⟨B84, 0, Option.none⟩ : Addr).add 1) .i64 fun x88 =>
  Calls Try.prog 22 #[.pointer p3, .int .i64 xa2, .agg #[.int .i64 xa4, .int .i64 x88]] w87 fun e89 w90 => ∃ (x91 : Int), e89 = .returned (.int .i64 x91) ∧ (
  sel (x91 != (0 : Int)) (
  Q (.returned (.bool false)) w90) (
  Calls Try.prog 12 #[.pointer p3, .int .i64 xa2] w90 fun e92 w93 => ∃ (x94_0_0 : Int) (x94_0_1 : Int) (x94_1 : Int), e92 = .returned (.tuple #[.agg #[.int .i64 x94_0_0, .int .i64 x94_0_1], .int .i64 x94_1]) ∧ (
  alW w93 (.cells #[.int .i64 (0 : Int), .int .i64 (0 : Int)] 27) fun B95 w96 =>
  stW w96 (⟨B95, 0, Option.none⟩ : Addr) (.int .i64 x94_0_0) fun w97 =>
  stW w97 ((⟨B95, 0, Option.none⟩ : Addr).add 1) (.int .i64 x94_0_1) fun w98 =>
  Calls Try.prog 12 #[.pointer p3, .int .i64 xa3] w98 fun e99 w100 => ∃ (x101_0_0 : Int) (x101_0_1 : Int) (x101_1 : Int), e99 = .returned (.tuple #[.agg #[.int .i64 x101_0_0, .int .i64 x101_0_1], .int .i64 x101_1]) ∧ (
  alW w100 (.cells #[.int .i64 (0 : Int), .int .i64 (0 : Int)] 27) fun B102 w103 =>
  stW w103 (⟨B102, 0, Option.none⟩ : Addr) (.int .i64 x101_0_0) fun w104 =>
  stW w104 ((⟨B102, 0, Option.none⟩ : Addr).add 1) (.int .i64 x101_0_1) fun w105 =>
  ldI w105 (⟨B95, 0, Option.none⟩ : Addr) .i64 fun x106 =>
  ldI w105 (⟨B35, 0, Option.none⟩ : Addr) .i64 fun x107 =>
  ldI w105 (⟨B84, 0, Option.none⟩ : Addr) .i64 fun x108 =>
  sel (x106 == (IntKind.i64.wrap ((IntKind.i64.wrap (x107 - x108)) + xa4))) (
  ldI w105 ((⟨B95, 0, Option.none⟩ : Addr).add 1) .i64 fun x109 =>
  ldI w105 ((⟨B35, 0, Option.none⟩ : Addr).add 1) .i64 fun x110 =>
  sel (x109 == x110) (
  sel b80_0 (
  Q (.returned (.bool true)) w105) (
  ldI w105 (⟨B102, 0, Option.none⟩ : Addr) .i64 fun x111 =>
  ldI w105 ((⟨B102, 0, Option.none⟩ : Addr).add 1) .i64 fun x112 =>
  ldI w105 (⟨B74, 0, Option.none⟩ : Addr) .i64 fun x113 =>
  ldI w105 ((⟨B74, 0, Option.none⟩ : Addr).add 1) .i64 fun x114 =>
  Q (.returned (.bool ((x111 == x113) && ((x112 == x114) && true)))) w105)) (
  Q (.returned (.bool false)) w105)) (
  Q (.returned (.bool false)) w105)))))))))) (fun (b115 : Bool) (w116 : World) => ∀ _ : Fr,
  Q (.returned (.bool b115)) w116)))))))))))))
def D : Nat → Option DH := dtab []
def l0LO : LO := ⟨[], [], [(0, [2, 3, 4, 11])], []⟩
def l0Tk (k : Nat) : Spec := fun Q σ w =>
  gPtr (σ 11) fun pt11 =>
  gSlice (σ 43) fun At43 nt43 ct43 =>
  gInt .i64 (σ 44) fun xt44 =>
  gInt .i64 (σ 45) fun xt45 =>
  l0 k pt11 At43 nt43 ct43 xt44 xt45 w (fun (w : World) => ∀ d : Fr, Q (.exit 0) (ov d [(2, σ 2), (3, σ 3), (4, σ 4), (11, .pointer pt11)]) w)
def l0T : Spec := fun Q σ w => ∃ k, l0Tk k Q σ w
def l0tb : List (List Nat × Spec) := []
noncomputable def l0b : Code := (subC [0, 0, 1, 0, 1, 1, 1] body).getD .skip
theorem l0_eq (k : Nat) (pt11 : Option Addr) (At43 : Option Addr) (nt43 : Nat) (ct43 : Nat) (xt44 : Int) (xt45 : Int) (Q : PQ) (σ : Fr) (w : World) :
    l0 (k + 1) pt11 At43 nt43 ct43 xt44 xt45 w (fun (w : World) => ∀ d : Fr, Q (.exit 0) (ov d [(2, σ 2), (3, σ 3), (4, σ 4), (11, .pointer pt11)]) w) = codeW Try.prog hT 181 D (tab l0tb) [0, 0, 1, 0, 1, 1, 1] l0b (thenQ (l0Tk k Q) (widen l0LO Q)) (ov σ [(11, .pointer pt11), (43, .slice At43 nt43 ct43), (44, .int .i64 xt44), (45, .int .i64 xt45)]) w := by kernel_rfl
theorem l0_snd : ∀ c, subC [0, 1, 0, 1, 1, 1] body = some c → Snd Try.prog 181 c l0T := by
  refine loop_of (hT := hT) (D := D) (l := l0tb) (b := l0b) (lo := l0LO) (by kernel_rfl) (by
    intro x hx
    simp only [l0tb, List.not_mem_nil] at hx
    ) (by kernel_rfl) (by kernel_rfl) ?_ ?_
  · intro Q σ w h
    unfold l0Tk at h
    obtain ⟨pt11, h11, hn⟩ := gPtr_elim h
    clear h
    have h := hn
    clear hn
    obtain ⟨At43, nt43, ct43, h43, hn⟩ := gSlice_elim h
    clear h
    have h := hn
    clear hn
    obtain ⟨xt44, h44, hn⟩ := gInt_elim h
    clear h
    have h := hn
    clear hn
    obtain ⟨xt45, h45, hn⟩ := gInt_elim h
    clear h
    have h := hn
    clear hn
    exact h
  · intro k Q σ w h
    unfold l0Tk at h
    obtain ⟨pt11, h11, hn⟩ := gPtr_elim h
    clear h
    have h := hn
    clear hn
    obtain ⟨At43, nt43, ct43, h43, hn⟩ := gSlice_elim h
    clear h
    have h := hn
    clear hn
    obtain ⟨xt44, h44, hn⟩ := gInt_elim h
    clear h
    have h := hn
    clear hn
    obtain ⟨xt45, h45, hn⟩ := gInt_elim h
    clear h
    have h := hn
    clear hn
    rw [l0_eq (σ := σ)] at h
    have e : (ov σ [(11, .pointer pt11), (43, .slice At43 nt43 ct43), (44, .int .i64 xt44), (45, .int .i64 xt45)]) = σ := ov_self (by simp [h11, h43, h44, h45])
    rw [e] at h
    exact h
def l1LO : LO := ⟨[], [10], [(2, [2, 3, 4, 11, 16, 20])], []⟩
def l1Tk (k : Nat) : Spec := fun Q σ w =>
  gPtr (σ 11) fun pt11 =>
  gAd (σ 20) fun at20 =>
  gSlice (σ 96) fun At96 nt96 ct96 =>
  gInt .i64 (σ 97) fun xt97 =>
  gInt .i64 (σ 98) fun xt98 =>
  l1 k pt11 at20 At96 nt96 ct96 xt97 xt98 w (fun (w : World) => ∀ d : Fr, Q (.exit 2) (ov d [(2, σ 2), (3, σ 3), (4, σ 4), (11, .pointer pt11), (16, σ 16), (20, .pointer (some at20))]) w) (fun (bq10 : Bool) (w : World) => ∀ d : Fr, Q .ret (ov d [(10, .bool bq10)]) w)
def l1T : Spec := fun Q σ w => ∃ k, l1Tk k Q σ w
def l1tb : List (List Nat × Spec) := []
noncomputable def l1b : Code := (subC [0, 0, 1, 0, 1, 1, 1, 1, 1, 1, 1, 1, 1, 1] body).getD .skip
theorem l1_eq (k : Nat) (pt11 : Option Addr) (at20 : Addr) (At96 : Option Addr) (nt96 : Nat) (ct96 : Nat) (xt97 : Int) (xt98 : Int) (Q : PQ) (σ : Fr) (w : World) :
    l1 (k + 1) pt11 at20 At96 nt96 ct96 xt97 xt98 w (fun (w : World) => ∀ d : Fr, Q (.exit 2) (ov d [(2, σ 2), (3, σ 3), (4, σ 4), (11, .pointer pt11), (16, σ 16), (20, .pointer (some at20))]) w) (fun (bq10 : Bool) (w : World) => ∀ d : Fr, Q .ret (ov d [(10, .bool bq10)]) w) = codeW Try.prog hT 181 D (tab l1tb) [0, 0, 1, 0, 1, 1, 1, 1, 1, 1, 1, 1, 1, 1] l1b (thenQ (l1Tk k Q) (widen l1LO Q)) (ov σ [(11, .pointer pt11), (20, .pointer (some at20)), (96, .slice At96 nt96 ct96), (97, .int .i64 xt97), (98, .int .i64 xt98)]) w := by kernel_rfl
theorem l1_snd : ∀ c, subC [0, 1, 0, 1, 1, 1, 1, 1, 1, 1, 1, 1, 1] body = some c → Snd Try.prog 181 c l1T := by
  refine loop_of (hT := hT) (D := D) (l := l1tb) (b := l1b) (lo := l1LO) (by kernel_rfl) (by
    intro x hx
    simp only [l1tb, List.not_mem_nil] at hx
    ) (by kernel_rfl) (by kernel_rfl) ?_ ?_
  · intro Q σ w h
    unfold l1Tk at h
    obtain ⟨pt11, h11, hn⟩ := gPtr_elim h
    clear h
    have h := hn
    clear hn
    obtain ⟨at20, h20, hn⟩ := gAd_elim h
    clear h
    have h := hn
    clear hn
    obtain ⟨At96, nt96, ct96, h96, hn⟩ := gSlice_elim h
    clear h
    have h := hn
    clear hn
    obtain ⟨xt97, h97, hn⟩ := gInt_elim h
    clear h
    have h := hn
    clear hn
    obtain ⟨xt98, h98, hn⟩ := gInt_elim h
    clear h
    have h := hn
    clear hn
    exact h
  · intro k Q σ w h
    unfold l1Tk at h
    obtain ⟨pt11, h11, hn⟩ := gPtr_elim h
    clear h
    have h := hn
    clear hn
    obtain ⟨at20, h20, hn⟩ := gAd_elim h
    clear h
    have h := hn
    clear hn
    obtain ⟨At96, nt96, ct96, h96, hn⟩ := gSlice_elim h
    clear h
    have h := hn
    clear hn
    obtain ⟨xt97, h97, hn⟩ := gInt_elim h
    clear h
    have h := hn
    clear hn
    obtain ⟨xt98, h98, hn⟩ := gInt_elim h
    clear h
    have h := hn
    clear hn
    rw [l1_eq (σ := σ)] at h
    have e : (ov σ [(11, .pointer pt11), (20, .pointer (some at20)), (96, .slice At96 nt96 ct96), (97, .int .i64 xt97), (98, .int .i64 xt98)]) = σ := ov_self (by simp [h11, h20, h96, h97, h98])
    rw [e] at h
    exact h
def tb : List (List Nat × Spec) := [([0, 1, 0, 1, 1, 1], l0T), ([0, 1, 0, 1, 1, 1, 1, 1, 1, 1, 1, 1, 1], l1T)]
theorem wp_eq (Aa0 : Option Addr) (na0 : Nat) (ca0 : Nat) (Aa1 : Option Addr) (na1 : Nat) (ca1 : Nat) (xa2 : Int) (xa3 : Int) (xa4 : Int) (w : World) (Q : Ending → World → Prop) :
    wp Aa0 na0 ca0 Aa1 na1 ca1 xa2 xa3 xa4 w Q = codeW Try.prog hT 181 D (tab tb) [] body (topQ Try.prog hT 181 [.tmp 10] Q) (argsF [.slice Aa0 na0 ca0, .slice Aa1 na1 ca1, .int .i64 xa2, .int .i64 xa3, .int .i64 xa4]) w := by kernel_rfl
theorem ok (Aa0 : Option Addr) (na0 : Nat) (ca0 : Nat) (Aa1 : Option Addr) (na1 : Nat) (ca1 : Nat) (xa2 : Int) (xa3 : Int) (xa4 : Int) (w : World) (Q : Ending → World → Prop) (h : wp Aa0 na0 ca0 Aa1 na1 ca1 xa2 xa3 xa4 w Q) : Calls Try.prog 5 #[.slice Aa0 na0 ca0, .slice Aa1 na1 ca1, .int .i64 xa2, .int .i64 xa3, .int .i64 xa4] w Q := by
  rw [wp_eq] at h
  exact calls_of_codeW (c := body) (rs := [.tmp 10]) Try.func5 (by kernel_rfl) (by kernel_rfl) (by kernel_rfl) (by kernel_rfl) (by kernel_rfl) (tab_snd (by
    intro x hx
    simp only [tb, List.mem_cons, List.not_mem_nil, or_false] at hx
    rcases hx with rfl | rfl
    · exact l0_snd
    · exact l1_snd)) (by kernel_rfl) h
end f_law15_TreapSums
end Go.Proofs.Ytnfgibbkfkaonaa.Rd
