/- The printed readings of some functions: each function's code reckoned by the kernel to its predicate transformer. -/
import Derived.Test.YthekjlglnmhlaaaHint
namespace Go.Proofs.Ythekjlglnmhlaaa.Rd
open Go.Dn
set_option maxRecDepth 100000
set_option linter.unusedVariables false
namespace f_law07_DiskFates
/-! skein/skeinlaw07.DiskFates: function 8 -/
noncomputable def body : Code := (Try.f8.body).getD .skip
def l0 : Nat → Option Addr → Option Addr → Nat → Nat → Int → Int → World → (World → Prop) → Prop
  | 0, _, _, _, _, _, _, _, _ => False
  | k + 1, pt9, At25, nt25, ct25, xt26, xt27, w, K0 =>
    sel (decide (xt27 < xt26)) (
    optB At25 fun a7 =>
    req (decide (0 ≤ xt27 ∧ xt27 < (nt25 : Int))) <|
    ldI w (a7.add (xt27.toNat * 5)) .i64 fun x8 =>
    ldI w ((a7.add (xt27.toNat * 5)).add 1) .i64 fun x9 =>
    ldS w ((a7.add (xt27.toNat * 5)).add 2) fun A10 n10 c10 =>
    ldS w ((a7.add (xt27.toNat * 5)).add 3) fun A11 n11 c11 =>
    ldS w ((a7.add (xt27.toNat * 5)).add 4) fun A12 n12 c12 =>
    alW w (.cells #[.int .i64 (0 : Int), .int .i64 (0 : Int), .slice none 0 0, .slice none 0 0, .slice none 0 0] 41) fun B13 w14 =>
    stW w14 (⟨B13, 0, Option.none⟩ : Addr) (.int .i64 x8) fun w15 =>
    stW w15 ((⟨B13, 0, Option.none⟩ : Addr).add 1) (.int .i64 x9) fun w16 =>
    stW w16 ((⟨B13, 0, Option.none⟩ : Addr).add 2) (.slice A10 n10 c10) fun w17 =>
    stW w17 ((⟨B13, 0, Option.none⟩ : Addr).add 3) (.slice A11 n11 c11) fun w18 =>
    stW w18 ((⟨B13, 0, Option.none⟩ : Addr).add 4) (.slice A12 n12 c12) fun w19 =>
    ldI w19 (⟨B13, 0, Option.none⟩ : Addr) .i64 fun x20 =>
    ldI w19 ((⟨B13, 0, Option.none⟩ : Addr).add 1) .i64 fun x21 =>
    ldS w19 ((⟨B13, 0, Option.none⟩ : Addr).add 2) fun A22 n22 c22 =>
    ldS w19 ((⟨B13, 0, Option.none⟩ : Addr).add 3) fun A23 n23 c23 =>
    ldS w19 ((⟨B13, 0, Option.none⟩ : Addr).add 4) fun A24 n24 c24 =>
    Calls Try.prog 18 #[.pointer pt9, .agg #[.int .i64 x20, .int .i64 x21, .slice A22 n22 c22, .slice A23 n23 c23, .slice A24 n24 c24]] w19 fun e25 w26 => e25 = .returned (.tuple #[]) ∧ (
    l0 k pt9 At25 nt25 ct25 xt26 (IntKind.i64.wrap (xt27 + (1 : Int))) w26 K0)) (
    K0  w)
def j3 (xt1 : Int) (At2 : Option Addr) (nt2 : Nat) (ct2 : Nat) (bt3 : Bool) (pt9 : Option Addr) (At12 : Option Addr) (nt12 : Nat) (ct12 : Nat) (At13 : Option Addr) (nt13 : Nat) (ct13 : Nat) (xt14 : Int) (xt15 : Int) (w : World) (Kr : Bool → World → Prop) : Prop :=
  sel (decide (xt1 < (1 : Int))) (
  sel (xt15 == (0 : Int)) (
  Calls Try.prog 15 #[.pointer pt9] w fun e51 w52 => ∃ (b53 : Bool), e51 = .returned (.bool b53) ∧ (
  sel b53 (
  Calls Try.prog 14 #[.pointer pt9] w52 fun e54 w55 => ∃ (x56 : Int), e54 = .returned (.int .i64 x56) ∧ (
  Kr (x56 == (IntKind.i64.wrap (xt14 + (1 : Int)))) w55)) (
  Kr false w52))) (
  Kr false w)) (
  sel (decide (xt1 > (3 : Int))) (
  sel (xt15 == (0 : Int)) (
  Calls Try.prog 15 #[.pointer pt9] w fun e57 w58 => ∃ (b59 : Bool), e57 = .returned (.bool b59) ∧ (
  sel b59 (
  Calls Try.prog 14 #[.pointer pt9] w58 fun e60 w61 => ∃ (x62 : Int), e60 = .returned (.int .i64 x62) ∧ (
  Kr (x62 == (IntKind.i64.wrap (xt14 + (1 : Int)))) w61)) (
  Kr false w58))) (
  Kr false w)) (
  sel (xt1 == (1 : Int)) (
  sel (xt15 == (71 : Int)) (
  Calls Try.prog 15 #[.pointer pt9] w fun e63 w64 => ∃ (b65 : Bool), e63 = .returned (.bool b65) ∧ (
  sel b65 (
  Calls Try.prog 26 #[.pointer pt9] w64 fun e66 w67 => ∃ (A68 : Option Addr) (n68 : Nat) (c68 : Nat), e66 = .returned (.slice A68 n68 c68) ∧ (
  Calls Try.prog 22 #[.slice A68 n68 c68, .slice At13 nt13 ct13] w67 fun e69 w70 => ∃ (b71 : Bool), e69 = .returned (.bool b71) ∧ (
  sel b71 (
  Calls Try.prog 27 #[.pointer pt9] w70 fun e72 w73 => ∃ (A74 : Option Addr) (n74 : Nat) (c74 : Nat), e72 = .returned (.slice A74 n74 c74) ∧ (
  Calls Try.prog 22 #[.slice A74 n74 c74, .slice At12 nt12 ct12] w73 fun e75 w76 => ∃ (b77 : Bool), e75 = .returned (.bool b77) ∧ (
  sel b77 (
  Calls Try.prog 14 #[.pointer pt9] w76 fun e78 w79 => ∃ (x80 : Int), e78 = .returned (.int .i64 x80) ∧ (
  Kr (x80 == (IntKind.i64.wrap (xt14 + (1 : Int)))) w79)) (
  Kr false w76)))) (
  Kr false w70)))) (
  Kr false w64))) (
  Kr false w)) (
  Calls Try.prog 17 #[.pointer pt9, .int .i64 (1 : Int)] w fun e81 w82 => ∃ (A83_0 : Option Addr) (n83_0 : Nat) (c83_0 : Nat) (x83_1 : Int), e81 = .returned (.tuple #[.slice A83_0 n83_0 c83_0, .int .i64 x83_1]) ∧ (
  sel (xt15 != (70 : Int)) (
  Kr false w82) (
  Calls Try.prog 15 #[.pointer pt9] w82 fun e84 w85 => ∃ (b86 : Bool), e84 = .returned (.bool b86) ∧ (
  sel b86 (
  Kr false w85) (
  sel (x83_1 != (70 : Int)) (
  Kr false w85) (
  Calls Try.prog 16 #[.pointer pt9, .int .i64 (2 : Int), .slice none 0 0] w85 fun e87 w88 => ∃ (x89 : Int), e87 = .returned (.int .i64 x89) ∧ (
  sel (x89 != (70 : Int)) (
  Kr false w88) (
  Calls Try.prog 20 #[.pointer pt9] w88 fun e90 w91 => ∃ (x92 : Int), e90 = .returned (.int .i64 x92) ∧ (
  sel (x92 != (70 : Int)) (
  Kr false w91) (
  Calls Try.prog 14 #[.pointer pt9] w91 fun e93 w94 => ∃ (x95 : Int), e93 = .returned (.int .i64 x95) ∧ (
  sel (x95 != (IntKind.i64.wrap (xt14 + (1 : Int)))) (
  Kr false w94) (
  alW w94 (.cells #[.int .i64 (1 : Int)] 3) fun B96 w97 =>
  Calls Try.prog 21 #[.pointer pt9, .slice (some (⟨B96, 0, Option.none⟩ : Addr)) 1 1] w97 fun e98 w99 => e98 = .returned (.tuple #[]) ∧ (
  sel (xt1 == (2 : Int)) (
  sel (!bt3) (
  Calls Try.prog 26 #[.pointer pt9] w99 fun e100 w101 => ∃ (A102 : Option Addr) (n102 : Nat) (c102 : Nat), e100 = .returned (.slice A102 n102 c102) ∧ (
  Calls Try.prog 22 #[.slice A102 n102 c102, .slice At12 nt12 ct12] w101 fun e103 w104 => ∃ (b105 : Bool), e103 = .returned (.bool b105) ∧ (
  Kr b105 w104))) (
  Calls Try.prog 17 #[.pointer pt9, .int .i64 (1 : Int)] w99 fun e106 w107 => ∃ (A108_0 : Option Addr) (n108_0 : Nat) (c108_0 : Nat) (x108_1 : Int), e106 = .returned (.tuple #[.slice A108_0 n108_0 c108_0, .int .i64 x108_1]) ∧ (
  sel (x108_1 == (0 : Int)) (
  Calls Try.prog 23 #[.slice A108_0 n108_0 c108_0, .int .i64 (0 : Int), .int .i64 (nt2 : Int)] w107 fun e109 w110 => ∃ (A111 : Option Addr) (n111 : Nat) (c111 : Nat), e109 = .returned (.slice A111 n111 c111) ∧ (
  Calls Try.prog 22 #[.slice A111 n111 c111, .slice At2 nt2 ct2] w110 fun e112 w113 => ∃ (b114 : Bool), e112 = .returned (.bool b114) ∧ (
  Kr b114 w113))) (
  Kr false w107)))) (
  Calls Try.prog 17 #[.pointer pt9, .int .i64 (1 : Int)] w99 fun e115 w116 => ∃ (A117_0 : Option Addr) (n117_0 : Nat) (c117_0 : Nat) (x117_1 : Int), e115 = .returned (.tuple #[.slice A117_0 n117_0 c117_0, .int .i64 x117_1]) ∧ (
  sel (x117_1 == (0 : Int)) (
  Calls Try.prog 23 #[.slice A117_0 n117_0 c117_0, .int .i64 (0 : Int), .int .i64 (nt2 : Int)] w116 fun e118 w119 => ∃ (A120 : Option Addr) (n120 : Nat) (c120 : Nat), e118 = .returned (.slice A120 n120 c120) ∧ (
  Calls Try.prog 22 #[.slice A120 n120 c120, .slice At2 nt2 ct2] w119 fun e121 w122 => ∃ (b123 : Bool), e121 = .returned (.bool b123) ∧ (
  Kr b123 w122))) (
  Kr false w116))))))))))))))))))
def j2 (xt1 : Int) (At2 : Option Addr) (nt2 : Nat) (ct2 : Nat) (bt3 : Bool) (pt9 : Option Addr) (At12 : Option Addr) (nt12 : Nat) (ct12 : Nat) (w : World) (Kr : Bool → World → Prop) : Prop :=
  Calls Try.prog 26 #[.pointer pt9] w fun e38 w39 => ∃ (A40 : Option Addr) (n40 : Nat) (c40 : Nat), e38 = .returned (.slice A40 n40 c40) ∧ (
  Calls Try.prog 14 #[.pointer pt9] w39 fun e41 w42 => ∃ (x43 : Int), e41 = .returned (.int .i64 x43) ∧ (
  alW w42 (.cells #[.int .i64 (IntKind.i64.wrap (x43 + (1 : Int))), .int .i64 xt1] 63) fun B44 w45 =>
  Calls Try.prog 24 #[.pointer pt9, .slice (some (⟨B44, 0, Option.none⟩ : Addr)) 1 1] w45 fun e46 w47 => e46 = .returned (.tuple #[]) ∧ (
  sel bt3 (
  Calls Try.prog 20 #[.pointer pt9] w47 fun e48 w49 => ∃ (x50 : Int), e48 = .returned (.int .i64 x50) ∧ (
  j3 xt1 At2 nt2 ct2 bt3 pt9 At12 nt12 ct12 A40 n40 c40 x43 x50 w49 (fun (b124 : Bool) (w125 : World) => ∀ _ : Fr,
  Kr b124 w125))) (
  Calls Try.prog 16 #[.pointer pt9, .int .i64 (1 : Int), .slice At2 nt2 ct2] w47 fun e126 w127 => ∃ (x128 : Int), e126 = .returned (.int .i64 x128) ∧ (
  j3 xt1 At2 nt2 ct2 bt3 pt9 At12 nt12 ct12 A40 n40 c40 x43 x128 w127 (fun (b129 : Bool) (w130 : World) => ∀ _ : Fr,
  Kr b129 w130))))))
def j1 (xt1 : Int) (At2 : Option Addr) (nt2 : Nat) (ct2 : Nat) (bt3 : Bool) (pt9 : Option Addr) (At12 : Option Addr) (nt12 : Nat) (ct12 : Nat) (w : World) (Kr : Bool → World → Prop) : Prop :=
  Calls Try.prog 24 #[.pointer pt9, .slice none 0 0] w fun e33 w34 => e33 = .returned (.tuple #[]) ∧ (
  sel bt3 (
  Calls Try.prog 16 #[.pointer pt9, .int .i64 (1 : Int), .slice At2 nt2 ct2] w34 fun e35 w36 => ∃ (x37 : Int), e35 = .returned (.int .i64 x37) ∧ (
  j2 xt1 At2 nt2 ct2 bt3 pt9 At12 nt12 ct12 w36 (fun (b131 : Bool) (w132 : World) => ∀ _ : Fr,
  Kr b131 w132))) (
  j2 xt1 At2 nt2 ct2 bt3 pt9 At12 nt12 ct12 w34 (fun (b133 : Bool) (w134 : World) => ∀ _ : Fr,
  Kr b133 w134)))
def wp (Aa0 : Option Addr) (na0 : Nat) (ca0 : Nat) (xa1 : Int) (Aa2 : Option Addr) (na2 : Nat) (ca2 : Nat) (ba3 : Bool) (w : World) (Q : Ending → World → Prop) : Prop :=
  Calls Try.prog 9 #[] w fun e1 w2 => ∃ (b3 : Bool), e1 = .returned (.bool b3) ∧ (
  sel (!b3) (
  Q (.returned (.bool false)) w2) (
  Calls Try.prog 10 #[.int .i64 (4 : Int)] w2 fun e4 w5 => ∃ (p6 : Option Addr), e4 = .returned (.pointer p6) ∧ (
  sel p6.isNone (
  Q (.returned (.bool false)) w5) (
  ∃ k139 : Nat, l0 k139 p6 Aa0 na0 ca0 (na0 : Int) (0 : Int) w5 (fun (w27 : World) => ∀ _ : Fr,
  Calls Try.prog 21 #[.pointer p6, .slice none 0 0] w27 fun e28 w29 => e28 = .returned (.tuple #[]) ∧ (
  Calls Try.prog 27 #[.pointer p6] w29 fun e30 w31 => ∃ (A32 : Option Addr) (n32 : Nat) (c32 : Nat), e30 = .returned (.slice A32 n32 c32) ∧ (
  sel (decide ((na2 : Int) > (512 : Int))) (
  req (decide (0 ≤ (512 : Int) ∧ (512 : Int) ≤ (ca2 : Int))) <|
  j1 xa1 (slA Aa2 0 ca2 1) (512 - 0) (ca2 - 0) ba3 p6 A32 n32 c32 w31 (fun (b135 : Bool) (w136 : World) => ∀ _ : Fr,
  Q (.returned (.bool b135)) w136)) (
  j1 xa1 Aa2 na2 ca2 ba3 p6 A32 n32 c32 w31 (fun (b137 : Bool) (w138 : World) => ∀ _ : Fr,
  Q (.returned (.bool b137)) w138)))))))))
def D : Nat → Option DH := dtab []
def l0LO : LO := ⟨[], [], [(0, [1, 2, 3, 9])], []⟩
def l0Tk (k : Nat) : Spec := fun Q σ w =>
  gPtr (σ 9) fun pt9 =>
  gSlice (σ 25) fun At25 nt25 ct25 =>
  gInt .i64 (σ 26) fun xt26 =>
  gInt .i64 (σ 27) fun xt27 =>
  l0 k pt9 At25 nt25 ct25 xt26 xt27 w (fun (w : World) => ∀ d : Fr, Q (.exit 0) (ov d [(1, σ 1), (2, σ 2), (3, σ 3), (9, .pointer pt9)]) w)
def l0T : Spec := fun Q σ w => ∃ k, l0Tk k Q σ w
def l0tb : List (List Nat × Spec) := []
noncomputable def l0b : Code := (subC [0, 0, 1, 0, 1, 1, 1, 1] body).getD .skip
theorem l0_eq (k : Nat) (pt9 : Option Addr) (At25 : Option Addr) (nt25 : Nat) (ct25 : Nat) (xt26 : Int) (xt27 : Int) (Q : PQ) (σ : Fr) (w : World) :
    l0 (k + 1) pt9 At25 nt25 ct25 xt26 xt27 w (fun (w : World) => ∀ d : Fr, Q (.exit 0) (ov d [(1, σ 1), (2, σ 2), (3, σ 3), (9, .pointer pt9)]) w) = codeW Try.prog hT 175 D (tab l0tb) [0, 0, 1, 0, 1, 1, 1, 1] l0b (thenQ (l0Tk k Q) (widen l0LO Q)) (ov σ [(9, .pointer pt9), (25, .slice At25 nt25 ct25), (26, .int .i64 xt26), (27, .int .i64 xt27)]) w := by kernel_rfl
theorem l0_snd : ∀ c, subC [0, 1, 0, 1, 1, 1, 1] body = some c → Snd Try.prog 175 c l0T := by
  refine loop_of (hT := hT) (D := D) (l := l0tb) (b := l0b) (lo := l0LO) (by kernel_rfl) (by
    intro x hx
    simp only [l0tb, List.not_mem_nil] at hx
    ) (by kernel_rfl) (by kernel_rfl) ?_ ?_
  · intro Q σ w h
    unfold l0Tk at h
    obtain ⟨pt9, h9, hn⟩ := gPtr_elim h
    clear h
    have h := hn
    clear hn
    obtain ⟨At25, nt25, ct25, h25, hn⟩ := gSlice_elim h
    clear h
    have h := hn
    clear hn
    obtain ⟨xt26, h26, hn⟩ := gInt_elim h
    clear h
    have h := hn
    clear hn
    obtain ⟨xt27, h27, hn⟩ := gInt_elim h
    clear h
    have h := hn
    clear hn
    exact h
  · intro k Q σ w h
    unfold l0Tk at h
    obtain ⟨pt9, h9, hn⟩ := gPtr_elim h
    clear h
    have h := hn
    clear hn
    obtain ⟨At25, nt25, ct25, h25, hn⟩ := gSlice_elim h
    clear h
    have h := hn
    clear hn
    obtain ⟨xt26, h26, hn⟩ := gInt_elim h
    clear h
    have h := hn
    clear hn
    obtain ⟨xt27, h27, hn⟩ := gInt_elim h
    clear h
    have h := hn
    clear hn
    rw [l0_eq (σ := σ)] at h
    have e : (ov σ [(9, .pointer pt9), (25, .slice At25 nt25 ct25), (26, .int .i64 xt26), (27, .int .i64 xt27)]) = σ := ov_self (by simp [h9, h25, h26, h27])
    rw [e] at h
    exact h
def j3LO : LO := ⟨[], [8], [], []⟩
def j3T : Spec := fun Q σ w =>
  gInt .i64 (σ 1) fun xt1 =>
  gSlice (σ 2) fun At2 nt2 ct2 =>
  gBool (σ 3) fun bt3 =>
  gPtr (σ 9) fun pt9 =>
  gSlice (σ 12) fun At12 nt12 ct12 =>
  gSlice (σ 13) fun At13 nt13 ct13 =>
  gInt .i64 (σ 14) fun xt14 =>
  gInt .i64 (σ 15) fun xt15 =>
  j3 xt1 At2 nt2 ct2 bt3 pt9 At12 nt12 ct12 At13 nt13 ct13 xt14 xt15 w (fun (bq8 : Bool) (w : World) => ∀ d : Fr, Q .ret (ov d [(8, .bool bq8)]) w)
def j3tb : List (List Nat × Spec) := []
noncomputable def j3b : Code := (subC [1, 1, 1, 1, 1, 1, 1, 1, 1, 1, 1, 1, 1, 1, 1] body).getD .skip
theorem j3_eq (xt1 : Int) (At2 : Option Addr) (nt2 : Nat) (ct2 : Nat) (bt3 : Bool) (pt9 : Option Addr) (At12 : Option Addr) (nt12 : Nat) (ct12 : Nat) (At13 : Option Addr) (nt13 : Nat) (ct13 : Nat) (xt14 : Int) (xt15 : Int) (Q : PQ) (σ : Fr) (w : World) :
    j3 xt1 At2 nt2 ct2 bt3 pt9 At12 nt12 ct12 At13 nt13 ct13 xt14 xt15 w (fun (bq8 : Bool) (w : World) => ∀ d : Fr, Q .ret (ov d [(8, .bool bq8)]) w) = codeW Try.prog hT 175 D (tab j3tb) [1, 1, 1, 1, 1, 1, 1, 1, 1, 1, 1, 1, 1, 1, 1] j3b (widen j3LO Q) (ov σ [(1, .int .i64 xt1), (2, .slice At2 nt2 ct2), (3, .bool bt3), (9, .pointer pt9), (12, .slice At12 nt12 ct12), (13, .slice At13 nt13 ct13), (14, .int .i64 xt14), (15, .int .i64 xt15)]) w := by cases bt3 <;> kernel_rfl
theorem j3_snd : ∀ c, subC [1, 1, 1, 1, 1, 1, 1, 1, 1, 1, 1, 1, 1, 1, 1] body = some c → Snd Try.prog 175 c j3T := by
  refine cut_of (hT := hT) (D := D) (l := j3tb) (b := j3b) (lo := j3LO) (by kernel_rfl) (by
    intro x hx
    simp only [j3tb, List.not_mem_nil] at hx
    ) (by kernel_rfl) (by kernel_rfl) ?_
  intro Q σ w h
  unfold j3T at h
  obtain ⟨xt1, h1, hn⟩ := gInt_elim h
  clear h
  have h := hn
  clear hn
  obtain ⟨At2, nt2, ct2, h2, hn⟩ := gSlice_elim h
  clear h
  have h := hn
  clear hn
  obtain ⟨bt3, h3, hn⟩ := gBool_elim h
  clear h
  have h := hn
  clear hn
  obtain ⟨pt9, h9, hn⟩ := gPtr_elim h
  clear h
  have h := hn
  clear hn
  obtain ⟨At12, nt12, ct12, h12, hn⟩ := gSlice_elim h
  clear h
  have h := hn
  clear hn
  obtain ⟨At13, nt13, ct13, h13, hn⟩ := gSlice_elim h
  clear h
  have h := hn
  clear hn
  obtain ⟨xt14, h14, hn⟩ := gInt_elim h
  clear h
  have h := hn
  clear hn
  obtain ⟨xt15, h15, hn⟩ := gInt_elim h
  clear h
  have h := hn
  clear hn
  rw [j3_eq (σ := σ)] at h
  have e : (ov σ [(1, .int .i64 xt1), (2, .slice At2 nt2 ct2), (3, .bool bt3), (9, .pointer pt9), (12, .slice At12 nt12 ct12), (13, .slice At13 nt13 ct13), (14, .int .i64 xt14), (15, .int .i64 xt15)]) = σ := ov_self (by simp [h1, h2, h3, h9, h12, h13, h14, h15])
  rw [e] at h
  exact h
def j2LO : LO := ⟨[], [8], [], []⟩
def j2T : Spec := fun Q σ w =>
  gInt .i64 (σ 1) fun xt1 =>
  gSlice (σ 2) fun At2 nt2 ct2 =>
  gBool (σ 3) fun bt3 =>
  gPtr (σ 9) fun pt9 =>
  gSlice (σ 12) fun At12 nt12 ct12 =>
  j2 xt1 At2 nt2 ct2 bt3 pt9 At12 nt12 ct12 w (fun (bq8 : Bool) (w : World) => ∀ d : Fr, Q .ret (ov d [(8, .bool bq8)]) w)
def j2tb : List (List Nat × Spec) := [([1, 1, 1, 1, 1, 1, 1, 1, 1, 1, 1, 1, 1, 1, 1], j3T)]
noncomputable def j2b : Code := (subC [1, 1, 1, 1, 1, 1, 1, 1, 1, 1] body).getD .skip
theorem j2_eq (xt1 : Int) (At2 : Option Addr) (nt2 : Nat) (ct2 : Nat) (bt3 : Bool) (pt9 : Option Addr) (At12 : Option Addr) (nt12 : Nat) (ct12 : Nat) (Q : PQ) (σ : Fr) (w : World) :
    j2 xt1 At2 nt2 ct2 bt3 pt9 At12 nt12 ct12 w (fun (bq8 : Bool) (w : World) => ∀ d : Fr, Q .ret (ov d [(8, .bool bq8)]) w) = codeW Try.prog hT 175 D (tab j2tb) [1, 1, 1, 1, 1, 1, 1, 1, 1, 1] j2b (widen j2LO Q) (ov σ [(1, .int .i64 xt1), (2, .slice At2 nt2 ct2), (3, .bool bt3), (9, .pointer pt9), (12, .slice At12 nt12 ct12)]) w := by cases bt3 <;> kernel_rfl
theorem j2_snd : ∀ c, subC [1, 1, 1, 1, 1, 1, 1, 1, 1, 1] body = some c → Snd Try.prog 175 c j2T := by
  refine cut_of (hT := hT) (D := D) (l := j2tb) (b := j2b) (lo := j2LO) (by kernel_rfl) (by
    intro x hx
    simp only [j2tb, List.mem_cons, List.not_mem_nil, or_false] at hx
    subst hx
    exact j3_snd) (by kernel_rfl) (by kernel_rfl) ?_
  intro Q σ w h
  unfold j2T at h
  obtain ⟨xt1, h1, hn⟩ := gInt_elim h
  clear h
  have h := hn
  clear hn
  obtain ⟨At2, nt2, ct2, h2, hn⟩ := gSlice_elim h
  clear h
  have h := hn
  clear hn
  obtain ⟨bt3, h3, hn⟩ := gBool_elim h
  clear h
  have h := hn
  clear hn
  obtain ⟨pt9, h9, hn⟩ := gPtr_elim h
  clear h
  have h := hn
  clear hn
  obtain ⟨At12, nt12, ct12, h12, hn⟩ := gSlice_elim h
  clear h
  have h := hn
  clear hn
  rw [j2_eq (σ := σ)] at h
  have e : (ov σ [(1, .int .i64 xt1), (2, .slice At2 nt2 ct2), (3, .bool bt3), (9, .pointer pt9), (12, .slice At12 nt12 ct12)]) = σ := ov_self (by simp [h1, h2, h3, h9, h12])
  rw [e] at h
  exact h
def j1LO : LO := ⟨[], [8], [], []⟩
def j1T : Spec := fun Q σ w =>
  gInt .i64 (σ 1) fun xt1 =>
  gSlice (σ 2) fun At2 nt2 ct2 =>
  gBool (σ 3) fun bt3 =>
  gPtr (σ 9) fun pt9 =>
  gSlice (σ 12) fun At12 nt12 ct12 =>
  j1 xt1 At2 nt2 ct2 bt3 pt9 At12 nt12 ct12 w (fun (bq8 : Bool) (w : World) => ∀ d : Fr, Q .ret (ov d [(8, .bool bq8)]) w)
def j1tb : List (List Nat × Spec) := [([1, 1, 1, 1, 1, 1, 1, 1, 1, 1, 1, 1, 1, 1, 1], j3T), ([1, 1, 1, 1, 1, 1, 1, 1, 1, 1], j2T)]
noncomputable def j1b : Code := (subC [1, 1, 1, 1, 1, 1, 1, 1] body).getD .skip
theorem j1_eq (xt1 : Int) (At2 : Option Addr) (nt2 : Nat) (ct2 : Nat) (bt3 : Bool) (pt9 : Option Addr) (At12 : Option Addr) (nt12 : Nat) (ct12 : Nat) (Q : PQ) (σ : Fr) (w : World) :
    j1 xt1 At2 nt2 ct2 bt3 pt9 At12 nt12 ct12 w (fun (bq8 : Bool) (w : World) => ∀ d : Fr, Q .ret (ov d [(8, .bool bq8)]) w) = codeW Try.prog hT 175 D (tab j1tb) [1, 1, 1, 1, 1, 1, 1, 1] j1b (widen j1LO Q) (ov σ [(1, .int .i64 xt1), (2, .slice At2 nt2 ct2), (3, .bool bt3), (9, .pointer pt9), (12, .slice At12 nt12 ct12)]) w := by cases bt3 <;> kernel_rfl
theorem j1_snd : ∀ c, subC [1, 1, 1, 1, 1, 1, 1, 1] body = some c → Snd Try.prog 175 c j1T := by
  refine cut_of (hT := hT) (D := D) (l := j1tb) (b := j1b) (lo := j1LO) (by kernel_rfl) (by
    intro x hx
    simp only [j1tb, List.mem_cons, List.not_mem_nil, or_false] at hx
    rcases hx with rfl | rfl
    · exact j3_snd
    · exact j2_snd) (by kernel_rfl) (by kernel_rfl) ?_
  intro Q σ w h
  unfold j1T at h
  obtain ⟨xt1, h1, hn⟩ := gInt_elim h
  clear h
  have h := hn
  clear hn
  obtain ⟨At2, nt2, ct2, h2, hn⟩ := gSlice_elim h
  clear h
  have h := hn
  clear hn
  obtain ⟨bt3, h3, hn⟩ := gBool_elim h
  clear h
  have h := hn
  clear hn
  obtain ⟨pt9, h9, hn⟩ := gPtr_elim h
  clear h
  have h := hn
  clear hn
  obtain ⟨At12, nt12, ct12, h12, hn⟩ := gSlice_elim h
  clear h
  have h := hn
  clear hn
  rw [j1_eq (σ := σ)] at h
  have e : (ov σ [(1, .int .i64 xt1), (2, .slice At2 nt2 ct2), (3, .bool bt3), (9, .pointer pt9), (12, .slice At12 nt12 ct12)]) = σ := ov_self (by simp [h1, h2, h3, h9, h12])
  rw [e] at h
  exact h
def tb : List (List Nat × Spec) := [([0, 1, 0, 1, 1, 1, 1], l0T), ([1, 1, 1, 1, 1, 1, 1, 1, 1, 1, 1, 1, 1, 1, 1], j3T), ([1, 1, 1, 1, 1, 1, 1, 1, 1, 1], j2T), ([1, 1, 1, 1, 1, 1, 1, 1], j1T)]
theorem wp_eq (Aa0 : Option Addr) (na0 : Nat) (ca0 : Nat) (xa1 : Int) (Aa2 : Option Addr) (na2 : Nat) (ca2 : Nat) (ba3 : Bool) (w : World) (Q : Ending → World → Prop) :
    wp Aa0 na0 ca0 xa1 Aa2 na2 ca2 ba3 w Q = codeW Try.prog hT 175 D (tab tb) [] body (topQ Try.prog hT 175 [.tmp 8] Q) (argsF [.slice Aa0 na0 ca0, .int .i64 xa1, .slice Aa2 na2 ca2, .bool ba3]) w := by cases ba3 <;> kernel_rfl
theorem ok (Aa0 : Option Addr) (na0 : Nat) (ca0 : Nat) (xa1 : Int) (Aa2 : Option Addr) (na2 : Nat) (ca2 : Nat) (ba3 : Bool) (w : World) (Q : Ending → World → Prop) (h : wp Aa0 na0 ca0 xa1 Aa2 na2 ca2 ba3 w Q) : Calls Try.prog 8 #[.slice Aa0 na0 ca0, .int .i64 xa1, .slice Aa2 na2 ca2, .bool ba3] w Q := by
  rw [wp_eq] at h
  exact calls_of_codeW (c := body) (rs := [.tmp 8]) Try.func8 (by kernel_rfl) (by kernel_rfl) (by kernel_rfl) (by kernel_rfl) (by kernel_rfl) (tab_snd (by
    intro x hx
    simp only [tb, List.mem_cons, List.not_mem_nil, or_false] at hx
    rcases hx with rfl | rfl | rfl | rfl
    · exact l0_snd
    · exact j3_snd
    · exact j2_snd
    · exact j1_snd)) (by kernel_rfl) h
end f_law07_DiskFates
end Go.Proofs.Ythekjlglnmhlaaa.Rd
