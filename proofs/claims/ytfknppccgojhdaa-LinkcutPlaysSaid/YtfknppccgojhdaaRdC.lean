/- The printed readings of some functions: each function's code reckoned by the kernel to its predicate transformer. -/
import Derived.Test.YtfknppccgojhdaaHint
namespace Go.Proofs.Ytfknppccgojhdaa.Rd
open Go.Dn
set_option maxRecDepth 100000
set_option linter.unusedVariables false
namespace f_law17_alive
/-! skein/skeinlaw17.alive: function 9 -/
noncomputable def body : Code := (Try.f9.body).getD .skip
def j0 (pt1 : Option Addr) (xt2 : Int) (xt3 : Int) (xt4 : Int) (at5 : Addr) (xt6 : Int) (at7 : Addr) (bt8 : Bool) (xt9 : Int) (xt10 : Int) (xt11 : Int) (xt13 : Int) (w : World) (Kr : Bool → World → Prop) : Prop :=
  Calls Try.prog 24 #[.pointer pt1, .int .i64 (2 : Int), .int .i64 (3 : Int)] w fun e57 w58 => ∃ (b59_0 : Bool) (x59_1 : Int), e57 = .returned (.tuple #[.bool b59_0, .int .i64 x59_1]) ∧ (
  sel (xt2 == (0 : Int)) (
  sel (xt3 == (0 : Int)) (
  sel (xt4 == (151 : Int)) (
  sel (xt6 == (0 : Int)) (
  ldI w58 at5 .i64 fun x60 =>
  sel (x60 == (7 : Int)) (
  ldC w58 (at5.add 4) .f64 fun r61 i61 =>
  Runs Try.prog (do eqGuard .eql 46 (.tmp 92) (.const (.complex .f64 4621256167635550208 4611686018427387904)) (.complex .f64 r61 i61) (.complex .f64 4621256167635550208 4611686018427387904); binOp .eql 46 (.complex .f64 r61 i61) (.complex .f64 4621256167635550208 4611686018427387904) : Sem Value) w58 fun v63 w62 => ∃ (b64 : Bool), v63 = (.bool b64) ∧ (
  sel b64 (
  ldI w62 (at7.add 3) .i64 fun x65 =>
  sel (x65 == (4 : Int)) (
  sel bt8 (
  sel (xt9 == (3 : Int)) (
  sel (xt10 == (2 : Int)) (
  sel (xt11 == (0 : Int)) (
  sel (xt13 == (61 : Int)) (
  sel b59_0 (
  Kr (x59_1 == (0 : Int)) w62) (
  Kr false w62)) (
  Kr false w62)) (
  Kr false w62)) (
  Kr false w62)) (
  Kr false w62)) (
  Kr false w62)) (
  Kr false w62)) (
  Kr false w62))) (
  Kr false w58)) (
  Kr false w58)) (
  Kr false w58)) (
  Kr false w58)) (
  Kr false w58))
def wp  (w : World) (Q : Ending → World → Prop) : Prop :=
  Calls Try.prog 8 #[] w fun e1 w2 => ∃ (p3 : Option Addr), e1 = .returned (.pointer p3) ∧ (
  sel p3.isNone (
  Q (.returned (.bool false)) w2) (
  Calls Try.prog 23 #[.pointer p3, .int .i64 (1 : Int)] w2 fun e4 w5 => ∃ (x6 : Int), e4 = .returned (.int .i64 x6) ∧ (
  sel (x6 != (0 : Int)) (
  Q (.returned (.bool false)) w5) (
  Calls Try.prog 23 #[.pointer p3, .int .i64 (2 : Int)] w5 fun e7 w8 => ∃ (x9 : Int), e7 = .returned (.int .i64 x9) ∧ (
  sel (x9 != (0 : Int)) (
  Q (.returned (.bool false)) w8) (
  Calls Try.prog 23 #[.pointer p3, .int .i64 (3 : Int)] w8 fun e10 w11 => ∃ (x12 : Int), e10 = .returned (.int .i64 x12) ∧ (
  sel (x12 != (0 : Int)) (
  Q (.returned (.bool false)) w11) (
  Calls Try.prog 17 #[.pointer p3, .agg #[.int .i64 (7 : Int), .int .i64 (1 : Int), .int .i64 (2 : Int), .int .i64 (5 : Int)]] w11 fun e13 w14 => ∃ (x15 : Int), e13 = .returned (.int .i64 x15) ∧ (
  Calls Try.prog 17 #[.pointer p3, .agg #[.int .i64 (8 : Int), .int .i64 (2 : Int), .int .i64 (3 : Int), .int .i64 (4 : Int)]] w14 fun e16 w17 => ∃ (x18 : Int), e16 = .returned (.int .i64 x18) ∧ (
  Calls Try.prog 17 #[.pointer p3, .agg #[.int .i64 (9 : Int), .int .i64 (1 : Int), .int .i64 (3 : Int), .int .i64 (1 : Int)]] w17 fun e19 w20 => ∃ (x21 : Int), e19 = .returned (.int .i64 x21) ∧ (
  Calls Try.prog 16 #[.pointer p3, .int .i64 (1 : Int), .int .i64 (3 : Int)] w20 fun e22 w23 => ∃ (x24_0_0 : Int) (x24_0_1 : Int) (x24_0_2 : Int) (x24_0_3 : Int) (r24_0_4 : Nat) (i24_0_4 : Nat) (x24_1 : Int), e22 = .returned (.tuple #[.agg #[.int .i64 x24_0_0, .int .i64 x24_0_1, .int .i64 x24_0_2, .int .i64 x24_0_3, .complex .f64 r24_0_4 i24_0_4], .int .i64 x24_1]) ∧ (
  alW w23 (.cells #[.int .i64 (0 : Int), .int .i64 (0 : Int), .int .i64 (0 : Int), .int .i64 (0 : Int), .complex .f64 0 0] 48) fun B25 w26 =>
  stW w26 (⟨B25, 0, Option.none⟩ : Addr) (.int .i64 x24_0_0) fun w27 =>
  stW w27 ((⟨B25, 0, Option.none⟩ : Addr).add 1) (.int .i64 x24_0_1) fun w28 =>
  stW w28 ((⟨B25, 0, Option.none⟩ : Addr).add 2) (.int .i64 x24_0_2) fun w29 =>
  stW w29 ((⟨B25, 0, Option.none⟩ : Addr).add 3) (.int .i64 x24_0_3) fun w30 =>
  stW w30 ((⟨B25, 0, Option.none⟩ : Addr).add 4) (.complex .f64 r24_0_4 i24_0_4) fun w31 =>
  Calls Try.prog 12 #[.pointer p3, .int .i64 (8 : Int)] w31 fun e32 w33 => ∃ (x34_0_0 : Int) (x34_0_1 : Int) (x34_0_2 : Int) (x34_0_3 : Int) (b34_1 : Bool), e32 = .returned (.tuple #[.agg #[.int .i64 x34_0_0, .int .i64 x34_0_1, .int .i64 x34_0_2, .int .i64 x34_0_3], .bool b34_1]) ∧ (
  alW w33 (.cells #[.int .i64 (0 : Int), .int .i64 (0 : Int), .int .i64 (0 : Int), .int .i64 (0 : Int)] 33) fun B35 w36 =>
  stW w36 (⟨B35, 0, Option.none⟩ : Addr) (.int .i64 x34_0_0) fun w37 =>
  stW w37 ((⟨B35, 0, Option.none⟩ : Addr).add 1) (.int .i64 x34_0_1) fun w38 =>
  stW w38 ((⟨B35, 0, Option.none⟩ : Addr).add 2) (.int .i64 x34_0_2) fun w39 =>
  stW w39 ((⟨B35, 0, Option.none⟩ : Addr).add 3) (.int .i64 x34_0_3) fun w40 =>
  Calls Try.prog 11 #[.pointer p3] w40 fun e41 w42 => ∃ (x43_0 : Int) (x43_1 : Int), e41 = .returned (.tuple #[.int .i64 x43_0, .int .i64 x43_1]) ∧ (
  Calls Try.prog 18 #[.pointer p3, .int .i64 (7 : Int)] w42 fun e44 w45 => ∃ (x46 : Int), e44 = .returned (.int .i64 x46) ∧ (
  Calls Try.prog 16 #[.pointer p3, .int .i64 (1 : Int), .int .i64 (3 : Int)] w45 fun e47 w48 => ∃ (x49_0_0 : Int) (x49_0_1 : Int) (x49_0_2 : Int) (x49_0_3 : Int) (r49_0_4 : Nat) (i49_0_4 : Nat) (x49_1 : Int), e47 = .returned (.tuple #[.agg #[.int .i64 x49_0_0, .int .i64 x49_0_1, .int .i64 x49_0_2, .int .i64 x49_0_3, .complex .f64 r49_0_4 i49_0_4], .int .i64 x49_1]) ∧ (
  alW w48 (.cells #[.int .i64 (0 : Int), .int .i64 (0 : Int), .int .i64 (0 : Int), .int .i64 (0 : Int), .complex .f64 0 0] 48) fun B50 w51 =>
  stW w51 (⟨B50, 0, Option.none⟩ : Addr) (.int .i64 x49_0_0) fun w52 =>
  stW w52 ((⟨B50, 0, Option.none⟩ : Addr).add 1) (.int .i64 x49_0_1) fun w53 =>
  stW w53 ((⟨B50, 0, Option.none⟩ : Addr).add 2) (.int .i64 x49_0_2) fun w54 =>
  stW w54 ((⟨B50, 0, Option.none⟩ : Addr).add 3) (.int .i64 x49_0_3) fun w55 =>
  stW w55 ((⟨B50, 0, Option.none⟩ : Addr).add 4) (.complex .f64 r49_0_4 i49_0_4) fun w56 =>
  j0 p3 x15 x18 x21 (⟨B25, 0, Option.none⟩ : Addr) x24_1 (⟨B35, 0, Option.none⟩ : Addr) b34_1 x43_0 x43_1 x46 x49_1 w56 (fun (b66 : Bool) (w67 : World) => ∀ _ : Fr,
  Q (.returned (.bool b66)) w67)))))))))))))))))
def D : Nat → Option DH := dtab []
def j0LO : LO := ⟨[], [0], [], []⟩
def j0T : Spec := fun Q σ w =>
  gPtr (σ 1) fun pt1 =>
  gInt .i64 (σ 2) fun xt2 =>
  gInt .i64 (σ 3) fun xt3 =>
  gInt .i64 (σ 4) fun xt4 =>
  gAd (σ 5) fun at5 =>
  gInt .i64 (σ 6) fun xt6 =>
  gAd (σ 7) fun at7 =>
  gBool (σ 8) fun bt8 =>
  gInt .i64 (σ 9) fun xt9 =>
  gInt .i64 (σ 10) fun xt10 =>
  gInt .i64 (σ 11) fun xt11 =>
  gInt .i64 (σ 13) fun xt13 =>
  j0 pt1 xt2 xt3 xt4 at5 xt6 at7 bt8 xt9 xt10 xt11 xt13 w (fun (bq0 : Bool) (w : World) => ∀ d : Fr, Q .ret (ov d [(0, .bool bq0)]) w)
def j0tb : List (List Nat × Spec) := []
noncomputable def j0b : Code := (subC [1, 1, 1, 1, 1, 1, 1, 1, 1] body).getD .skip
theorem j0_eq (pt1 : Option Addr) (xt2 : Int) (xt3 : Int) (xt4 : Int) (at5 : Addr) (xt6 : Int) (at7 : Addr) (bt8 : Bool) (xt9 : Int) (xt10 : Int) (xt11 : Int) (xt13 : Int) (Q : PQ) (σ : Fr) (w : World) :
    j0 pt1 xt2 xt3 xt4 at5 xt6 at7 bt8 xt9 xt10 xt11 xt13 w (fun (bq0 : Bool) (w : World) => ∀ d : Fr, Q .ret (ov d [(0, .bool bq0)]) w) = codeW Try.prog hT 126 D (tab j0tb) [1, 1, 1, 1, 1, 1, 1, 1, 1] j0b (widen j0LO Q) (ov σ [(1, .pointer pt1), (2, .int .i64 xt2), (3, .int .i64 xt3), (4, .int .i64 xt4), (5, .pointer (some at5)), (6, .int .i64 xt6), (7, .pointer (some at7)), (8, .bool bt8), (9, .int .i64 xt9), (10, .int .i64 xt10), (11, .int .i64 xt11), (13, .int .i64 xt13)]) w := by cases bt8 <;> kernel_rfl
theorem j0_snd : ∀ c, subC [1, 1, 1, 1, 1, 1, 1, 1, 1] body = some c → Snd Try.prog 126 c j0T := by
  refine cut_of (hT := hT) (D := D) (l := j0tb) (b := j0b) (lo := j0LO) (by kernel_rfl) (by
    intro x hx
    simp only [j0tb, List.not_mem_nil] at hx
    ) (by kernel_rfl) (by kernel_rfl) ?_
  intro Q σ w h
  unfold j0T at h
  obtain ⟨pt1, h1, hn⟩ := gPtr_elim h
  clear h
  have h := hn
  clear hn
  obtain ⟨xt2, h2, hn⟩ := gInt_elim h
  clear h
  have h := hn
  clear hn
  obtain ⟨xt3, h3, hn⟩ := gInt_elim h
  clear h
  have h := hn
  clear hn
  obtain ⟨xt4, h4, hn⟩ := gInt_elim h
  clear h
  have h := hn
  clear hn
  obtain ⟨at5, h5, hn⟩ := gAd_elim h
  clear h
  have h := hn
  clear hn
  obtain ⟨xt6, h6, hn⟩ := gInt_elim h
  clear h
  have h := hn
  clear hn
  obtain ⟨at7, h7, hn⟩ := gAd_elim h
  clear h
  have h := hn
  clear hn
  obtain ⟨bt8, h8, hn⟩ := gBool_elim h
  clear h
  have h := hn
  clear hn
  obtain ⟨xt9, h9, hn⟩ := gInt_elim h
  clear h
  have h := hn
  clear hn
  obtain ⟨xt10, h10, hn⟩ := gInt_elim h
  clear h
  have h := hn
  clear hn
  obtain ⟨xt11, h11, hn⟩ := gInt_elim h
  clear h
  have h := hn
  clear hn
  obtain ⟨xt13, h13, hn⟩ := gInt_elim h
  clear h
  have h := hn
  clear hn
  rw [j0_eq (σ := σ)] at h
  have e : (ov σ [(1, .pointer pt1), (2, .int .i64 xt2), (3, .int .i64 xt3), (4, .int .i64 xt4), (5, .pointer (some at5)), (6, .int .i64 xt6), (7, .pointer (some at7)), (8, .bool bt8), (9, .int .i64 xt9), (10, .int .i64 xt10), (11, .int .i64 xt11), (13, .int .i64 xt13)]) = σ := ov_self (by simp [h1, h2, h3, h4, h5, h6, h7, h8, h9, h10, h11, h13])
  rw [e] at h
  exact h
def tb : List (List Nat × Spec) := [([1, 1, 1, 1, 1, 1, 1, 1, 1], j0T)]
theorem wp_eq  (w : World) (Q : Ending → World → Prop) :
    wp  w Q = codeW Try.prog hT 126 D (tab tb) [] body (topQ Try.prog hT 126 [.tmp 0] Q) (argsF []) w := by kernel_rfl
theorem ok  (w : World) (Q : Ending → World → Prop) (h : wp  w Q) : Calls Try.prog 9 #[] w Q := by
  rw [wp_eq] at h
  exact calls_of_codeW (c := body) (rs := [.tmp 0]) Try.func9 (by kernel_rfl) (by kernel_rfl) (by kernel_rfl) (by kernel_rfl) (by kernel_rfl) (tab_snd (by
    intro x hx
    simp only [tb, List.mem_cons, List.not_mem_nil, or_false] at hx
    subst hx
    exact j0_snd)) (by kernel_rfl) h
end f_law17_alive
namespace f_law17_does
/-! skein/skeinlaw17.does: function 10 -/
noncomputable def body : Code := (Try.f10.body).getD .skip
def wp (aa0 : Addr) (Aa1_0 : Option Addr) (na1_0 : Nat) (ca1_0 : Nat) (Aa1_1 : Option Addr) (na1_1 : Nat) (ca1_1 : Nat) (Aa1_2 : Option Addr) (na1_2 : Nat) (ca1_2 : Nat) (Aa1_3 : Option Addr) (na1_3 : Nat) (ca1_3 : Nat) (xa2_0 : Int) (xa2_1 : Int) (xa2_2 : Int) (xa2_3 : Int) (xa2_4 : Int) (w : World) (Q : Ending → World → Prop) : Prop :=
  alW w (.cells #[.slice Aa1_0 na1_0 ca1_0, .slice Aa1_1 na1_1 ca1_1, .slice Aa1_2 na1_2 ca1_2, .slice Aa1_3 na1_3 ca1_3] 31) fun B1 w2 =>
  alW w2 (.cells #[.int .i64 xa2_0, .int .i64 xa2_1, .int .i64 xa2_2, .int .i64 xa2_3, .int .i64 xa2_4] 35) fun B3 w4 =>
  alW w4 (.cells #[.slice none 0 0, .slice none 0 0, .slice none 0 0, .slice none 0 0] 31) fun B5 w6 =>
  ldI w6 (⟨B3, 0, Option.none⟩ : Addr) .i64 fun x7 =>
  sel (x7 == (1 : Int)) (
  ldI w6 (((⟨B3, 0, Option.none⟩ : Addr).add 1).add 1) .i64 fun x8 =>
  Calls Try.prog 23 #[.pointer (some aa0), .int .i64 x8] w6 fun e9 w10 => ∃ (x11 : Int), e9 = .returned (.int .i64 x11) ∧ (
  ldS w10 (⟨B1, 0, Option.none⟩ : Addr) fun A12 n12 c12 =>
  ldS w10 ((⟨B1, 0, Option.none⟩ : Addr).add 1) fun A13 n13 c13 =>
  ldS w10 ((⟨B1, 0, Option.none⟩ : Addr).add 2) fun A14 n14 c14 =>
  ldS w10 ((⟨B1, 0, Option.none⟩ : Addr).add 3) fun A15 n15 c15 =>
  ldI w10 (((⟨B3, 0, Option.none⟩ : Addr).add 1).add 1) .i64 fun x16 =>
  Calls Try.prog 19 #[.agg #[.slice A12 n12 c12, .slice A13 n13 c13, .slice A14 n14 c14, .slice A15 n15 c15], .int .i64 x16] w10 fun e17 w18 => ∃ (A19_0_0 : Option Addr) (n19_0_0 : Nat) (c19_0_0 : Nat) (A19_0_1 : Option Addr) (n19_0_1 : Nat) (c19_0_1 : Nat) (A19_0_2 : Option Addr) (n19_0_2 : Nat) (c19_0_2 : Nat) (A19_0_3 : Option Addr) (n19_0_3 : Nat) (c19_0_3 : Nat) (x19_1 : Int), e17 = .returned (.tuple #[.agg #[.slice A19_0_0 n19_0_0 c19_0_0, .slice A19_0_1 n19_0_1 c19_0_1, .slice A19_0_2 n19_0_2 c19_0_2, .slice A19_0_3 n19_0_3 c19_0_3], .int .i64 x19_1]) ∧ (
  alW w18 (.cells #[.slice none 0 0, .slice none 0 0, .slice none 0 0, .slice none 0 0] 31) fun B20 w21 =>
  stW w21 (⟨B20, 0, Option.none⟩ : Addr) (.slice A19_0_0 n19_0_0 c19_0_0) fun w22 =>
  stW w22 ((⟨B20, 0, Option.none⟩ : Addr).add 1) (.slice A19_0_1 n19_0_1 c19_0_1) fun w23 =>
  stW w23 ((⟨B20, 0, Option.none⟩ : Addr).add 2) (.slice A19_0_2 n19_0_2 c19_0_2) fun w24 =>
  stW w24 ((⟨B20, 0, Option.none⟩ : Addr).add 3) (.slice A19_0_3 n19_0_3 c19_0_3) fun w25 =>
  ldS w25 (⟨B20, 0, Option.none⟩ : Addr) fun A26 n26 c26 =>
  ldS w25 ((⟨B20, 0, Option.none⟩ : Addr).add 1) fun A27 n27 c27 =>
  ldS w25 ((⟨B20, 0, Option.none⟩ : Addr).add 2) fun A28 n28 c28 =>
  ldS w25 ((⟨B20, 0, Option.none⟩ : Addr).add 3) fun A29 n29 c29 =>
  stW w25 (⟨B5, 0, Option.none⟩ : Addr) (.slice A26 n26 c26) fun w30 =>
  stW w30 ((⟨B5, 0, Option.none⟩ : Addr).add 1) (.slice A27 n27 c27) fun w31 =>
  stW w31 ((⟨B5, 0, Option.none⟩ : Addr).add 2) (.slice A28 n28 c28) fun w32 =>
  stW w32 ((⟨B5, 0, Option.none⟩ : Addr).add 3) (.slice A29 n29 c29) fun w33 =>
  ldS w33 (⟨B5, 0, Option.none⟩ : Addr) fun A34 n34 c34 =>
  ldS w33 ((⟨B5, 0, Option.none⟩ : Addr).add 1) fun A35 n35 c35 =>
  ldS w33 ((⟨B5, 0, Option.none⟩ : Addr).add 2) fun A36 n36 c36 =>
  ldS w33 ((⟨B5, 0, Option.none⟩ : Addr).add 3) fun A37 n37 c37 =>
  Q (.returned (.tuple #[.agg #[.slice A34 n34 c34, .slice A35 n35 c35, .slice A36 n36 c36, .slice A37 n37 c37], .bool (x11 == x19_1)])) w33))) (
  sel (x7 == (2 : Int)) (
  ldI w6 (((⟨B3, 0, Option.none⟩ : Addr).add 1).add 1) .i64 fun x38 =>
  Calls Try.prog 25 #[.pointer (some aa0), .int .i64 x38] w6 fun e39 w40 => ∃ (x41 : Int), e39 = .returned (.int .i64 x41) ∧ (
  ldS w40 (⟨B1, 0, Option.none⟩ : Addr) fun A42 n42 c42 =>
  ldS w40 ((⟨B1, 0, Option.none⟩ : Addr).add 1) fun A43 n43 c43 =>
  ldS w40 ((⟨B1, 0, Option.none⟩ : Addr).add 2) fun A44 n44 c44 =>
  ldS w40 ((⟨B1, 0, Option.none⟩ : Addr).add 3) fun A45 n45 c45 =>
  ldI w40 (((⟨B3, 0, Option.none⟩ : Addr).add 1).add 1) .i64 fun x46 =>
  Calls Try.prog 20 #[.agg #[.slice A42 n42 c42, .slice A43 n43 c43, .slice A44 n44 c44, .slice A45 n45 c45], .int .i64 x46] w40 fun e47 w48 => ∃ (A49_0_0 : Option Addr) (n49_0_0 : Nat) (c49_0_0 : Nat) (A49_0_1 : Option Addr) (n49_0_1 : Nat) (c49_0_1 : Nat) (A49_0_2 : Option Addr) (n49_0_2 : Nat) (c49_0_2 : Nat) (A49_0_3 : Option Addr) (n49_0_3 : Nat) (c49_0_3 : Nat) (x49_1 : Int), e47 = .returned (.tuple #[.agg #[.slice A49_0_0 n49_0_0 c49_0_0, .slice A49_0_1 n49_0_1 c49_0_1, .slice A49_0_2 n49_0_2 c49_0_2, .slice A49_0_3 n49_0_3 c49_0_3], .int .i64 x49_1]) ∧ (
  alW w48 (.cells #[.slice none 0 0, .slice none 0 0, .slice none 0 0, .slice none 0 0] 31) fun B50 w51 =>
  stW w51 (⟨B50, 0, Option.none⟩ : Addr) (.slice A49_0_0 n49_0_0 c49_0_0) fun w52 =>
  stW w52 ((⟨B50, 0, Option.none⟩ : Addr).add 1) (.slice A49_0_1 n49_0_1 c49_0_1) fun w53 =>
  stW w53 ((⟨B50, 0, Option.none⟩ : Addr).add 2) (.slice A49_0_2 n49_0_2 c49_0_2) fun w54 =>
  stW w54 ((⟨B50, 0, Option.none⟩ : Addr).add 3) (.slice A49_0_3 n49_0_3 c49_0_3) fun w55 =>
  ldS w55 (⟨B50, 0, Option.none⟩ : Addr) fun A56 n56 c56 =>
  ldS w55 ((⟨B50, 0, Option.none⟩ : Addr).add 1) fun A57 n57 c57 =>
  ldS w55 ((⟨B50, 0, Option.none⟩ : Addr).add 2) fun A58 n58 c58 =>
  ldS w55 ((⟨B50, 0, Option.none⟩ : Addr).add 3) fun A59 n59 c59 =>
  stW w55 (⟨B5, 0, Option.none⟩ : Addr) (.slice A56 n56 c56) fun w60 =>
  stW w60 ((⟨B5, 0, Option.none⟩ : Addr).add 1) (.slice A57 n57 c57) fun w61 =>
  stW w61 ((⟨B5, 0, Option.none⟩ : Addr).add 2) (.slice A58 n58 c58) fun w62 =>
  stW w62 ((⟨B5, 0, Option.none⟩ : Addr).add 3) (.slice A59 n59 c59) fun w63 =>
  ldS w63 (⟨B5, 0, Option.none⟩ : Addr) fun A64 n64 c64 =>
  ldS w63 ((⟨B5, 0, Option.none⟩ : Addr).add 1) fun A65 n65 c65 =>
  ldS w63 ((⟨B5, 0, Option.none⟩ : Addr).add 2) fun A66 n66 c66 =>
  ldS w63 ((⟨B5, 0, Option.none⟩ : Addr).add 3) fun A67 n67 c67 =>
  Q (.returned (.tuple #[.agg #[.slice A64 n64 c64, .slice A65 n65 c65, .slice A66 n66 c66, .slice A67 n67 c67], .bool (x41 == x49_1)])) w63))) (
  sel (x7 == (3 : Int)) (
  ldI w6 ((⟨B3, 0, Option.none⟩ : Addr).add 1) .i64 fun x68 =>
  ldI w6 (((⟨B3, 0, Option.none⟩ : Addr).add 1).add 1) .i64 fun x69 =>
  ldI w6 (((⟨B3, 0, Option.none⟩ : Addr).add 1).add 2) .i64 fun x70 =>
  ldI w6 (((⟨B3, 0, Option.none⟩ : Addr).add 1).add 3) .i64 fun x71 =>
  Calls Try.prog 17 #[.pointer (some aa0), .agg #[.int .i64 x68, .int .i64 x69, .int .i64 x70, .int .i64 x71]] w6 fun e72 w73 => ∃ (x74 : Int), e72 = .returned (.int .i64 x74) ∧ (
  ldS w73 (⟨B1, 0, Option.none⟩ : Addr) fun A75 n75 c75 =>
  ldS w73 ((⟨B1, 0, Option.none⟩ : Addr).add 1) fun A76 n76 c76 =>
  ldS w73 ((⟨B1, 0, Option.none⟩ : Addr).add 2) fun A77 n77 c77 =>
  ldS w73 ((⟨B1, 0, Option.none⟩ : Addr).add 3) fun A78 n78 c78 =>
  ldI w73 ((⟨B3, 0, Option.none⟩ : Addr).add 1) .i64 fun x79 =>
  ldI w73 (((⟨B3, 0, Option.none⟩ : Addr).add 1).add 1) .i64 fun x80 =>
  ldI w73 (((⟨B3, 0, Option.none⟩ : Addr).add 1).add 2) .i64 fun x81 =>
  ldI w73 (((⟨B3, 0, Option.none⟩ : Addr).add 1).add 3) .i64 fun x82 =>
  Calls Try.prog 21 #[.agg #[.slice A75 n75 c75, .slice A76 n76 c76, .slice A77 n77 c77, .slice A78 n78 c78], .agg #[.int .i64 x79, .int .i64 x80, .int .i64 x81, .int .i64 x82]] w73 fun e83 w84 => ∃ (A85_0_0 : Option Addr) (n85_0_0 : Nat) (c85_0_0 : Nat) (A85_0_1 : Option Addr) (n85_0_1 : Nat) (c85_0_1 : Nat) (A85_0_2 : Option Addr) (n85_0_2 : Nat) (c85_0_2 : Nat) (A85_0_3 : Option Addr) (n85_0_3 : Nat) (c85_0_3 : Nat) (x85_1 : Int), e83 = .returned (.tuple #[.agg #[.slice A85_0_0 n85_0_0 c85_0_0, .slice A85_0_1 n85_0_1 c85_0_1, .slice A85_0_2 n85_0_2 c85_0_2, .slice A85_0_3 n85_0_3 c85_0_3], .int .i64 x85_1]) ∧ (
  alW w84 (.cells #[.slice none 0 0, .slice none 0 0, .slice none 0 0, .slice none 0 0] 31) fun B86 w87 =>
  stW w87 (⟨B86, 0, Option.none⟩ : Addr) (.slice A85_0_0 n85_0_0 c85_0_0) fun w88 =>
  stW w88 ((⟨B86, 0, Option.none⟩ : Addr).add 1) (.slice A85_0_1 n85_0_1 c85_0_1) fun w89 =>
  stW w89 ((⟨B86, 0, Option.none⟩ : Addr).add 2) (.slice A85_0_2 n85_0_2 c85_0_2) fun w90 =>
  stW w90 ((⟨B86, 0, Option.none⟩ : Addr).add 3) (.slice A85_0_3 n85_0_3 c85_0_3) fun w91 =>
  ldS w91 (⟨B86, 0, Option.none⟩ : Addr) fun A92 n92 c92 =>
  ldS w91 ((⟨B86, 0, Option.none⟩ : Addr).add 1) fun A93 n93 c93 =>
  ldS w91 ((⟨B86, 0, Option.none⟩ : Addr).add 2) fun A94 n94 c94 =>
  ldS w91 ((⟨B86, 0, Option.none⟩ : Addr).add 3) fun A95 n95 c95 =>
  stW w91 (⟨B5, 0, Option.none⟩ : Addr) (.slice A92 n92 c92) fun w96 =>
  stW w96 ((⟨B5, 0, Option.none⟩ : Addr).add 1) (.slice A93 n93 c93) fun w97 =>
  stW w97 ((⟨B5, 0, Option.none⟩ : Addr).add 2) (.slice A94 n94 c94) fun w98 =>
  stW w98 ((⟨B5, 0, Option.none⟩ : Addr).add 3) (.slice A95 n95 c95) fun w99 =>
  ldS w99 (⟨B5, 0, Option.none⟩ : Addr) fun A100 n100 c100 =>
  ldS w99 ((⟨B5, 0, Option.none⟩ : Addr).add 1) fun A101 n101 c101 =>
  ldS w99 ((⟨B5, 0, Option.none⟩ : Addr).add 2) fun A102 n102 c102 =>
  ldS w99 ((⟨B5, 0, Option.none⟩ : Addr).add 3) fun A103 n103 c103 =>
  Q (.returned (.tuple #[.agg #[.slice A100 n100 c100, .slice A101 n101 c101, .slice A102 n102 c102, .slice A103 n103 c103], .bool (x74 == x85_1)])) w99))) (
  sel (x7 == (4 : Int)) (
  ldI w6 ((⟨B3, 0, Option.none⟩ : Addr).add 1) .i64 fun x104 =>
  Calls Try.prog 18 #[.pointer (some aa0), .int .i64 x104] w6 fun e105 w106 => ∃ (x107 : Int), e105 = .returned (.int .i64 x107) ∧ (
  ldS w106 (⟨B1, 0, Option.none⟩ : Addr) fun A108 n108 c108 =>
  ldS w106 ((⟨B1, 0, Option.none⟩ : Addr).add 1) fun A109 n109 c109 =>
  ldS w106 ((⟨B1, 0, Option.none⟩ : Addr).add 2) fun A110 n110 c110 =>
  ldS w106 ((⟨B1, 0, Option.none⟩ : Addr).add 3) fun A111 n111 c111 =>
  ldI w106 ((⟨B3, 0, Option.none⟩ : Addr).add 1) .i64 fun x112 =>
  Calls Try.prog 22 #[.agg #[.slice A108 n108 c108, .slice A109 n109 c109, .slice A110 n110 c110, .slice A111 n111 c111], .int .i64 x112] w106 fun e113 w114 => ∃ (A115_0_0 : Option Addr) (n115_0_0 : Nat) (c115_0_0 : Nat) (A115_0_1 : Option Addr) (n115_0_1 : Nat) (c115_0_1 : Nat) (A115_0_2 : Option Addr) (n115_0_2 : Nat) (c115_0_2 : Nat) (A115_0_3 : Option Addr) (n115_0_3 : Nat) (c115_0_3 : Nat) (x115_1 : Int), e113 = .returned (.tuple #[.agg #[.slice A115_0_0 n115_0_0 c115_0_0, .slice A115_0_1 n115_0_1 c115_0_1, .slice A115_0_2 n115_0_2 c115_0_2, .slice A115_0_3 n115_0_3 c115_0_3], .int .i64 x115_1]) ∧ (
  alW w114 (.cells #[.slice none 0 0, .slice none 0 0, .slice none 0 0, .slice none 0 0] 31) fun B116 w117 =>
  stW w117 (⟨B116, 0, Option.none⟩ : Addr) (.slice A115_0_0 n115_0_0 c115_0_0) fun w118 =>
  stW w118 ((⟨B116, 0, Option.none⟩ : Addr).add 1) (.slice A115_0_1 n115_0_1 c115_0_1) fun w119 =>
  stW w119 ((⟨B116, 0, Option.none⟩ : Addr).add 2) (.slice A115_0_2 n115_0_2 c115_0_2) fun w120 =>
  stW w120 ((⟨B116, 0, Option.none⟩ : Addr).add 3) (.slice A115_0_3 n115_0_3 c115_0_3) fun w121 =>
  ldS w121 (⟨B116, 0, Option.none⟩ : Addr) fun A122 n122 c122 =>
  ldS w121 ((⟨B116, 0, Option.none⟩ : Addr).add 1) fun A123 n123 c123 =>
  ldS w121 ((⟨B116, 0, Option.none⟩ : Addr).add 2) fun A124 n124 c124 =>
  ldS w121 ((⟨B116, 0, Option.none⟩ : Addr).add 3) fun A125 n125 c125 =>
  stW w121 (⟨B5, 0, Option.none⟩ : Addr) (.slice A122 n122 c122) fun w126 =>
  stW w126 ((⟨B5, 0, Option.none⟩ : Addr).add 1) (.slice A123 n123 c123) fun w127 =>
  stW w127 ((⟨B5, 0, Option.none⟩ : Addr).add 2) (.slice A124 n124 c124) fun w128 =>
  stW w128 ((⟨B5, 0, Option.none⟩ : Addr).add 3) (.slice A125 n125 c125) fun w129 =>
  ldS w129 (⟨B5, 0, Option.none⟩ : Addr) fun A130 n130 c130 =>
  ldS w129 ((⟨B5, 0, Option.none⟩ : Addr).add 1) fun A131 n131 c131 =>
  ldS w129 ((⟨B5, 0, Option.none⟩ : Addr).add 2) fun A132 n132 c132 =>
  ldS w129 ((⟨B5, 0, Option.none⟩ : Addr).add 3) fun A133 n133 c133 =>
  Q (.returned (.tuple #[.agg #[.slice A130 n130 c130, .slice A131 n131 c131, .slice A132 n132 c132, .slice A133 n133 c133], .bool (x107 == x115_1)])) w129))) (
  ldS w6 (⟨B1, 0, Option.none⟩ : Addr) fun A134 n134 c134 =>
  ldS w6 ((⟨B1, 0, Option.none⟩ : Addr).add 1) fun A135 n135 c135 =>
  ldS w6 ((⟨B1, 0, Option.none⟩ : Addr).add 2) fun A136 n136 c136 =>
  ldS w6 ((⟨B1, 0, Option.none⟩ : Addr).add 3) fun A137 n137 c137 =>
  stW w6 (⟨B5, 0, Option.none⟩ : Addr) (.slice A134 n134 c134) fun w138 =>
  stW w138 ((⟨B5, 0, Option.none⟩ : Addr).add 1) (.slice A135 n135 c135) fun w139 =>
  stW w139 ((⟨B5, 0, Option.none⟩ : Addr).add 2) (.slice A136 n136 c136) fun w140 =>
  stW w140 ((⟨B5, 0, Option.none⟩ : Addr).add 3) (.slice A137 n137 c137) fun w141 =>
  ldS w141 (⟨B5, 0, Option.none⟩ : Addr) fun A142 n142 c142 =>
  ldS w141 ((⟨B5, 0, Option.none⟩ : Addr).add 1) fun A143 n143 c143 =>
  ldS w141 ((⟨B5, 0, Option.none⟩ : Addr).add 2) fun A144 n144 c144 =>
  ldS w141 ((⟨B5, 0, Option.none⟩ : Addr).add 3) fun A145 n145 c145 =>
  Q (.returned (.tuple #[.agg #[.slice A142 n142 c142, .slice A143 n143 c143, .slice A144 n144 c144, .slice A145 n145 c145], .bool true])) w141))))
def D : Nat → Option DH := dtab []
def tb : List (List Nat × Spec) := []
theorem wp_eq (aa0 : Addr) (Aa1_0 : Option Addr) (na1_0 : Nat) (ca1_0 : Nat) (Aa1_1 : Option Addr) (na1_1 : Nat) (ca1_1 : Nat) (Aa1_2 : Option Addr) (na1_2 : Nat) (ca1_2 : Nat) (Aa1_3 : Option Addr) (na1_3 : Nat) (ca1_3 : Nat) (xa2_0 : Int) (xa2_1 : Int) (xa2_2 : Int) (xa2_3 : Int) (xa2_4 : Int) (w : World) (Q : Ending → World → Prop) :
    wp aa0 Aa1_0 na1_0 ca1_0 Aa1_1 na1_1 ca1_1 Aa1_2 na1_2 ca1_2 Aa1_3 na1_3 ca1_3 xa2_0 xa2_1 xa2_2 xa2_3 xa2_4 w Q = codeW Try.prog hT 97 D (tab tb) [] body (topQ Try.prog hT 97 [.cell 6 31, .tmp 7] Q) (argsF [.pointer (some aa0), .agg #[.slice Aa1_0 na1_0 ca1_0, .slice Aa1_1 na1_1 ca1_1, .slice Aa1_2 na1_2 ca1_2, .slice Aa1_3 na1_3 ca1_3], .agg #[.int .i64 xa2_0, .int .i64 xa2_1, .int .i64 xa2_2, .int .i64 xa2_3, .int .i64 xa2_4]]) w := by kernel_rfl
theorem ok (aa0 : Addr) (Aa1_0 : Option Addr) (na1_0 : Nat) (ca1_0 : Nat) (Aa1_1 : Option Addr) (na1_1 : Nat) (ca1_1 : Nat) (Aa1_2 : Option Addr) (na1_2 : Nat) (ca1_2 : Nat) (Aa1_3 : Option Addr) (na1_3 : Nat) (ca1_3 : Nat) (xa2_0 : Int) (xa2_1 : Int) (xa2_2 : Int) (xa2_3 : Int) (xa2_4 : Int) (w : World) (Q : Ending → World → Prop) (h : wp aa0 Aa1_0 na1_0 ca1_0 Aa1_1 na1_1 ca1_1 Aa1_2 na1_2 ca1_2 Aa1_3 na1_3 ca1_3 xa2_0 xa2_1 xa2_2 xa2_3 xa2_4 w Q) : Calls Try.prog 10 #[.pointer (some aa0), .agg #[.slice Aa1_0 na1_0 ca1_0, .slice Aa1_1 na1_1 ca1_1, .slice Aa1_2 na1_2 ca1_2, .slice Aa1_3 na1_3 ca1_3], .agg #[.int .i64 xa2_0, .int .i64 xa2_1, .int .i64 xa2_2, .int .i64 xa2_3, .int .i64 xa2_4]] w Q := by
  rw [wp_eq] at h
  exact calls_of_codeW (c := body) (rs := [.cell 6 31, .tmp 7]) Try.func10 (by kernel_rfl) (by kernel_rfl) (by kernel_rfl) (by kernel_rfl) (by kernel_rfl) (tab_snd (by
    intro x hx
    simp only [tb, List.not_mem_nil] at hx
    )) (by kernel_rfl) h
end f_law17_does
namespace f_law17_tells
/-! skein/skeinlaw17.tells: function 14 -/
noncomputable def body : Code := (Try.f14.body).getD .skip
def wp (aa0 : Addr) (Aa1_0 : Option Addr) (na1_0 : Nat) (ca1_0 : Nat) (Aa1_1 : Option Addr) (na1_1 : Nat) (ca1_1 : Nat) (Aa1_2 : Option Addr) (na1_2 : Nat) (ca1_2 : Nat) (Aa1_3 : Option Addr) (na1_3 : Nat) (ca1_3 : Nat) (xa2 : Int) (xa3 : Int) (w : World) (Q : Ending → World → Prop) : Prop :=
  alW w (.cells #[.slice Aa1_0 na1_0 ca1_0, .slice Aa1_1 na1_1 ca1_1, .slice Aa1_2 na1_2 ca1_2, .slice Aa1_3 na1_3 ca1_3] 31) fun B1 w2 =>
  Calls Try.prog 16 #[.pointer (some aa0), .int .i64 xa2, .int .i64 xa3] w2 fun e3 w4 => ∃ (x5_0_0 : Int) (x5_0_1 : Int) (x5_0_2 : Int) (x5_0_3 : Int) (r5_0_4 : Nat) (i5_0_4 : Nat) (x5_1 : Int), e3 = .returned (.tuple #[.agg #[.int .i64 x5_0_0, .int .i64 x5_0_1, .int .i64 x5_0_2, .int .i64 x5_0_3, .complex .f64 r5_0_4 i5_0_4], .int .i64 x5_1]) ∧ (
  alW w4 (.cells #[.int .i64 (0 : Int), .int .i64 (0 : Int), .int .i64 (0 : Int), .int .i64 (0 : Int), .complex .f64 0 0] 48) fun B6 w7 =>
  stW w7 (⟨B6, 0, Option.none⟩ : Addr) (.int .i64 x5_0_0) fun w8 =>
  stW w8 ((⟨B6, 0, Option.none⟩ : Addr).add 1) (.int .i64 x5_0_1) fun w9 =>
  stW w9 ((⟨B6, 0, Option.none⟩ : Addr).add 2) (.int .i64 x5_0_2) fun w10 =>
  stW w10 ((⟨B6, 0, Option.none⟩ : Addr).add 3) (.int .i64 x5_0_3) fun w11 =>
  stW w11 ((⟨B6, 0, Option.none⟩ : Addr).add 4) (.complex .f64 r5_0_4 i5_0_4) fun w12 =>
  ldS w12 (⟨B1, 0, Option.none⟩ : Addr) fun A13 n13 c13 =>
  ldS w12 ((⟨B1, 0, Option.none⟩ : Addr).add 1) fun A14 n14 c14 =>
  ldS w12 ((⟨B1, 0, Option.none⟩ : Addr).add 2) fun A15 n15 c15 =>
  ldS w12 ((⟨B1, 0, Option.none⟩ : Addr).add 3) fun A16 n16 c16 =>
  Calls Try.prog 27 #[.agg #[.slice A13 n13 c13, .slice A14 n14 c14, .slice A15 n15 c15, .slice A16 n16 c16], .int .i64 xa2, .int .i64 xa3] w12 fun e17 w18 => ∃ (x19_0_0 : Int) (x19_0_1 : Int) (x19_0_2 : Int) (x19_0_3 : Int) (r19_0_4 : Nat) (i19_0_4 : Nat) (x19_1 : Int), e17 = .returned (.tuple #[.agg #[.int .i64 x19_0_0, .int .i64 x19_0_1, .int .i64 x19_0_2, .int .i64 x19_0_3, .complex .f64 r19_0_4 i19_0_4], .int .i64 x19_1]) ∧ (
  alW w18 (.cells #[.int .i64 (0 : Int), .int .i64 (0 : Int), .int .i64 (0 : Int), .int .i64 (0 : Int), .complex .f64 0 0] 48) fun B20 w21 =>
  stW w21 (⟨B20, 0, Option.none⟩ : Addr) (.int .i64 x19_0_0) fun w22 =>
  stW w22 ((⟨B20, 0, Option.none⟩ : Addr).add 1) (.int .i64 x19_0_1) fun w23 =>
  stW w23 ((⟨B20, 0, Option.none⟩ : Addr).add 2) (.int .i64 x19_0_2) fun w24 =>
  stW w24 ((⟨B20, 0, Option.none⟩ : Addr).add 3) (.int .i64 x19_0_3) fun w25 =>
  stW w25 ((⟨B20, 0, Option.none⟩ : Addr).add 4) (.complex .f64 r19_0_4 i19_0_4) fun w26 =>
  Calls Try.prog 24 #[.pointer (some aa0), .int .i64 xa2, .int .i64 xa3] w26 fun e27 w28 => ∃ (b29_0 : Bool) (x29_1 : Int), e27 = .returned (.tuple #[.bool b29_0, .int .i64 x29_1]) ∧ (
  ldS w28 (⟨B1, 0, Option.none⟩ : Addr) fun A30 n30 c30 =>
  Calls Try.prog 28 #[.slice A30 n30 c30, .int .i64 xa2] w28 fun e31 w32 => ∃ (b33 : Bool), e31 = .returned (.bool b33) ∧ (
  sel b33 (
  ldS w32 (⟨B1, 0, Option.none⟩ : Addr) fun A34 n34 c34 =>
  Calls Try.prog 28 #[.slice A34 n34 c34, .int .i64 xa3] w32 fun e35 w36 => ∃ (b37 : Bool), e35 = .returned (.bool b37) ∧ (
  sel b37 (
  ldI w36 (⟨B6, 0, Option.none⟩ : Addr) .i64 fun x38 =>
  ldI w36 ((⟨B6, 0, Option.none⟩ : Addr).add 1) .i64 fun x39 =>
  ldI w36 ((⟨B6, 0, Option.none⟩ : Addr).add 2) .i64 fun x40 =>
  ldI w36 ((⟨B6, 0, Option.none⟩ : Addr).add 3) .i64 fun x41 =>
  ldC w36 ((⟨B6, 0, Option.none⟩ : Addr).add 4) .f64 fun r42 i42 =>
  ldI w36 (⟨B20, 0, Option.none⟩ : Addr) .i64 fun x43 =>
  ldI w36 ((⟨B20, 0, Option.none⟩ : Addr).add 1) .i64 fun x44 =>
  ldI w36 ((⟨B20, 0, Option.none⟩ : Addr).add 2) .i64 fun x45 =>
  ldI w36 ((⟨B20, 0, Option.none⟩ : Addr).add 3) .i64 fun x46 =>
  ldC w36 ((⟨B20, 0, Option.none⟩ : Addr).add 4) .f64 fun r47 i47 =>
  Runs Try.prog (do eqGuard .eql 48 (.tmp 48) (.tmp 49) (.agg #[.int .i64 x38, .int .i64 x39, .int .i64 x40, .int .i64 x41, .complex .f64 r42 i42]) (.agg #[.int .i64 x43, .int .i64 x44, .int .i64 x45, .int .i64 x46, .complex .f64 r47 i47]); binOp .eql 48 (.agg #[.int .i64 x38, .int .i64 x39, .int .i64 x40, .int .i64 x41, .complex .f64 r42 i42]) (.agg #[.int .i64 x43, .int .i64 x44, .int .i64 x45, .int .i64 x46, .complex .f64 r47 i47]) : Sem Value) w36 fun v49 w48 => ∃ (b50 : Bool), v49 = (.bool b50) ∧ (
  sel b50 (
  sel (x5_1 == x19_1) (
  sel (x29_1 == (0 : Int)) (
  Q (.returned (.bool (b29_0 == (x19_1 == (0 : Int))))) w48) (
  Q (.returned (.bool false)) w48)) (
  Q (.returned (.bool false)) w48)) (
  Q (.returned (.bool false)) w48))) (
  ldI w36 (⟨B6, 0, Option.none⟩ : Addr) .i64 fun x51 =>
  ldI w36 ((⟨B6, 0, Option.none⟩ : Addr).add 1) .i64 fun x52 =>
  ldI w36 ((⟨B6, 0, Option.none⟩ : Addr).add 2) .i64 fun x53 =>
  ldI w36 ((⟨B6, 0, Option.none⟩ : Addr).add 3) .i64 fun x54 =>
  ldC w36 ((⟨B6, 0, Option.none⟩ : Addr).add 4) .f64 fun r55 i55 =>
  ldI w36 (⟨B20, 0, Option.none⟩ : Addr) .i64 fun x56 =>
  ldI w36 ((⟨B20, 0, Option.none⟩ : Addr).add 1) .i64 fun x57 =>
  ldI w36 ((⟨B20, 0, Option.none⟩ : Addr).add 2) .i64 fun x58 =>
  ldI w36 ((⟨B20, 0, Option.none⟩ : Addr).add 3) .i64 fun x59 =>
  ldC w36 ((⟨B20, 0, Option.none⟩ : Addr).add 4) .f64 fun r60 i60 =>
  Runs Try.prog (do eqGuard .eql 48 (.tmp 66) (.tmp 67) (.agg #[.int .i64 x51, .int .i64 x52, .int .i64 x53, .int .i64 x54, .complex .f64 r55 i55]) (.agg #[.int .i64 x56, .int .i64 x57, .int .i64 x58, .int .i64 x59, .complex .f64 r60 i60]); binOp .eql 48 (.agg #[.int .i64 x51, .int .i64 x52, .int .i64 x53, .int .i64 x54, .complex .f64 r55 i55]) (.agg #[.int .i64 x56, .int .i64 x57, .int .i64 x58, .int .i64 x59, .complex .f64 r60 i60]) : Sem Value) w36 fun v62 w61 => ∃ (b63 : Bool), v62 = (.bool b63) ∧ (
  sel b63 (
  sel (x5_1 == x19_1) (
  sel (x29_1 == (51 : Int)) (
  Q (.returned (.bool (!b29_0))) w61) (
  Q (.returned (.bool false)) w61)) (
  Q (.returned (.bool false)) w61)) (
  Q (.returned (.bool false)) w61))))) (
  ldI w32 (⟨B6, 0, Option.none⟩ : Addr) .i64 fun x64 =>
  ldI w32 ((⟨B6, 0, Option.none⟩ : Addr).add 1) .i64 fun x65 =>
  ldI w32 ((⟨B6, 0, Option.none⟩ : Addr).add 2) .i64 fun x66 =>
  ldI w32 ((⟨B6, 0, Option.none⟩ : Addr).add 3) .i64 fun x67 =>
  ldC w32 ((⟨B6, 0, Option.none⟩ : Addr).add 4) .f64 fun r68 i68 =>
  ldI w32 (⟨B20, 0, Option.none⟩ : Addr) .i64 fun x69 =>
  ldI w32 ((⟨B20, 0, Option.none⟩ : Addr).add 1) .i64 fun x70 =>
  ldI w32 ((⟨B20, 0, Option.none⟩ : Addr).add 2) .i64 fun x71 =>
  ldI w32 ((⟨B20, 0, Option.none⟩ : Addr).add 3) .i64 fun x72 =>
  ldC w32 ((⟨B20, 0, Option.none⟩ : Addr).add 4) .f64 fun r73 i73 =>
  Runs Try.prog (do eqGuard .eql 48 (.tmp 66) (.tmp 67) (.agg #[.int .i64 x64, .int .i64 x65, .int .i64 x66, .int .i64 x67, .complex .f64 r68 i68]) (.agg #[.int .i64 x69, .int .i64 x70, .int .i64 x71, .int .i64 x72, .complex .f64 r73 i73]); binOp .eql 48 (.agg #[.int .i64 x64, .int .i64 x65, .int .i64 x66, .int .i64 x67, .complex .f64 r68 i68]) (.agg #[.int .i64 x69, .int .i64 x70, .int .i64 x71, .int .i64 x72, .complex .f64 r73 i73]) : Sem Value) w32 fun v75 w74 => ∃ (b76 : Bool), v75 = (.bool b76) ∧ (
  sel b76 (
  sel (x5_1 == x19_1) (
  sel (x29_1 == (51 : Int)) (
  Q (.returned (.bool (!b29_0))) w74) (
  Q (.returned (.bool false)) w74)) (
  Q (.returned (.bool false)) w74)) (
  Q (.returned (.bool false)) w74)))))))
def D : Nat → Option DH := dtab []
def tb : List (List Nat × Spec) := []
theorem wp_eq (aa0 : Addr) (Aa1_0 : Option Addr) (na1_0 : Nat) (ca1_0 : Nat) (Aa1_1 : Option Addr) (na1_1 : Nat) (ca1_1 : Nat) (Aa1_2 : Option Addr) (na1_2 : Nat) (ca1_2 : Nat) (Aa1_3 : Option Addr) (na1_3 : Nat) (ca1_3 : Nat) (xa2 : Int) (xa3 : Int) (w : World) (Q : Ending → World → Prop) :
    wp aa0 Aa1_0 na1_0 ca1_0 Aa1_1 na1_1 ca1_1 Aa1_2 na1_2 ca1_2 Aa1_3 na1_3 ca1_3 xa2 xa3 w Q = codeW Try.prog hT 82 D (tab tb) [] body (topQ Try.prog hT 82 [.tmp 8] Q) (argsF [.pointer (some aa0), .agg #[.slice Aa1_0 na1_0 ca1_0, .slice Aa1_1 na1_1 ca1_1, .slice Aa1_2 na1_2 ca1_2, .slice Aa1_3 na1_3 ca1_3], .int .i64 xa2, .int .i64 xa3]) w := by kernel_rfl
theorem ok (aa0 : Addr) (Aa1_0 : Option Addr) (na1_0 : Nat) (ca1_0 : Nat) (Aa1_1 : Option Addr) (na1_1 : Nat) (ca1_1 : Nat) (Aa1_2 : Option Addr) (na1_2 : Nat) (ca1_2 : Nat) (Aa1_3 : Option Addr) (na1_3 : Nat) (ca1_3 : Nat) (xa2 : Int) (xa3 : Int) (w : World) (Q : Ending → World → Prop) (h : wp aa0 Aa1_0 na1_0 ca1_0 Aa1_1 na1_1 ca1_1 Aa1_2 na1_2 ca1_2 Aa1_3 na1_3 ca1_3 xa2 xa3 w Q) : Calls Try.prog 14 #[.pointer (some aa0), .agg #[.slice Aa1_0 na1_0 ca1_0, .slice Aa1_1 na1_1 ca1_1, .slice Aa1_2 na1_2 ca1_2, .slice Aa1_3 na1_3 ca1_3], .int .i64 xa2, .int .i64 xa3] w Q := by
  rw [wp_eq] at h
  exact calls_of_codeW (c := body) (rs := [.tmp 8]) Try.func14 (by kernel_rfl) (by kernel_rfl) (by kernel_rfl) (by kernel_rfl) (by kernel_rfl) (tab_snd (by
    intro x hx
    simp only [tb, List.not_mem_nil] at hx
    )) (by kernel_rfl) h
end f_law17_tells
namespace f_law17_filled
/-! skein/skeinlaw17.filled: function 15 -/
noncomputable def body : Code := (Try.f15.body).getD .skip
def l0 : Nat → Option Addr → Nat → Nat → Option Addr → Int → World → (World → Prop) → Prop
  | 0, _, _, _, _, _, _, _ => False
  | k + 1, At0, nt0, ct0, pt3, xt4, w, K0 =>
    sel (!pt3.isNone) (
    sel (decide (xt4 < (nt0 : Int))) (
    optB At0 fun a4 =>
    req (decide (0 ≤ xt4 ∧ xt4 < (nt0 : Int))) <|
    ldI w (a4.add (xt4.toNat * 5)) .i64 fun x5 =>
    ldI w ((a4.add (xt4.toNat * 5)).add 1) .i64 fun x6 =>
    ldI w ((a4.add (xt4.toNat * 5)).add 2) .i64 fun x7 =>
    ldI w ((a4.add (xt4.toNat * 5)).add 3) .i64 fun x8 =>
    ldI w ((a4.add (xt4.toNat * 5)).add 4) .i64 fun x9 =>
    Calls Try.prog 10 #[.pointer pt3, .agg #[.slice none 0 0, .slice none 0 0, .slice none 0 0, .slice none 0 0], .agg #[.int .i64 x5, .int .i64 x6, .int .i64 x7, .int .i64 x8, .int .i64 x9]] w fun e10 w11 => ∃ (A12_0_0 : Option Addr) (n12_0_0 : Nat) (c12_0_0 : Nat) (A12_0_1 : Option Addr) (n12_0_1 : Nat) (c12_0_1 : Nat) (A12_0_2 : Option Addr) (n12_0_2 : Nat) (c12_0_2 : Nat) (A12_0_3 : Option Addr) (n12_0_3 : Nat) (c12_0_3 : Nat) (b12_1 : Bool), e10 = .returned (.tuple #[.agg #[.slice A12_0_0 n12_0_0 c12_0_0, .slice A12_0_1 n12_0_1 c12_0_1, .slice A12_0_2 n12_0_2 c12_0_2, .slice A12_0_3 n12_0_3 c12_0_3], .bool b12_1]) ∧ (
    l0 k At0 nt0 ct0 pt3 (IntKind.i64.wrap (xt4 + (1 : Int))) w11 K0)) (
    K0  w)) (
    K0  w)
def wp (Aa0 : Option Addr) (na0 : Nat) (ca0 : Nat) (w : World) (Q : Ending → World → Prop) : Prop :=
  Calls Try.prog 8 #[] w fun e1 w2 => ∃ (p3 : Option Addr), e1 = .returned (.pointer p3) ∧ (
  ∃ k14 : Nat, l0 k14 Aa0 na0 ca0 p3 (0 : Int) w2 (fun (w13 : World) => ∀ _ : Fr,
  Q (.returned (.pointer p3)) w13))
def D : Nat → Option DH := dtab []
def l0LO : LO := ⟨[], [], [(0, [3])], []⟩
def l0Tk (k : Nat) : Spec := fun Q σ w =>
  gSlice (σ 0) fun At0 nt0 ct0 =>
  gPtr (σ 3) fun pt3 =>
  gInt .i64 (σ 4) fun xt4 =>
  l0 k At0 nt0 ct0 pt3 xt4 w (fun (w : World) => ∀ d : Fr, Q (.exit 0) (ov d [(3, .pointer pt3)]) w)
def l0T : Spec := fun Q σ w => ∃ k, l0Tk k Q σ w
def l0tb : List (List Nat × Spec) := []
noncomputable def l0b : Code := (subC [0, 0, 1, 0, 1, 1] body).getD .skip
theorem l0_eq (k : Nat) (At0 : Option Addr) (nt0 : Nat) (ct0 : Nat) (pt3 : Option Addr) (xt4 : Int) (Q : PQ) (σ : Fr) (w : World) :
    l0 (k + 1) At0 nt0 ct0 pt3 xt4 w (fun (w : World) => ∀ d : Fr, Q (.exit 0) (ov d [(3, .pointer pt3)]) w) = codeW Try.prog hT 24 D (tab l0tb) [0, 0, 1, 0, 1, 1] l0b (thenQ (l0Tk k Q) (widen l0LO Q)) (ov σ [(0, .slice At0 nt0 ct0), (3, .pointer pt3), (4, .int .i64 xt4)]) w := by kernel_rfl
theorem l0_snd : ∀ c, subC [0, 1, 0, 1, 1] body = some c → Snd Try.prog 24 c l0T := by
  refine loop_of (hT := hT) (D := D) (l := l0tb) (b := l0b) (lo := l0LO) (by kernel_rfl) (by
    intro x hx
    simp only [l0tb, List.not_mem_nil] at hx
    ) (by kernel_rfl) (by kernel_rfl) ?_ ?_
  · intro Q σ w h
    unfold l0Tk at h
    obtain ⟨At0, nt0, ct0, h0, hn⟩ := gSlice_elim h
    clear h
    have h := hn
    clear hn
    obtain ⟨pt3, h3, hn⟩ := gPtr_elim h
    clear h
    have h := hn
    clear hn
    obtain ⟨xt4, h4, hn⟩ := gInt_elim h
    clear h
    have h := hn
    clear hn
    exact h
  · intro k Q σ w h
    unfold l0Tk at h
    obtain ⟨At0, nt0, ct0, h0, hn⟩ := gSlice_elim h
    clear h
    have h := hn
    clear hn
    obtain ⟨pt3, h3, hn⟩ := gPtr_elim h
    clear h
    have h := hn
    clear hn
    obtain ⟨xt4, h4, hn⟩ := gInt_elim h
    clear h
    have h := hn
    clear hn
    rw [l0_eq (σ := σ)] at h
    have e : (ov σ [(0, .slice At0 nt0 ct0), (3, .pointer pt3), (4, .int .i64 xt4)]) = σ := ov_self (by simp [h0, h3, h4])
    rw [e] at h
    exact h
def tb : List (List Nat × Spec) := [([0, 1, 0, 1, 1], l0T)]
theorem wp_eq (Aa0 : Option Addr) (na0 : Nat) (ca0 : Nat) (w : World) (Q : Ending → World → Prop) :
    wp Aa0 na0 ca0 w Q = codeW Try.prog hT 24 D (tab tb) [] body (topQ Try.prog hT 24 [.tmp 2] Q) (argsF [.slice Aa0 na0 ca0]) w := by kernel_rfl
theorem ok (Aa0 : Option Addr) (na0 : Nat) (ca0 : Nat) (w : World) (Q : Ending → World → Prop) (h : wp Aa0 na0 ca0 w Q) : Calls Try.prog 15 #[.slice Aa0 na0 ca0] w Q := by
  rw [wp_eq] at h
  exact calls_of_codeW (c := body) (rs := [.tmp 2]) Try.func15 (by kernel_rfl) (by kernel_rfl) (by kernel_rfl) (by kernel_rfl) (by kernel_rfl) (tab_snd (by
    intro x hx
    simp only [tb, List.mem_cons, List.not_mem_nil, or_false] at hx
    subst hx
    exact l0_snd)) (by kernel_rfl) h
end f_law17_filled
namespace f_law17_LinkcutPlays
/-! skein/skeinlaw17.LinkcutPlays: function 3 -/
noncomputable def body : Code := (Try.f3.body).getD .skip
def l0 : Nat → Option Addr → Addr → Option Addr → Nat → Nat → Int → Int → World → (World → Prop) → (Bool → World → Prop) → Prop
  | 0, _, _, _, _, _, _, _, _, _, _ => False
  | k + 1, pt3, at4, At25, nt25, ct25, xt26, xt27, w, K0, Kr =>
    sel (decide (xt27 < xt26)) (
    optB At25 fun a13 =>
    req (decide (0 ≤ xt27 ∧ xt27 < (nt25 : Int))) <|
    ldI w (a13.add (xt27.toNat * 5)) .i64 fun x14 =>
    ldI w ((a13.add (xt27.toNat * 5)).add 1) .i64 fun x15 =>
    ldI w ((a13.add (xt27.toNat * 5)).add 2) .i64 fun x16 =>
    ldI w ((a13.add (xt27.toNat * 5)).add 3) .i64 fun x17 =>
    ldI w ((a13.add (xt27.toNat * 5)).add 4) .i64 fun x18 =>
    alW w (.cells #[.int .i64 (0 : Int), .int .i64 (0 : Int), .int .i64 (0 : Int), .int .i64 (0 : Int), .int .i64 (0 : Int)] 35) fun B19 w20 =>
    stW w20 (⟨B19, 0, Option.none⟩ : Addr) (.int .i64 x14) fun w21 =>
    stW w21 ((⟨B19, 0, Option.none⟩ : Addr).add 1) (.int .i64 x15) fun w22 =>
    stW w22 ((⟨B19, 0, Option.none⟩ : Addr).add 2) (.int .i64 x16) fun w23 =>
    stW w23 ((⟨B19, 0, Option.none⟩ : Addr).add 3) (.int .i64 x17) fun w24 =>
    stW w24 ((⟨B19, 0, Option.none⟩ : Addr).add 4) (.int .i64 x18) fun w25 =>
    ldS w25 at4 fun A26 n26 c26 =>
    ldS w25 (at4.add 1) fun A27 n27 c27 =>
    ldS w25 (at4.add 2) fun A28 n28 c28 =>
    ldS w25 (at4.add 3) fun A29 n29 c29 =>
    ldI w25 (⟨B19, 0, Option.none⟩ : Addr) .i64 fun x30 =>
    ldI w25 ((⟨B19, 0, Option.none⟩ : Addr).add 1) .i64 fun x31 =>
    ldI w25 ((⟨B19, 0, Option.none⟩ : Addr).add 2) .i64 fun x32 =>
    ldI w25 ((⟨B19, 0, Option.none⟩ : Addr).add 3) .i64 fun x33 =>
    ldI w25 ((⟨B19, 0, Option.none⟩ : Addr).add 4) .i64 fun x34 =>
    Calls Try.prog 10 #[.pointer pt3, .agg #[.slice A26 n26 c26, .slice A27 n27 c27, .slice A28 n28 c28, .slice A29 n29 c29], .agg #[.int .i64 x30, .int .i64 x31, .int .i64 x32, .int .i64 x33, .int .i64 x34]] w25 fun e35 w36 => ∃ (A37_0_0 : Option Addr) (n37_0_0 : Nat) (c37_0_0 : Nat) (A37_0_1 : Option Addr) (n37_0_1 : Nat) (c37_0_1 : Nat) (A37_0_2 : Option Addr) (n37_0_2 : Nat) (c37_0_2 : Nat) (A37_0_3 : Option Addr) (n37_0_3 : Nat) (c37_0_3 : Nat) (b37_1 : Bool), e35 = .returned (.tuple #[.agg #[.slice A37_0_0 n37_0_0 c37_0_0, .slice A37_0_1 n37_0_1 c37_0_1, .slice A37_0_2 n37_0_2 c37_0_2, .slice A37_0_3 n37_0_3 c37_0_3], .bool b37_1]) ∧ (
    alW w36 (.cells #[.slice none 0 0, .slice none 0 0, .slice none 0 0, .slice none 0 0] 31) fun B38 w39 =>
    stW w39 (⟨B38, 0, Option.none⟩ : Addr) (.slice A37_0_0 n37_0_0 c37_0_0) fun w40 =>
    stW w40 ((⟨B38, 0, Option.none⟩ : Addr).add 1) (.slice A37_0_1 n37_0_1 c37_0_1) fun w41 =>
    stW w41 ((⟨B38, 0, Option.none⟩ : Addr).add 2) (.slice A37_0_2 n37_0_2 c37_0_2) fun w42 =>
    stW w42 ((⟨B38, 0, Option.none⟩ : Addr).add 3) (.slice A37_0_3 n37_0_3 c37_0_3) fun w43 =>
    ldS w43 (⟨B38, 0, Option.none⟩ : Addr) fun A44 n44 c44 =>
    ldS w43 ((⟨B38, 0, Option.none⟩ : Addr).add 1) fun A45 n45 c45 =>
    ldS w43 ((⟨B38, 0, Option.none⟩ : Addr).add 2) fun A46 n46 c46 =>
    ldS w43 ((⟨B38, 0, Option.none⟩ : Addr).add 3) fun A47 n47 c47 =>
    stW w43 at4 (.slice A44 n44 c44) fun w48 =>
    stW w48 (at4.add 1) (.slice A45 n45 c45) fun w49 =>
    stW w49 (at4.add 2) (.slice A46 n46 c46) fun w50 =>
    stW w50 (at4.add 3) (.slice A47 n47 c47) fun w51 =>
    Calls Try.prog 11 #[.pointer pt3] w51 fun e52 w53 => ∃ (x54_0 : Int) (x54_1 : Int), e52 = .returned (.tuple #[.int .i64 x54_0, .int .i64 x54_1]) ∧ (
    ldI w53 ((⟨B19, 0, Option.none⟩ : Addr).add 1) .i64 fun x55 =>
    Calls Try.prog 12 #[.pointer pt3, .int .i64 x55] w53 fun e56 w57 => ∃ (x58_0_0 : Int) (x58_0_1 : Int) (x58_0_2 : Int) (x58_0_3 : Int) (b58_1 : Bool), e56 = .returned (.tuple #[.agg #[.int .i64 x58_0_0, .int .i64 x58_0_1, .int .i64 x58_0_2, .int .i64 x58_0_3], .bool b58_1]) ∧ (
    alW w57 (.cells #[.int .i64 (0 : Int), .int .i64 (0 : Int), .int .i64 (0 : Int), .int .i64 (0 : Int)] 33) fun B59 w60 =>
    stW w60 (⟨B59, 0, Option.none⟩ : Addr) (.int .i64 x58_0_0) fun w61 =>
    stW w61 ((⟨B59, 0, Option.none⟩ : Addr).add 1) (.int .i64 x58_0_1) fun w62 =>
    stW w62 ((⟨B59, 0, Option.none⟩ : Addr).add 2) (.int .i64 x58_0_2) fun w63 =>
    stW w63 ((⟨B59, 0, Option.none⟩ : Addr).add 3) (.int .i64 x58_0_3) fun w64 =>
    ldS w64 at4 fun A65 n65 c65 =>
    ldS w64 (at4.add 1) fun A66 n66 c66 =>
    ldS w64 (at4.add 2) fun A67 n67 c67 =>
    ldS w64 (at4.add 3) fun A68 n68 c68 =>
    ldI w64 ((⟨B19, 0, Option.none⟩ : Addr).add 1) .i64 fun x69 =>
    Calls Try.prog 13 #[.agg #[.slice A65 n65 c65, .slice A66 n66 c66, .slice A67 n67 c67, .slice A68 n68 c68], .int .i64 x69] w64 fun e70 w71 => ∃ (x72_0_0 : Int) (x72_0_1 : Int) (x72_0_2 : Int) (x72_0_3 : Int) (b72_1 : Bool), e70 = .returned (.tuple #[.agg #[.int .i64 x72_0_0, .int .i64 x72_0_1, .int .i64 x72_0_2, .int .i64 x72_0_3], .bool b72_1]) ∧ (
    alW w71 (.cells #[.int .i64 (0 : Int), .int .i64 (0 : Int), .int .i64 (0 : Int), .int .i64 (0 : Int)] 33) fun B73 w74 =>
    stW w74 (⟨B73, 0, Option.none⟩ : Addr) (.int .i64 x72_0_0) fun w75 =>
    stW w75 ((⟨B73, 0, Option.none⟩ : Addr).add 1) (.int .i64 x72_0_1) fun w76 =>
    stW w76 ((⟨B73, 0, Option.none⟩ : Addr).add 2) (.int .i64 x72_0_2) fun w77 =>
    stW w77 ((⟨B73, 0, Option.none⟩ : Addr).add 3) (.int .i64 x72_0_3) fun w78 =>
    sel (!b37_1) (
    Kr false w78) (
    ldS w78 at4 fun A79 n79 c79 =>
    sel (x54_0 != (n79 : Int)) (
    Kr false w78) (
    ldS w78 (at4.add 1) fun A80 n80 c80 =>
    sel (x54_1 != (n80 : Int)) (
    Kr false w78) (
    ldI w78 (⟨B59, 0, Option.none⟩ : Addr) .i64 fun x81 =>
    ldI w78 ((⟨B59, 0, Option.none⟩ : Addr).add 1) .i64 fun x82 =>
    ldI w78 ((⟨B59, 0, Option.none⟩ : Addr).add 2) .i64 fun x83 =>
    ldI w78 ((⟨B59, 0, Option.none⟩ : Addr).add 3) .i64 fun x84 =>
    ldI w78 (⟨B73, 0, Option.none⟩ : Addr) .i64 fun x85 =>
    ldI w78 ((⟨B73, 0, Option.none⟩ : Addr).add 1) .i64 fun x86 =>
    ldI w78 ((⟨B73, 0, Option.none⟩ : Addr).add 2) .i64 fun x87 =>
    ldI w78 ((⟨B73, 0, Option.none⟩ : Addr).add 3) .i64 fun x88 =>
    sel (!((x81 == x85) && ((x82 == x86) && ((x83 == x87) && ((x84 == x88) && true))))) (
    Kr false w78) (
    sel (!(b58_1 == b72_1)) (
    Kr false w78) (
    ldS w78 at4 fun A89 n89 c89 =>
    ldS w78 (at4.add 1) fun A90 n90 c90 =>
    ldS w78 (at4.add 2) fun A91 n91 c91 =>
    ldS w78 (at4.add 3) fun A92 n92 c92 =>
    ldI w78 (((⟨B19, 0, Option.none⟩ : Addr).add 1).add 1) .i64 fun x93 =>
    ldI w78 (((⟨B19, 0, Option.none⟩ : Addr).add 1).add 2) .i64 fun x94 =>
    Calls Try.prog 14 #[.pointer pt3, .agg #[.slice A89 n89 c89, .slice A90 n90 c90, .slice A91 n91 c91, .slice A92 n92 c92], .int .i64 x93, .int .i64 x94] w78 fun e95 w96 => ∃ (b97 : Bool), e95 = .returned (.bool b97) ∧ (
    sel (!b97) (
    Kr false w96) (
    l0 k pt3 at4 At25 nt25 ct25 xt26 (IntKind.i64.wrap (xt27 + (1 : Int))) w96 K0 Kr)))))))))))) (
    K0  w)
def l1 : Nat → Option Addr → Addr → Option Addr → Nat → Nat → Int → Int → World → (World → Prop) → (Bool → World → Prop) → Prop
  | 0, _, _, _, _, _, _, _, _, _, _ => False
  | k + 1, pt3, at4, At103, nt103, ct103, xt104, xt105, w, K2, Kr =>
    sel (decide (xt105 < xt104)) (
    optB At103 fun a100 =>
    req (decide (0 ≤ xt105 ∧ xt105 < (nt103 : Int))) <|
    ldI w (a100.add (xt105.toNat * 1)) .i64 fun x101 =>
    drW w fun w102 =>
    ∃ S103 : World → Prop, S103 w102 ∧ (
    sel (decide (xt105 < (12 : Int))) (
    hdS S103 at4 fun A104 n104 c104 =>
    hdS S103 (at4.add 1) fun A105 n105 c105 =>
    hdS S103 (at4.add 2) fun A106 n106 c106 =>
    hdS S103 (at4.add 3) fun A107 n107 c107 =>
    hdS S103 at4 fun A108 n108 c108 =>
    optB A108 fun a109 =>
    req (decide (0 ≤ (0 : Int) ∧ (0 : Int) < (n108 : Int))) <|
    hdI S103 (a109.add ((0 : Int).toNat * 1)) .i64 fun x110 =>
    Calls Try.prog 14 #[.pointer pt3, .agg #[.slice A104 n104 c104, .slice A105 n105 c105, .slice A106 n106 c106, .slice A107 n107 c107], .int .i64 x101, .int .i64 x110] w102 fun e111 w112 => ∃ (b113 : Bool), e111 = .returned (.bool b113) ∧ (
    S103 w112 ∧ (
    sel (!b113) (
    Kr false w112) (
    hdS S103 at4 fun A114 n114 c114 =>
    hdS S103 (at4.add 1) fun A115 n115 c115 =>
    hdS S103 (at4.add 2) fun A116 n116 c116 =>
    hdS S103 (at4.add 3) fun A117 n117 c117 =>
    hdS S103 at4 fun A118 n118 c118 =>
    hdS S103 at4 fun A119 n119 c119 =>
    optB A118 fun a120 =>
    req (decide (0 ≤ (IntKind.i64.wrap ((n119 : Int) - (1 : Int))) ∧ (IntKind.i64.wrap ((n119 : Int) - (1 : Int))) < (n118 : Int))) <|
    hdI S103 (a120.add ((IntKind.i64.wrap ((n119 : Int) - (1 : Int))).toNat * 1)) .i64 fun x121 =>
    Calls Try.prog 14 #[.pointer pt3, .agg #[.slice A114 n114 c114, .slice A115 n115 c115, .slice A116 n116 c116, .slice A117 n117 c117], .int .i64 x121, .int .i64 x101] w112 fun e122 w123 => ∃ (b124 : Bool), e122 = .returned (.bool b124) ∧ (
    sel (!b124) (
    Kr false w123) (
    l1 k pt3 at4 At103 nt103 ct103 xt104 (IntKind.i64.wrap (xt105 + (1 : Int))) w123 K2 Kr)))))) (
    S103 w102 ∧ (
    l1 k pt3 at4 At103 nt103 ct103 xt104 (IntKind.i64.wrap (xt105 + (1 : Int))) w102 K2 Kr)))) (
    K2  w)
def wp (Aa0 : Option Addr) (na0 : Nat) (ca0 : Nat) (w : World) (Q : Ending → World → Prop) : Prop :=
  Calls Try.prog 8 #[] w fun e1 w2 => ∃ (p3 : Option Addr), e1 = .returned (.pointer p3) ∧ (
  sel p3.isNone (
  Q (.returned (.bool false)) w2) (
  Calls Try.prog 9 #[] w2 fun e4 w5 => ∃ (b6 : Bool), e4 = .returned (.bool b6) ∧ (
  sel (!b6) (
  Q (.returned (.bool false)) w5) (
  alW w5 (.cells #[.slice none 0 0, .slice none 0 0, .slice none 0 0, .slice none 0 0] 31) fun B7 w8 =>
  stW w8 (⟨B7, 0, Option.none⟩ : Addr) (.slice none 0 0) fun w9 =>
  stW w9 ((⟨B7, 0, Option.none⟩ : Addr).add 1) (.slice none 0 0) fun w10 =>
  stW w10 ((⟨B7, 0, Option.none⟩ : Addr).add 2) (.slice none 0 0) fun w11 =>
  stW w11 ((⟨B7, 0, Option.none⟩ : Addr).add 3) (.slice none 0 0) fun w12 =>
  ∃ k131 : Nat, l0 k131 p3 (⟨B7, 0, Option.none⟩ : Addr) Aa0 na0 ca0 (na0 : Int) (0 : Int) w12 (fun (w98 : World) => ∀ _ : Fr,
  ldS w98 (⟨B7, 0, Option.none⟩ : Addr) fun A99 n99 c99 =>
  ∃ k128 : Nat, l1 k128 p3 (⟨B7, 0, Option.none⟩ : Addr) A99 n99 c99 (n99 : Int) (0 : Int) w98 (fun (w125 : World) => ∀ _ : Fr,
  Q (.returned (.bool true)) w125) (fun (b126 : Bool) (w127 : World) => ∀ _ : Fr,
  Q (.returned (.bool b126)) w127)) (fun (b129 : Bool) (w130 : World) => ∀ _ : Fr,
  Q (.returned (.bool b129)) w130)))))
def D : Nat → Option DH := dtab [(19, .held [.fst 0, .fst 1, .fst 2, .fst 3, .fst 4, .fst 5, .fst 6, .fst 7, .fst 8, .fst 9, .fst 10, .eff 11, .fst 12, .fst 13, .fst 14, .fst 15, .fst 16, .fst 17, .fst 18, .fst 19, .fst 20, .fst 21, .fst 22, .fst 23, .fst 24, .fst 25, .fst 26] [.eff 27, .fst 28, .fst 29, .fst 30])]
def l0LO : LO := ⟨[], [2], [(0, [3, 4])], []⟩
def l0Tk (k : Nat) : Spec := fun Q σ w =>
  gPtr (σ 3) fun pt3 =>
  gAd (σ 4) fun at4 =>
  gSlice (σ 25) fun At25 nt25 ct25 =>
  gInt .i64 (σ 26) fun xt26 =>
  gInt .i64 (σ 27) fun xt27 =>
  l0 k pt3 at4 At25 nt25 ct25 xt26 xt27 w (fun (w : World) => ∀ d : Fr, Q (.exit 0) (ov d [(3, .pointer pt3), (4, .pointer (some at4))]) w) (fun (bq2 : Bool) (w : World) => ∀ d : Fr, Q .ret (ov d [(2, .bool bq2)]) w)
def l0T : Spec := fun Q σ w => ∃ k, l0Tk k Q σ w
def l0tb : List (List Nat × Spec) := []
noncomputable def l0b : Code := (subC [0, 0, 1, 0, 1, 1, 1, 1] body).getD .skip
theorem l0_eq (k : Nat) (pt3 : Option Addr) (at4 : Addr) (At25 : Option Addr) (nt25 : Nat) (ct25 : Nat) (xt26 : Int) (xt27 : Int) (Q : PQ) (σ : Fr) (w : World) :
    l0 (k + 1) pt3 at4 At25 nt25 ct25 xt26 xt27 w (fun (w : World) => ∀ d : Fr, Q (.exit 0) (ov d [(3, .pointer pt3), (4, .pointer (some at4))]) w) (fun (bq2 : Bool) (w : World) => ∀ d : Fr, Q .ret (ov d [(2, .bool bq2)]) w) = codeW Try.prog hT 142 D (tab l0tb) [0, 0, 1, 0, 1, 1, 1, 1] l0b (thenQ (l0Tk k Q) (widen l0LO Q)) (ov σ [(3, .pointer pt3), (4, .pointer (some at4)), (25, .slice At25 nt25 ct25), (26, .int .i64 xt26), (27, .int .i64 xt27)]) w := by kernel_rfl
theorem l0_snd : ∀ c, subC [0, 1, 0, 1, 1, 1, 1] body = some c → Snd Try.prog 142 c l0T := by
  refine loop_of (hT := hT) (D := D) (l := l0tb) (b := l0b) (lo := l0LO) (by kernel_rfl) (by
    intro x hx
    simp only [l0tb, List.not_mem_nil] at hx
    ) (by kernel_rfl) (by kernel_rfl) ?_ ?_
  · intro Q σ w h
    unfold l0Tk at h
    obtain ⟨pt3, h3, hn⟩ := gPtr_elim h
    clear h
    have h := hn
    clear hn
    obtain ⟨at4, h4, hn⟩ := gAd_elim h
    clear h
    have h := hn
    clear hn
    obtain ⟨At25, nt25, ct25, h25, hn⟩ := gSlice_elim h
    clear h
    have h := hn
    clear hn
    obtain ⟨xt26, h26, hn⟩ := gInt_elim h
    clear h
    have h := hn
    clear hn
    obtain ⟨xt27, h27, hn⟩ := gInt_elim h
    clear h
    have h := hn
    clear hn
    exact h
  · intro k Q σ w h
    unfold l0Tk at h
    obtain ⟨pt3, h3, hn⟩ := gPtr_elim h
    clear h
    have h := hn
    clear hn
    obtain ⟨at4, h4, hn⟩ := gAd_elim h
    clear h
    have h := hn
    clear hn
    obtain ⟨At25, nt25, ct25, h25, hn⟩ := gSlice_elim h
    clear h
    have h := hn
    clear hn
    obtain ⟨xt26, h26, hn⟩ := gInt_elim h
    clear h
    have h := hn
    clear hn
    obtain ⟨xt27, h27, hn⟩ := gInt_elim h
    clear h
    have h := hn
    clear hn
    rw [l0_eq (σ := σ)] at h
    have e : (ov σ [(3, .pointer pt3), (4, .pointer (some at4)), (25, .slice At25 nt25 ct25), (26, .int .i64 xt26), (27, .int .i64 xt27)]) = σ := ov_self (by simp [h3, h4, h25, h26, h27])
    rw [e] at h
    exact h
def l1LO : LO := ⟨[], [2], [(2, [])], []⟩
def l1Tk (k : Nat) : Spec := fun Q σ w =>
  gPtr (σ 3) fun pt3 =>
  gAd (σ 4) fun at4 =>
  gSlice (σ 103) fun At103 nt103 ct103 =>
  gInt .i64 (σ 104) fun xt104 =>
  gInt .i64 (σ 105) fun xt105 =>
  l1 k pt3 at4 At103 nt103 ct103 xt104 xt105 w (fun (w : World) => ∀ d : Fr, Q (.exit 2) (ov d []) w) (fun (bq2 : Bool) (w : World) => ∀ d : Fr, Q .ret (ov d [(2, .bool bq2)]) w)
def l1T : Spec := fun Q σ w => ∃ k, l1Tk k Q σ w
def l1tb : List (List Nat × Spec) := []
noncomputable def l1b : Code := (subC [0, 0, 1, 0, 1, 1, 1, 1, 1] body).getD .skip
theorem l1_eq (k : Nat) (pt3 : Option Addr) (at4 : Addr) (At103 : Option Addr) (nt103 : Nat) (ct103 : Nat) (xt104 : Int) (xt105 : Int) (Q : PQ) (σ : Fr) (w : World) :
    l1 (k + 1) pt3 at4 At103 nt103 ct103 xt104 xt105 w (fun (w : World) => ∀ d : Fr, Q (.exit 2) (ov d []) w) (fun (bq2 : Bool) (w : World) => ∀ d : Fr, Q .ret (ov d [(2, .bool bq2)]) w) = codeW Try.prog hT 142 D (tab l1tb) [0, 0, 1, 0, 1, 1, 1, 1, 1] l1b (thenQ (l1Tk k Q) (widen l1LO Q)) (ov σ [(3, .pointer pt3), (4, .pointer (some at4)), (103, .slice At103 nt103 ct103), (104, .int .i64 xt104), (105, .int .i64 xt105)]) w := by kernel_rfl
theorem l1_snd : ∀ c, subC [0, 1, 0, 1, 1, 1, 1, 1] body = some c → Snd Try.prog 142 c l1T := by
  refine loop_of (hT := hT) (D := D) (l := l1tb) (b := l1b) (lo := l1LO) (by kernel_rfl) (by
    intro x hx
    simp only [l1tb, List.not_mem_nil] at hx
    ) (by kernel_rfl) (by kernel_rfl) ?_ ?_
  · intro Q σ w h
    unfold l1Tk at h
    obtain ⟨pt3, h3, hn⟩ := gPtr_elim h
    clear h
    have h := hn
    clear hn
    obtain ⟨at4, h4, hn⟩ := gAd_elim h
    clear h
    have h := hn
    clear hn
    obtain ⟨At103, nt103, ct103, h103, hn⟩ := gSlice_elim h
    clear h
    have h := hn
    clear hn
    obtain ⟨xt104, h104, hn⟩ := gInt_elim h
    clear h
    have h := hn
    clear hn
    obtain ⟨xt105, h105, hn⟩ := gInt_elim h
    clear h
    have h := hn
    clear hn
    exact h
  · intro k Q σ w h
    unfold l1Tk at h
    obtain ⟨pt3, h3, hn⟩ := gPtr_elim h
    clear h
    have h := hn
    clear hn
    obtain ⟨at4, h4, hn⟩ := gAd_elim h
    clear h
    have h := hn
    clear hn
    obtain ⟨At103, nt103, ct103, h103, hn⟩ := gSlice_elim h
    clear h
    have h := hn
    clear hn
    obtain ⟨xt104, h104, hn⟩ := gInt_elim h
    clear h
    have h := hn
    clear hn
    obtain ⟨xt105, h105, hn⟩ := gInt_elim h
    clear h
    have h := hn
    clear hn
    rw [l1_eq (σ := σ)] at h
    have e : (ov σ [(3, .pointer pt3), (4, .pointer (some at4)), (103, .slice At103 nt103 ct103), (104, .int .i64 xt104), (105, .int .i64 xt105)]) = σ := ov_self (by simp [h3, h4, h103, h104, h105])
    rw [e] at h
    exact h
def tb : List (List Nat × Spec) := [([0, 1, 0, 1, 1, 1, 1], l0T), ([0, 1, 0, 1, 1, 1, 1, 1], l1T)]
theorem wp_eq (Aa0 : Option Addr) (na0 : Nat) (ca0 : Nat) (w : World) (Q : Ending → World → Prop) :
    wp Aa0 na0 ca0 w Q = codeW Try.prog hT 142 D (tab tb) [] body (topQ Try.prog hT 142 [.tmp 2] Q) (argsF [.slice Aa0 na0 ca0]) w := by kernel_rfl
theorem ok (Aa0 : Option Addr) (na0 : Nat) (ca0 : Nat) (w : World) (Q : Ending → World → Prop) (h : wp Aa0 na0 ca0 w Q) : Calls Try.prog 3 #[.slice Aa0 na0 ca0] w Q := by
  rw [wp_eq] at h
  exact calls_of_codeW (c := body) (rs := [.tmp 2]) Try.func3 (by kernel_rfl) (by kernel_rfl) (by kernel_rfl) (by kernel_rfl) (by kernel_rfl) (tab_snd (by
    intro x hx
    simp only [tb, List.mem_cons, List.not_mem_nil, or_false] at hx
    rcases hx with rfl | rfl
    · exact l0_snd
    · exact l1_snd)) (by kernel_rfl) h
end f_law17_LinkcutPlays
namespace f_law17_LinkcutPaths
/-! skein/skeinlaw17.LinkcutPaths: function 4 -/
noncomputable def body : Code := (Try.f4.body).getD .skip
def j0 (at10 : Addr) (at14 : Addr) (at16 : Addr) (xt17 : Int) (bt73 : Bool) (w : World) (Kn : World → Prop) (Kr : Bool → World → Prop) : Prop :=
  sel bt73 (
  sel (xt17 != (0 : Int)) (
  Kr false w) (
  ldC w (at16.add 4) .f64 fun r60 i60 =>
  ldC w (at10.add 4) .f64 fun r61 i61 =>
  ldC w (at14.add 4) .f64 fun r62 i62 =>
  Runs Try.prog (do eqGuard .add 52 (.tmp 82) (.tmp 85) (.float .f64 r61) (.float .f64 r62); binOp .add 52 (.float .f64 r61) (.float .f64 r62) : Sem Value) w fun v64 w63 => ∃ (f65 : Nat), v64 = (.float .f64 f65) ∧ (
  Runs Try.prog (do eqGuard .gtr 52 (.tmp 79) (.tmp 86) (.float .f64 r60) (.float .f64 f65); binOp .gtr 52 (.float .f64 r60) (.float .f64 f65) : Sem Value) w63 fun v67 w66 => ∃ (b68 : Bool), v67 = (.bool b68) ∧ (
  sel b68 (
  Kr false w66) (
  ldC w66 (at16.add 4) .f64 fun r69 i69 =>
  ldC w66 (at10.add 4) .f64 fun r70 i70 =>
  ldC w66 (at14.add 4) .f64 fun r71 i71 =>
  Runs Try.prog (do eqGuard .add 52 (.tmp 95) (.tmp 98) (.float .f64 i70) (.float .f64 i71); binOp .add 52 (.float .f64 i70) (.float .f64 i71) : Sem Value) w66 fun v73 w72 => ∃ (f74 : Nat), v73 = (.float .f64 f74) ∧ (
  Runs Try.prog (do eqGuard .gtr 52 (.tmp 92) (.tmp 99) (.float .f64 i69) (.float .f64 f74); binOp .gtr 52 (.float .f64 i69) (.float .f64 f74) : Sem Value) w72 fun v76 w75 => ∃ (b77 : Bool), v76 = (.bool b77) ∧ (
  sel b77 (
  Kr false w75) (
  ldC w75 (at16.add 4) .f64 fun r78 i78 =>
  ldC w75 (at10.add 4) .f64 fun r79 i79 =>
  Runs Try.prog (do eqGuard .add 52 (.tmp 105) (.tmp 108) (.float .f64 i78) (.float .f64 i79); binOp .add 52 (.float .f64 i78) (.float .f64 i79) : Sem Value) w75 fun v81 w80 => ∃ (f82 : Nat), v81 = (.float .f64 f82) ∧ (
  ldC w80 (at14.add 4) .f64 fun r83 i83 =>
  Runs Try.prog (do eqGuard .add 52 (.tmp 109) (.tmp 112) (.float .f64 f82) (.float .f64 i83); binOp .add 52 (.float .f64 f82) (.float .f64 i83) : Sem Value) w80 fun v85 w84 => ∃ (f86 : Nat), v85 = (.float .f64 f86) ∧ (
  Runs Try.prog (Go.convert 52 2 (.float .f64 f86)) w84 fun v88 w87 => ∃ (x89 : Int), v88 = (.int .i64 x89) ∧ (
  sel ((x89.tmod (2 : Int)) != (0 : Int)) (
  Kr false w87) (
  Kn  w87)))))))))))) (
  Kn  w)
def l2 : Nat → Option Addr → Option Addr → Nat → Nat → Int → Int → World → (World → Prop) → (Bool → World → Prop) → Prop
  | 0, _, _, _, _, _, _, _, _, _ => False
  | k + 1, pt9, At118, nt118, ct118, xt119, xt120, w, K0, Kr =>
    sel (decide (xt120 < xt119)) (
    optB At118 fun a91 =>
    req (decide (0 ≤ xt120 ∧ xt120 < (nt118 : Int))) <|
    ldI w (a91.add (xt120.toNat * 5)) .i64 fun x92 =>
    ldI w ((a91.add (xt120.toNat * 5)).add 1) .i64 fun x93 =>
    ldI w ((a91.add (xt120.toNat * 5)).add 2) .i64 fun x94 =>
    ldI w ((a91.add (xt120.toNat * 5)).add 3) .i64 fun x95 =>
    ldI w ((a91.add (xt120.toNat * 5)).add 4) .i64 fun x96 =>
    alW w (.cells #[.int .i64 (0 : Int), .int .i64 (0 : Int), .int .i64 (0 : Int), .int .i64 (0 : Int), .int .i64 (0 : Int)] 35) fun B97 w98 =>
    stW w98 (⟨B97, 0, Option.none⟩ : Addr) (.int .i64 x92) fun w99 =>
    stW w99 ((⟨B97, 0, Option.none⟩ : Addr).add 1) (.int .i64 x93) fun w100 =>
    stW w100 ((⟨B97, 0, Option.none⟩ : Addr).add 2) (.int .i64 x94) fun w101 =>
    stW w101 ((⟨B97, 0, Option.none⟩ : Addr).add 3) (.int .i64 x95) fun w102 =>
    stW w102 ((⟨B97, 0, Option.none⟩ : Addr).add 4) (.int .i64 x96) fun w103 =>
    ldI w103 ((⟨B97, 0, Option.none⟩ : Addr).add 1) .i64 fun x104 =>
    Calls Try.prog 12 #[.pointer pt9, .int .i64 x104] w103 fun e105 w106 => ∃ (x107_0_0 : Int) (x107_0_1 : Int) (x107_0_2 : Int) (x107_0_3 : Int) (b107_1 : Bool), e105 = .returned (.tuple #[.agg #[.int .i64 x107_0_0, .int .i64 x107_0_1, .int .i64 x107_0_2, .int .i64 x107_0_3], .bool b107_1]) ∧ (
    alW w106 (.cells #[.int .i64 (0 : Int), .int .i64 (0 : Int), .int .i64 (0 : Int), .int .i64 (0 : Int)] 33) fun B108 w109 =>
    stW w109 (⟨B108, 0, Option.none⟩ : Addr) (.int .i64 x107_0_0) fun w110 =>
    stW w110 ((⟨B108, 0, Option.none⟩ : Addr).add 1) (.int .i64 x107_0_1) fun w111 =>
    stW w111 ((⟨B108, 0, Option.none⟩ : Addr).add 2) (.int .i64 x107_0_2) fun w112 =>
    stW w112 ((⟨B108, 0, Option.none⟩ : Addr).add 3) (.int .i64 x107_0_3) fun w113 =>
    sel (!b107_1) (
    l2 k pt9 At118 nt118 ct118 xt119 (IntKind.i64.wrap (xt120 + (1 : Int))) w113 K0 Kr) (
    ldI w113 ((⟨B108, 0, Option.none⟩ : Addr).add 1) .i64 fun x114 =>
    ldI w113 ((⟨B108, 0, Option.none⟩ : Addr).add 2) .i64 fun x115 =>
    Calls Try.prog 16 #[.pointer pt9, .int .i64 x114, .int .i64 x115] w113 fun e116 w117 => ∃ (x118_0_0 : Int) (x118_0_1 : Int) (x118_0_2 : Int) (x118_0_3 : Int) (r118_0_4 : Nat) (i118_0_4 : Nat) (x118_1 : Int), e116 = .returned (.tuple #[.agg #[.int .i64 x118_0_0, .int .i64 x118_0_1, .int .i64 x118_0_2, .int .i64 x118_0_3, .complex .f64 r118_0_4 i118_0_4], .int .i64 x118_1]) ∧ (
    alW w117 (.cells #[.int .i64 (0 : Int), .int .i64 (0 : Int), .int .i64 (0 : Int), .int .i64 (0 : Int), .complex .f64 0 0] 48) fun B119 w120 =>
    stW w120 (⟨B119, 0, Option.none⟩ : Addr) (.int .i64 x118_0_0) fun w121 =>
    stW w121 ((⟨B119, 0, Option.none⟩ : Addr).add 1) (.int .i64 x118_0_1) fun w122 =>
    stW w122 ((⟨B119, 0, Option.none⟩ : Addr).add 2) (.int .i64 x118_0_2) fun w123 =>
    stW w123 ((⟨B119, 0, Option.none⟩ : Addr).add 3) (.int .i64 x118_0_3) fun w124 =>
    stW w124 ((⟨B119, 0, Option.none⟩ : Addr).add 4) (.complex .f64 r118_0_4 i118_0_4) fun w125 =>
    sel (x118_1 != (0 : Int)) (
    Kr false w125) (
    ldI w125 (⟨B119, 0, Option.none⟩ : Addr) .i64 fun x126 =>
    ldI w125 ((⟨B119, 0, Option.none⟩ : Addr).add 1) .i64 fun x127 =>
    ldI w125 ((⟨B119, 0, Option.none⟩ : Addr).add 2) .i64 fun x128 =>
    ldI w125 ((⟨B119, 0, Option.none⟩ : Addr).add 3) .i64 fun x129 =>
    ldI w125 (⟨B108, 0, Option.none⟩ : Addr) .i64 fun x130 =>
    ldI w125 ((⟨B108, 0, Option.none⟩ : Addr).add 1) .i64 fun x131 =>
    ldI w125 ((⟨B108, 0, Option.none⟩ : Addr).add 2) .i64 fun x132 =>
    ldI w125 ((⟨B108, 0, Option.none⟩ : Addr).add 3) .i64 fun x133 =>
    sel (!((x126 == x130) && ((x127 == x131) && ((x128 == x132) && ((x129 == x133) && true))))) (
    Kr false w125) (
    ldC w125 ((⟨B119, 0, Option.none⟩ : Addr).add 4) .f64 fun r134 i134 =>
    ldI w125 ((⟨B108, 0, Option.none⟩ : Addr).add 3) .i64 fun x135 =>
    Runs Try.prog (Go.convert 2 52 (.int .i64 x135)) w125 fun v137 w136 => ∃ (f138 : Nat), v137 = (.float .f64 f138) ∧ (
    Runs Try.prog (do eqGuard .neq 46 (.tmp 153) (.tmp 157) (.complex .f64 r134 i134) (.complex .f64 f138 4607182418800017408); binOp .neq 46 (.complex .f64 r134 i134) (.complex .f64 f138 4607182418800017408) : Sem Value) w136 fun v140 w139 => ∃ (b141 : Bool), v140 = (.bool b141) ∧ (
    sel b141 (
    Kr false w139) (
    l2 k pt9 At118 nt118 ct118 xt119 (IntKind.i64.wrap (xt120 + (1 : Int))) w139 K0 Kr))))))))) (
    K0  w)
def j1 (At0 : Option Addr) (nt0 : Nat) (ct0 : Nat) (pt9 : Option Addr) (w : World) (Kr : Bool → World → Prop) : Prop :=
  ∃ k145 : Nat, l2 k145 pt9 At0 nt0 ct0 (nt0 : Int) (0 : Int) w (fun (w142 : World) => ∀ _ : Fr,
  Kr true w142) (fun (b143 : Bool) (w144 : World) => ∀ _ : Fr,
  Kr b143 w144)
def wp (Aa0 : Option Addr) (na0 : Nat) (ca0 : Nat) (xa1 : Int) (xa2 : Int) (xa3 : Int) (w : World) (Q : Ending → World → Prop) : Prop :=
  Calls Try.prog 15 #[.slice Aa0 na0 ca0] w fun e1 w2 => ∃ (p3 : Option Addr), e1 = .returned (.pointer p3) ∧ (
  sel p3.isNone (
  Q (.returned (.bool false)) w2) (
  Calls Try.prog 9 #[] w2 fun e4 w5 => ∃ (b6 : Bool), e4 = .returned (.bool b6) ∧ (
  sel (!b6) (
  Q (.returned (.bool false)) w5) (
  Calls Try.prog 16 #[.pointer p3, .int .i64 xa1, .int .i64 xa2] w5 fun e7 w8 => ∃ (x9_0_0 : Int) (x9_0_1 : Int) (x9_0_2 : Int) (x9_0_3 : Int) (r9_0_4 : Nat) (i9_0_4 : Nat) (x9_1 : Int), e7 = .returned (.tuple #[.agg #[.int .i64 x9_0_0, .int .i64 x9_0_1, .int .i64 x9_0_2, .int .i64 x9_0_3, .complex .f64 r9_0_4 i9_0_4], .int .i64 x9_1]) ∧ (
  alW w8 (.cells #[.int .i64 (0 : Int), .int .i64 (0 : Int), .int .i64 (0 : Int), .int .i64 (0 : Int), .complex .f64 0 0] 48) fun B10 w11 =>
  stW w11 (⟨B10, 0, Option.none⟩ : Addr) (.int .i64 x9_0_0) fun w12 =>
  stW w12 ((⟨B10, 0, Option.none⟩ : Addr).add 1) (.int .i64 x9_0_1) fun w13 =>
  stW w13 ((⟨B10, 0, Option.none⟩ : Addr).add 2) (.int .i64 x9_0_2) fun w14 =>
  stW w14 ((⟨B10, 0, Option.none⟩ : Addr).add 3) (.int .i64 x9_0_3) fun w15 =>
  stW w15 ((⟨B10, 0, Option.none⟩ : Addr).add 4) (.complex .f64 r9_0_4 i9_0_4) fun w16 =>
  Calls Try.prog 16 #[.pointer p3, .int .i64 xa2, .int .i64 xa1] w16 fun e17 w18 => ∃ (x19_0_0 : Int) (x19_0_1 : Int) (x19_0_2 : Int) (x19_0_3 : Int) (r19_0_4 : Nat) (i19_0_4 : Nat) (x19_1 : Int), e17 = .returned (.tuple #[.agg #[.int .i64 x19_0_0, .int .i64 x19_0_1, .int .i64 x19_0_2, .int .i64 x19_0_3, .complex .f64 r19_0_4 i19_0_4], .int .i64 x19_1]) ∧ (
  alW w18 (.cells #[.int .i64 (0 : Int), .int .i64 (0 : Int), .int .i64 (0 : Int), .int .i64 (0 : Int), .complex .f64 0 0] 48) fun B20 w21 =>
  stW w21 (⟨B20, 0, Option.none⟩ : Addr) (.int .i64 x19_0_0) fun w22 =>
  stW w22 ((⟨B20, 0, Option.none⟩ : Addr).add 1) (.int .i64 x19_0_1) fun w23 =>
  stW w23 ((⟨B20, 0, Option.none⟩ : Addr).add 2) (.int .i64 x19_0_2) fun w24 =>
  stW w24 ((⟨B20, 0, Option.none⟩ : Addr).add 3) (.int .i64 x19_0_3) fun w25 =>
  stW w25 ((⟨B20, 0, Option.none⟩ : Addr).add 4) (.complex .f64 r19_0_4 i19_0_4) fun w26 =>
  ldI w26 (⟨B10, 0, Option.none⟩ : Addr) .i64 fun x27 =>
  ldI w26 ((⟨B10, 0, Option.none⟩ : Addr).add 1) .i64 fun x28 =>
  ldI w26 ((⟨B10, 0, Option.none⟩ : Addr).add 2) .i64 fun x29 =>
  ldI w26 ((⟨B10, 0, Option.none⟩ : Addr).add 3) .i64 fun x30 =>
  ldC w26 ((⟨B10, 0, Option.none⟩ : Addr).add 4) .f64 fun r31 i31 =>
  ldI w26 (⟨B20, 0, Option.none⟩ : Addr) .i64 fun x32 =>
  ldI w26 ((⟨B20, 0, Option.none⟩ : Addr).add 1) .i64 fun x33 =>
  ldI w26 ((⟨B20, 0, Option.none⟩ : Addr).add 2) .i64 fun x34 =>
  ldI w26 ((⟨B20, 0, Option.none⟩ : Addr).add 3) .i64 fun x35 =>
  ldC w26 ((⟨B20, 0, Option.none⟩ : Addr).add 4) .f64 fun r36 i36 =>
  Runs Try.prog (do eqGuard .neq 48 (.tmp 46) (.tmp 47) (.agg #[.int .i64 x27, .int .i64 x28, .int .i64 x29, .int .i64 x30, .complex .f64 r31 i31]) (.agg #[.int .i64 x32, .int .i64 x33, .int .i64 x34, .int .i64 x35, .complex .f64 r36 i36]); binOp .neq 48 (.agg #[.int .i64 x27, .int .i64 x28, .int .i64 x29, .int .i64 x30, .complex .f64 r31 i31]) (.agg #[.int .i64 x32, .int .i64 x33, .int .i64 x34, .int .i64 x35, .complex .f64 r36 i36]) : Sem Value) w26 fun v38 w37 => ∃ (b39 : Bool), v38 = (.bool b39) ∧ (
  sel b39 (
  Q (.returned (.bool false)) w37) (
  sel (x9_1 != x19_1) (
  Q (.returned (.bool false)) w37) (
  Calls Try.prog 16 #[.pointer p3, .int .i64 xa2, .int .i64 xa3] w37 fun e40 w41 => ∃ (x42_0_0 : Int) (x42_0_1 : Int) (x42_0_2 : Int) (x42_0_3 : Int) (r42_0_4 : Nat) (i42_0_4 : Nat) (x42_1 : Int), e40 = .returned (.tuple #[.agg #[.int .i64 x42_0_0, .int .i64 x42_0_1, .int .i64 x42_0_2, .int .i64 x42_0_3, .complex .f64 r42_0_4 i42_0_4], .int .i64 x42_1]) ∧ (
  alW w41 (.cells #[.int .i64 (0 : Int), .int .i64 (0 : Int), .int .i64 (0 : Int), .int .i64 (0 : Int), .complex .f64 0 0] 48) fun B43 w44 =>
  stW w44 (⟨B43, 0, Option.none⟩ : Addr) (.int .i64 x42_0_0) fun w45 =>
  stW w45 ((⟨B43, 0, Option.none⟩ : Addr).add 1) (.int .i64 x42_0_1) fun w46 =>
  stW w46 ((⟨B43, 0, Option.none⟩ : Addr).add 2) (.int .i64 x42_0_2) fun w47 =>
  stW w47 ((⟨B43, 0, Option.none⟩ : Addr).add 3) (.int .i64 x42_0_3) fun w48 =>
  stW w48 ((⟨B43, 0, Option.none⟩ : Addr).add 4) (.complex .f64 r42_0_4 i42_0_4) fun w49 =>
  Calls Try.prog 16 #[.pointer p3, .int .i64 xa1, .int .i64 xa3] w49 fun e50 w51 => ∃ (x52_0_0 : Int) (x52_0_1 : Int) (x52_0_2 : Int) (x52_0_3 : Int) (r52_0_4 : Nat) (i52_0_4 : Nat) (x52_1 : Int), e50 = .returned (.tuple #[.agg #[.int .i64 x52_0_0, .int .i64 x52_0_1, .int .i64 x52_0_2, .int .i64 x52_0_3, .complex .f64 r52_0_4 i52_0_4], .int .i64 x52_1]) ∧ (
  alW w51 (.cells #[.int .i64 (0 : Int), .int .i64 (0 : Int), .int .i64 (0 : Int), .int .i64 (0 : Int), .complex .f64 0 0] 48) fun B53 w54 =>
  stW w54 (⟨B53, 0, Option.none⟩ : Addr) (.int .i64 x52_0_0) fun w55 =>
  stW w55 ((⟨B53, 0, Option.none⟩ : Addr).add 1) (.int .i64 x52_0_1) fun w56 =>
  stW w56 ((⟨B53, 0, Option.none⟩ : Addr).add 2) (.int .i64 x52_0_2) fun w57 =>
  stW w57 ((⟨B53, 0, Option.none⟩ : Addr).add 3) (.int .i64 x52_0_3) fun w58 =>
  stW w58 ((⟨B53, 0, Option.none⟩ : Addr).add 4) (.complex .f64 r52_0_4 i52_0_4) fun w59 =>
  sel (x9_1 == (0 : Int)) (
  j0 (⟨B10, 0, Option.none⟩ : Addr) (⟨B43, 0, Option.none⟩ : Addr) (⟨B53, 0, Option.none⟩ : Addr) x52_1 (x42_1 == (0 : Int)) w59 (fun (w90 : World) => ∀ _ : Fr,
  j1 Aa0 na0 ca0 p3 w90 (fun (b146 : Bool) (w147 : World) => ∀ _ : Fr,
  Q (.returned (.bool b146)) w147)) (fun (b148 : Bool) (w149 : World) => ∀ _ : Fr,
  Q (.returned (.bool b148)) w149)) (
  j0 (⟨B10, 0, Option.none⟩ : Addr) (⟨B43, 0, Option.none⟩ : Addr) (⟨B53, 0, Option.none⟩ : Addr) x52_1 false w59 (fun (w150 : World) => ∀ _ : Fr,
  j1 Aa0 na0 ca0 p3 w150 (fun (b151 : Bool) (w152 : World) => ∀ _ : Fr,
  Q (.returned (.bool b151)) w152)) (fun (b153 : Bool) (w154 : World) => ∀ _ : Fr,
  Q (.returned (.bool b153)) w154)))))))))))))
def D : Nat → Option DH := dtab []
def j0LO : LO := ⟨[0, 9], [8], [], []⟩
def j0T : Spec := fun Q σ w =>
  gAd (σ 10) fun at10 =>
  gAd (σ 14) fun at14 =>
  gAd (σ 16) fun at16 =>
  gInt .i64 (σ 17) fun xt17 =>
  gBool (σ 73) fun bt73 =>
  j0 at10 at14 at16 xt17 bt73 w (fun (w : World) => ∀ d : Fr, Q .normal (ov d [(0, σ 0), (9, σ 9)]) w) (fun (bq8 : Bool) (w : World) => ∀ d : Fr, Q .ret (ov d [(8, .bool bq8)]) w)
def j0tb : List (List Nat × Spec) := []
noncomputable def j0b : Code := (subC [1, 0, 1, 1, 1, 1, 1, 1, 1, 1] body).getD .skip
theorem j0_eq (at10 : Addr) (at14 : Addr) (at16 : Addr) (xt17 : Int) (bt73 : Bool) (Q : PQ) (σ : Fr) (w : World) :
    j0 at10 at14 at16 xt17 bt73 w (fun (w : World) => ∀ d : Fr, Q .normal (ov d [(0, σ 0), (9, σ 9)]) w) (fun (bq8 : Bool) (w : World) => ∀ d : Fr, Q .ret (ov d [(8, .bool bq8)]) w) = codeW Try.prog hT 161 D (tab j0tb) [1, 0, 1, 1, 1, 1, 1, 1, 1, 1] j0b (widen j0LO Q) (ov σ [(10, .pointer (some at10)), (14, .pointer (some at14)), (16, .pointer (some at16)), (17, .int .i64 xt17), (73, .bool bt73)]) w := by cases bt73 <;> kernel_rfl
theorem j0_snd : ∀ c, subC [1, 0, 1, 1, 1, 1, 1, 1, 1, 1] body = some c → Snd Try.prog 161 c j0T := by
  refine cut_of (hT := hT) (D := D) (l := j0tb) (b := j0b) (lo := j0LO) (by kernel_rfl) (by
    intro x hx
    simp only [j0tb, List.not_mem_nil] at hx
    ) (by kernel_rfl) (by kernel_rfl) ?_
  intro Q σ w h
  unfold j0T at h
  obtain ⟨at10, h10, hn⟩ := gAd_elim h
  clear h
  have h := hn
  clear hn
  obtain ⟨at14, h14, hn⟩ := gAd_elim h
  clear h
  have h := hn
  clear hn
  obtain ⟨at16, h16, hn⟩ := gAd_elim h
  clear h
  have h := hn
  clear hn
  obtain ⟨xt17, h17, hn⟩ := gInt_elim h
  clear h
  have h := hn
  clear hn
  obtain ⟨bt73, h73, hn⟩ := gBool_elim h
  clear h
  have h := hn
  clear hn
  rw [j0_eq (σ := σ)] at h
  have e : (ov σ [(10, .pointer (some at10)), (14, .pointer (some at14)), (16, .pointer (some at16)), (17, .int .i64 xt17), (73, .bool bt73)]) = σ := ov_self (by simp [h10, h14, h16, h17, h73])
  rw [e] at h
  exact h
def l2LO : LO := ⟨[], [8], [(0, [])], []⟩
def l2Tk (k : Nat) : Spec := fun Q σ w =>
  gPtr (σ 9) fun pt9 =>
  gSlice (σ 118) fun At118 nt118 ct118 =>
  gInt .i64 (σ 119) fun xt119 =>
  gInt .i64 (σ 120) fun xt120 =>
  l2 k pt9 At118 nt118 ct118 xt119 xt120 w (fun (w : World) => ∀ d : Fr, Q (.exit 0) (ov d []) w) (fun (bq8 : Bool) (w : World) => ∀ d : Fr, Q .ret (ov d [(8, .bool bq8)]) w)
def l2T : Spec := fun Q σ w => ∃ k, l2Tk k Q σ w
def l2tb : List (List Nat × Spec) := []
noncomputable def l2b : Code := (subC [0, 0, 1, 0, 1, 1, 1, 1, 1, 1, 1, 1, 1] body).getD .skip
theorem l2_eq (k : Nat) (pt9 : Option Addr) (At118 : Option Addr) (nt118 : Nat) (ct118 : Nat) (xt119 : Int) (xt120 : Int) (Q : PQ) (σ : Fr) (w : World) :
    l2 (k + 1) pt9 At118 nt118 ct118 xt119 xt120 w (fun (w : World) => ∀ d : Fr, Q (.exit 0) (ov d []) w) (fun (bq8 : Bool) (w : World) => ∀ d : Fr, Q .ret (ov d [(8, .bool bq8)]) w) = codeW Try.prog hT 161 D (tab l2tb) [0, 0, 1, 0, 1, 1, 1, 1, 1, 1, 1, 1, 1] l2b (thenQ (l2Tk k Q) (widen l2LO Q)) (ov σ [(9, .pointer pt9), (118, .slice At118 nt118 ct118), (119, .int .i64 xt119), (120, .int .i64 xt120)]) w := by kernel_rfl
theorem l2_snd : ∀ c, subC [0, 1, 0, 1, 1, 1, 1, 1, 1, 1, 1, 1] body = some c → Snd Try.prog 161 c l2T := by
  refine loop_of (hT := hT) (D := D) (l := l2tb) (b := l2b) (lo := l2LO) (by kernel_rfl) (by
    intro x hx
    simp only [l2tb, List.not_mem_nil] at hx
    ) (by kernel_rfl) (by kernel_rfl) ?_ ?_
  · intro Q σ w h
    unfold l2Tk at h
    obtain ⟨pt9, h9, hn⟩ := gPtr_elim h
    clear h
    have h := hn
    clear hn
    obtain ⟨At118, nt118, ct118, h118, hn⟩ := gSlice_elim h
    clear h
    have h := hn
    clear hn
    obtain ⟨xt119, h119, hn⟩ := gInt_elim h
    clear h
    have h := hn
    clear hn
    obtain ⟨xt120, h120, hn⟩ := gInt_elim h
    clear h
    have h := hn
    clear hn
    exact h
  · intro k Q σ w h
    unfold l2Tk at h
    obtain ⟨pt9, h9, hn⟩ := gPtr_elim h
    clear h
    have h := hn
    clear hn
    obtain ⟨At118, nt118, ct118, h118, hn⟩ := gSlice_elim h
    clear h
    have h := hn
    clear hn
    obtain ⟨xt119, h119, hn⟩ := gInt_elim h
    clear h
    have h := hn
    clear hn
    obtain ⟨xt120, h120, hn⟩ := gInt_elim h
    clear h
    have h := hn
    clear hn
    rw [l2_eq (σ := σ)] at h
    have e : (ov σ [(9, .pointer pt9), (118, .slice At118 nt118 ct118), (119, .int .i64 xt119), (120, .int .i64 xt120)]) = σ := ov_self (by simp [h9, h118, h119, h120])
    rw [e] at h
    exact h
def j1LO : LO := ⟨[], [8], [], []⟩
def j1T : Spec := fun Q σ w =>
  gSlice (σ 0) fun At0 nt0 ct0 =>
  gPtr (σ 9) fun pt9 =>
  j1 At0 nt0 ct0 pt9 w (fun (bq8 : Bool) (w : World) => ∀ d : Fr, Q .ret (ov d [(8, .bool bq8)]) w)
def j1tb : List (List Nat × Spec) := [([0, 1, 0, 1, 1, 1, 1, 1, 1, 1, 1, 1], l2T)]
noncomputable def j1b : Code := (subC [1, 1, 1, 1, 1, 1, 1, 1, 1] body).getD .skip
theorem j1_eq (At0 : Option Addr) (nt0 : Nat) (ct0 : Nat) (pt9 : Option Addr) (Q : PQ) (σ : Fr) (w : World) :
    j1 At0 nt0 ct0 pt9 w (fun (bq8 : Bool) (w : World) => ∀ d : Fr, Q .ret (ov d [(8, .bool bq8)]) w) = codeW Try.prog hT 161 D (tab j1tb) [1, 1, 1, 1, 1, 1, 1, 1, 1] j1b (widen j1LO Q) (ov σ [(0, .slice At0 nt0 ct0), (9, .pointer pt9)]) w := by kernel_rfl
theorem j1_snd : ∀ c, subC [1, 1, 1, 1, 1, 1, 1, 1, 1] body = some c → Snd Try.prog 161 c j1T := by
  refine cut_of (hT := hT) (D := D) (l := j1tb) (b := j1b) (lo := j1LO) (by kernel_rfl) (by
    intro x hx
    simp only [j1tb, List.mem_cons, List.not_mem_nil, or_false] at hx
    subst hx
    exact l2_snd) (by kernel_rfl) (by kernel_rfl) ?_
  intro Q σ w h
  unfold j1T at h
  obtain ⟨At0, nt0, ct0, h0, hn⟩ := gSlice_elim h
  clear h
  have h := hn
  clear hn
  obtain ⟨pt9, h9, hn⟩ := gPtr_elim h
  clear h
  have h := hn
  clear hn
  rw [j1_eq (σ := σ)] at h
  have e : (ov σ [(0, .slice At0 nt0 ct0), (9, .pointer pt9)]) = σ := ov_self (by simp [h0, h9])
  rw [e] at h
  exact h
def tb : List (List Nat × Spec) := [([1, 0, 1, 1, 1, 1, 1, 1, 1, 1], j0T), ([0, 1, 0, 1, 1, 1, 1, 1, 1, 1, 1, 1], l2T), ([1, 1, 1, 1, 1, 1, 1, 1, 1], j1T)]
theorem wp_eq (Aa0 : Option Addr) (na0 : Nat) (ca0 : Nat) (xa1 : Int) (xa2 : Int) (xa3 : Int) (w : World) (Q : Ending → World → Prop) :
    wp Aa0 na0 ca0 xa1 xa2 xa3 w Q = codeW Try.prog hT 161 D (tab tb) [] body (topQ Try.prog hT 161 [.tmp 8] Q) (argsF [.slice Aa0 na0 ca0, .int .i64 xa1, .int .i64 xa2, .int .i64 xa3]) w := by kernel_rfl
theorem ok (Aa0 : Option Addr) (na0 : Nat) (ca0 : Nat) (xa1 : Int) (xa2 : Int) (xa3 : Int) (w : World) (Q : Ending → World → Prop) (h : wp Aa0 na0 ca0 xa1 xa2 xa3 w Q) : Calls Try.prog 4 #[.slice Aa0 na0 ca0, .int .i64 xa1, .int .i64 xa2, .int .i64 xa3] w Q := by
  rw [wp_eq] at h
  exact calls_of_codeW (c := body) (rs := [.tmp 8]) Try.func4 (by kernel_rfl) (by kernel_rfl) (by kernel_rfl) (by kernel_rfl) (by kernel_rfl) (tab_snd (by
    intro x hx
    simp only [tb, List.mem_cons, List.not_mem_nil, or_false] at hx
    rcases hx with rfl | rfl | rfl
    · exact j0_snd
    · exact l2_snd
    · exact j1_snd)) (by kernel_rfl) h
end f_law17_LinkcutPaths
namespace f_law17_LinkcutBack
/-! skein/skeinlaw17.LinkcutBack: function 5 -/
noncomputable def body : Code := (Try.f5.body).getD .skip
def j0 (at10 : Addr) (xt11 : Int) (at18 : Addr) (xt19 : Int) (w : World) (Kr : Bool → World → Prop) : Prop :=
  ldI w at18 .i64 fun x61 =>
  ldI w (at18.add 1) .i64 fun x62 =>
  ldI w (at18.add 2) .i64 fun x63 =>
  ldI w (at18.add 3) .i64 fun x64 =>
  ldC w (at18.add 4) .f64 fun r65 i65 =>
  ldI w at10 .i64 fun x66 =>
  ldI w (at10.add 1) .i64 fun x67 =>
  ldI w (at10.add 2) .i64 fun x68 =>
  ldI w (at10.add 3) .i64 fun x69 =>
  ldC w (at10.add 4) .f64 fun r70 i70 =>
  Runs Try.prog (do eqGuard .eql 48 (.tmp 73) (.tmp 74) (.agg #[.int .i64 x61, .int .i64 x62, .int .i64 x63, .int .i64 x64, .complex .f64 r65 i65]) (.agg #[.int .i64 x66, .int .i64 x67, .int .i64 x68, .int .i64 x69, .complex .f64 r70 i70]); binOp .eql 48 (.agg #[.int .i64 x61, .int .i64 x62, .int .i64 x63, .int .i64 x64, .complex .f64 r65 i65]) (.agg #[.int .i64 x66, .int .i64 x67, .int .i64 x68, .int .i64 x69, .complex .f64 r70 i70]) : Sem Value) w fun v72 w71 => ∃ (b73 : Bool), v72 = (.bool b73) ∧ (
  sel b73 (
  Kr (xt19 == xt11) w71) (
  Kr false w71))
def j2 (xt2 : Int) (xt3 : Int) (at5 : Addr) (pt9 : Option Addr) (at10 : Addr) (xt11 : Int) (xt16 : Int) (xt17 : Int) (w : World) (Kr : Bool → World → Prop) : Prop :=
  ldI w at5 .i64 fun x115 =>
  Calls Try.prog 18 #[.pointer pt9, .int .i64 x115] w fun e116 w117 => ∃ (x118 : Int), e116 = .returned (.int .i64 x118) ∧ (
  sel (x118 != (0 : Int)) (
  Kr false w117) (
  Calls Try.prog 16 #[.pointer pt9, .int .i64 xt2, .int .i64 xt3] w117 fun e119 w120 => ∃ (x121_0_0 : Int) (x121_0_1 : Int) (x121_0_2 : Int) (x121_0_3 : Int) (r121_0_4 : Nat) (i121_0_4 : Nat) (x121_1 : Int), e119 = .returned (.tuple #[.agg #[.int .i64 x121_0_0, .int .i64 x121_0_1, .int .i64 x121_0_2, .int .i64 x121_0_3, .complex .f64 r121_0_4 i121_0_4], .int .i64 x121_1]) ∧ (
  alW w120 (.cells #[.int .i64 (0 : Int), .int .i64 (0 : Int), .int .i64 (0 : Int), .int .i64 (0 : Int), .complex .f64 0 0] 48) fun B122 w123 =>
  stW w123 (⟨B122, 0, Option.none⟩ : Addr) (.int .i64 x121_0_0) fun w124 =>
  stW w124 ((⟨B122, 0, Option.none⟩ : Addr).add 1) (.int .i64 x121_0_1) fun w125 =>
  stW w125 ((⟨B122, 0, Option.none⟩ : Addr).add 2) (.int .i64 x121_0_2) fun w126 =>
  stW w126 ((⟨B122, 0, Option.none⟩ : Addr).add 3) (.int .i64 x121_0_3) fun w127 =>
  stW w127 ((⟨B122, 0, Option.none⟩ : Addr).add 4) (.complex .f64 r121_0_4 i121_0_4) fun w128 =>
  Calls Try.prog 11 #[.pointer pt9] w128 fun e129 w130 => ∃ (x131_0 : Int) (x131_1 : Int), e129 = .returned (.tuple #[.int .i64 x131_0, .int .i64 x131_1]) ∧ (
  ldI w130 (⟨B122, 0, Option.none⟩ : Addr) .i64 fun x132 =>
  ldI w130 ((⟨B122, 0, Option.none⟩ : Addr).add 1) .i64 fun x133 =>
  ldI w130 ((⟨B122, 0, Option.none⟩ : Addr).add 2) .i64 fun x134 =>
  ldI w130 ((⟨B122, 0, Option.none⟩ : Addr).add 3) .i64 fun x135 =>
  ldC w130 ((⟨B122, 0, Option.none⟩ : Addr).add 4) .f64 fun r136 i136 =>
  ldI w130 at10 .i64 fun x137 =>
  ldI w130 (at10.add 1) .i64 fun x138 =>
  ldI w130 (at10.add 2) .i64 fun x139 =>
  ldI w130 (at10.add 3) .i64 fun x140 =>
  ldC w130 (at10.add 4) .f64 fun r141 i141 =>
  Runs Try.prog (do eqGuard .eql 48 (.tmp 139) (.tmp 140) (.agg #[.int .i64 x132, .int .i64 x133, .int .i64 x134, .int .i64 x135, .complex .f64 r136 i136]) (.agg #[.int .i64 x137, .int .i64 x138, .int .i64 x139, .int .i64 x140, .complex .f64 r141 i141]); binOp .eql 48 (.agg #[.int .i64 x132, .int .i64 x133, .int .i64 x134, .int .i64 x135, .complex .f64 r136 i136]) (.agg #[.int .i64 x137, .int .i64 x138, .int .i64 x139, .int .i64 x140, .complex .f64 r141 i141]) : Sem Value) w130 fun v143 w142 => ∃ (b144 : Bool), v143 = (.bool b144) ∧ (
  sel b144 (
  sel (x121_1 == xt11) (
  sel (x131_0 == xt16) (
  Kr (x131_1 == xt17) w142) (
  Kr false w142)) (
  Kr false w142)) (
  Kr false w142))))))
def j1 (xt2 : Int) (xt3 : Int) (at5 : Addr) (pt9 : Option Addr) (at10 : Addr) (xt11 : Int) (at12 : Addr) (xt13 : Int) (at14 : Addr) (xt15 : Int) (xt16 : Int) (xt17 : Int) (at20 : Addr) (xt21 : Int) (w : World) (Kr : Bool → World → Prop) : Prop :=
  sel (xt11 == (0 : Int)) (
  sel (xt21 != (0 : Int)) (
  Kr false w) (
  ldI w at20 .i64 fun x86 =>
  ldI w (at20.add 1) .i64 fun x87 =>
  ldI w (at20.add 2) .i64 fun x88 =>
  ldI w (at20.add 3) .i64 fun x89 =>
  ldC w (at20.add 4) .f64 fun r90 i90 =>
  ldI w at10 .i64 fun x91 =>
  ldI w (at10.add 1) .i64 fun x92 =>
  ldI w (at10.add 2) .i64 fun x93 =>
  ldI w (at10.add 3) .i64 fun x94 =>
  ldC w (at10.add 4) .f64 fun r95 i95 =>
  Runs Try.prog (do eqGuard .neq 48 (.tmp 94) (.tmp 95) (.agg #[.int .i64 x86, .int .i64 x87, .int .i64 x88, .int .i64 x89, .complex .f64 r90 i90]) (.agg #[.int .i64 x91, .int .i64 x92, .int .i64 x93, .int .i64 x94, .complex .f64 r95 i95]); binOp .neq 48 (.agg #[.int .i64 x86, .int .i64 x87, .int .i64 x88, .int .i64 x89, .complex .f64 r90 i90]) (.agg #[.int .i64 x91, .int .i64 x92, .int .i64 x93, .int .i64 x94, .complex .f64 r95 i95]) : Sem Value) w fun v97 w96 => ∃ (b98 : Bool), v97 = (.bool b98) ∧ (
  sel b98 (
  Kr false w96) (
  sel (xt13 == (0 : Int)) (
  sel (xt15 == (0 : Int)) (
  sel (xt21 != (0 : Int)) (
  Kr false w96) (
  ldC w96 (at20.add 4) .f64 fun r99 i99 =>
  ldC w96 (at12.add 4) .f64 fun r100 i100 =>
  ldC w96 (at14.add 4) .f64 fun r101 i101 =>
  Runs Try.prog (do eqGuard .add 46 (.tmp 111) (.tmp 113) (.complex .f64 r100 i100) (.complex .f64 r101 i101); binOp .add 46 (.complex .f64 r100 i100) (.complex .f64 r101 i101) : Sem Value) w96 fun v103 w102 => ∃ (r104 : Nat) (i104 : Nat), v103 = (.complex .f64 r104 i104) ∧ (
  ldI w102 (at5.add 3) .i64 fun x105 =>
  Runs Try.prog (Go.convert 2 52 (.int .i64 x105)) w102 fun v107 w106 => ∃ (f108 : Nat), v107 = (.float .f64 f108) ∧ (
  Runs Try.prog (do eqGuard .add 46 (.tmp 114) (.tmp 118) (.complex .f64 r104 i104) (.complex .f64 f108 4607182418800017408); binOp .add 46 (.complex .f64 r104 i104) (.complex .f64 f108 4607182418800017408) : Sem Value) w106 fun v110 w109 => ∃ (r111 : Nat) (i111 : Nat), v110 = (.complex .f64 r111 i111) ∧ (
  Runs Try.prog (do eqGuard .neq 46 (.tmp 109) (.tmp 119) (.complex .f64 r99 i99) (.complex .f64 r111 i111); binOp .neq 46 (.complex .f64 r99 i99) (.complex .f64 r111 i111) : Sem Value) w109 fun v113 w112 => ∃ (b114 : Bool), v113 = (.bool b114) ∧ (
  sel b114 (
  Kr false w112) (
  j2 xt2 xt3 at5 pt9 at10 xt11 xt16 xt17 w112 (fun (b145 : Bool) (w146 : World) => ∀ _ : Fr,
  Kr b145 w146)))))))) (
  j2 xt2 xt3 at5 pt9 at10 xt11 xt16 xt17 w96 (fun (b147 : Bool) (w148 : World) => ∀ _ : Fr,
  Kr b147 w148))) (
  j2 xt2 xt3 at5 pt9 at10 xt11 xt16 xt17 w96 (fun (b149 : Bool) (w150 : World) => ∀ _ : Fr,
  Kr b149 w150)))))) (
  sel (xt13 == (0 : Int)) (
  sel (xt15 == (0 : Int)) (
  sel (xt21 != (0 : Int)) (
  Kr false w) (
  ldC w (at20.add 4) .f64 fun r151 i151 =>
  ldC w (at12.add 4) .f64 fun r152 i152 =>
  ldC w (at14.add 4) .f64 fun r153 i153 =>
  Runs Try.prog (do eqGuard .add 46 (.tmp 111) (.tmp 113) (.complex .f64 r152 i152) (.complex .f64 r153 i153); binOp .add 46 (.complex .f64 r152 i152) (.complex .f64 r153 i153) : Sem Value) w fun v155 w154 => ∃ (r156 : Nat) (i156 : Nat), v155 = (.complex .f64 r156 i156) ∧ (
  ldI w154 (at5.add 3) .i64 fun x157 =>
  Runs Try.prog (Go.convert 2 52 (.int .i64 x157)) w154 fun v159 w158 => ∃ (f160 : Nat), v159 = (.float .f64 f160) ∧ (
  Runs Try.prog (do eqGuard .add 46 (.tmp 114) (.tmp 118) (.complex .f64 r156 i156) (.complex .f64 f160 4607182418800017408); binOp .add 46 (.complex .f64 r156 i156) (.complex .f64 f160 4607182418800017408) : Sem Value) w158 fun v162 w161 => ∃ (r163 : Nat) (i163 : Nat), v162 = (.complex .f64 r163 i163) ∧ (
  Runs Try.prog (do eqGuard .neq 46 (.tmp 109) (.tmp 119) (.complex .f64 r151 i151) (.complex .f64 r163 i163); binOp .neq 46 (.complex .f64 r151 i151) (.complex .f64 r163 i163) : Sem Value) w161 fun v165 w164 => ∃ (b166 : Bool), v165 = (.bool b166) ∧ (
  sel b166 (
  Kr false w164) (
  j2 xt2 xt3 at5 pt9 at10 xt11 xt16 xt17 w164 (fun (b167 : Bool) (w168 : World) => ∀ _ : Fr,
  Kr b167 w168)))))))) (
  j2 xt2 xt3 at5 pt9 at10 xt11 xt16 xt17 w (fun (b169 : Bool) (w170 : World) => ∀ _ : Fr,
  Kr b169 w170))) (
  j2 xt2 xt3 at5 pt9 at10 xt11 xt16 xt17 w (fun (b171 : Bool) (w172 : World) => ∀ _ : Fr,
  Kr b171 w172)))
def wp (Aa0 : Option Addr) (na0 : Nat) (ca0 : Nat) (xa1_0 : Int) (xa1_1 : Int) (xa1_2 : Int) (xa1_3 : Int) (xa2 : Int) (xa3 : Int) (w : World) (Q : Ending → World → Prop) : Prop :=
  alW w (.cells #[.int .i64 xa1_0, .int .i64 xa1_1, .int .i64 xa1_2, .int .i64 xa1_3] 33) fun B1 w2 =>
  Calls Try.prog 15 #[.slice Aa0 na0 ca0] w2 fun e3 w4 => ∃ (p5 : Option Addr), e3 = .returned (.pointer p5) ∧ (
  sel p5.isNone (
  Q (.returned (.bool false)) w4) (
  Calls Try.prog 9 #[] w4 fun e6 w7 => ∃ (b8 : Bool), e6 = .returned (.bool b8) ∧ (
  sel (!b8) (
  Q (.returned (.bool false)) w7) (
  Calls Try.prog 16 #[.pointer p5, .int .i64 xa2, .int .i64 xa3] w7 fun e9 w10 => ∃ (x11_0_0 : Int) (x11_0_1 : Int) (x11_0_2 : Int) (x11_0_3 : Int) (r11_0_4 : Nat) (i11_0_4 : Nat) (x11_1 : Int), e9 = .returned (.tuple #[.agg #[.int .i64 x11_0_0, .int .i64 x11_0_1, .int .i64 x11_0_2, .int .i64 x11_0_3, .complex .f64 r11_0_4 i11_0_4], .int .i64 x11_1]) ∧ (
  alW w10 (.cells #[.int .i64 (0 : Int), .int .i64 (0 : Int), .int .i64 (0 : Int), .int .i64 (0 : Int), .complex .f64 0 0] 48) fun B12 w13 =>
  stW w13 (⟨B12, 0, Option.none⟩ : Addr) (.int .i64 x11_0_0) fun w14 =>
  stW w14 ((⟨B12, 0, Option.none⟩ : Addr).add 1) (.int .i64 x11_0_1) fun w15 =>
  stW w15 ((⟨B12, 0, Option.none⟩ : Addr).add 2) (.int .i64 x11_0_2) fun w16 =>
  stW w16 ((⟨B12, 0, Option.none⟩ : Addr).add 3) (.int .i64 x11_0_3) fun w17 =>
  stW w17 ((⟨B12, 0, Option.none⟩ : Addr).add 4) (.complex .f64 r11_0_4 i11_0_4) fun w18 =>
  ldI w18 ((⟨B1, 0, Option.none⟩ : Addr).add 1) .i64 fun x19 =>
  Calls Try.prog 16 #[.pointer p5, .int .i64 xa2, .int .i64 x19] w18 fun e20 w21 => ∃ (x22_0_0 : Int) (x22_0_1 : Int) (x22_0_2 : Int) (x22_0_3 : Int) (r22_0_4 : Nat) (i22_0_4 : Nat) (x22_1 : Int), e20 = .returned (.tuple #[.agg #[.int .i64 x22_0_0, .int .i64 x22_0_1, .int .i64 x22_0_2, .int .i64 x22_0_3, .complex .f64 r22_0_4 i22_0_4], .int .i64 x22_1]) ∧ (
  alW w21 (.cells #[.int .i64 (0 : Int), .int .i64 (0 : Int), .int .i64 (0 : Int), .int .i64 (0 : Int), .complex .f64 0 0] 48) fun B23 w24 =>
  stW w24 (⟨B23, 0, Option.none⟩ : Addr) (.int .i64 x22_0_0) fun w25 =>
  stW w25 ((⟨B23, 0, Option.none⟩ : Addr).add 1) (.int .i64 x22_0_1) fun w26 =>
  stW w26 ((⟨B23, 0, Option.none⟩ : Addr).add 2) (.int .i64 x22_0_2) fun w27 =>
  stW w27 ((⟨B23, 0, Option.none⟩ : Addr).add 3) (.int .i64 x22_0_3) fun w28 =>
  stW w28 ((⟨B23, 0, Option.none⟩ : Addr).add 4) (.complex .f64 r22_0_4 i22_0_4) fun w29 =>
  ldI w29 ((⟨B1, 0, Option.none⟩ : Addr).add 2) .i64 fun x30 =>
  Calls Try.prog 16 #[.pointer p5, .int .i64 x30, .int .i64 xa3] w29 fun e31 w32 => ∃ (x33_0_0 : Int) (x33_0_1 : Int) (x33_0_2 : Int) (x33_0_3 : Int) (r33_0_4 : Nat) (i33_0_4 : Nat) (x33_1 : Int), e31 = .returned (.tuple #[.agg #[.int .i64 x33_0_0, .int .i64 x33_0_1, .int .i64 x33_0_2, .int .i64 x33_0_3, .complex .f64 r33_0_4 i33_0_4], .int .i64 x33_1]) ∧ (
  alW w32 (.cells #[.int .i64 (0 : Int), .int .i64 (0 : Int), .int .i64 (0 : Int), .int .i64 (0 : Int), .complex .f64 0 0] 48) fun B34 w35 =>
  stW w35 (⟨B34, 0, Option.none⟩ : Addr) (.int .i64 x33_0_0) fun w36 =>
  stW w36 ((⟨B34, 0, Option.none⟩ : Addr).add 1) (.int .i64 x33_0_1) fun w37 =>
  stW w37 ((⟨B34, 0, Option.none⟩ : Addr).add 2) (.int .i64 x33_0_2) fun w38 =>
  stW w38 ((⟨B34, 0, Option.none⟩ : Addr).add 3) (.int .i64 x33_0_3) fun w39 =>
  stW w39 ((⟨B34, 0, Option.none⟩ : Addr).add 4) (.complex .f64 r33_0_4 i33_0_4) fun w40 =>
  Calls Try.prog 11 #[.pointer p5] w40 fun e41 w42 => ∃ (x43_0 : Int) (x43_1 : Int), e41 = .returned (.tuple #[.int .i64 x43_0, .int .i64 x43_1]) ∧ (
  ldI w42 (⟨B1, 0, Option.none⟩ : Addr) .i64 fun x44 =>
  ldI w42 ((⟨B1, 0, Option.none⟩ : Addr).add 1) .i64 fun x45 =>
  ldI w42 ((⟨B1, 0, Option.none⟩ : Addr).add 2) .i64 fun x46 =>
  ldI w42 ((⟨B1, 0, Option.none⟩ : Addr).add 3) .i64 fun x47 =>
  Calls Try.prog 17 #[.pointer p5, .agg #[.int .i64 x44, .int .i64 x45, .int .i64 x46, .int .i64 x47]] w42 fun e48 w49 => ∃ (x50 : Int), e48 = .returned (.int .i64 x50) ∧ (
  sel (x50 != (0 : Int)) (
  Calls Try.prog 16 #[.pointer p5, .int .i64 xa2, .int .i64 xa3] w49 fun e51 w52 => ∃ (x53_0_0 : Int) (x53_0_1 : Int) (x53_0_2 : Int) (x53_0_3 : Int) (r53_0_4 : Nat) (i53_0_4 : Nat) (x53_1 : Int), e51 = .returned (.tuple #[.agg #[.int .i64 x53_0_0, .int .i64 x53_0_1, .int .i64 x53_0_2, .int .i64 x53_0_3, .complex .f64 r53_0_4 i53_0_4], .int .i64 x53_1]) ∧ (
  alW w52 (.cells #[.int .i64 (0 : Int), .int .i64 (0 : Int), .int .i64 (0 : Int), .int .i64 (0 : Int), .complex .f64 0 0] 48) fun B54 w55 =>
  stW w55 (⟨B54, 0, Option.none⟩ : Addr) (.int .i64 x53_0_0) fun w56 =>
  stW w56 ((⟨B54, 0, Option.none⟩ : Addr).add 1) (.int .i64 x53_0_1) fun w57 =>
  stW w57 ((⟨B54, 0, Option.none⟩ : Addr).add 2) (.int .i64 x53_0_2) fun w58 =>
  stW w58 ((⟨B54, 0, Option.none⟩ : Addr).add 3) (.int .i64 x53_0_3) fun w59 =>
  stW w59 ((⟨B54, 0, Option.none⟩ : Addr).add 4) (.complex .f64 r53_0_4 i53_0_4) fun w60 =>
  j0 (⟨B12, 0, Option.none⟩ : Addr) x11_1 (⟨B54, 0, Option.none⟩ : Addr) x53_1 w60 (fun (b74 : Bool) (w75 : World) => ∀ _ : Fr,
  Q (.returned (.bool b74)) w75))) (
  Calls Try.prog 16 #[.pointer p5, .int .i64 xa2, .int .i64 xa3] w49 fun e76 w77 => ∃ (x78_0_0 : Int) (x78_0_1 : Int) (x78_0_2 : Int) (x78_0_3 : Int) (r78_0_4 : Nat) (i78_0_4 : Nat) (x78_1 : Int), e76 = .returned (.tuple #[.agg #[.int .i64 x78_0_0, .int .i64 x78_0_1, .int .i64 x78_0_2, .int .i64 x78_0_3, .complex .f64 r78_0_4 i78_0_4], .int .i64 x78_1]) ∧ (
  alW w77 (.cells #[.int .i64 (0 : Int), .int .i64 (0 : Int), .int .i64 (0 : Int), .int .i64 (0 : Int), .complex .f64 0 0] 48) fun B79 w80 =>
  stW w80 (⟨B79, 0, Option.none⟩ : Addr) (.int .i64 x78_0_0) fun w81 =>
  stW w81 ((⟨B79, 0, Option.none⟩ : Addr).add 1) (.int .i64 x78_0_1) fun w82 =>
  stW w82 ((⟨B79, 0, Option.none⟩ : Addr).add 2) (.int .i64 x78_0_2) fun w83 =>
  stW w83 ((⟨B79, 0, Option.none⟩ : Addr).add 3) (.int .i64 x78_0_3) fun w84 =>
  stW w84 ((⟨B79, 0, Option.none⟩ : Addr).add 4) (.complex .f64 r78_0_4 i78_0_4) fun w85 =>
  j1 xa2 xa3 (⟨B1, 0, Option.none⟩ : Addr) p5 (⟨B12, 0, Option.none⟩ : Addr) x11_1 (⟨B23, 0, Option.none⟩ : Addr) x22_1 (⟨B34, 0, Option.none⟩ : Addr) x33_1 x43_0 x43_1 (⟨B79, 0, Option.none⟩ : Addr) x78_1 w85 (fun (b173 : Bool) (w174 : World) => ∀ _ : Fr,
  Q (.returned (.bool b173)) w174))))))))))))
def D : Nat → Option DH := dtab []
def j0LO : LO := ⟨[], [8], [], []⟩
def j0T : Spec := fun Q σ w =>
  gAd (σ 10) fun at10 =>
  gInt .i64 (σ 11) fun xt11 =>
  gAd (σ 18) fun at18 =>
  gInt .i64 (σ 19) fun xt19 =>
  j0 at10 xt11 at18 xt19 w (fun (bq8 : Bool) (w : World) => ∀ d : Fr, Q .ret (ov d [(8, .bool bq8)]) w)
def j0tb : List (List Nat × Spec) := []
noncomputable def j0b : Code := (subC [1, 0, 1, 0, 1, 1, 1, 1, 1, 1, 1] body).getD .skip
theorem j0_eq (at10 : Addr) (xt11 : Int) (at18 : Addr) (xt19 : Int) (Q : PQ) (σ : Fr) (w : World) :
    j0 at10 xt11 at18 xt19 w (fun (bq8 : Bool) (w : World) => ∀ d : Fr, Q .ret (ov d [(8, .bool bq8)]) w) = codeW Try.prog hT 157 D (tab j0tb) [1, 0, 1, 0, 1, 1, 1, 1, 1, 1, 1] j0b (widen j0LO Q) (ov σ [(10, .pointer (some at10)), (11, .int .i64 xt11), (18, .pointer (some at18)), (19, .int .i64 xt19)]) w := by kernel_rfl
theorem j0_snd : ∀ c, subC [1, 0, 1, 0, 1, 1, 1, 1, 1, 1, 1] body = some c → Snd Try.prog 157 c j0T := by
  refine cut_of (hT := hT) (D := D) (l := j0tb) (b := j0b) (lo := j0LO) (by kernel_rfl) (by
    intro x hx
    simp only [j0tb, List.not_mem_nil] at hx
    ) (by kernel_rfl) (by kernel_rfl) ?_
  intro Q σ w h
  unfold j0T at h
  obtain ⟨at10, h10, hn⟩ := gAd_elim h
  clear h
  have h := hn
  clear hn
  obtain ⟨xt11, h11, hn⟩ := gInt_elim h
  clear h
  have h := hn
  clear hn
  obtain ⟨at18, h18, hn⟩ := gAd_elim h
  clear h
  have h := hn
  clear hn
  obtain ⟨xt19, h19, hn⟩ := gInt_elim h
  clear h
  have h := hn
  clear hn
  rw [j0_eq (σ := σ)] at h
  have e : (ov σ [(10, .pointer (some at10)), (11, .int .i64 xt11), (18, .pointer (some at18)), (19, .int .i64 xt19)]) = σ := ov_self (by simp [h10, h11, h18, h19])
  rw [e] at h
  exact h
def j2LO : LO := ⟨[], [8], [], []⟩
def j2T : Spec := fun Q σ w =>
  gInt .i64 (σ 2) fun xt2 =>
  gInt .i64 (σ 3) fun xt3 =>
  gAd (σ 5) fun at5 =>
  gPtr (σ 9) fun pt9 =>
  gAd (σ 10) fun at10 =>
  gInt .i64 (σ 11) fun xt11 =>
  gInt .i64 (σ 16) fun xt16 =>
  gInt .i64 (σ 17) fun xt17 =>
  j2 xt2 xt3 at5 pt9 at10 xt11 xt16 xt17 w (fun (bq8 : Bool) (w : World) => ∀ d : Fr, Q .ret (ov d [(8, .bool bq8)]) w)
def j2tb : List (List Nat × Spec) := []
noncomputable def j2b : Code := (subC [1, 1, 1, 1, 1, 1, 1, 1, 1, 1, 1] body).getD .skip
theorem j2_eq (xt2 : Int) (xt3 : Int) (at5 : Addr) (pt9 : Option Addr) (at10 : Addr) (xt11 : Int) (xt16 : Int) (xt17 : Int) (Q : PQ) (σ : Fr) (w : World) :
    j2 xt2 xt3 at5 pt9 at10 xt11 xt16 xt17 w (fun (bq8 : Bool) (w : World) => ∀ d : Fr, Q .ret (ov d [(8, .bool bq8)]) w) = codeW Try.prog hT 157 D (tab j2tb) [1, 1, 1, 1, 1, 1, 1, 1, 1, 1, 1] j2b (widen j2LO Q) (ov σ [(2, .int .i64 xt2), (3, .int .i64 xt3), (5, .pointer (some at5)), (9, .pointer pt9), (10, .pointer (some at10)), (11, .int .i64 xt11), (16, .int .i64 xt16), (17, .int .i64 xt17)]) w := by kernel_rfl
theorem j2_snd : ∀ c, subC [1, 1, 1, 1, 1, 1, 1, 1, 1, 1, 1] body = some c → Snd Try.prog 157 c j2T := by
  refine cut_of (hT := hT) (D := D) (l := j2tb) (b := j2b) (lo := j2LO) (by kernel_rfl) (by
    intro x hx
    simp only [j2tb, List.not_mem_nil] at hx
    ) (by kernel_rfl) (by kernel_rfl) ?_
  intro Q σ w h
  unfold j2T at h
  obtain ⟨xt2, h2, hn⟩ := gInt_elim h
  clear h
  have h := hn
  clear hn
  obtain ⟨xt3, h3, hn⟩ := gInt_elim h
  clear h
  have h := hn
  clear hn
  obtain ⟨at5, h5, hn⟩ := gAd_elim h
  clear h
  have h := hn
  clear hn
  obtain ⟨pt9, h9, hn⟩ := gPtr_elim h
  clear h
  have h := hn
  clear hn
  obtain ⟨at10, h10, hn⟩ := gAd_elim h
  clear h
  have h := hn
  clear hn
  obtain ⟨xt11, h11, hn⟩ := gInt_elim h
  clear h
  have h := hn
  clear hn
  obtain ⟨xt16, h16, hn⟩ := gInt_elim h
  clear h
  have h := hn
  clear hn
  obtain ⟨xt17, h17, hn⟩ := gInt_elim h
  clear h
  have h := hn
  clear hn
  rw [j2_eq (σ := σ)] at h
  have e : (ov σ [(2, .int .i64 xt2), (3, .int .i64 xt3), (5, .pointer (some at5)), (9, .pointer pt9), (10, .pointer (some at10)), (11, .int .i64 xt11), (16, .int .i64 xt16), (17, .int .i64 xt17)]) = σ := ov_self (by simp [h2, h3, h5, h9, h10, h11, h16, h17])
  rw [e] at h
  exact h
def j1LO : LO := ⟨[], [8], [], []⟩
def j1T : Spec := fun Q σ w =>
  gInt .i64 (σ 2) fun xt2 =>
  gInt .i64 (σ 3) fun xt3 =>
  gAd (σ 5) fun at5 =>
  gPtr (σ 9) fun pt9 =>
  gAd (σ 10) fun at10 =>
  gInt .i64 (σ 11) fun xt11 =>
  gAd (σ 12) fun at12 =>
  gInt .i64 (σ 13) fun xt13 =>
  gAd (σ 14) fun at14 =>
  gInt .i64 (σ 15) fun xt15 =>
  gInt .i64 (σ 16) fun xt16 =>
  gInt .i64 (σ 17) fun xt17 =>
  gAd (σ 20) fun at20 =>
  gInt .i64 (σ 21) fun xt21 =>
  j1 xt2 xt3 at5 pt9 at10 xt11 at12 xt13 at14 xt15 xt16 xt17 at20 xt21 w (fun (bq8 : Bool) (w : World) => ∀ d : Fr, Q .ret (ov d [(8, .bool bq8)]) w)
def j1tb : List (List Nat × Spec) := [([1, 1, 1, 1, 1, 1, 1, 1, 1, 1, 1], j2T)]
noncomputable def j1b : Code := (subC [1, 1, 1, 1, 1, 1, 1, 1, 1] body).getD .skip
theorem j1_eq (xt2 : Int) (xt3 : Int) (at5 : Addr) (pt9 : Option Addr) (at10 : Addr) (xt11 : Int) (at12 : Addr) (xt13 : Int) (at14 : Addr) (xt15 : Int) (xt16 : Int) (xt17 : Int) (at20 : Addr) (xt21 : Int) (Q : PQ) (σ : Fr) (w : World) :
    j1 xt2 xt3 at5 pt9 at10 xt11 at12 xt13 at14 xt15 xt16 xt17 at20 xt21 w (fun (bq8 : Bool) (w : World) => ∀ d : Fr, Q .ret (ov d [(8, .bool bq8)]) w) = codeW Try.prog hT 157 D (tab j1tb) [1, 1, 1, 1, 1, 1, 1, 1, 1] j1b (widen j1LO Q) (ov σ [(2, .int .i64 xt2), (3, .int .i64 xt3), (5, .pointer (some at5)), (9, .pointer pt9), (10, .pointer (some at10)), (11, .int .i64 xt11), (12, .pointer (some at12)), (13, .int .i64 xt13), (14, .pointer (some at14)), (15, .int .i64 xt15), (16, .int .i64 xt16), (17, .int .i64 xt17), (20, .pointer (some at20)), (21, .int .i64 xt21)]) w := by kernel_rfl
theorem j1_snd : ∀ c, subC [1, 1, 1, 1, 1, 1, 1, 1, 1] body = some c → Snd Try.prog 157 c j1T := by
  refine cut_of (hT := hT) (D := D) (l := j1tb) (b := j1b) (lo := j1LO) (by kernel_rfl) (by
    intro x hx
    simp only [j1tb, List.mem_cons, List.not_mem_nil, or_false] at hx
    subst hx
    exact j2_snd) (by kernel_rfl) (by kernel_rfl) ?_
  intro Q σ w h
  unfold j1T at h
  obtain ⟨xt2, h2, hn⟩ := gInt_elim h
  clear h
  have h := hn
  clear hn
  obtain ⟨xt3, h3, hn⟩ := gInt_elim h
  clear h
  have h := hn
  clear hn
  obtain ⟨at5, h5, hn⟩ := gAd_elim h
  clear h
  have h := hn
  clear hn
  obtain ⟨pt9, h9, hn⟩ := gPtr_elim h
  clear h
  have h := hn
  clear hn
  obtain ⟨at10, h10, hn⟩ := gAd_elim h
  clear h
  have h := hn
  clear hn
  obtain ⟨xt11, h11, hn⟩ := gInt_elim h
  clear h
  have h := hn
  clear hn
  obtain ⟨at12, h12, hn⟩ := gAd_elim h
  clear h
  have h := hn
  clear hn
  obtain ⟨xt13, h13, hn⟩ := gInt_elim h
  clear h
  have h := hn
  clear hn
  obtain ⟨at14, h14, hn⟩ := gAd_elim h
  clear h
  have h := hn
  clear hn
  obtain ⟨xt15, h15, hn⟩ := gInt_elim h
  clear h
  have h := hn
  clear hn
  obtain ⟨xt16, h16, hn⟩ := gInt_elim h
  clear h
  have h := hn
  clear hn
  obtain ⟨xt17, h17, hn⟩ := gInt_elim h
  clear h
  have h := hn
  clear hn
  obtain ⟨at20, h20, hn⟩ := gAd_elim h
  clear h
  have h := hn
  clear hn
  obtain ⟨xt21, h21, hn⟩ := gInt_elim h
  clear h
  have h := hn
  clear hn
  rw [j1_eq (σ := σ)] at h
  have e : (ov σ [(2, .int .i64 xt2), (3, .int .i64 xt3), (5, .pointer (some at5)), (9, .pointer pt9), (10, .pointer (some at10)), (11, .int .i64 xt11), (12, .pointer (some at12)), (13, .int .i64 xt13), (14, .pointer (some at14)), (15, .int .i64 xt15), (16, .int .i64 xt16), (17, .int .i64 xt17), (20, .pointer (some at20)), (21, .int .i64 xt21)]) = σ := ov_self (by simp [h2, h3, h5, h9, h10, h11, h12, h13, h14, h15, h16, h17, h20, h21])
  rw [e] at h
  exact h
def tb : List (List Nat × Spec) := [([1, 0, 1, 0, 1, 1, 1, 1, 1, 1, 1], j0T), ([1, 1, 1, 1, 1, 1, 1, 1, 1, 1, 1], j2T), ([1, 1, 1, 1, 1, 1, 1, 1, 1], j1T)]
theorem wp_eq (Aa0 : Option Addr) (na0 : Nat) (ca0 : Nat) (xa1_0 : Int) (xa1_1 : Int) (xa1_2 : Int) (xa1_3 : Int) (xa2 : Int) (xa3 : Int) (w : World) (Q : Ending → World → Prop) :
    wp Aa0 na0 ca0 xa1_0 xa1_1 xa1_2 xa1_3 xa2 xa3 w Q = codeW Try.prog hT 157 D (tab tb) [] body (topQ Try.prog hT 157 [.tmp 8] Q) (argsF [.slice Aa0 na0 ca0, .agg #[.int .i64 xa1_0, .int .i64 xa1_1, .int .i64 xa1_2, .int .i64 xa1_3], .int .i64 xa2, .int .i64 xa3]) w := by kernel_rfl
theorem ok (Aa0 : Option Addr) (na0 : Nat) (ca0 : Nat) (xa1_0 : Int) (xa1_1 : Int) (xa1_2 : Int) (xa1_3 : Int) (xa2 : Int) (xa3 : Int) (w : World) (Q : Ending → World → Prop) (h : wp Aa0 na0 ca0 xa1_0 xa1_1 xa1_2 xa1_3 xa2 xa3 w Q) : Calls Try.prog 5 #[.slice Aa0 na0 ca0, .agg #[.int .i64 xa1_0, .int .i64 xa1_1, .int .i64 xa1_2, .int .i64 xa1_3], .int .i64 xa2, .int .i64 xa3] w Q := by
  rw [wp_eq] at h
  exact calls_of_codeW (c := body) (rs := [.tmp 8]) Try.func5 (by kernel_rfl) (by kernel_rfl) (by kernel_rfl) (by kernel_rfl) (by kernel_rfl) (tab_snd (by
    intro x hx
    simp only [tb, List.mem_cons, List.not_mem_nil, or_false] at hx
    rcases hx with rfl | rfl | rfl
    · exact j0_snd
    · exact j2_snd
    · exact j1_snd)) (by kernel_rfl) h
end f_law17_LinkcutBack
namespace f_law17_LinkcutOrder
/-! skein/skeinlaw17.LinkcutOrder: function 6 -/
noncomputable def body : Code := (Try.f6.body).getD .skip
def l0 : Nat → Addr → Option Addr → Nat → Nat → Int → Int → World → (World → Prop) → Prop
  | 0, _, _, _, _, _, _, _, _ => False
  | k + 1, at9, At39, nt39, ct39, xt40, xt41, w, K0 =>
    sel (decide (xt41 < xt40)) (
    optB At39 fun a16 =>
    req (decide (0 ≤ xt41 ∧ xt41 < (nt39 : Int))) <|
    ldI w (a16.add (xt41.toNat * 5)) .i64 fun x17 =>
    ldI w ((a16.add (xt41.toNat * 5)).add 1) .i64 fun x18 =>
    ldI w ((a16.add (xt41.toNat * 5)).add 2) .i64 fun x19 =>
    ldI w ((a16.add (xt41.toNat * 5)).add 3) .i64 fun x20 =>
    ldI w ((a16.add (xt41.toNat * 5)).add 4) .i64 fun x21 =>
    alW w (.cells #[.int .i64 (0 : Int), .int .i64 (0 : Int), .int .i64 (0 : Int), .int .i64 (0 : Int), .int .i64 (0 : Int)] 35) fun B22 w23 =>
    stW w23 (⟨B22, 0, Option.none⟩ : Addr) (.int .i64 x17) fun w24 =>
    stW w24 ((⟨B22, 0, Option.none⟩ : Addr).add 1) (.int .i64 x18) fun w25 =>
    stW w25 ((⟨B22, 0, Option.none⟩ : Addr).add 2) (.int .i64 x19) fun w26 =>
    stW w26 ((⟨B22, 0, Option.none⟩ : Addr).add 3) (.int .i64 x20) fun w27 =>
    stW w27 ((⟨B22, 0, Option.none⟩ : Addr).add 4) (.int .i64 x21) fun w28 =>
    ldS w28 at9 fun A29 n29 c29 =>
    ldS w28 (at9.add 1) fun A30 n30 c30 =>
    ldS w28 (at9.add 2) fun A31 n31 c31 =>
    ldS w28 (at9.add 3) fun A32 n32 c32 =>
    alW w28 (.cells #[.slice none 0 0, .slice none 0 0, .slice none 0 0, .slice none 0 0] 31) fun B33 w34 =>
    stW w34 (⟨B33, 0, Option.none⟩ : Addr) (.slice A29 n29 c29) fun w35 =>
    stW w35 ((⟨B33, 0, Option.none⟩ : Addr).add 1) (.slice A30 n30 c30) fun w36 =>
    stW w36 ((⟨B33, 0, Option.none⟩ : Addr).add 2) (.slice A31 n31 c31) fun w37 =>
    stW w37 ((⟨B33, 0, Option.none⟩ : Addr).add 3) (.slice A32 n32 c32) fun w38 =>
    ldI w38 (⟨B22, 0, Option.none⟩ : Addr) .i64 fun x39 =>
    sel (x39 == (1 : Int)) (
    ldS w38 at9 fun A40 n40 c40 =>
    ldS w38 (at9.add 1) fun A41 n41 c41 =>
    ldS w38 (at9.add 2) fun A42 n42 c42 =>
    ldS w38 (at9.add 3) fun A43 n43 c43 =>
    ldI w38 (((⟨B22, 0, Option.none⟩ : Addr).add 1).add 1) .i64 fun x44 =>
    Calls Try.prog 19 #[.agg #[.slice A40 n40 c40, .slice A41 n41 c41, .slice A42 n42 c42, .slice A43 n43 c43], .int .i64 x44] w38 fun e45 w46 => ∃ (A47_0_0 : Option Addr) (n47_0_0 : Nat) (c47_0_0 : Nat) (A47_0_1 : Option Addr) (n47_0_1 : Nat) (c47_0_1 : Nat) (A47_0_2 : Option Addr) (n47_0_2 : Nat) (c47_0_2 : Nat) (A47_0_3 : Option Addr) (n47_0_3 : Nat) (c47_0_3 : Nat) (x47_1 : Int), e45 = .returned (.tuple #[.agg #[.slice A47_0_0 n47_0_0 c47_0_0, .slice A47_0_1 n47_0_1 c47_0_1, .slice A47_0_2 n47_0_2 c47_0_2, .slice A47_0_3 n47_0_3 c47_0_3], .int .i64 x47_1]) ∧ (
    stW w46 (⟨B33, 0, Option.none⟩ : Addr) (.slice A47_0_0 n47_0_0 c47_0_0) fun w48 =>
    stW w48 ((⟨B33, 0, Option.none⟩ : Addr).add 1) (.slice A47_0_1 n47_0_1 c47_0_1) fun w49 =>
    stW w49 ((⟨B33, 0, Option.none⟩ : Addr).add 2) (.slice A47_0_2 n47_0_2 c47_0_2) fun w50 =>
    stW w50 ((⟨B33, 0, Option.none⟩ : Addr).add 3) (.slice A47_0_3 n47_0_3 c47_0_3) fun w51 =>
    ldS w51 (⟨B33, 0, Option.none⟩ : Addr) fun A52 n52 c52 =>
    ldS w51 ((⟨B33, 0, Option.none⟩ : Addr).add 1) fun A53 n53 c53 =>
    ldS w51 ((⟨B33, 0, Option.none⟩ : Addr).add 2) fun A54 n54 c54 =>
    ldS w51 ((⟨B33, 0, Option.none⟩ : Addr).add 3) fun A55 n55 c55 =>
    stW w51 at9 (.slice A52 n52 c52) fun w56 =>
    stW w56 (at9.add 1) (.slice A53 n53 c53) fun w57 =>
    stW w57 (at9.add 2) (.slice A54 n54 c54) fun w58 =>
    stW w58 (at9.add 3) (.slice A55 n55 c55) fun w59 =>
    l0 k at9 At39 nt39 ct39 xt40 (IntKind.i64.wrap (xt41 + (1 : Int))) w59 K0)) (
    sel (x39 == (2 : Int)) (
    ldS w38 at9 fun A60 n60 c60 =>
    ldS w38 (at9.add 1) fun A61 n61 c61 =>
    ldS w38 (at9.add 2) fun A62 n62 c62 =>
    ldS w38 (at9.add 3) fun A63 n63 c63 =>
    ldI w38 (((⟨B22, 0, Option.none⟩ : Addr).add 1).add 1) .i64 fun x64 =>
    Calls Try.prog 20 #[.agg #[.slice A60 n60 c60, .slice A61 n61 c61, .slice A62 n62 c62, .slice A63 n63 c63], .int .i64 x64] w38 fun e65 w66 => ∃ (A67_0_0 : Option Addr) (n67_0_0 : Nat) (c67_0_0 : Nat) (A67_0_1 : Option Addr) (n67_0_1 : Nat) (c67_0_1 : Nat) (A67_0_2 : Option Addr) (n67_0_2 : Nat) (c67_0_2 : Nat) (A67_0_3 : Option Addr) (n67_0_3 : Nat) (c67_0_3 : Nat) (x67_1 : Int), e65 = .returned (.tuple #[.agg #[.slice A67_0_0 n67_0_0 c67_0_0, .slice A67_0_1 n67_0_1 c67_0_1, .slice A67_0_2 n67_0_2 c67_0_2, .slice A67_0_3 n67_0_3 c67_0_3], .int .i64 x67_1]) ∧ (
    stW w66 (⟨B33, 0, Option.none⟩ : Addr) (.slice A67_0_0 n67_0_0 c67_0_0) fun w68 =>
    stW w68 ((⟨B33, 0, Option.none⟩ : Addr).add 1) (.slice A67_0_1 n67_0_1 c67_0_1) fun w69 =>
    stW w69 ((⟨B33, 0, Option.none⟩ : Addr).add 2) (.slice A67_0_2 n67_0_2 c67_0_2) fun w70 =>
    stW w70 ((⟨B33, 0, Option.none⟩ : Addr).add 3) (.slice A67_0_3 n67_0_3 c67_0_3) fun w71 =>
    ldS w71 (⟨B33, 0, Option.none⟩ : Addr) fun A72 n72 c72 =>
    ldS w71 ((⟨B33, 0, Option.none⟩ : Addr).add 1) fun A73 n73 c73 =>
    ldS w71 ((⟨B33, 0, Option.none⟩ : Addr).add 2) fun A74 n74 c74 =>
    ldS w71 ((⟨B33, 0, Option.none⟩ : Addr).add 3) fun A75 n75 c75 =>
    stW w71 at9 (.slice A72 n72 c72) fun w76 =>
    stW w76 (at9.add 1) (.slice A73 n73 c73) fun w77 =>
    stW w77 (at9.add 2) (.slice A74 n74 c74) fun w78 =>
    stW w78 (at9.add 3) (.slice A75 n75 c75) fun w79 =>
    l0 k at9 At39 nt39 ct39 xt40 (IntKind.i64.wrap (xt41 + (1 : Int))) w79 K0)) (
    sel (x39 == (3 : Int)) (
    ldS w38 at9 fun A80 n80 c80 =>
    ldS w38 (at9.add 1) fun A81 n81 c81 =>
    ldS w38 (at9.add 2) fun A82 n82 c82 =>
    ldS w38 (at9.add 3) fun A83 n83 c83 =>
    ldI w38 ((⟨B22, 0, Option.none⟩ : Addr).add 1) .i64 fun x84 =>
    ldI w38 (((⟨B22, 0, Option.none⟩ : Addr).add 1).add 1) .i64 fun x85 =>
    ldI w38 (((⟨B22, 0, Option.none⟩ : Addr).add 1).add 2) .i64 fun x86 =>
    ldI w38 (((⟨B22, 0, Option.none⟩ : Addr).add 1).add 3) .i64 fun x87 =>
    Calls Try.prog 21 #[.agg #[.slice A80 n80 c80, .slice A81 n81 c81, .slice A82 n82 c82, .slice A83 n83 c83], .agg #[.int .i64 x84, .int .i64 x85, .int .i64 x86, .int .i64 x87]] w38 fun e88 w89 => ∃ (A90_0_0 : Option Addr) (n90_0_0 : Nat) (c90_0_0 : Nat) (A90_0_1 : Option Addr) (n90_0_1 : Nat) (c90_0_1 : Nat) (A90_0_2 : Option Addr) (n90_0_2 : Nat) (c90_0_2 : Nat) (A90_0_3 : Option Addr) (n90_0_3 : Nat) (c90_0_3 : Nat) (x90_1 : Int), e88 = .returned (.tuple #[.agg #[.slice A90_0_0 n90_0_0 c90_0_0, .slice A90_0_1 n90_0_1 c90_0_1, .slice A90_0_2 n90_0_2 c90_0_2, .slice A90_0_3 n90_0_3 c90_0_3], .int .i64 x90_1]) ∧ (
    stW w89 (⟨B33, 0, Option.none⟩ : Addr) (.slice A90_0_0 n90_0_0 c90_0_0) fun w91 =>
    stW w91 ((⟨B33, 0, Option.none⟩ : Addr).add 1) (.slice A90_0_1 n90_0_1 c90_0_1) fun w92 =>
    stW w92 ((⟨B33, 0, Option.none⟩ : Addr).add 2) (.slice A90_0_2 n90_0_2 c90_0_2) fun w93 =>
    stW w93 ((⟨B33, 0, Option.none⟩ : Addr).add 3) (.slice A90_0_3 n90_0_3 c90_0_3) fun w94 =>
    ldS w94 (⟨B33, 0, Option.none⟩ : Addr) fun A95 n95 c95 =>
    ldS w94 ((⟨B33, 0, Option.none⟩ : Addr).add 1) fun A96 n96 c96 =>
    ldS w94 ((⟨B33, 0, Option.none⟩ : Addr).add 2) fun A97 n97 c97 =>
    ldS w94 ((⟨B33, 0, Option.none⟩ : Addr).add 3) fun A98 n98 c98 =>
    stW w94 at9 (.slice A95 n95 c95) fun w99 =>
    stW w99 (at9.add 1) (.slice A96 n96 c96) fun w100 =>
    stW w100 (at9.add 2) (.slice A97 n97 c97) fun w101 =>
    stW w101 (at9.add 3) (.slice A98 n98 c98) fun w102 =>
    l0 k at9 At39 nt39 ct39 xt40 (IntKind.i64.wrap (xt41 + (1 : Int))) w102 K0)) (
    sel (x39 == (4 : Int)) (
    ldS w38 at9 fun A103 n103 c103 =>
    ldS w38 (at9.add 1) fun A104 n104 c104 =>
    ldS w38 (at9.add 2) fun A105 n105 c105 =>
    ldS w38 (at9.add 3) fun A106 n106 c106 =>
    ldI w38 ((⟨B22, 0, Option.none⟩ : Addr).add 1) .i64 fun x107 =>
    Calls Try.prog 22 #[.agg #[.slice A103 n103 c103, .slice A104 n104 c104, .slice A105 n105 c105, .slice A106 n106 c106], .int .i64 x107] w38 fun e108 w109 => ∃ (A110_0_0 : Option Addr) (n110_0_0 : Nat) (c110_0_0 : Nat) (A110_0_1 : Option Addr) (n110_0_1 : Nat) (c110_0_1 : Nat) (A110_0_2 : Option Addr) (n110_0_2 : Nat) (c110_0_2 : Nat) (A110_0_3 : Option Addr) (n110_0_3 : Nat) (c110_0_3 : Nat) (x110_1 : Int), e108 = .returned (.tuple #[.agg #[.slice A110_0_0 n110_0_0 c110_0_0, .slice A110_0_1 n110_0_1 c110_0_1, .slice A110_0_2 n110_0_2 c110_0_2, .slice A110_0_3 n110_0_3 c110_0_3], .int .i64 x110_1]) ∧ (
    stW w109 (⟨B33, 0, Option.none⟩ : Addr) (.slice A110_0_0 n110_0_0 c110_0_0) fun w111 =>
    stW w111 ((⟨B33, 0, Option.none⟩ : Addr).add 1) (.slice A110_0_1 n110_0_1 c110_0_1) fun w112 =>
    stW w112 ((⟨B33, 0, Option.none⟩ : Addr).add 2) (.slice A110_0_2 n110_0_2 c110_0_2) fun w113 =>
    stW w113 ((⟨B33, 0, Option.none⟩ : Addr).add 3) (.slice A110_0_3 n110_0_3 c110_0_3) fun w114 =>
    ldS w114 (⟨B33, 0, Option.none⟩ : Addr) fun A115 n115 c115 =>
    ldS w114 ((⟨B33, 0, Option.none⟩ : Addr).add 1) fun A116 n116 c116 =>
    ldS w114 ((⟨B33, 0, Option.none⟩ : Addr).add 2) fun A117 n117 c117 =>
    ldS w114 ((⟨B33, 0, Option.none⟩ : Addr).add 3) fun A118 n118 c118 =>
    stW w114 at9 (.slice A115 n115 c115) fun w119 =>
    stW w119 (at9.add 1) (.slice A116 n116 c116) fun w120 =>
    stW w120 (at9.add 2) (.slice A117 n117 c117) fun w121 =>
    stW w121 (at9.add 3) (.slice A118 n118 c118) fun w122 =>
    l0 k at9 At39 nt39 ct39 xt40 (IntKind.i64.wrap (xt41 + (1 : Int))) w122 K0)) (
    ldS w38 (⟨B33, 0, Option.none⟩ : Addr) fun A123 n123 c123 =>
    ldS w38 ((⟨B33, 0, Option.none⟩ : Addr).add 1) fun A124 n124 c124 =>
    ldS w38 ((⟨B33, 0, Option.none⟩ : Addr).add 2) fun A125 n125 c125 =>
    ldS w38 ((⟨B33, 0, Option.none⟩ : Addr).add 3) fun A126 n126 c126 =>
    stW w38 at9 (.slice A123 n123 c123) fun w127 =>
    stW w127 (at9.add 1) (.slice A124 n124 c124) fun w128 =>
    stW w128 (at9.add 2) (.slice A125 n125 c125) fun w129 =>
    stW w129 (at9.add 3) (.slice A126 n126 c126) fun w130 =>
    l0 k at9 At39 nt39 ct39 xt40 (IntKind.i64.wrap (xt41 + (1 : Int))) w130 K0))))) (
    K0  w)
def l1 : Nat → Option Addr → Addr → Int → World → (World → Prop) → (Bool → World → Prop) → Prop
  | 0, _, _, _, _, _, _ => False
  | k + 1, pt8, at9, xt13, w, K3, Kr =>
    sel (decide (xt13 ≥ (0 : Int))) (
    ldS w at9 fun A133 n133 c133 =>
    optB A133 fun a134 =>
    req (decide (0 ≤ xt13 ∧ xt13 < (n133 : Int))) <|
    ldI w (a134.add (xt13.toNat * 1)) .i64 fun x135 =>
    Calls Try.prog 23 #[.pointer pt8, .int .i64 x135] w fun e136 w137 => ∃ (x138 : Int), e136 = .returned (.int .i64 x138) ∧ (
    sel (x138 != (0 : Int)) (
    Kr false w137) (
    l1 k pt8 at9 (IntKind.i64.wrap (xt13 - (1 : Int))) w137 K3 Kr))) (
    K3  w)
def l2 : Nat → Int → Option Addr → Addr → Int → World → (World → Prop) → (Bool → World → Prop) → Prop
  | 0, _, _, _, _, _, _, _ => False
  | k + 1, xt1, pt8, at9, xt14, w, K5, Kr =>
    sel (decide (xt14 ≥ (0 : Int))) (
    ldS w (at9.add 1) fun A141 n141 c141 =>
    optB A141 fun a142 =>
    req (decide (0 ≤ xt14 ∧ xt14 < (n141 : Int))) <|
    ldI w (a142.add (xt14.toNat * 4)) .i64 fun x143 =>
    ldI w ((a142.add (xt14.toNat * 4)).add 1) .i64 fun x144 =>
    ldI w ((a142.add (xt14.toNat * 4)).add 2) .i64 fun x145 =>
    ldI w ((a142.add (xt14.toNat * 4)).add 3) .i64 fun x146 =>
    alW w (.cells #[.int .i64 (0 : Int), .int .i64 (0 : Int), .int .i64 (0 : Int), .int .i64 (0 : Int)] 33) fun B147 w148 =>
    stW w148 (⟨B147, 0, Option.none⟩ : Addr) (.int .i64 x143) fun w149 =>
    stW w149 ((⟨B147, 0, Option.none⟩ : Addr).add 1) (.int .i64 x144) fun w150 =>
    stW w150 ((⟨B147, 0, Option.none⟩ : Addr).add 2) (.int .i64 x145) fun w151 =>
    stW w151 ((⟨B147, 0, Option.none⟩ : Addr).add 3) (.int .i64 x146) fun w152 =>
    ldI w152 (⟨B147, 0, Option.none⟩ : Addr) .i64 fun x153 =>
    ldI w152 ((⟨B147, 0, Option.none⟩ : Addr).add 2) .i64 fun x154 =>
    ldI w152 ((⟨B147, 0, Option.none⟩ : Addr).add 1) .i64 fun x155 =>
    ldI w152 ((⟨B147, 0, Option.none⟩ : Addr).add 3) .i64 fun x156 =>
    alW w152 (.cells #[.int .i64 (0 : Int), .int .i64 (0 : Int), .int .i64 (0 : Int), .int .i64 (0 : Int)] 33) fun B157 w158 =>
    stW w158 (⟨B157, 0, Option.none⟩ : Addr) (.int .i64 x153) fun w159 =>
    stW w159 ((⟨B157, 0, Option.none⟩ : Addr).add 1) (.int .i64 x154) fun w160 =>
    stW w160 ((⟨B157, 0, Option.none⟩ : Addr).add 2) (.int .i64 x155) fun w161 =>
    stW w161 ((⟨B157, 0, Option.none⟩ : Addr).add 3) (.int .i64 x156) fun w162 =>
    ldI w162 (⟨B157, 0, Option.none⟩ : Addr) .i64 fun x163 =>
    ldI w162 ((⟨B157, 0, Option.none⟩ : Addr).add 1) .i64 fun x164 =>
    ldI w162 ((⟨B157, 0, Option.none⟩ : Addr).add 2) .i64 fun x165 =>
    ldI w162 ((⟨B157, 0, Option.none⟩ : Addr).add 3) .i64 fun x166 =>
    Calls Try.prog 17 #[.pointer pt8, .agg #[.int .i64 x163, .int .i64 x164, .int .i64 x165, .int .i64 x166]] w162 fun e167 w168 => ∃ (x169 : Int), e167 = .returned (.int .i64 x169) ∧ (
    sel (x169 != (0 : Int)) (
    Kr false w168) (
    ldI w168 ((⟨B147, 0, Option.none⟩ : Addr).add 1) .i64 fun x170 =>
    Calls Try.prog 16 #[.pointer pt8, .int .i64 x170, .int .i64 xt1] w168 fun e171 w172 => ∃ (x173_0_0 : Int) (x173_0_1 : Int) (x173_0_2 : Int) (x173_0_3 : Int) (r173_0_4 : Nat) (i173_0_4 : Nat) (x173_1 : Int), e171 = .returned (.tuple #[.agg #[.int .i64 x173_0_0, .int .i64 x173_0_1, .int .i64 x173_0_2, .int .i64 x173_0_3, .complex .f64 r173_0_4 i173_0_4], .int .i64 x173_1]) ∧ (
    l2 k xt1 pt8 at9 (IntKind.i64.wrap (xt14 - (1 : Int))) w172 K5 Kr)))) (
    K5  w)
def wp (Aa0 : Option Addr) (na0 : Nat) (ca0 : Nat) (xa1 : Int) (xa2 : Int) (w : World) (Q : Ending → World → Prop) : Prop :=
  Calls Try.prog 15 #[.slice Aa0 na0 ca0] w fun e1 w2 => ∃ (p3 : Option Addr), e1 = .returned (.pointer p3) ∧ (
  Calls Try.prog 8 #[] w2 fun e4 w5 => ∃ (p6 : Option Addr), e4 = .returned (.pointer p6) ∧ (
  sel p3.isNone (
  Q (.returned (.bool false)) w5) (
  sel p6.isNone (
  Q (.returned (.bool false)) w5) (
  Calls Try.prog 9 #[] w5 fun e7 w8 => ∃ (b9 : Bool), e7 = .returned (.bool b9) ∧ (
  sel (!b9) (
  Q (.returned (.bool false)) w8) (
  alW w8 (.cells #[.slice none 0 0, .slice none 0 0, .slice none 0 0, .slice none 0 0] 31) fun B10 w11 =>
  stW w11 (⟨B10, 0, Option.none⟩ : Addr) (.slice none 0 0) fun w12 =>
  stW w12 ((⟨B10, 0, Option.none⟩ : Addr).add 1) (.slice none 0 0) fun w13 =>
  stW w13 ((⟨B10, 0, Option.none⟩ : Addr).add 2) (.slice none 0 0) fun w14 =>
  stW w14 ((⟨B10, 0, Option.none⟩ : Addr).add 3) (.slice none 0 0) fun w15 =>
  ∃ k216 : Nat, l0 k216 (⟨B10, 0, Option.none⟩ : Addr) Aa0 na0 ca0 (na0 : Int) (0 : Int) w15 (fun (w131 : World) => ∀ _ : Fr,
  ldS w131 (⟨B10, 0, Option.none⟩ : Addr) fun A132 n132 c132 =>
  ∃ k215 : Nat, l1 k215 p6 (⟨B10, 0, Option.none⟩ : Addr) (IntKind.i64.wrap ((n132 : Int) - (1 : Int))) w131 (fun (w139 : World) => ∀ _ : Fr,
  ldS w139 ((⟨B10, 0, Option.none⟩ : Addr).add 1) fun A140 n140 c140 =>
  ∃ k212 : Nat, l2 k212 xa1 p6 (⟨B10, 0, Option.none⟩ : Addr) (IntKind.i64.wrap ((n140 : Int) - (1 : Int))) w139 (fun (w174 : World) => ∀ _ : Fr,
  Calls Try.prog 16 #[.pointer p3, .int .i64 xa1, .int .i64 xa2] w174 fun e175 w176 => ∃ (x177_0_0 : Int) (x177_0_1 : Int) (x177_0_2 : Int) (x177_0_3 : Int) (r177_0_4 : Nat) (i177_0_4 : Nat) (x177_1 : Int), e175 = .returned (.tuple #[.agg #[.int .i64 x177_0_0, .int .i64 x177_0_1, .int .i64 x177_0_2, .int .i64 x177_0_3, .complex .f64 r177_0_4 i177_0_4], .int .i64 x177_1]) ∧ (
  alW w176 (.cells #[.int .i64 (0 : Int), .int .i64 (0 : Int), .int .i64 (0 : Int), .int .i64 (0 : Int), .complex .f64 0 0] 48) fun B178 w179 =>
  stW w179 (⟨B178, 0, Option.none⟩ : Addr) (.int .i64 x177_0_0) fun w180 =>
  stW w180 ((⟨B178, 0, Option.none⟩ : Addr).add 1) (.int .i64 x177_0_1) fun w181 =>
  stW w181 ((⟨B178, 0, Option.none⟩ : Addr).add 2) (.int .i64 x177_0_2) fun w182 =>
  stW w182 ((⟨B178, 0, Option.none⟩ : Addr).add 3) (.int .i64 x177_0_3) fun w183 =>
  stW w183 ((⟨B178, 0, Option.none⟩ : Addr).add 4) (.complex .f64 r177_0_4 i177_0_4) fun w184 =>
  Calls Try.prog 16 #[.pointer p6, .int .i64 xa1, .int .i64 xa2] w184 fun e185 w186 => ∃ (x187_0_0 : Int) (x187_0_1 : Int) (x187_0_2 : Int) (x187_0_3 : Int) (r187_0_4 : Nat) (i187_0_4 : Nat) (x187_1 : Int), e185 = .returned (.tuple #[.agg #[.int .i64 x187_0_0, .int .i64 x187_0_1, .int .i64 x187_0_2, .int .i64 x187_0_3, .complex .f64 r187_0_4 i187_0_4], .int .i64 x187_1]) ∧ (
  alW w186 (.cells #[.int .i64 (0 : Int), .int .i64 (0 : Int), .int .i64 (0 : Int), .int .i64 (0 : Int), .complex .f64 0 0] 48) fun B188 w189 =>
  stW w189 (⟨B188, 0, Option.none⟩ : Addr) (.int .i64 x187_0_0) fun w190 =>
  stW w190 ((⟨B188, 0, Option.none⟩ : Addr).add 1) (.int .i64 x187_0_1) fun w191 =>
  stW w191 ((⟨B188, 0, Option.none⟩ : Addr).add 2) (.int .i64 x187_0_2) fun w192 =>
  stW w192 ((⟨B188, 0, Option.none⟩ : Addr).add 3) (.int .i64 x187_0_3) fun w193 =>
  stW w193 ((⟨B188, 0, Option.none⟩ : Addr).add 4) (.complex .f64 r187_0_4 i187_0_4) fun w194 =>
  Calls Try.prog 11 #[.pointer p3] w194 fun e195 w196 => ∃ (x197_0 : Int) (x197_1 : Int), e195 = .returned (.tuple #[.int .i64 x197_0, .int .i64 x197_1]) ∧ (
  Calls Try.prog 11 #[.pointer p6] w196 fun e198 w199 => ∃ (x200_0 : Int) (x200_1 : Int), e198 = .returned (.tuple #[.int .i64 x200_0, .int .i64 x200_1]) ∧ (
  sel (x177_1 == x187_1) (
  ldC w199 ((⟨B178, 0, Option.none⟩ : Addr).add 4) .f64 fun r201 i201 =>
  ldC w199 ((⟨B188, 0, Option.none⟩ : Addr).add 4) .f64 fun r202 i202 =>
  Runs Try.prog (do eqGuard .eql 46 (.tmp 169) (.tmp 171) (.complex .f64 r201 i201) (.complex .f64 r202 i202); binOp .eql 46 (.complex .f64 r201 i201) (.complex .f64 r202 i202) : Sem Value) w199 fun v204 w203 => ∃ (b205 : Bool), v204 = (.bool b205) ∧ (
  sel b205 (
  ldI w203 (⟨B178, 0, Option.none⟩ : Addr) .i64 fun x206 =>
  ldI w203 (⟨B188, 0, Option.none⟩ : Addr) .i64 fun x207 =>
  sel (x206 == x207) (
  ldI w203 ((⟨B178, 0, Option.none⟩ : Addr).add 3) .i64 fun x208 =>
  ldI w203 ((⟨B188, 0, Option.none⟩ : Addr).add 3) .i64 fun x209 =>
  sel (x208 == x209) (
  sel (x197_0 == x200_0) (
  Q (.returned (.bool (x197_1 == x200_1))) w203) (
  Q (.returned (.bool false)) w203)) (
  Q (.returned (.bool false)) w203)) (
  Q (.returned (.bool false)) w203)) (
  Q (.returned (.bool false)) w203))) (
  Q (.returned (.bool false)) w199)))))) (fun (b210 : Bool) (w211 : World) => ∀ _ : Fr,
  Q (.returned (.bool b210)) w211)) (fun (b213 : Bool) (w214 : World) => ∀ _ : Fr,
  Q (.returned (.bool b213)) w214))))))))
def D : Nat → Option DH := dtab []
def l0LO : LO := ⟨[], [], [(0, [1, 2, 7, 8, 9])], []⟩
def l0Tk (k : Nat) : Spec := fun Q σ w =>
  gAd (σ 9) fun at9 =>
  gSlice (σ 39) fun At39 nt39 ct39 =>
  gInt .i64 (σ 40) fun xt40 =>
  gInt .i64 (σ 41) fun xt41 =>
  l0 k at9 At39 nt39 ct39 xt40 xt41 w (fun (w : World) => ∀ d : Fr, Q (.exit 0) (ov d [(1, σ 1), (2, σ 2), (7, σ 7), (8, σ 8), (9, .pointer (some at9))]) w)
def l0T : Spec := fun Q σ w => ∃ k, l0Tk k Q σ w
def l0tb : List (List Nat × Spec) := []
noncomputable def l0b : Code := (subC [0, 0, 1, 0, 1, 1, 1, 1, 1] body).getD .skip
theorem l0_eq (k : Nat) (at9 : Addr) (At39 : Option Addr) (nt39 : Nat) (ct39 : Nat) (xt40 : Int) (xt41 : Int) (Q : PQ) (σ : Fr) (w : World) :
    l0 (k + 1) at9 At39 nt39 ct39 xt40 xt41 w (fun (w : World) => ∀ d : Fr, Q (.exit 0) (ov d [(1, σ 1), (2, σ 2), (7, σ 7), (8, σ 8), (9, .pointer (some at9))]) w) = codeW Try.prog hT 202 D (tab l0tb) [0, 0, 1, 0, 1, 1, 1, 1, 1] l0b (thenQ (l0Tk k Q) (widen l0LO Q)) (ov σ [(9, .pointer (some at9)), (39, .slice At39 nt39 ct39), (40, .int .i64 xt40), (41, .int .i64 xt41)]) w := by kernel_rfl
theorem l0_snd : ∀ c, subC [0, 1, 0, 1, 1, 1, 1, 1] body = some c → Snd Try.prog 202 c l0T := by
  refine loop_of (hT := hT) (D := D) (l := l0tb) (b := l0b) (lo := l0LO) (by kernel_rfl) (by
    intro x hx
    simp only [l0tb, List.not_mem_nil] at hx
    ) (by kernel_rfl) (by kernel_rfl) ?_ ?_
  · intro Q σ w h
    unfold l0Tk at h
    obtain ⟨at9, h9, hn⟩ := gAd_elim h
    clear h
    have h := hn
    clear hn
    obtain ⟨At39, nt39, ct39, h39, hn⟩ := gSlice_elim h
    clear h
    have h := hn
    clear hn
    obtain ⟨xt40, h40, hn⟩ := gInt_elim h
    clear h
    have h := hn
    clear hn
    obtain ⟨xt41, h41, hn⟩ := gInt_elim h
    clear h
    have h := hn
    clear hn
    exact h
  · intro k Q σ w h
    unfold l0Tk at h
    obtain ⟨at9, h9, hn⟩ := gAd_elim h
    clear h
    have h := hn
    clear hn
    obtain ⟨At39, nt39, ct39, h39, hn⟩ := gSlice_elim h
    clear h
    have h := hn
    clear hn
    obtain ⟨xt40, h40, hn⟩ := gInt_elim h
    clear h
    have h := hn
    clear hn
    obtain ⟨xt41, h41, hn⟩ := gInt_elim h
    clear h
    have h := hn
    clear hn
    rw [l0_eq (σ := σ)] at h
    have e : (ov σ [(9, .pointer (some at9)), (39, .slice At39 nt39 ct39), (40, .int .i64 xt40), (41, .int .i64 xt41)]) = σ := ov_self (by simp [h9, h39, h40, h41])
    rw [e] at h
    exact h
def l1LO : LO := ⟨[], [6], [(3, [1, 2, 7, 8, 9])], []⟩
def l1Tk (k : Nat) : Spec := fun Q σ w =>
  gPtr (σ 8) fun pt8 =>
  gAd (σ 9) fun at9 =>
  gInt .i64 (σ 13) fun xt13 =>
  l1 k pt8 at9 xt13 w (fun (w : World) => ∀ d : Fr, Q (.exit 3) (ov d [(1, σ 1), (2, σ 2), (7, σ 7), (8, .pointer pt8), (9, .pointer (some at9))]) w) (fun (bq6 : Bool) (w : World) => ∀ d : Fr, Q .ret (ov d [(6, .bool bq6)]) w)
def l1T : Spec := fun Q σ w => ∃ k, l1Tk k Q σ w
def l1tb : List (List Nat × Spec) := []
noncomputable def l1b : Code := (subC [0, 0, 1, 0, 1, 1, 1, 1, 1, 1] body).getD .skip
theorem l1_eq (k : Nat) (pt8 : Option Addr) (at9 : Addr) (xt13 : Int) (Q : PQ) (σ : Fr) (w : World) :
    l1 (k + 1) pt8 at9 xt13 w (fun (w : World) => ∀ d : Fr, Q (.exit 3) (ov d [(1, σ 1), (2, σ 2), (7, σ 7), (8, .pointer pt8), (9, .pointer (some at9))]) w) (fun (bq6 : Bool) (w : World) => ∀ d : Fr, Q .ret (ov d [(6, .bool bq6)]) w) = codeW Try.prog hT 202 D (tab l1tb) [0, 0, 1, 0, 1, 1, 1, 1, 1, 1] l1b (thenQ (l1Tk k Q) (widen l1LO Q)) (ov σ [(8, .pointer pt8), (9, .pointer (some at9)), (13, .int .i64 xt13)]) w := by kernel_rfl
theorem l1_snd : ∀ c, subC [0, 1, 0, 1, 1, 1, 1, 1, 1] body = some c → Snd Try.prog 202 c l1T := by
  refine loop_of (hT := hT) (D := D) (l := l1tb) (b := l1b) (lo := l1LO) (by kernel_rfl) (by
    intro x hx
    simp only [l1tb, List.not_mem_nil] at hx
    ) (by kernel_rfl) (by kernel_rfl) ?_ ?_
  · intro Q σ w h
    unfold l1Tk at h
    obtain ⟨pt8, h8, hn⟩ := gPtr_elim h
    clear h
    have h := hn
    clear hn
    obtain ⟨at9, h9, hn⟩ := gAd_elim h
    clear h
    have h := hn
    clear hn
    obtain ⟨xt13, h13, hn⟩ := gInt_elim h
    clear h
    have h := hn
    clear hn
    exact h
  · intro k Q σ w h
    unfold l1Tk at h
    obtain ⟨pt8, h8, hn⟩ := gPtr_elim h
    clear h
    have h := hn
    clear hn
    obtain ⟨at9, h9, hn⟩ := gAd_elim h
    clear h
    have h := hn
    clear hn
    obtain ⟨xt13, h13, hn⟩ := gInt_elim h
    clear h
    have h := hn
    clear hn
    rw [l1_eq (σ := σ)] at h
    have e : (ov σ [(8, .pointer pt8), (9, .pointer (some at9)), (13, .int .i64 xt13)]) = σ := ov_self (by simp [h8, h9, h13])
    rw [e] at h
    exact h
def l2LO : LO := ⟨[], [6], [(5, [1, 2, 7, 8])], []⟩
def l2Tk (k : Nat) : Spec := fun Q σ w =>
  gInt .i64 (σ 1) fun xt1 =>
  gPtr (σ 8) fun pt8 =>
  gAd (σ 9) fun at9 =>
  gInt .i64 (σ 14) fun xt14 =>
  l2 k xt1 pt8 at9 xt14 w (fun (w : World) => ∀ d : Fr, Q (.exit 5) (ov d [(1, .int .i64 xt1), (2, σ 2), (7, σ 7), (8, .pointer pt8)]) w) (fun (bq6 : Bool) (w : World) => ∀ d : Fr, Q .ret (ov d [(6, .bool bq6)]) w)
def l2T : Spec := fun Q σ w => ∃ k, l2Tk k Q σ w
def l2tb : List (List Nat × Spec) := []
noncomputable def l2b : Code := (subC [0, 0, 1, 0, 1, 1, 1, 1, 1, 1, 1] body).getD .skip
theorem l2_eq (k : Nat) (xt1 : Int) (pt8 : Option Addr) (at9 : Addr) (xt14 : Int) (Q : PQ) (σ : Fr) (w : World) :
    l2 (k + 1) xt1 pt8 at9 xt14 w (fun (w : World) => ∀ d : Fr, Q (.exit 5) (ov d [(1, .int .i64 xt1), (2, σ 2), (7, σ 7), (8, .pointer pt8)]) w) (fun (bq6 : Bool) (w : World) => ∀ d : Fr, Q .ret (ov d [(6, .bool bq6)]) w) = codeW Try.prog hT 202 D (tab l2tb) [0, 0, 1, 0, 1, 1, 1, 1, 1, 1, 1] l2b (thenQ (l2Tk k Q) (widen l2LO Q)) (ov σ [(1, .int .i64 xt1), (8, .pointer pt8), (9, .pointer (some at9)), (14, .int .i64 xt14)]) w := by kernel_rfl
theorem l2_snd : ∀ c, subC [0, 1, 0, 1, 1, 1, 1, 1, 1, 1] body = some c → Snd Try.prog 202 c l2T := by
  refine loop_of (hT := hT) (D := D) (l := l2tb) (b := l2b) (lo := l2LO) (by kernel_rfl) (by
    intro x hx
    simp only [l2tb, List.not_mem_nil] at hx
    ) (by kernel_rfl) (by kernel_rfl) ?_ ?_
  · intro Q σ w h
    unfold l2Tk at h
    obtain ⟨xt1, h1, hn⟩ := gInt_elim h
    clear h
    have h := hn
    clear hn
    obtain ⟨pt8, h8, hn⟩ := gPtr_elim h
    clear h
    have h := hn
    clear hn
    obtain ⟨at9, h9, hn⟩ := gAd_elim h
    clear h
    have h := hn
    clear hn
    obtain ⟨xt14, h14, hn⟩ := gInt_elim h
    clear h
    have h := hn
    clear hn
    exact h
  · intro k Q σ w h
    unfold l2Tk at h
    obtain ⟨xt1, h1, hn⟩ := gInt_elim h
    clear h
    have h := hn
    clear hn
    obtain ⟨pt8, h8, hn⟩ := gPtr_elim h
    clear h
    have h := hn
    clear hn
    obtain ⟨at9, h9, hn⟩ := gAd_elim h
    clear h
    have h := hn
    clear hn
    obtain ⟨xt14, h14, hn⟩ := gInt_elim h
    clear h
    have h := hn
    clear hn
    rw [l2_eq (σ := σ)] at h
    have e : (ov σ [(1, .int .i64 xt1), (8, .pointer pt8), (9, .pointer (some at9)), (14, .int .i64 xt14)]) = σ := ov_self (by simp [h1, h8, h9, h14])
    rw [e] at h
    exact h
def tb : List (List Nat × Spec) := [([0, 1, 0, 1, 1, 1, 1, 1], l0T), ([0, 1, 0, 1, 1, 1, 1, 1, 1], l1T), ([0, 1, 0, 1, 1, 1, 1, 1, 1, 1], l2T)]
theorem wp_eq (Aa0 : Option Addr) (na0 : Nat) (ca0 : Nat) (xa1 : Int) (xa2 : Int) (w : World) (Q : Ending → World → Prop) :
    wp Aa0 na0 ca0 xa1 xa2 w Q = codeW Try.prog hT 202 D (tab tb) [] body (topQ Try.prog hT 202 [.tmp 6] Q) (argsF [.slice Aa0 na0 ca0, .int .i64 xa1, .int .i64 xa2]) w := by kernel_rfl
theorem ok (Aa0 : Option Addr) (na0 : Nat) (ca0 : Nat) (xa1 : Int) (xa2 : Int) (w : World) (Q : Ending → World → Prop) (h : wp Aa0 na0 ca0 xa1 xa2 w Q) : Calls Try.prog 6 #[.slice Aa0 na0 ca0, .int .i64 xa1, .int .i64 xa2] w Q := by
  rw [wp_eq] at h
  exact calls_of_codeW (c := body) (rs := [.tmp 6]) Try.func6 (by kernel_rfl) (by kernel_rfl) (by kernel_rfl) (by kernel_rfl) (by kernel_rfl) (tab_snd (by
    intro x hx
    simp only [tb, List.mem_cons, List.not_mem_nil, or_false] at hx
    rcases hx with rfl | rfl | rfl
    · exact l0_snd
    · exact l1_snd
    · exact l2_snd)) (by kernel_rfl) h
end f_law17_LinkcutOrder
namespace f_law17_LinkcutWeights
/-! skein/skeinlaw17.LinkcutWeights: function 7 -/
noncomputable def body : Code := (Try.f7.body).getD .skip
def j0 (xt1 : Int) (xt2 : Int) (xt3 : Int) (xt4 : Int) (pt11 : Option Addr) (at12 : Addr) (at14 : Addr) (xt15 : Int) (xt17 : Int) (w : World) (Kr : Bool → World → Prop) : Prop :=
  Calls Try.prog 16 #[.pointer pt11, .int .i64 xt3, .int .i64 xt4] w fun e44 w45 => ∃ (x46_0_0 : Int) (x46_0_1 : Int) (x46_0_2 : Int) (x46_0_3 : Int) (r46_0_4 : Nat) (i46_0_4 : Nat) (x46_1 : Int), e44 = .returned (.tuple #[.agg #[.int .i64 x46_0_0, .int .i64 x46_0_1, .int .i64 x46_0_2, .int .i64 x46_0_3, .complex .f64 r46_0_4 i46_0_4], .int .i64 x46_1]) ∧ (
  alW w45 (.cells #[.int .i64 (0 : Int), .int .i64 (0 : Int), .int .i64 (0 : Int), .int .i64 (0 : Int), .complex .f64 0 0] 48) fun B47 w48 =>
  stW w48 (⟨B47, 0, Option.none⟩ : Addr) (.int .i64 x46_0_0) fun w49 =>
  stW w49 ((⟨B47, 0, Option.none⟩ : Addr).add 1) (.int .i64 x46_0_1) fun w50 =>
  stW w50 ((⟨B47, 0, Option.none⟩ : Addr).add 2) (.int .i64 x46_0_2) fun w51 =>
  stW w51 ((⟨B47, 0, Option.none⟩ : Addr).add 3) (.int .i64 x46_0_3) fun w52 =>
  stW w52 ((⟨B47, 0, Option.none⟩ : Addr).add 4) (.complex .f64 r46_0_4 i46_0_4) fun w53 =>
  sel (xt15 != x46_1) (
  Kr false w53) (
  sel (xt15 != (0 : Int)) (
  ldI w53 (⟨B47, 0, Option.none⟩ : Addr) .i64 fun x54 =>
  ldI w53 ((⟨B47, 0, Option.none⟩ : Addr).add 1) .i64 fun x55 =>
  ldI w53 ((⟨B47, 0, Option.none⟩ : Addr).add 2) .i64 fun x56 =>
  ldI w53 ((⟨B47, 0, Option.none⟩ : Addr).add 3) .i64 fun x57 =>
  ldC w53 ((⟨B47, 0, Option.none⟩ : Addr).add 4) .f64 fun r58 i58 =>
  ldI w53 at14 .i64 fun x59 =>
  ldI w53 (at14.add 1) .i64 fun x60 =>
  ldI w53 (at14.add 2) .i64 fun x61 =>
  ldI w53 (at14.add 3) .i64 fun x62 =>
  ldC w53 (at14.add 4) .f64 fun r63 i63 =>
  Runs Try.prog (do eqGuard .eql 48 (.tmp 88) (.tmp 89) (.agg #[.int .i64 x54, .int .i64 x55, .int .i64 x56, .int .i64 x57, .complex .f64 r58 i58]) (.agg #[.int .i64 x59, .int .i64 x60, .int .i64 x61, .int .i64 x62, .complex .f64 r63 i63]); binOp .eql 48 (.agg #[.int .i64 x54, .int .i64 x55, .int .i64 x56, .int .i64 x57, .complex .f64 r58 i58]) (.agg #[.int .i64 x59, .int .i64 x60, .int .i64 x61, .int .i64 x62, .complex .f64 r63 i63]) : Sem Value) w53 fun v65 w64 => ∃ (b66 : Bool), v65 = (.bool b66) ∧ (
  Kr b66 w64)) (
  sel (xt17 == (0 : Int)) (
  ldI w53 (⟨B47, 0, Option.none⟩ : Addr) .i64 fun x67 =>
  ldI w53 ((⟨B47, 0, Option.none⟩ : Addr).add 1) .i64 fun x68 =>
  ldI w53 ((⟨B47, 0, Option.none⟩ : Addr).add 2) .i64 fun x69 =>
  ldI w53 ((⟨B47, 0, Option.none⟩ : Addr).add 3) .i64 fun x70 =>
  ldC w53 ((⟨B47, 0, Option.none⟩ : Addr).add 4) .f64 fun r71 i71 =>
  ldI w53 at14 .i64 fun x72 =>
  ldI w53 (at14.add 1) .i64 fun x73 =>
  ldI w53 (at14.add 2) .i64 fun x74 =>
  ldI w53 (at14.add 3) .i64 fun x75 =>
  ldC w53 (at14.add 4) .f64 fun r76 i76 =>
  Runs Try.prog (do eqGuard .eql 48 (.tmp 88) (.tmp 89) (.agg #[.int .i64 x67, .int .i64 x68, .int .i64 x69, .int .i64 x70, .complex .f64 r71 i71]) (.agg #[.int .i64 x72, .int .i64 x73, .int .i64 x74, .int .i64 x75, .complex .f64 r76 i76]); binOp .eql 48 (.agg #[.int .i64 x67, .int .i64 x68, .int .i64 x69, .int .i64 x70, .complex .f64 r71 i71]) (.agg #[.int .i64 x72, .int .i64 x73, .int .i64 x74, .int .i64 x75, .complex .f64 r76 i76]) : Sem Value) w53 fun v78 w77 => ∃ (b79 : Bool), v78 = (.bool b79) ∧ (
  Kr b79 w77)) (
  ldC w53 ((⟨B47, 0, Option.none⟩ : Addr).add 4) .f64 fun r80 i80 =>
  ldC w53 (at14.add 4) .f64 fun r81 i81 =>
  ldI w53 (at12.add 3) .i64 fun x82 =>
  Runs Try.prog (Go.convert 2 52 (.int .i64 (IntKind.i64.wrap (xt2 - x82)))) w53 fun v84 w83 => ∃ (f85 : Nat), v84 = (.float .f64 f85) ∧ (
  Runs Try.prog (do eqGuard .add 46 (.tmp 94) (.tmp 100) (.complex .f64 r81 i81) (.complex .f64 f85 0); binOp .add 46 (.complex .f64 r81 i81) (.complex .f64 f85 0) : Sem Value) w83 fun v87 w86 => ∃ (r88 : Nat) (i88 : Nat), v87 = (.complex .f64 r88 i88) ∧ (
  Runs Try.prog (do eqGuard .eql 46 (.tmp 92) (.tmp 101) (.complex .f64 r80 i80) (.complex .f64 r88 i88); binOp .eql 46 (.complex .f64 r80 i80) (.complex .f64 r88 i88) : Sem Value) w86 fun v90 w89 => ∃ (b91 : Bool), v90 = (.bool b91) ∧ (
  sel b91 (
  ldI w89 (⟨B47, 0, Option.none⟩ : Addr) .i64 fun x92 =>
  ldI w89 at14 .i64 fun x93 =>
  sel (x92 == x93) (
  Kr true w89) (
  ldI w89 (⟨B47, 0, Option.none⟩ : Addr) .i64 fun x94 =>
  sel (x94 == xt1) (
  Kr true w89) (
  ldI w89 at14 .i64 fun x95 =>
  Kr (x95 == xt1) w89))) (
  Kr false w89))))))))
def wp (Aa0 : Option Addr) (na0 : Nat) (ca0 : Nat) (xa1 : Int) (xa2 : Int) (xa3 : Int) (xa4 : Int) (w : World) (Q : Ending → World → Prop) : Prop :=
  Calls Try.prog 15 #[.slice Aa0 na0 ca0] w fun e1 w2 => ∃ (p3 : Option Addr), e1 = .returned (.pointer p3) ∧ (
  sel p3.isNone (
  Q (.returned (.bool false)) w2) (
  Calls Try.prog 9 #[] w2 fun e4 w5 => ∃ (b6 : Bool), e4 = .returned (.bool b6) ∧ (
  sel (!b6) (
  Q (.returned (.bool false)) w5) (
  Calls Try.prog 12 #[.pointer p3, .int .i64 xa1] w5 fun e7 w8 => ∃ (x9_0_0 : Int) (x9_0_1 : Int) (x9_0_2 : Int) (x9_0_3 : Int) (b9_1 : Bool), e7 = .returned (.tuple #[.agg #[.int .i64 x9_0_0, .int .i64 x9_0_1, .int .i64 x9_0_2, .int .i64 x9_0_3], .bool b9_1]) ∧ (
  alW w8 (.cells #[.int .i64 (0 : Int), .int .i64 (0 : Int), .int .i64 (0 : Int), .int .i64 (0 : Int)] 33) fun B10 w11 =>
  stW w11 (⟨B10, 0, Option.none⟩ : Addr) (.int .i64 x9_0_0) fun w12 =>
  stW w12 ((⟨B10, 0, Option.none⟩ : Addr).add 1) (.int .i64 x9_0_1) fun w13 =>
  stW w13 ((⟨B10, 0, Option.none⟩ : Addr).add 2) (.int .i64 x9_0_2) fun w14 =>
  stW w14 ((⟨B10, 0, Option.none⟩ : Addr).add 3) (.int .i64 x9_0_3) fun w15 =>
  sel (!b9_1) (
  Q (.returned (.bool true)) w15) (
  sel (decide (xa2 < (0 : Int))) (
  Q (.returned (.bool true)) w15) (
  sel (decide (xa2 > (1099511627776 : Int))) (
  Q (.returned (.bool true)) w15) (
  Calls Try.prog 16 #[.pointer p3, .int .i64 xa3, .int .i64 xa4] w15 fun e16 w17 => ∃ (x18_0_0 : Int) (x18_0_1 : Int) (x18_0_2 : Int) (x18_0_3 : Int) (r18_0_4 : Nat) (i18_0_4 : Nat) (x18_1 : Int), e16 = .returned (.tuple #[.agg #[.int .i64 x18_0_0, .int .i64 x18_0_1, .int .i64 x18_0_2, .int .i64 x18_0_3, .complex .f64 r18_0_4 i18_0_4], .int .i64 x18_1]) ∧ (
  alW w17 (.cells #[.int .i64 (0 : Int), .int .i64 (0 : Int), .int .i64 (0 : Int), .int .i64 (0 : Int), .complex .f64 0 0] 48) fun B19 w20 =>
  stW w20 (⟨B19, 0, Option.none⟩ : Addr) (.int .i64 x18_0_0) fun w21 =>
  stW w21 ((⟨B19, 0, Option.none⟩ : Addr).add 1) (.int .i64 x18_0_1) fun w22 =>
  stW w22 ((⟨B19, 0, Option.none⟩ : Addr).add 2) (.int .i64 x18_0_2) fun w23 =>
  stW w23 ((⟨B19, 0, Option.none⟩ : Addr).add 3) (.int .i64 x18_0_3) fun w24 =>
  stW w24 ((⟨B19, 0, Option.none⟩ : Addr).add 4) (.complex .f64 r18_0_4 i18_0_4) fun w25 =>
  Calls Try.prog 18 #[.pointer p3, .int .i64 xa1] w25 fun e26 w27 => ∃ (x28 : Int), e26 = .returned (.int .i64 x28) ∧ (
  sel (x28 != (0 : Int)) (
  Q (.returned (.bool false)) w27) (
  Calls Try.prog 16 #[.pointer p3, .int .i64 xa3, .int .i64 xa4] w27 fun e29 w30 => ∃ (x31_0_0 : Int) (x31_0_1 : Int) (x31_0_2 : Int) (x31_0_3 : Int) (r31_0_4 : Nat) (i31_0_4 : Nat) (x31_1 : Int), e29 = .returned (.tuple #[.agg #[.int .i64 x31_0_0, .int .i64 x31_0_1, .int .i64 x31_0_2, .int .i64 x31_0_3, .complex .f64 r31_0_4 i31_0_4], .int .i64 x31_1]) ∧ (
  alW w30 (.cells #[.int .i64 (0 : Int), .int .i64 (0 : Int), .int .i64 (0 : Int), .int .i64 (0 : Int), .complex .f64 0 0] 48) fun B32 w33 =>
  stW w33 (⟨B32, 0, Option.none⟩ : Addr) (.int .i64 x31_0_0) fun w34 =>
  stW w34 ((⟨B32, 0, Option.none⟩ : Addr).add 1) (.int .i64 x31_0_1) fun w35 =>
  stW w35 ((⟨B32, 0, Option.none⟩ : Addr).add 2) (.int .i64 x31_0_2) fun w36 =>
  stW w36 ((⟨B32, 0, Option.none⟩ : Addr).add 3) (.int .i64 x31_0_3) fun w37 =>
  stW w37 ((⟨B32, 0, Option.none⟩ : Addr).add 4) (.complex .f64 r31_0_4 i31_0_4) fun w38 =>
  ldI w38 ((⟨B10, 0, Option.none⟩ : Addr).add 1) .i64 fun x39 =>
  ldI w38 ((⟨B10, 0, Option.none⟩ : Addr).add 2) .i64 fun x40 =>
  Calls Try.prog 17 #[.pointer p3, .agg #[.int .i64 xa1, .int .i64 x39, .int .i64 x40, .int .i64 xa2]] w38 fun e41 w42 => ∃ (x43 : Int), e41 = .returned (.int .i64 x43) ∧ (
  sel (x43 != (0 : Int)) (
  Q (.returned (.bool false)) w42) (
  j0 xa1 xa2 xa3 xa4 p3 (⟨B10, 0, Option.none⟩ : Addr) (⟨B19, 0, Option.none⟩ : Addr) x18_1 x31_1 w42 (fun (b96 : Bool) (w97 : World) => ∀ _ : Fr,
  Q (.returned (.bool b96)) w97)))))))))))))))
def D : Nat → Option DH := dtab []
def j0LO : LO := ⟨[], [10], [], []⟩
def j0T : Spec := fun Q σ w =>
  gInt .i64 (σ 1) fun xt1 =>
  gInt .i64 (σ 2) fun xt2 =>
  gInt .i64 (σ 3) fun xt3 =>
  gInt .i64 (σ 4) fun xt4 =>
  gPtr (σ 11) fun pt11 =>
  gAd (σ 12) fun at12 =>
  gAd (σ 14) fun at14 =>
  gInt .i64 (σ 15) fun xt15 =>
  gInt .i64 (σ 17) fun xt17 =>
  j0 xt1 xt2 xt3 xt4 pt11 at12 at14 xt15 xt17 w (fun (bq10 : Bool) (w : World) => ∀ d : Fr, Q .ret (ov d [(10, .bool bq10)]) w)
def j0tb : List (List Nat × Spec) := []
noncomputable def j0b : Code := (subC [1, 1, 1, 1, 1, 1, 1, 1, 1] body).getD .skip
theorem j0_eq (xt1 : Int) (xt2 : Int) (xt3 : Int) (xt4 : Int) (pt11 : Option Addr) (at12 : Addr) (at14 : Addr) (xt15 : Int) (xt17 : Int) (Q : PQ) (σ : Fr) (w : World) :
    j0 xt1 xt2 xt3 xt4 pt11 at12 at14 xt15 xt17 w (fun (bq10 : Bool) (w : World) => ∀ d : Fr, Q .ret (ov d [(10, .bool bq10)]) w) = codeW Try.prog hT 126 D (tab j0tb) [1, 1, 1, 1, 1, 1, 1, 1, 1] j0b (widen j0LO Q) (ov σ [(1, .int .i64 xt1), (2, .int .i64 xt2), (3, .int .i64 xt3), (4, .int .i64 xt4), (11, .pointer pt11), (12, .pointer (some at12)), (14, .pointer (some at14)), (15, .int .i64 xt15), (17, .int .i64 xt17)]) w := by kernel_rfl
theorem j0_snd : ∀ c, subC [1, 1, 1, 1, 1, 1, 1, 1, 1] body = some c → Snd Try.prog 126 c j0T := by
  refine cut_of (hT := hT) (D := D) (l := j0tb) (b := j0b) (lo := j0LO) (by kernel_rfl) (by
    intro x hx
    simp only [j0tb, List.not_mem_nil] at hx
    ) (by kernel_rfl) (by kernel_rfl) ?_
  intro Q σ w h
  unfold j0T at h
  obtain ⟨xt1, h1, hn⟩ := gInt_elim h
  clear h
  have h := hn
  clear hn
  obtain ⟨xt2, h2, hn⟩ := gInt_elim h
  clear h
  have h := hn
  clear hn
  obtain ⟨xt3, h3, hn⟩ := gInt_elim h
  clear h
  have h := hn
  clear hn
  obtain ⟨xt4, h4, hn⟩ := gInt_elim h
  clear h
  have h := hn
  clear hn
  obtain ⟨pt11, h11, hn⟩ := gPtr_elim h
  clear h
  have h := hn
  clear hn
  obtain ⟨at12, h12, hn⟩ := gAd_elim h
  clear h
  have h := hn
  clear hn
  obtain ⟨at14, h14, hn⟩ := gAd_elim h
  clear h
  have h := hn
  clear hn
  obtain ⟨xt15, h15, hn⟩ := gInt_elim h
  clear h
  have h := hn
  clear hn
  obtain ⟨xt17, h17, hn⟩ := gInt_elim h
  clear h
  have h := hn
  clear hn
  rw [j0_eq (σ := σ)] at h
  have e : (ov σ [(1, .int .i64 xt1), (2, .int .i64 xt2), (3, .int .i64 xt3), (4, .int .i64 xt4), (11, .pointer pt11), (12, .pointer (some at12)), (14, .pointer (some at14)), (15, .int .i64 xt15), (17, .int .i64 xt17)]) = σ := ov_self (by simp [h1, h2, h3, h4, h11, h12, h14, h15, h17])
  rw [e] at h
  exact h
def tb : List (List Nat × Spec) := [([1, 1, 1, 1, 1, 1, 1, 1, 1], j0T)]
theorem wp_eq (Aa0 : Option Addr) (na0 : Nat) (ca0 : Nat) (xa1 : Int) (xa2 : Int) (xa3 : Int) (xa4 : Int) (w : World) (Q : Ending → World → Prop) :
    wp Aa0 na0 ca0 xa1 xa2 xa3 xa4 w Q = codeW Try.prog hT 126 D (tab tb) [] body (topQ Try.prog hT 126 [.tmp 10] Q) (argsF [.slice Aa0 na0 ca0, .int .i64 xa1, .int .i64 xa2, .int .i64 xa3, .int .i64 xa4]) w := by kernel_rfl
theorem ok (Aa0 : Option Addr) (na0 : Nat) (ca0 : Nat) (xa1 : Int) (xa2 : Int) (xa3 : Int) (xa4 : Int) (w : World) (Q : Ending → World → Prop) (h : wp Aa0 na0 ca0 xa1 xa2 xa3 xa4 w Q) : Calls Try.prog 7 #[.slice Aa0 na0 ca0, .int .i64 xa1, .int .i64 xa2, .int .i64 xa3, .int .i64 xa4] w Q := by
  rw [wp_eq] at h
  exact calls_of_codeW (c := body) (rs := [.tmp 10]) Try.func7 (by kernel_rfl) (by kernel_rfl) (by kernel_rfl) (by kernel_rfl) (by kernel_rfl) (tab_snd (by
    intro x hx
    simp only [tb, List.mem_cons, List.not_mem_nil, or_false] at hx
    subst hx
    exact j0_snd)) (by kernel_rfl) h
end f_law17_LinkcutWeights
end Go.Proofs.Ytfknppccgojhdaa.Rd
