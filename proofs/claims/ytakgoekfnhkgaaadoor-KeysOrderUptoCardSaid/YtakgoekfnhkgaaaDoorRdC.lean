/- The printed readings of some functions: each function's code reckoned by the kernel to its predicate transformer. -/
import Derived.Test.YtakgoekfnhkgaaaDoorHint
namespace Go.Proofs.YtakgoekfnhkgaaaDoor.Rd
open Go.Dn
set_option maxRecDepth 100000
set_option linter.unusedVariables false
namespace f_law04_alive
/-! skein/skeinlaw04.alive: function 7 -/
noncomputable def body : Code := (Tryd.f7.body).getD .skip
def j0 (At1 : Option Addr) (nt1 : Nat) (ct1 : Nat) (xt2 : Int) (At3 : Option Addr) (nt3 : Nat) (ct3 : Nat) (xt4 : Int) (At5 : Option Addr) (nt5 : Nat) (ct5 : Nat) (xt6 : Int) (At7 : Option Addr) (nt7 : Nat) (ct7 : Nat) (xt8 : Int) (xt9 : Int) (At10 : Option Addr) (nt10 : Nat) (ct10 : Nat) (xt11 : Int) (at12 : Addr) (xt13 : Int) (at14 : Addr) (st15 : ByteArray) (bt16 : Bool) (At17 : Option Addr) (nt17 : Nat) (ct17 : Nat) (xt18 : Int) (w : World) (Kr : Bool → World → Prop) : Prop :=
  alW w (.cells #[.int .u8 (1 : Int), .int .u8 (2 : Int), .int .u8 (172 : Int), .int .u8 (2 : Int)] 5) fun B39 w40 =>
  Calls Tryd.prog 29 #[.int .i64 (9 : Int), .slice (some (⟨B39, 0, Option.none⟩ : Addr)) 4 4] w40 fun e41 w42 => ∃ (x43_0_0 : Int) (x43_0_1 : Int) (x43_0_2 : Int) (x43_0_3 : Int) (x43_1 : Int), e41 = .returned (.tuple #[.agg #[.int .i64 x43_0_0, .int .i64 x43_0_1, .int .i64 x43_0_2, .int .i64 x43_0_3], .int .i64 x43_1]) ∧ (
  alW w42 (.cells #[.int .i64 (0 : Int), .int .i64 (0 : Int), .int .i64 (0 : Int), .int .i64 (0 : Int)] 59) fun B44 w45 =>
  stW w45 (⟨B44, 0, Option.none⟩ : Addr) (.int .i64 x43_0_0) fun w46 =>
  stW w46 ((⟨B44, 0, Option.none⟩ : Addr).add 1) (.int .i64 x43_0_1) fun w47 =>
  stW w47 ((⟨B44, 0, Option.none⟩ : Addr).add 2) (.int .i64 x43_0_2) fun w48 =>
  stW w48 ((⟨B44, 0, Option.none⟩ : Addr).add 3) (.int .i64 x43_0_3) fun w49 =>
  sel (xt2 != (0 : Int)) (
  Kr false w49) (
  sel (xt4 != (0 : Int)) (
  Kr false w49) (
  sel (xt6 != (0 : Int)) (
  Kr false w49) (
  sel (xt9 != (0 : Int)) (
  Kr false w49) (
  sel (xt11 != (0 : Int)) (
  Kr false w49) (
  sel (xt13 != (0 : Int)) (
  Kr false w49) (
  sel (xt18 != (0 : Int)) (
  Kr false w49) (
  sel (x43_1 != (0 : Int)) (
  Kr false w49) (
  sel (!bt16) (
  Kr false w49) (
  ldI w49 (at14.add 1) .i64 fun x50 =>
  sel (x50 != (1 : Int)) (
  Kr false w49) (
  ldB w49 at14 fun b51 =>
  sel (!b51) (
  Kr false w49) (
  sel (!(st15.toList == (⟨#[97, 98]⟩ : ByteArray).toList)) (
  Kr false w49) (
  alW w49 (.cells #[.int .u8 (1 : Int), .int .u8 (0 : Int), .int .u8 (0 : Int), .int .u8 (0 : Int), .int .u8 (7 : Int)] 5) fun B52 w53 =>
  Calls Tryd.prog 24 #[.slice At1 nt1 ct1, .slice (some (⟨B52, 0, Option.none⟩ : Addr)) 5 5] w53 fun e54 w55 => ∃ (b56 : Bool), e54 = .returned (.bool b56) ∧ (
  sel b56 (
  alW w55 (.cells #[.int .u8 (3 : Int), .int .u8 (1 : Int), .int .u8 (0 : Int), .int .u8 (0 : Int), .int .u8 (0 : Int), .int .u8 (1 : Int), .int .u8 (97 : Int), .int .u8 (98 : Int)] 5) fun B57 w58 =>
  Calls Tryd.prog 24 #[.slice At3 nt3 ct3, .slice (some (⟨B57, 0, Option.none⟩ : Addr)) 8 8] w58 fun e59 w60 => ∃ (b61 : Bool), e59 = .returned (.bool b61) ∧ (
  sel b61 (
  sel ((nt5 : Int) == (11 : Int)) (
  optB At5 fun a62 =>
  req (decide (0 ≤ (10 : Int) ∧ (10 : Int) < (nt5 : Int))) <|
  ldI w60 (a62.add ((10 : Int).toNat * 1)) .u8 fun x63 =>
  sel (x63 == (251 : Int)) (
  Runs Tryd.prog (Go.convert 24 9 (.slice At7 nt7 ct7)) w60 fun v65 w64 => ∃ (s66 : ByteArray), v65 = (.string s66) ∧ (
  sel (s66.toList == (⟨#[97]⟩ : ByteArray).toList) (
  sel (xt8 == (5 : Int)) (
  alW w64 (.cells #[.int .u8 (2 : Int), .int .u8 (6 : Int), .int .u8 (2 : Int)] 5) fun B67 w68 =>
  Calls Tryd.prog 24 #[.slice At10 nt10 ct10, .slice (some (⟨B67, 0, Option.none⟩ : Addr)) 3 3] w68 fun e69 w70 => ∃ (b71 : Bool), e69 = .returned (.bool b71) ∧ (
  sel b71 (
  ldC w70 (at12.add 2) .f64 fun r72 i72 =>
  Runs Tryd.prog (do eqGuard .eql 52 (.tmp 151) (.const (.complex .f64 4613937818241073152 4607182418800017408)) (.complex .f64 r72 i72) (.complex .f64 4613937818241073152 4607182418800017408); binOp .eql 52 (.complex .f64 r72 i72) (.complex .f64 4613937818241073152 4607182418800017408) : Sem Value) w70 fun v74 w73 => ∃ (b75 : Bool), v74 = (.bool b75) ∧ (
  sel b75 (
  sel ((nt17 : Int) == (4 : Int)) (
  ldI w73 (⟨B44, 0, Option.none⟩ : Addr) .i64 fun x76 =>
  ldI w73 ((⟨B44, 0, Option.none⟩ : Addr).add 1) .i64 fun x77 =>
  ldI w73 ((⟨B44, 0, Option.none⟩ : Addr).add 2) .i64 fun x78 =>
  ldI w73 ((⟨B44, 0, Option.none⟩ : Addr).add 3) .i64 fun x79 =>
  sel ((x76 == (9 : Int)) && ((x77 == (1 : Int)) && ((x78 == (2 : Int)) && ((x79 == (300 : Int)) && true)))) (
  Calls Tryd.prog 13 #[.string (⟨#[97, 98]⟩ : ByteArray)] w73 fun e80 w81 => ∃ (b82 : Bool), e80 = .returned (.bool b82) ∧ (
  sel b82 (
  ldI w81 at12 .i64 fun x83 =>
  ldI w81 (at12.add 1) .i64 fun x84 =>
  ldC w81 (at12.add 2) .f64 fun r85 i85 =>
  ldS w81 (at12.add 3) fun A86 n86 c86 =>
  Calls Tryd.prog 30 #[.agg #[.int .i64 x83, .int .i64 x84, .complex .f64 r85 i85, .slice A86 n86 c86]] w81 fun e87 w88 => ∃ (b89 : Bool), e87 = .returned (.bool b89) ∧ (
  Kr b89 w88)) (
  Kr false w81))) (
  Kr false w73)) (
  Kr false w73)) (
  Kr false w73))) (
  Kr false w70))) (
  Kr false w64)) (
  Kr false w64))) (
  Kr false w60)) (
  Kr false w60)) (
  Kr false w60))) (
  Kr false w55)))))))))))))))
def wp  (w : World) (Q : Ending → World → Prop) : Prop :=
  Calls Tryd.prog 8 #[.agg #[.bool false, .int .i64 (7 : Int)]] w fun e1 w2 => ∃ (A3_0 : Option Addr) (n3_0 : Nat) (c3_0 : Nat) (x3_1 : Int), e1 = .returned (.tuple #[.slice A3_0 n3_0 c3_0, .int .i64 x3_1]) ∧ (
  Calls Tryd.prog 10 #[.agg #[.bool true, .int .i64 (1 : Int)], .string (⟨#[97, 98]⟩ : ByteArray)] w2 fun e4 w5 => ∃ (A6_0 : Option Addr) (n6_0 : Nat) (c6_0 : Nat) (x6_1 : Int), e4 = .returned (.tuple #[.slice A6_0 n6_0 c6_0, .int .i64 x6_1]) ∧ (
  alW w5 (.cells #[.int .u8 (97 : Int)] 5) fun B7 w8 =>
  Calls Tryd.prog 19 #[.slice (some (⟨B7, 0, Option.none⟩ : Addr)) 1 1, .int .i64 (5 : Int)] w8 fun e9 w10 => ∃ (A11_0 : Option Addr) (n11_0 : Nat) (c11_0 : Nat) (x11_1 : Int), e9 = .returned (.tuple #[.slice A11_0 n11_0 c11_0, .int .i64 x11_1]) ∧ (
  Calls Tryd.prog 21 #[.slice A11_0 n11_0 c11_0] w10 fun e12 w13 => ∃ (A14_0 : Option Addr) (n14_0 : Nat) (c14_0 : Nat) (x14_1 : Int) (x14_2 : Int), e12 = .returned (.tuple #[.slice A14_0 n14_0 c14_0, .int .i64 x14_1, .int .i64 x14_2]) ∧ (
  Calls Tryd.prog 26 #[.agg #[.int .i64 (2 : Int), .int .i64 (0 : Int), .complex .f64 4613937818241073152 4607182418800017408, .slice none 0 0]] w13 fun e15 w16 => ∃ (A17_0 : Option Addr) (n17_0 : Nat) (c17_0 : Nat) (x17_1 : Int), e15 = .returned (.tuple #[.slice A17_0 n17_0 c17_0, .int .i64 x17_1]) ∧ (
  alW w16 (.cells #[.int .u8 (2 : Int), .int .u8 (6 : Int), .int .u8 (2 : Int)] 5) fun B18 w19 =>
  Calls Tryd.prog 27 #[.slice (some (⟨B18, 0, Option.none⟩ : Addr)) 3 3] w19 fun e20 w21 => ∃ (x22_0_0 : Int) (x22_0_1 : Int) (r22_0_2 : Nat) (i22_0_2 : Nat) (A22_0_3 : Option Addr) (n22_0_3 : Nat) (c22_0_3 : Nat) (x22_1 : Int), e20 = .returned (.tuple #[.agg #[.int .i64 x22_0_0, .int .i64 x22_0_1, .complex .f64 r22_0_2 i22_0_2, .slice A22_0_3 n22_0_3 c22_0_3], .int .i64 x22_1]) ∧ (
  alW w21 (.cells #[.int .i64 (0 : Int), .int .i64 (0 : Int), .complex .f64 0 0, .slice none 0 0] 54) fun B23 w24 =>
  stW w24 (⟨B23, 0, Option.none⟩ : Addr) (.int .i64 x22_0_0) fun w25 =>
  stW w25 ((⟨B23, 0, Option.none⟩ : Addr).add 1) (.int .i64 x22_0_1) fun w26 =>
  stW w26 ((⟨B23, 0, Option.none⟩ : Addr).add 2) (.complex .f64 r22_0_2 i22_0_2) fun w27 =>
  stW w27 ((⟨B23, 0, Option.none⟩ : Addr).add 3) (.slice A22_0_3 n22_0_3 c22_0_3) fun w28 =>
  Calls Tryd.prog 16 #[.slice A6_0 n6_0 c6_0] w28 fun e29 w30 => ∃ (b31_0_0 : Bool) (x31_0_1 : Int) (s31_1 : ByteArray) (b31_2 : Bool), e29 = .returned (.tuple #[.agg #[.bool b31_0_0, .int .i64 x31_0_1], .string s31_1, .bool b31_2]) ∧ (
  alW w30 (.cells #[.bool false, .int .i64 (0 : Int)] 23) fun B32 w33 =>
  stW w33 (⟨B32, 0, Option.none⟩ : Addr) (.bool b31_0_0) fun w34 =>
  stW w34 ((⟨B32, 0, Option.none⟩ : Addr).add 1) (.int .i64 x31_0_1) fun w35 =>
  Calls Tryd.prog 28 #[.agg #[.int .i64 (0 : Int), .int .i64 (1 : Int), .int .i64 (2 : Int), .int .i64 (300 : Int)]] w35 fun e36 w37 => ∃ (A38_0 : Option Addr) (n38_0 : Nat) (c38_0 : Nat) (x38_1 : Int), e36 = .returned (.tuple #[.slice A38_0 n38_0 c38_0, .int .i64 x38_1]) ∧ (
  j0 A3_0 n3_0 c3_0 x3_1 A6_0 n6_0 c6_0 x6_1 A11_0 n11_0 c11_0 x11_1 A14_0 n14_0 c14_0 x14_1 x14_2 A17_0 n17_0 c17_0 x17_1 (⟨B23, 0, Option.none⟩ : Addr) x22_1 (⟨B32, 0, Option.none⟩ : Addr) s31_1 b31_2 A38_0 n38_0 c38_0 x38_1 w37 (fun (b90 : Bool) (w91 : World) => ∀ _ : Fr,
  Q (.returned (.bool b90)) w91)))))))))
def D : Nat → Option DH := dtab []
def j0LO : LO := ⟨[], [0], [], []⟩
def j0T : Spec := fun Q σ w =>
  gSlice (σ 1) fun At1 nt1 ct1 =>
  gInt .i64 (σ 2) fun xt2 =>
  gSlice (σ 3) fun At3 nt3 ct3 =>
  gInt .i64 (σ 4) fun xt4 =>
  gSlice (σ 5) fun At5 nt5 ct5 =>
  gInt .i64 (σ 6) fun xt6 =>
  gSlice (σ 7) fun At7 nt7 ct7 =>
  gInt .i64 (σ 8) fun xt8 =>
  gInt .i64 (σ 9) fun xt9 =>
  gSlice (σ 10) fun At10 nt10 ct10 =>
  gInt .i64 (σ 11) fun xt11 =>
  gAd (σ 12) fun at12 =>
  gInt .i64 (σ 13) fun xt13 =>
  gAd (σ 14) fun at14 =>
  gStr (σ 15) fun st15 =>
  gBool (σ 16) fun bt16 =>
  gSlice (σ 17) fun At17 nt17 ct17 =>
  gInt .i64 (σ 18) fun xt18 =>
  j0 At1 nt1 ct1 xt2 At3 nt3 ct3 xt4 At5 nt5 ct5 xt6 At7 nt7 ct7 xt8 xt9 At10 nt10 ct10 xt11 at12 xt13 at14 st15 bt16 At17 nt17 ct17 xt18 w (fun (bq0 : Bool) (w : World) => ∀ d : Fr, Q .ret (ov d [(0, .bool bq0)]) w)
def j0tb : List (List Nat × Spec) := []
noncomputable def j0b : Code := (subC [1, 1, 1, 1, 1, 1, 1, 1, 1] body).getD .skip
theorem j0_eq (At1 : Option Addr) (nt1 : Nat) (ct1 : Nat) (xt2 : Int) (At3 : Option Addr) (nt3 : Nat) (ct3 : Nat) (xt4 : Int) (At5 : Option Addr) (nt5 : Nat) (ct5 : Nat) (xt6 : Int) (At7 : Option Addr) (nt7 : Nat) (ct7 : Nat) (xt8 : Int) (xt9 : Int) (At10 : Option Addr) (nt10 : Nat) (ct10 : Nat) (xt11 : Int) (at12 : Addr) (xt13 : Int) (at14 : Addr) (st15 : ByteArray) (bt16 : Bool) (At17 : Option Addr) (nt17 : Nat) (ct17 : Nat) (xt18 : Int) (Q : PQ) (σ : Fr) (w : World) :
    j0 At1 nt1 ct1 xt2 At3 nt3 ct3 xt4 At5 nt5 ct5 xt6 At7 nt7 ct7 xt8 xt9 At10 nt10 ct10 xt11 at12 xt13 at14 st15 bt16 At17 nt17 ct17 xt18 w (fun (bq0 : Bool) (w : World) => ∀ d : Fr, Q .ret (ov d [(0, .bool bq0)]) w) = codeW Tryd.prog hT 171 D (tab j0tb) [1, 1, 1, 1, 1, 1, 1, 1, 1] j0b (widen j0LO Q) (ov σ [(1, .slice At1 nt1 ct1), (2, .int .i64 xt2), (3, .slice At3 nt3 ct3), (4, .int .i64 xt4), (5, .slice At5 nt5 ct5), (6, .int .i64 xt6), (7, .slice At7 nt7 ct7), (8, .int .i64 xt8), (9, .int .i64 xt9), (10, .slice At10 nt10 ct10), (11, .int .i64 xt11), (12, .pointer (some at12)), (13, .int .i64 xt13), (14, .pointer (some at14)), (15, .string st15), (16, .bool bt16), (17, .slice At17 nt17 ct17), (18, .int .i64 xt18)]) w := by cases bt16 <;> kernel_rfl
theorem j0_snd : ∀ c, subC [1, 1, 1, 1, 1, 1, 1, 1, 1] body = some c → Snd Tryd.prog 171 c j0T := by
  refine cut_of (hT := hT) (D := D) (l := j0tb) (b := j0b) (lo := j0LO) (by kernel_rfl) (by
    intro x hx
    simp only [j0tb, List.not_mem_nil] at hx
    ) (by kernel_rfl) (by kernel_rfl) ?_
  intro Q σ w h
  unfold j0T at h
  obtain ⟨At1, nt1, ct1, h1, hn⟩ := gSlice_elim h
  clear h
  have h := hn
  clear hn
  obtain ⟨xt2, h2, hn⟩ := gInt_elim h
  clear h
  have h := hn
  clear hn
  obtain ⟨At3, nt3, ct3, h3, hn⟩ := gSlice_elim h
  clear h
  have h := hn
  clear hn
  obtain ⟨xt4, h4, hn⟩ := gInt_elim h
  clear h
  have h := hn
  clear hn
  obtain ⟨At5, nt5, ct5, h5, hn⟩ := gSlice_elim h
  clear h
  have h := hn
  clear hn
  obtain ⟨xt6, h6, hn⟩ := gInt_elim h
  clear h
  have h := hn
  clear hn
  obtain ⟨At7, nt7, ct7, h7, hn⟩ := gSlice_elim h
  clear h
  have h := hn
  clear hn
  obtain ⟨xt8, h8, hn⟩ := gInt_elim h
  clear h
  have h := hn
  clear hn
  obtain ⟨xt9, h9, hn⟩ := gInt_elim h
  clear h
  have h := hn
  clear hn
  obtain ⟨At10, nt10, ct10, h10, hn⟩ := gSlice_elim h
  clear h
  have h := hn
  clear hn
  obtain ⟨xt11, h11, hn⟩ := gInt_elim h
  clear h
  have h := hn
  clear hn
  obtain ⟨at12, h12, hn⟩ := gAd_elim h
  clear h
  have h := hn
  clear hn
  obtain ⟨xt13, h13, hn⟩ := gInt_elim h
  clear h
  have h := hn
  clear hn
  obtain ⟨at14, h14, hn⟩ := gAd_elim h
  clear h
  have h := hn
  clear hn
  obtain ⟨st15, h15, hn⟩ := gStr_elim h
  clear h
  have h := hn
  clear hn
  obtain ⟨bt16, h16, hn⟩ := gBool_elim h
  clear h
  have h := hn
  clear hn
  obtain ⟨At17, nt17, ct17, h17, hn⟩ := gSlice_elim h
  clear h
  have h := hn
  clear hn
  obtain ⟨xt18, h18, hn⟩ := gInt_elim h
  clear h
  have h := hn
  clear hn
  rw [j0_eq (σ := σ)] at h
  have e : (ov σ [(1, .slice At1 nt1 ct1), (2, .int .i64 xt2), (3, .slice At3 nt3 ct3), (4, .int .i64 xt4), (5, .slice At5 nt5 ct5), (6, .int .i64 xt6), (7, .slice At7 nt7 ct7), (8, .int .i64 xt8), (9, .int .i64 xt9), (10, .slice At10 nt10 ct10), (11, .int .i64 xt11), (12, .pointer (some at12)), (13, .int .i64 xt13), (14, .pointer (some at14)), (15, .string st15), (16, .bool bt16), (17, .slice At17 nt17 ct17), (18, .int .i64 xt18)]) = σ := ov_self (by simp [h1, h2, h3, h4, h5, h6, h7, h8, h9, h10, h11, h12, h13, h14, h15, h16, h17, h18])
  rw [e] at h
  exact h
def tb : List (List Nat × Spec) := [([1, 1, 1, 1, 1, 1, 1, 1, 1], j0T)]
theorem wp_eq  (w : World) (Q : Ending → World → Prop) :
    wp  w Q = codeW Tryd.prog hT 171 D (tab tb) [] body (topQ Tryd.prog hT 171 [.tmp 0] Q) (argsF []) w := by kernel_rfl
theorem ok  (w : World) (Q : Ending → World → Prop) (h : wp  w Q) : Calls Tryd.prog 7 #[] w Q := by
  rw [wp_eq] at h
  exact calls_of_codeW (c := body) (rs := [.tmp 0]) Tryd.func7 (by kernel_rfl) (by kernel_rfl) (by kernel_rfl) (by kernel_rfl) (by kernel_rfl) (tab_snd (by
    intro x hx
    simp only [tb, List.mem_cons, List.not_mem_nil, or_false] at hx
    subst hx
    exact j0_snd)) (by kernel_rfl) h
end f_law04_alive
namespace f_keys_PutValue
/-! skein/keys.PutValue: function 26 -/
noncomputable def body : Code := (Tryd.f26.body).getD .skip
def wp (xa0_0 : Int) (xa0_1 : Int) (ra0_2 : Nat) (ia0_2 : Nat) (Aa0_3 : Option Addr) (na0_3 : Nat) (ca0_3 : Nat) (w : World) (Q : Ending → World → Prop) : Prop :=
  alW w (.cells #[.int .i64 xa0_0, .int .i64 xa0_1, .complex .f64 ra0_2 ia0_2, .slice Aa0_3 na0_3 ca0_3] 54) fun B1 w2 =>
  ldI w2 (⟨B1, 0, Option.none⟩ : Addr) .i64 fun x3 =>
  ldI w2 ((⟨B1, 0, Option.none⟩ : Addr).add 1) .i64 fun x4 =>
  ldC w2 ((⟨B1, 0, Option.none⟩ : Addr).add 2) .f64 fun r5 i5 =>
  ldS w2 ((⟨B1, 0, Option.none⟩ : Addr).add 3) fun A6 n6 c6 =>
  Calls Tryd.prog 30 #[.agg #[.int .i64 x3, .int .i64 x4, .complex .f64 r5 i5, .slice A6 n6 c6]] w2 fun e7 w8 => ∃ (b9 : Bool), e7 = .returned (.bool b9) ∧ (
  sel (!b9) (
  Q (.returned (.tuple #[.slice none 0 0, .int .i64 (54 : Int)])) w8) (
  ldI w8 (⟨B1, 0, Option.none⟩ : Addr) .i64 fun x10 =>
  alW w8 (.cells #[.int .u8 (IntKind.u8.wrap x10)] 5) fun B11 w12 =>
  ldI w12 (⟨B1, 0, Option.none⟩ : Addr) .i64 fun x13 =>
  sel (x13 == (1 : Int)) (
  ldI w12 ((⟨B1, 0, Option.none⟩ : Addr).add 1) .i64 fun x14 =>
  Calls Tryd.prog 49 #[.int .i64 x14] w12 fun e15 w16 => ∃ (A17 : Option Addr) (n17 : Nat) (c17 : Nat), e15 = .returned (.slice A17 n17 c17) ∧ (
  Runs Tryd.prog (Builtin.append_ #[24, 24] 24 #[.slice (some (⟨B11, 0, Option.none⟩ : Addr)) 1 1, .slice A17 n17 c17]) w16 fun v19 w18 => ∃ (A20 : Option Addr) (n20 : Nat) (c20 : Nat), v19 = (.slice A20 n20 c20) ∧ (
  Q (.returned (.tuple #[.slice A20 n20 c20, .int .i64 (0 : Int)])) w18))) (
  sel (x13 == (2 : Int)) (
  ldC w12 ((⟨B1, 0, Option.none⟩ : Addr).add 2) .f64 fun r21 i21 =>
  Calls Tryd.prog 50 #[.complex .f64 r21 i21] w12 fun e22 w23 => ∃ (A24_0 : Option Addr) (n24_0 : Nat) (c24_0 : Nat) (x24_1 : Int), e22 = .returned (.tuple #[.slice A24_0 n24_0 c24_0, .int .i64 x24_1]) ∧ (
  Runs Tryd.prog (Builtin.append_ #[24, 24] 24 #[.slice (some (⟨B11, 0, Option.none⟩ : Addr)) 1 1, .slice A24_0 n24_0 c24_0]) w23 fun v26 w25 => ∃ (A27 : Option Addr) (n27 : Nat) (c27 : Nat), v26 = (.slice A27 n27 c27) ∧ (
  Q (.returned (.tuple #[.slice A27 n27 c27, .int .i64 x24_1])) w25))) (
  ldS w12 ((⟨B1, 0, Option.none⟩ : Addr).add 3) fun A28 n28 c28 =>
  Calls Tryd.prog 51 #[.slice A28 n28 c28] w12 fun e29 w30 => ∃ (A31 : Option Addr) (n31 : Nat) (c31 : Nat), e29 = .returned (.slice A31 n31 c31) ∧ (
  Runs Tryd.prog (Builtin.append_ #[24, 24] 24 #[.slice (some (⟨B11, 0, Option.none⟩ : Addr)) 1 1, .slice A31 n31 c31]) w30 fun v33 w32 => ∃ (A34 : Option Addr) (n34 : Nat) (c34 : Nat), v33 = (.slice A34 n34 c34) ∧ (
  Q (.returned (.tuple #[.slice A34 n34 c34, .int .i64 (0 : Int)])) w32))))))
def D : Nat → Option DH := dtab []
def tb : List (List Nat × Spec) := []
theorem wp_eq (xa0_0 : Int) (xa0_1 : Int) (ra0_2 : Nat) (ia0_2 : Nat) (Aa0_3 : Option Addr) (na0_3 : Nat) (ca0_3 : Nat) (w : World) (Q : Ending → World → Prop) :
    wp xa0_0 xa0_1 ra0_2 ia0_2 Aa0_3 na0_3 ca0_3 w Q = codeW Tryd.prog hT 40 D (tab tb) [] body (topQ Tryd.prog hT 40 [.tmp 2, .tmp 3] Q) (argsF [.agg #[.int .i64 xa0_0, .int .i64 xa0_1, .complex .f64 ra0_2 ia0_2, .slice Aa0_3 na0_3 ca0_3]]) w := by kernel_rfl
theorem ok (xa0_0 : Int) (xa0_1 : Int) (ra0_2 : Nat) (ia0_2 : Nat) (Aa0_3 : Option Addr) (na0_3 : Nat) (ca0_3 : Nat) (w : World) (Q : Ending → World → Prop) (h : wp xa0_0 xa0_1 ra0_2 ia0_2 Aa0_3 na0_3 ca0_3 w Q) : Calls Tryd.prog 26 #[.agg #[.int .i64 xa0_0, .int .i64 xa0_1, .complex .f64 ra0_2 ia0_2, .slice Aa0_3 na0_3 ca0_3]] w Q := by
  rw [wp_eq] at h
  exact calls_of_codeW (c := body) (rs := [.tmp 2, .tmp 3]) Tryd.func26 (by kernel_rfl) (by kernel_rfl) (by kernel_rfl) (by kernel_rfl) (by kernel_rfl) (tab_snd (by
    intro x hx
    simp only [tb, List.not_mem_nil] at hx
    )) (by kernel_rfl) h
end f_keys_PutValue
namespace f_keys_GetValue
/-! skein/keys.GetValue: function 27 -/
noncomputable def body : Code := (Tryd.f27.body).getD .skip
def j1 (at2 : Addr) (at4 : Addr) (xt6 : Int) (w : World) (Kr : Int → World → Prop) : Prop :=
  sel (xt6 != (0 : Int)) (
  stW w at2 (.int .i64 (0 : Int)) fun w24 =>
  stW w24 (at2.add 1) (.int .i64 (0 : Int)) fun w25 =>
  stW w25 (at2.add 2) (.complex .f64 0 0) fun w26 =>
  stW w26 (at2.add 3) (.slice none 0 0) fun w27 =>
  Kr xt6 w27) (
  ldI w at4 .i64 fun x28 =>
  ldI w (at4.add 1) .i64 fun x29 =>
  ldC w (at4.add 2) .f64 fun r30 i30 =>
  ldS w (at4.add 3) fun A31 n31 c31 =>
  stW w at2 (.int .i64 x28) fun w32 =>
  stW w32 (at2.add 1) (.int .i64 x29) fun w33 =>
  stW w33 (at2.add 2) (.complex .f64 r30 i30) fun w34 =>
  stW w34 (at2.add 3) (.slice A31 n31 c31) fun w35 =>
  Kr (0 : Int) w35)
def j0 (At0 : Option Addr) (nt0 : Nat) (ct0 : Nat) (at2 : Addr) (at4 : Addr) (xt5 : Int) (xt6 : Int) (w : World) (Kr : Int → World → Prop) : Prop :=
  sel (xt6 == (0 : Int)) (
  sel (decide (xt5 < (nt0 : Int))) (
  j1 at2 at4 (3 : Int) w (fun (x36 : Int) (w37 : World) => ∀ _ : Fr,
  Kr x36 w37)) (
  j1 at2 at4 xt6 w (fun (x38 : Int) (w39 : World) => ∀ _ : Fr,
  Kr x38 w39))) (
  j1 at2 at4 xt6 w (fun (x40 : Int) (w41 : World) => ∀ _ : Fr,
  Kr x40 w41))
def wp (Aa0 : Option Addr) (na0 : Nat) (ca0 : Nat) (w : World) (Q : Ending → World → Prop) : Prop :=
  alW w (.cells #[.int .i64 (0 : Int), .int .i64 (0 : Int), .complex .f64 0 0, .slice none 0 0] 54) fun B1 w2 =>
  sel ((na0 : Int) == (0 : Int)) (
  stW w2 (⟨B1, 0, Option.none⟩ : Addr) (.int .i64 (0 : Int)) fun w3 =>
  stW w3 ((⟨B1, 0, Option.none⟩ : Addr).add 1) (.int .i64 (0 : Int)) fun w4 =>
  stW w4 ((⟨B1, 0, Option.none⟩ : Addr).add 2) (.complex .f64 0 0) fun w5 =>
  stW w5 ((⟨B1, 0, Option.none⟩ : Addr).add 3) (.slice none 0 0) fun w6 =>
  ldI w6 (⟨B1, 0, Option.none⟩ : Addr) .i64 fun x7 =>
  ldI w6 ((⟨B1, 0, Option.none⟩ : Addr).add 1) .i64 fun x8 =>
  ldC w6 ((⟨B1, 0, Option.none⟩ : Addr).add 2) .f64 fun r9 i9 =>
  ldS w6 ((⟨B1, 0, Option.none⟩ : Addr).add 3) fun A10 n10 c10 =>
  Q (.returned (.tuple #[.agg #[.int .i64 x7, .int .i64 x8, .complex .f64 r9 i9, .slice A10 n10 c10], .int .i64 (2 : Int)])) w6) (
  optB Aa0 fun a11 =>
  req (decide (0 ≤ (0 : Int) ∧ (0 : Int) < (na0 : Int))) <|
  ldI w2 (a11.add ((0 : Int).toNat * 1)) .u8 fun x12 =>
  alW w2 (.cells #[.int .i64 (0 : Int), .int .i64 (0 : Int), .complex .f64 0 0, .slice none 0 0] 54) fun B13 w14 =>
  stW w14 (⟨B13, 0, Option.none⟩ : Addr) (.int .i64 (IntKind.i64.wrap x12)) fun w15 =>
  stW w15 ((⟨B13, 0, Option.none⟩ : Addr).add 1) (.int .i64 (0 : Int)) fun w16 =>
  stW w16 ((⟨B13, 0, Option.none⟩ : Addr).add 2) (.complex .f64 0 0) fun w17 =>
  stW w17 ((⟨B13, 0, Option.none⟩ : Addr).add 3) (.slice none 0 0) fun w18 =>
  ldI w18 (⟨B13, 0, Option.none⟩ : Addr) .i64 fun x19 =>
  sel (x19 == (1 : Int)) (
  Calls Tryd.prog 52 #[.slice Aa0 na0 ca0, .int .i64 (1 : Int)] w18 fun e20 w21 => ∃ (x22_0 : Int) (x22_1 : Int) (x22_2 : Int), e20 = .returned (.tuple #[.int .i64 x22_0, .int .i64 x22_1, .int .i64 x22_2]) ∧ (
  stW w21 ((⟨B13, 0, Option.none⟩ : Addr).add 1) (.int .i64 x22_0) fun w23 =>
  j0 Aa0 na0 ca0 (⟨B1, 0, Option.none⟩ : Addr) (⟨B13, 0, Option.none⟩ : Addr) x22_1 x22_2 w23 (fun (x42 : Int) (w43 : World) => ∀ _ : Fr,
  ldI w43 (⟨B1, 0, Option.none⟩ : Addr) .i64 fun x44 =>
  ldI w43 ((⟨B1, 0, Option.none⟩ : Addr).add 1) .i64 fun x45 =>
  ldC w43 ((⟨B1, 0, Option.none⟩ : Addr).add 2) .f64 fun r46 i46 =>
  ldS w43 ((⟨B1, 0, Option.none⟩ : Addr).add 3) fun A47 n47 c47 =>
  Q (.returned (.tuple #[.agg #[.int .i64 x44, .int .i64 x45, .complex .f64 r46 i46, .slice A47 n47 c47], .int .i64 x42])) w43))) (
  sel (x19 == (2 : Int)) (
  Calls Tryd.prog 53 #[.slice Aa0 na0 ca0, .int .i64 (1 : Int)] w18 fun e48 w49 => ∃ (r50_0 : Nat) (i50_0 : Nat) (x50_1 : Int) (x50_2 : Int), e48 = .returned (.tuple #[.complex .f64 r50_0 i50_0, .int .i64 x50_1, .int .i64 x50_2]) ∧ (
  stW w49 ((⟨B13, 0, Option.none⟩ : Addr).add 2) (.complex .f64 r50_0 i50_0) fun w51 =>
  j0 Aa0 na0 ca0 (⟨B1, 0, Option.none⟩ : Addr) (⟨B13, 0, Option.none⟩ : Addr) x50_1 x50_2 w51 (fun (x52 : Int) (w53 : World) => ∀ _ : Fr,
  ldI w53 (⟨B1, 0, Option.none⟩ : Addr) .i64 fun x54 =>
  ldI w53 ((⟨B1, 0, Option.none⟩ : Addr).add 1) .i64 fun x55 =>
  ldC w53 ((⟨B1, 0, Option.none⟩ : Addr).add 2) .f64 fun r56 i56 =>
  ldS w53 ((⟨B1, 0, Option.none⟩ : Addr).add 3) fun A57 n57 c57 =>
  Q (.returned (.tuple #[.agg #[.int .i64 x54, .int .i64 x55, .complex .f64 r56 i56, .slice A57 n57 c57], .int .i64 x52])) w53))) (
  sel (x19 == (3 : Int)) (
  Calls Tryd.prog 54 #[.slice Aa0 na0 ca0, .int .i64 (1 : Int), .int .i64 (60 : Int)] w18 fun e58 w59 => ∃ (A60_0 : Option Addr) (n60_0 : Nat) (c60_0 : Nat) (x60_1 : Int) (x60_2 : Int), e58 = .returned (.tuple #[.slice A60_0 n60_0 c60_0, .int .i64 x60_1, .int .i64 x60_2]) ∧ (
  stW w59 ((⟨B13, 0, Option.none⟩ : Addr).add 3) (.slice A60_0 n60_0 c60_0) fun w61 =>
  j0 Aa0 na0 ca0 (⟨B1, 0, Option.none⟩ : Addr) (⟨B13, 0, Option.none⟩ : Addr) x60_1 x60_2 w61 (fun (x62 : Int) (w63 : World) => ∀ _ : Fr,
  ldI w63 (⟨B1, 0, Option.none⟩ : Addr) .i64 fun x64 =>
  ldI w63 ((⟨B1, 0, Option.none⟩ : Addr).add 1) .i64 fun x65 =>
  ldC w63 ((⟨B1, 0, Option.none⟩ : Addr).add 2) .f64 fun r66 i66 =>
  ldS w63 ((⟨B1, 0, Option.none⟩ : Addr).add 3) fun A67 n67 c67 =>
  Q (.returned (.tuple #[.agg #[.int .i64 x64, .int .i64 x65, .complex .f64 r66 i66, .slice A67 n67 c67], .int .i64 x62])) w63))) (
  j0 Aa0 na0 ca0 (⟨B1, 0, Option.none⟩ : Addr) (⟨B13, 0, Option.none⟩ : Addr) (0 : Int) (5 : Int) w18 (fun (x68 : Int) (w69 : World) => ∀ _ : Fr,
  ldI w69 (⟨B1, 0, Option.none⟩ : Addr) .i64 fun x70 =>
  ldI w69 ((⟨B1, 0, Option.none⟩ : Addr).add 1) .i64 fun x71 =>
  ldC w69 ((⟨B1, 0, Option.none⟩ : Addr).add 2) .f64 fun r72 i72 =>
  ldS w69 ((⟨B1, 0, Option.none⟩ : Addr).add 3) fun A73 n73 c73 =>
  Q (.returned (.tuple #[.agg #[.int .i64 x70, .int .i64 x71, .complex .f64 r72 i72, .slice A73 n73 c73], .int .i64 x68])) w69)))))
def D : Nat → Option DH := dtab []
def j1LO : LO := ⟨[], [2, 3], [], []⟩
def j1T : Spec := fun Q σ w =>
  gAd (σ 2) fun at2 =>
  gAd (σ 4) fun at4 =>
  gInt .i64 (σ 6) fun xt6 =>
  j1 at2 at4 xt6 w (fun (xq3 : Int) (w : World) => ∀ d : Fr, Q .ret (ov d [(2, .pointer (some at2)), (3, .int .i64 xq3)]) w)
def j1tb : List (List Nat × Spec) := []
noncomputable def j1b : Code := (subC [1, 1, 1, 1, 1, 1, 1] body).getD .skip
theorem j1_eq (at2 : Addr) (at4 : Addr) (xt6 : Int) (Q : PQ) (σ : Fr) (w : World) :
    j1 at2 at4 xt6 w (fun (xq3 : Int) (w : World) => ∀ d : Fr, Q .ret (ov d [(2, .pointer (some at2)), (3, .int .i64 xq3)]) w) = codeW Tryd.prog hT 58 D (tab j1tb) [1, 1, 1, 1, 1, 1, 1] j1b (widen j1LO Q) (ov σ [(2, .pointer (some at2)), (4, .pointer (some at4)), (6, .int .i64 xt6)]) w := by kernel_rfl
theorem j1_snd : ∀ c, subC [1, 1, 1, 1, 1, 1, 1] body = some c → Snd Tryd.prog 58 c j1T := by
  refine cut_of (hT := hT) (D := D) (l := j1tb) (b := j1b) (lo := j1LO) (by kernel_rfl) (by
    intro x hx
    simp only [j1tb, List.not_mem_nil] at hx
    ) (by kernel_rfl) (by kernel_rfl) ?_
  intro Q σ w h
  unfold j1T at h
  obtain ⟨at2, h2, hn⟩ := gAd_elim h
  clear h
  have h := hn
  clear hn
  obtain ⟨at4, h4, hn⟩ := gAd_elim h
  clear h
  have h := hn
  clear hn
  obtain ⟨xt6, h6, hn⟩ := gInt_elim h
  clear h
  have h := hn
  clear hn
  rw [j1_eq (σ := σ)] at h
  have e : (ov σ [(2, .pointer (some at2)), (4, .pointer (some at4)), (6, .int .i64 xt6)]) = σ := ov_self (by simp [h2, h4, h6])
  rw [e] at h
  exact h
def j0LO : LO := ⟨[], [2, 3], [], []⟩
def j0T : Spec := fun Q σ w =>
  gSlice (σ 0) fun At0 nt0 ct0 =>
  gAd (σ 2) fun at2 =>
  gAd (σ 4) fun at4 =>
  gInt .i64 (σ 5) fun xt5 =>
  gInt .i64 (σ 6) fun xt6 =>
  j0 At0 nt0 ct0 at2 at4 xt5 xt6 w (fun (xq3 : Int) (w : World) => ∀ d : Fr, Q .ret (ov d [(2, .pointer (some at2)), (3, .int .i64 xq3)]) w)
def j0tb : List (List Nat × Spec) := [([1, 1, 1, 1, 1, 1, 1], j1T)]
noncomputable def j0b : Code := (subC [1, 1, 1, 1, 1, 1] body).getD .skip
theorem j0_eq (At0 : Option Addr) (nt0 : Nat) (ct0 : Nat) (at2 : Addr) (at4 : Addr) (xt5 : Int) (xt6 : Int) (Q : PQ) (σ : Fr) (w : World) :
    j0 At0 nt0 ct0 at2 at4 xt5 xt6 w (fun (xq3 : Int) (w : World) => ∀ d : Fr, Q .ret (ov d [(2, .pointer (some at2)), (3, .int .i64 xq3)]) w) = codeW Tryd.prog hT 58 D (tab j0tb) [1, 1, 1, 1, 1, 1] j0b (widen j0LO Q) (ov σ [(0, .slice At0 nt0 ct0), (2, .pointer (some at2)), (4, .pointer (some at4)), (5, .int .i64 xt5), (6, .int .i64 xt6)]) w := by kernel_rfl
theorem j0_snd : ∀ c, subC [1, 1, 1, 1, 1, 1] body = some c → Snd Tryd.prog 58 c j0T := by
  refine cut_of (hT := hT) (D := D) (l := j0tb) (b := j0b) (lo := j0LO) (by kernel_rfl) (by
    intro x hx
    simp only [j0tb, List.mem_cons, List.not_mem_nil, or_false] at hx
    subst hx
    exact j1_snd) (by kernel_rfl) (by kernel_rfl) ?_
  intro Q σ w h
  unfold j0T at h
  obtain ⟨At0, nt0, ct0, h0, hn⟩ := gSlice_elim h
  clear h
  have h := hn
  clear hn
  obtain ⟨at2, h2, hn⟩ := gAd_elim h
  clear h
  have h := hn
  clear hn
  obtain ⟨at4, h4, hn⟩ := gAd_elim h
  clear h
  have h := hn
  clear hn
  obtain ⟨xt5, h5, hn⟩ := gInt_elim h
  clear h
  have h := hn
  clear hn
  obtain ⟨xt6, h6, hn⟩ := gInt_elim h
  clear h
  have h := hn
  clear hn
  rw [j0_eq (σ := σ)] at h
  have e : (ov σ [(0, .slice At0 nt0 ct0), (2, .pointer (some at2)), (4, .pointer (some at4)), (5, .int .i64 xt5), (6, .int .i64 xt6)]) = σ := ov_self (by simp [h0, h2, h4, h5, h6])
  rw [e] at h
  exact h
def tb : List (List Nat × Spec) := [([1, 1, 1, 1, 1, 1, 1], j1T), ([1, 1, 1, 1, 1, 1], j0T)]
theorem wp_eq (Aa0 : Option Addr) (na0 : Nat) (ca0 : Nat) (w : World) (Q : Ending → World → Prop) :
    wp Aa0 na0 ca0 w Q = codeW Tryd.prog hT 58 D (tab tb) [] body (topQ Tryd.prog hT 58 [.cell 2 54, .tmp 3] Q) (argsF [.slice Aa0 na0 ca0]) w := by kernel_rfl
theorem ok (Aa0 : Option Addr) (na0 : Nat) (ca0 : Nat) (w : World) (Q : Ending → World → Prop) (h : wp Aa0 na0 ca0 w Q) : Calls Tryd.prog 27 #[.slice Aa0 na0 ca0] w Q := by
  rw [wp_eq] at h
  exact calls_of_codeW (c := body) (rs := [.cell 2 54, .tmp 3]) Tryd.func27 (by kernel_rfl) (by kernel_rfl) (by kernel_rfl) (by kernel_rfl) (by kernel_rfl) (tab_snd (by
    intro x hx
    simp only [tb, List.mem_cons, List.not_mem_nil, or_false] at hx
    rcases hx with rfl | rfl
    · exact j1_snd
    · exact j0_snd)) (by kernel_rfl) h
end f_keys_GetValue
namespace f_keys_PutEnds
/-! skein/keys.PutEnds: function 28 -/
noncomputable def body : Code := (Tryd.f28.body).getD .skip
def wp (xa0_0 : Int) (xa0_1 : Int) (xa0_2 : Int) (xa0_3 : Int) (w : World) (Q : Ending → World → Prop) : Prop :=
  alW w (.cells #[.int .i64 xa0_0, .int .i64 xa0_1, .int .i64 xa0_2, .int .i64 xa0_3] 59) fun B1 w2 =>
  drW w2 fun w3 =>
  ldI w3 ((⟨B1, 0, Option.none⟩ : Addr).add 1) .i64 fun x5 =>
  ldI w3 ((⟨B1, 0, Option.none⟩ : Addr).add 2) .i64 fun x6 =>
  ldI w3 ((⟨B1, 0, Option.none⟩ : Addr).add 3) .i64 fun x7 =>
  Calls Tryd.prog 55 #[.int .u64 (IntKind.u64.wrap x5), .int .u64 (IntKind.u64.wrap x6), .int .u64 (IntKind.u64.wrap x7)] w3 fun e8 w9 => ∃ (x10 : Int), e8 = .returned (.int .i64 x10) ∧ (
  sel (x10 != (0 : Int)) (
  Q (.returned (.tuple #[.slice none 0 0, .int .i64 x10])) w9) (
  Calls Tryd.prog 56 #[.int .u64 (IntKind.u64.wrap x5)] w9 fun e11 w12 => ∃ (A13 : Option Addr) (n13 : Nat) (c13 : Nat), e11 = .returned (.slice A13 n13 c13) ∧ (
  Calls Tryd.prog 56 #[.int .u64 (IntKind.u64.wrap x6)] w12 fun e14 w15 => ∃ (A16 : Option Addr) (n16 : Nat) (c16 : Nat), e14 = .returned (.slice A16 n16 c16) ∧ (
  Runs Tryd.prog (Builtin.append_ #[24, 24] 24 #[.slice A13 n13 c13, .slice A16 n16 c16]) w15 fun v18 w17 => ∃ (A19 : Option Addr) (n19 : Nat) (c19 : Nat), v18 = (.slice A19 n19 c19) ∧ (
  Calls Tryd.prog 56 #[.int .u64 (IntKind.u64.wrap x7)] w17 fun e20 w21 => ∃ (A22 : Option Addr) (n22 : Nat) (c22 : Nat), e20 = .returned (.slice A22 n22 c22) ∧ (
  Runs Tryd.prog (Builtin.append_ #[24, 24] 24 #[.slice A19 n19 c19, .slice A22 n22 c22]) w21 fun v24 w23 => ∃ (A25 : Option Addr) (n25 : Nat) (c25 : Nat), v24 = (.slice A25 n25 c25) ∧ (
  Q (.returned (.tuple #[.slice A25 n25 c25, .int .i64 (0 : Int)])) w23)))))))
def D : Nat → Option DH := dtab [(1, .simple [.fst 0, .fst 1, .fst 2, .fst 3, .fst 4, .fst 5, .fst 6, .fst 7, .fst 8, .fst 9, .fst 10] [.fst 11])]
def tb : List (List Nat × Spec) := []
theorem wp_eq (xa0_0 : Int) (xa0_1 : Int) (xa0_2 : Int) (xa0_3 : Int) (w : World) (Q : Ending → World → Prop) :
    wp xa0_0 xa0_1 xa0_2 xa0_3 w Q = codeW Tryd.prog hT 32 D (tab tb) [] body (topQ Tryd.prog hT 32 [.tmp 2, .tmp 3] Q) (argsF [.agg #[.int .i64 xa0_0, .int .i64 xa0_1, .int .i64 xa0_2, .int .i64 xa0_3]]) w := by kernel_rfl
theorem ok (xa0_0 : Int) (xa0_1 : Int) (xa0_2 : Int) (xa0_3 : Int) (w : World) (Q : Ending → World → Prop) (h : wp xa0_0 xa0_1 xa0_2 xa0_3 w Q) : Calls Tryd.prog 28 #[.agg #[.int .i64 xa0_0, .int .i64 xa0_1, .int .i64 xa0_2, .int .i64 xa0_3]] w Q := by
  rw [wp_eq] at h
  exact calls_of_codeW (c := body) (rs := [.tmp 2, .tmp 3]) Tryd.func28 (by kernel_rfl) (by kernel_rfl) (by kernel_rfl) (by kernel_rfl) (by kernel_rfl) (tab_snd (by
    intro x hx
    simp only [tb, List.not_mem_nil] at hx
    )) (by kernel_rfl) h
end f_keys_PutEnds
namespace f_keys_GetEnds
/-! skein/keys.GetEnds: function 29 -/
noncomputable def body : Code := (Tryd.f29.body).getD .skip
def l0 : Nat → Option Addr → Nat → Nat → Addr → Addr → Int → Int → World → (Int → World → Prop) → (Int → World → Prop) → Prop
  | 0, _, _, _, _, _, _, _, _, _, _ => False
  | k + 1, At1, nt1, ct1, at4, at6, xt7, xt13, w, K0, Kr =>
    sel (decide (xt13 < (3 : Int))) (
    Calls Tryd.prog 57 #[.slice At1 nt1 ct1, .int .i64 xt7] w fun e5 w6 => ∃ (x7_0 : Int) (x7_1 : Int) (x7_2 : Int), e5 = .returned (.tuple #[.int .u64 x7_0, .int .i64 x7_1, .int .i64 x7_2]) ∧ (
    sel (x7_2 != (0 : Int)) (
    stW w6 at4 (.int .i64 (0 : Int)) fun w8 =>
    stW w8 (at4.add 1) (.int .i64 (0 : Int)) fun w9 =>
    stW w9 (at4.add 2) (.int .i64 (0 : Int)) fun w10 =>
    stW w10 (at4.add 3) (.int .i64 (0 : Int)) fun w11 =>
    Kr x7_2 w11) (
    req (decide (0 ≤ xt13 ∧ xt13 < ((3 : Nat) : Int))) <|
    stW w6 (at6.add (xt13.toNat * 1)) (.int .u64 x7_0) fun w12 =>
    l0 k At1 nt1 ct1 at4 at6 x7_1 (IntKind.i64.wrap (xt13 + (1 : Int))) w12 K0 Kr))) (
    K0 xt7 w)
def j1 (xt0 : Int) (at4 : Addr) (at6 : Addr) (xt12 : Int) (w : World) (Kr : Int → World → Prop) : Prop :=
  sel (xt12 != (0 : Int)) (
  stW w at4 (.int .i64 (0 : Int)) fun w21 =>
  stW w21 (at4.add 1) (.int .i64 (0 : Int)) fun w22 =>
  stW w22 (at4.add 2) (.int .i64 (0 : Int)) fun w23 =>
  stW w23 (at4.add 3) (.int .i64 (0 : Int)) fun w24 =>
  Kr xt12 w24) (
  ldI w (at6.add ((0 : Int).toNat * 1)) .u64 fun x25 =>
  ldI w (at6.add ((1 : Int).toNat * 1)) .u64 fun x26 =>
  ldI w (at6.add ((2 : Int).toNat * 1)) .u64 fun x27 =>
  stW w at4 (.int .i64 xt0) fun w28 =>
  stW w28 (at4.add 1) (.int .i64 (IntKind.i64.wrap x25)) fun w29 =>
  stW w29 (at4.add 2) (.int .i64 (IntKind.i64.wrap x26)) fun w30 =>
  stW w30 (at4.add 3) (.int .i64 (IntKind.i64.wrap x27)) fun w31 =>
  Kr (0 : Int) w31)
def wp (xa0 : Int) (Aa1 : Option Addr) (na1 : Nat) (ca1 : Nat) (w : World) (Q : Ending → World → Prop) : Prop :=
  alW w (.cells #[.int .i64 (0 : Int), .int .i64 (0 : Int), .int .i64 (0 : Int), .int .i64 (0 : Int)] 59) fun B1 w2 =>
  alW w2 (.cells #[.int .u64 (0 : Int), .int .u64 (0 : Int), .int .u64 (0 : Int)] 87) fun B3 w4 =>
  ∃ k56 : Nat, l0 k56 Aa1 na1 ca1 (⟨B1, 0, Option.none⟩ : Addr) (⟨B3, 0, Option.none⟩ : Addr) (0 : Int) (0 : Int) w4 (fun (x13 : Int) (w14 : World) => ∀ _ : Fr,
  ldI w14 ((⟨B3, 0, Option.none⟩ : Addr).add ((0 : Int).toNat * 1)) .u64 fun x15 =>
  ldI w14 ((⟨B3, 0, Option.none⟩ : Addr).add ((1 : Int).toNat * 1)) .u64 fun x16 =>
  ldI w14 ((⟨B3, 0, Option.none⟩ : Addr).add ((2 : Int).toNat * 1)) .u64 fun x17 =>
  Calls Tryd.prog 55 #[.int .u64 x15, .int .u64 x16, .int .u64 x17] w14 fun e18 w19 => ∃ (x20 : Int), e18 = .returned (.int .i64 x20) ∧ (
  sel (x20 == (0 : Int)) (
  sel (decide (x13 < (na1 : Int))) (
  j1 xa0 (⟨B1, 0, Option.none⟩ : Addr) (⟨B3, 0, Option.none⟩ : Addr) (3 : Int) w19 (fun (x32 : Int) (w33 : World) => ∀ _ : Fr,
  ldI w33 (⟨B1, 0, Option.none⟩ : Addr) .i64 fun x34 =>
  ldI w33 ((⟨B1, 0, Option.none⟩ : Addr).add 1) .i64 fun x35 =>
  ldI w33 ((⟨B1, 0, Option.none⟩ : Addr).add 2) .i64 fun x36 =>
  ldI w33 ((⟨B1, 0, Option.none⟩ : Addr).add 3) .i64 fun x37 =>
  Q (.returned (.tuple #[.agg #[.int .i64 x34, .int .i64 x35, .int .i64 x36, .int .i64 x37], .int .i64 x32])) w33)) (
  j1 xa0 (⟨B1, 0, Option.none⟩ : Addr) (⟨B3, 0, Option.none⟩ : Addr) x20 w19 (fun (x38 : Int) (w39 : World) => ∀ _ : Fr,
  ldI w39 (⟨B1, 0, Option.none⟩ : Addr) .i64 fun x40 =>
  ldI w39 ((⟨B1, 0, Option.none⟩ : Addr).add 1) .i64 fun x41 =>
  ldI w39 ((⟨B1, 0, Option.none⟩ : Addr).add 2) .i64 fun x42 =>
  ldI w39 ((⟨B1, 0, Option.none⟩ : Addr).add 3) .i64 fun x43 =>
  Q (.returned (.tuple #[.agg #[.int .i64 x40, .int .i64 x41, .int .i64 x42, .int .i64 x43], .int .i64 x38])) w39))) (
  j1 xa0 (⟨B1, 0, Option.none⟩ : Addr) (⟨B3, 0, Option.none⟩ : Addr) x20 w19 (fun (x44 : Int) (w45 : World) => ∀ _ : Fr,
  ldI w45 (⟨B1, 0, Option.none⟩ : Addr) .i64 fun x46 =>
  ldI w45 ((⟨B1, 0, Option.none⟩ : Addr).add 1) .i64 fun x47 =>
  ldI w45 ((⟨B1, 0, Option.none⟩ : Addr).add 2) .i64 fun x48 =>
  ldI w45 ((⟨B1, 0, Option.none⟩ : Addr).add 3) .i64 fun x49 =>
  Q (.returned (.tuple #[.agg #[.int .i64 x46, .int .i64 x47, .int .i64 x48, .int .i64 x49], .int .i64 x44])) w45)))) (fun (x50 : Int) (w51 : World) => ∀ _ : Fr,
  ldI w51 (⟨B1, 0, Option.none⟩ : Addr) .i64 fun x52 =>
  ldI w51 ((⟨B1, 0, Option.none⟩ : Addr).add 1) .i64 fun x53 =>
  ldI w51 ((⟨B1, 0, Option.none⟩ : Addr).add 2) .i64 fun x54 =>
  ldI w51 ((⟨B1, 0, Option.none⟩ : Addr).add 3) .i64 fun x55 =>
  Q (.returned (.tuple #[.agg #[.int .i64 x52, .int .i64 x53, .int .i64 x54, .int .i64 x55], .int .i64 x50])) w51)
def D : Nat → Option DH := dtab []
def l0LO : LO := ⟨[], [4, 5], [(0, [0, 1, 4, 6, 7])], []⟩
def l0Tk (k : Nat) : Spec := fun Q σ w =>
  gSlice (σ 1) fun At1 nt1 ct1 =>
  gAd (σ 4) fun at4 =>
  gAd (σ 6) fun at6 =>
  gInt .i64 (σ 7) fun xt7 =>
  gInt .i64 (σ 13) fun xt13 =>
  l0 k At1 nt1 ct1 at4 at6 xt7 xt13 w (fun (xq7 : Int) (w : World) => ∀ d : Fr, Q (.exit 0) (ov d [(0, σ 0), (1, .slice At1 nt1 ct1), (4, .pointer (some at4)), (6, .pointer (some at6)), (7, .int .i64 xq7)]) w) (fun (xq5 : Int) (w : World) => ∀ d : Fr, Q .ret (ov d [(4, .pointer (some at4)), (5, .int .i64 xq5)]) w)
def l0T : Spec := fun Q σ w => ∃ k, l0Tk k Q σ w
def l0tb : List (List Nat × Spec) := []
noncomputable def l0b : Code := (subC [0, 0, 1, 0, 1, 1, 1] body).getD .skip
theorem l0_eq (k : Nat) (At1 : Option Addr) (nt1 : Nat) (ct1 : Nat) (at4 : Addr) (at6 : Addr) (xt7 : Int) (xt13 : Int) (Q : PQ) (σ : Fr) (w : World) :
    l0 (k + 1) At1 nt1 ct1 at4 at6 xt7 xt13 w (fun (xq7 : Int) (w : World) => ∀ d : Fr, Q (.exit 0) (ov d [(0, σ 0), (1, .slice At1 nt1 ct1), (4, .pointer (some at4)), (6, .pointer (some at6)), (7, .int .i64 xq7)]) w) (fun (xq5 : Int) (w : World) => ∀ d : Fr, Q .ret (ov d [(4, .pointer (some at4)), (5, .int .i64 xq5)]) w) = codeW Tryd.prog hT 62 D (tab l0tb) [0, 0, 1, 0, 1, 1, 1] l0b (thenQ (l0Tk k Q) (widen l0LO Q)) (ov σ [(1, .slice At1 nt1 ct1), (4, .pointer (some at4)), (6, .pointer (some at6)), (7, .int .i64 xt7), (13, .int .i64 xt13)]) w := by kernel_rfl
theorem l0_snd : ∀ c, subC [0, 1, 0, 1, 1, 1] body = some c → Snd Tryd.prog 62 c l0T := by
  refine loop_of (hT := hT) (D := D) (l := l0tb) (b := l0b) (lo := l0LO) (by kernel_rfl) (by
    intro x hx
    simp only [l0tb, List.not_mem_nil] at hx
    ) (by kernel_rfl) (by kernel_rfl) ?_ ?_
  · intro Q σ w h
    unfold l0Tk at h
    obtain ⟨At1, nt1, ct1, h1, hn⟩ := gSlice_elim h
    clear h
    have h := hn
    clear hn
    obtain ⟨at4, h4, hn⟩ := gAd_elim h
    clear h
    have h := hn
    clear hn
    obtain ⟨at6, h6, hn⟩ := gAd_elim h
    clear h
    have h := hn
    clear hn
    obtain ⟨xt7, h7, hn⟩ := gInt_elim h
    clear h
    have h := hn
    clear hn
    obtain ⟨xt13, h13, hn⟩ := gInt_elim h
    clear h
    have h := hn
    clear hn
    exact h
  · intro k Q σ w h
    unfold l0Tk at h
    obtain ⟨At1, nt1, ct1, h1, hn⟩ := gSlice_elim h
    clear h
    have h := hn
    clear hn
    obtain ⟨at4, h4, hn⟩ := gAd_elim h
    clear h
    have h := hn
    clear hn
    obtain ⟨at6, h6, hn⟩ := gAd_elim h
    clear h
    have h := hn
    clear hn
    obtain ⟨xt7, h7, hn⟩ := gInt_elim h
    clear h
    have h := hn
    clear hn
    obtain ⟨xt13, h13, hn⟩ := gInt_elim h
    clear h
    have h := hn
    clear hn
    rw [l0_eq (σ := σ)] at h
    have e : (ov σ [(1, .slice At1 nt1 ct1), (4, .pointer (some at4)), (6, .pointer (some at6)), (7, .int .i64 xt7), (13, .int .i64 xt13)]) = σ := ov_self (by simp [h1, h4, h6, h7, h13])
    rw [e] at h
    exact h
def j1LO : LO := ⟨[], [4, 5], [], []⟩
def j1T : Spec := fun Q σ w =>
  gInt .i64 (σ 0) fun xt0 =>
  gAd (σ 4) fun at4 =>
  gAd (σ 6) fun at6 =>
  gInt .i64 (σ 12) fun xt12 =>
  j1 xt0 at4 at6 xt12 w (fun (xq5 : Int) (w : World) => ∀ d : Fr, Q .ret (ov d [(4, .pointer (some at4)), (5, .int .i64 xq5)]) w)
def j1tb : List (List Nat × Spec) := []
noncomputable def j1b : Code := (subC [1, 1, 1, 1, 1, 1] body).getD .skip
theorem j1_eq (xt0 : Int) (at4 : Addr) (at6 : Addr) (xt12 : Int) (Q : PQ) (σ : Fr) (w : World) :
    j1 xt0 at4 at6 xt12 w (fun (xq5 : Int) (w : World) => ∀ d : Fr, Q .ret (ov d [(4, .pointer (some at4)), (5, .int .i64 xq5)]) w) = codeW Tryd.prog hT 62 D (tab j1tb) [1, 1, 1, 1, 1, 1] j1b (widen j1LO Q) (ov σ [(0, .int .i64 xt0), (4, .pointer (some at4)), (6, .pointer (some at6)), (12, .int .i64 xt12)]) w := by kernel_rfl
theorem j1_snd : ∀ c, subC [1, 1, 1, 1, 1, 1] body = some c → Snd Tryd.prog 62 c j1T := by
  refine cut_of (hT := hT) (D := D) (l := j1tb) (b := j1b) (lo := j1LO) (by kernel_rfl) (by
    intro x hx
    simp only [j1tb, List.not_mem_nil] at hx
    ) (by kernel_rfl) (by kernel_rfl) ?_
  intro Q σ w h
  unfold j1T at h
  obtain ⟨xt0, h0, hn⟩ := gInt_elim h
  clear h
  have h := hn
  clear hn
  obtain ⟨at4, h4, hn⟩ := gAd_elim h
  clear h
  have h := hn
  clear hn
  obtain ⟨at6, h6, hn⟩ := gAd_elim h
  clear h
  have h := hn
  clear hn
  obtain ⟨xt12, h12, hn⟩ := gInt_elim h
  clear h
  have h := hn
  clear hn
  rw [j1_eq (σ := σ)] at h
  have e : (ov σ [(0, .int .i64 xt0), (4, .pointer (some at4)), (6, .pointer (some at6)), (12, .int .i64 xt12)]) = σ := ov_self (by simp [h0, h4, h6, h12])
  rw [e] at h
  exact h
def tb : List (List Nat × Spec) := [([0, 1, 0, 1, 1, 1], l0T), ([1, 1, 1, 1, 1, 1], j1T)]
theorem wp_eq (xa0 : Int) (Aa1 : Option Addr) (na1 : Nat) (ca1 : Nat) (w : World) (Q : Ending → World → Prop) :
    wp xa0 Aa1 na1 ca1 w Q = codeW Tryd.prog hT 62 D (tab tb) [] body (topQ Tryd.prog hT 62 [.cell 4 59, .tmp 5] Q) (argsF [.int .i64 xa0, .slice Aa1 na1 ca1]) w := by kernel_rfl
theorem ok (xa0 : Int) (Aa1 : Option Addr) (na1 : Nat) (ca1 : Nat) (w : World) (Q : Ending → World → Prop) (h : wp xa0 Aa1 na1 ca1 w Q) : Calls Tryd.prog 29 #[.int .i64 xa0, .slice Aa1 na1 ca1] w Q := by
  rw [wp_eq] at h
  exact calls_of_codeW (c := body) (rs := [.cell 4 59, .tmp 5]) Tryd.func29 (by kernel_rfl) (by kernel_rfl) (by kernel_rfl) (by kernel_rfl) (by kernel_rfl) (tab_snd (by
    intro x hx
    simp only [tb, List.mem_cons, List.not_mem_nil, or_false] at hx
    rcases hx with rfl | rfl
    · exact l0_snd
    · exact j1_snd)) (by kernel_rfl) h
end f_keys_GetEnds
namespace f_keys_Right
/-! skein/keys.Right: function 30 -/
noncomputable def body : Code := (Tryd.f30.body).getD .skip
def wp (xa0_0 : Int) (xa0_1 : Int) (ra0_2 : Nat) (ia0_2 : Nat) (Aa0_3 : Option Addr) (na0_3 : Nat) (ca0_3 : Nat) (w : World) (Q : Ending → World → Prop) : Prop :=
  alW w (.cells #[.int .i64 xa0_0, .int .i64 xa0_1, .complex .f64 ra0_2 ia0_2, .slice Aa0_3 na0_3 ca0_3] 54) fun B1 w2 =>
  ldI w2 (⟨B1, 0, Option.none⟩ : Addr) .i64 fun x3 =>
  ldI w2 ((⟨B1, 0, Option.none⟩ : Addr).add 1) .i64 fun x4 =>
  ldC w2 ((⟨B1, 0, Option.none⟩ : Addr).add 2) .f64 fun r5 i5 =>
  ldS w2 ((⟨B1, 0, Option.none⟩ : Addr).add 3) fun A6 n6 c6 =>
  Calls Tryd.prog 58 #[.agg #[.int .i64 x3, .int .i64 x4, .complex .f64 r5 i5, .slice A6 n6 c6]] w2 fun e7 w8 => ∃ (x9_0 : Int) (x9_1 : Int) (r9_2 : Nat) (i9_2 : Nat) (A9_3 : Option Addr) (n9_3 : Nat) (c9_3 : Nat), e7 = .returned (.agg #[.int .i64 x9_0, .int .i64 x9_1, .complex .f64 r9_2 i9_2, .slice A9_3 n9_3 c9_3]) ∧ (
  alW w8 (.cells #[.int .i64 (0 : Int), .int .i64 (0 : Int), .complex .f64 0 0, .slice none 0 0] 54) fun B10 w11 =>
  stW w11 (⟨B10, 0, Option.none⟩ : Addr) (.int .i64 x9_0) fun w12 =>
  stW w12 ((⟨B10, 0, Option.none⟩ : Addr).add 1) (.int .i64 x9_1) fun w13 =>
  stW w13 ((⟨B10, 0, Option.none⟩ : Addr).add 2) (.complex .f64 r9_2 i9_2) fun w14 =>
  stW w14 ((⟨B10, 0, Option.none⟩ : Addr).add 3) (.slice A9_3 n9_3 c9_3) fun w15 =>
  ldI w15 (⟨B1, 0, Option.none⟩ : Addr) .i64 fun x16 =>
  sel (decide (x16 < (1 : Int))) (
  Q (.returned (.bool false)) w15) (
  ldI w15 (⟨B1, 0, Option.none⟩ : Addr) .i64 fun x17 =>
  sel (decide (x17 > (3 : Int))) (
  Q (.returned (.bool false)) w15) (
  ldI w15 ((⟨B1, 0, Option.none⟩ : Addr).add 1) .i64 fun x18 =>
  ldI w15 ((⟨B10, 0, Option.none⟩ : Addr).add 1) .i64 fun x19 =>
  sel (x18 != x19) (
  Q (.returned (.bool false)) w15) (
  ldC w15 ((⟨B1, 0, Option.none⟩ : Addr).add 2) .f64 fun r20 i20 =>
  ldC w15 ((⟨B10, 0, Option.none⟩ : Addr).add 2) .f64 fun r21 i21 =>
  Runs Tryd.prog (do eqGuard .neq 52 (.tmp 23) (.tmp 25) (.complex .f64 r20 i20) (.complex .f64 r21 i21); binOp .neq 52 (.complex .f64 r20 i20) (.complex .f64 r21 i21) : Sem Value) w15 fun v23 w22 => ∃ (b24 : Bool), v23 = (.bool b24) ∧ (
  sel b24 (
  Q (.returned (.bool false)) w22) (
  ldS w22 ((⟨B1, 0, Option.none⟩ : Addr).add 3) fun A25 n25 c25 =>
  ldS w22 ((⟨B10, 0, Option.none⟩ : Addr).add 3) fun A26 n26 c26 =>
  sel ((n25 : Int) != (n26 : Int)) (
  Q (.returned (.bool false)) w22) (
  ldC w22 ((⟨B1, 0, Option.none⟩ : Addr).add 2) .f64 fun r27 i27 =>
  Calls Tryd.prog 59 #[.complex .f64 r27 i27] w22 fun e28 w29 => ∃ (b30 : Bool), e28 = .returned (.bool b30) ∧ (
  sel b30 (
  ldS w29 ((⟨B1, 0, Option.none⟩ : Addr).add 3) fun A31 n31 c31 =>
  Q (.returned (.bool (decide ((n31 : Int) ≤ (60 : Int))))) w29) (
  Q (.returned (.bool false)) w29)))))))))
def D : Nat → Option DH := dtab []
def tb : List (List Nat × Spec) := []
theorem wp_eq (xa0_0 : Int) (xa0_1 : Int) (ra0_2 : Nat) (ia0_2 : Nat) (Aa0_3 : Option Addr) (na0_3 : Nat) (ca0_3 : Nat) (w : World) (Q : Ending → World → Prop) :
    wp xa0_0 xa0_1 ra0_2 ia0_2 Aa0_3 na0_3 ca0_3 w Q = codeW Tryd.prog hT 46 D (tab tb) [] body (topQ Tryd.prog hT 46 [.tmp 2] Q) (argsF [.agg #[.int .i64 xa0_0, .int .i64 xa0_1, .complex .f64 ra0_2 ia0_2, .slice Aa0_3 na0_3 ca0_3]]) w := by kernel_rfl
theorem ok (xa0_0 : Int) (xa0_1 : Int) (ra0_2 : Nat) (ia0_2 : Nat) (Aa0_3 : Option Addr) (na0_3 : Nat) (ca0_3 : Nat) (w : World) (Q : Ending → World → Prop) (h : wp xa0_0 xa0_1 ra0_2 ia0_2 Aa0_3 na0_3 ca0_3 w Q) : Calls Tryd.prog 30 #[.agg #[.int .i64 xa0_0, .int .i64 xa0_1, .complex .f64 ra0_2 ia0_2, .slice Aa0_3 na0_3 ca0_3]] w Q := by
  rw [wp_eq] at h
  exact calls_of_codeW (c := body) (rs := [.tmp 2]) Tryd.func30 (by kernel_rfl) (by kernel_rfl) (by kernel_rfl) (by kernel_rfl) (by kernel_rfl) (tab_snd (by
    intro x hx
    simp only [tb, List.not_mem_nil] at hx
    )) (by kernel_rfl) h
end f_keys_Right
namespace f_gauss_Put
/-! skein/gauss.Put: function 50 -/
noncomputable def body : Code := (Tryd.f50.body).getD .skip
def wp (ra0 : Nat) (ia0 : Nat) (w : World) (Q : Ending → World → Prop) : Prop :=
  Calls Tryd.prog 68 #[.complex .f64 ra0 ia0] w fun e1 w2 => ∃ (x3_0 : Int) (x3_1 : Int) (x3_2 : Int), e1 = .returned (.tuple #[.int .i64 x3_0, .int .i64 x3_1, .int .i64 x3_2]) ∧ (
  sel (x3_2 != (0 : Int)) (
  Q (.returned (.tuple #[.slice none 0 0, .int .i64 x3_2])) w2) (
  Calls Tryd.prog 49 #[.int .i64 x3_0] w2 fun e4 w5 => ∃ (A6 : Option Addr) (n6 : Nat) (c6 : Nat), e4 = .returned (.slice A6 n6 c6) ∧ (
  Calls Tryd.prog 49 #[.int .i64 x3_1] w5 fun e7 w8 => ∃ (A9 : Option Addr) (n9 : Nat) (c9 : Nat), e7 = .returned (.slice A9 n9 c9) ∧ (
  Runs Tryd.prog (Builtin.append_ #[24, 24] 24 #[.slice A6 n6 c6, .slice A9 n9 c9]) w8 fun v11 w10 => ∃ (A12 : Option Addr) (n12 : Nat) (c12 : Nat), v11 = (.slice A12 n12 c12) ∧ (
  Q (.returned (.tuple #[.slice A12 n12 c12, .int .i64 (0 : Int)])) w10)))))
def D : Nat → Option DH := dtab []
def tb : List (List Nat × Spec) := []
theorem wp_eq (ra0 : Nat) (ia0 : Nat) (w : World) (Q : Ending → World → Prop) :
    wp ra0 ia0 w Q = codeW Tryd.prog hT 21 D (tab tb) [] body (topQ Tryd.prog hT 21 [.tmp 2, .tmp 3] Q) (argsF [.complex .f64 ra0 ia0]) w := by kernel_rfl
theorem ok (ra0 : Nat) (ia0 : Nat) (w : World) (Q : Ending → World → Prop) (h : wp ra0 ia0 w Q) : Calls Tryd.prog 50 #[.complex .f64 ra0 ia0] w Q := by
  rw [wp_eq] at h
  exact calls_of_codeW (c := body) (rs := [.tmp 2, .tmp 3]) Tryd.func50 (by kernel_rfl) (by kernel_rfl) (by kernel_rfl) (by kernel_rfl) (by kernel_rfl) (tab_snd (by
    intro x hx
    simp only [tb, List.not_mem_nil] at hx
    )) (by kernel_rfl) h
end f_gauss_Put
namespace f_gauss_Get
/-! skein/gauss.Get: function 53 -/
noncomputable def body : Code := (Tryd.f53.body).getD .skip
def wp (Aa0 : Option Addr) (na0 : Nat) (ca0 : Nat) (xa1 : Int) (w : World) (Q : Ending → World → Prop) : Prop :=
  Calls Tryd.prog 52 #[.slice Aa0 na0 ca0, .int .i64 xa1] w fun e1 w2 => ∃ (x3_0 : Int) (x3_1 : Int) (x3_2 : Int), e1 = .returned (.tuple #[.int .i64 x3_0, .int .i64 x3_1, .int .i64 x3_2]) ∧ (
  sel (x3_2 != (0 : Int)) (
  Q (.returned (.tuple #[.complex .f64 0 0, .int .i64 (0 : Int), .int .i64 x3_2])) w2) (
  Calls Tryd.prog 52 #[.slice Aa0 na0 ca0, .int .i64 x3_1] w2 fun e4 w5 => ∃ (x6_0 : Int) (x6_1 : Int) (x6_2 : Int), e4 = .returned (.tuple #[.int .i64 x6_0, .int .i64 x6_1, .int .i64 x6_2]) ∧ (
  sel (x6_2 != (0 : Int)) (
  Q (.returned (.tuple #[.complex .f64 0 0, .int .i64 (0 : Int), .int .i64 x6_2])) w5) (
  Calls Tryd.prog 69 #[.int .i64 x3_0, .int .i64 x6_0] w5 fun e7 w8 => ∃ (r9_0 : Nat) (i9_0 : Nat) (x9_1 : Int), e7 = .returned (.tuple #[.complex .f64 r9_0 i9_0, .int .i64 x9_1]) ∧ (
  sel (x9_1 != (0 : Int)) (
  Q (.returned (.tuple #[.complex .f64 0 0, .int .i64 (0 : Int), .int .i64 x9_1])) w8) (
  Q (.returned (.tuple #[.complex .f64 r9_0 i9_0, .int .i64 x6_1, .int .i64 (0 : Int)])) w8))))))
def D : Nat → Option DH := dtab []
def tb : List (List Nat × Spec) := []
theorem wp_eq (Aa0 : Option Addr) (na0 : Nat) (ca0 : Nat) (xa1 : Int) (w : World) (Q : Ending → World → Prop) :
    wp Aa0 na0 ca0 xa1 w Q = codeW Tryd.prog hT 42 D (tab tb) [] body (topQ Tryd.prog hT 42 [.tmp 4, .tmp 5, .tmp 6] Q) (argsF [.slice Aa0 na0 ca0, .int .i64 xa1]) w := by kernel_rfl
theorem ok (Aa0 : Option Addr) (na0 : Nat) (ca0 : Nat) (xa1 : Int) (w : World) (Q : Ending → World → Prop) (h : wp Aa0 na0 ca0 xa1 w Q) : Calls Tryd.prog 53 #[.slice Aa0 na0 ca0, .int .i64 xa1] w Q := by
  rw [wp_eq] at h
  exact calls_of_codeW (c := body) (rs := [.tmp 4, .tmp 5, .tmp 6]) Tryd.func53 (by kernel_rfl) (by kernel_rfl) (by kernel_rfl) (by kernel_rfl) (by kernel_rfl) (tab_snd (by
    intro x hx
    simp only [tb, List.not_mem_nil] at hx
    )) (by kernel_rfl) h
end f_gauss_Get
namespace f_keys_ends
/-! skein/keys.ends: function 55 -/
noncomputable def body : Code := (Tryd.f55.body).getD .skip
def wp (xa0 : Int) (xa1 : Int) (xa2 : Int) (w : World) (Q : Ending → World → Prop) : Prop :=
  sel (decide (xa0 < (1 : Int))) (
  Q (.returned (.int .i64 (1 : Int))) w) (
  sel (decide (xa0 > (2147483647 : Int))) (
  Q (.returned (.int .i64 (1 : Int))) w) (
  sel (decide (xa1 < (1 : Int))) (
  Q (.returned (.int .i64 (1 : Int))) w) (
  sel (decide (xa1 > (2147483647 : Int))) (
  Q (.returned (.int .i64 (1 : Int))) w) (
  sel (decide (xa2 > (1099511627776 : Int))) (
  Q (.returned (.int .i64 (53 : Int))) w) (
  Q (.returned (.int .i64 (0 : Int))) w)))))
def D : Nat → Option DH := dtab []
def tb : List (List Nat × Spec) := []
theorem wp_eq (xa0 : Int) (xa1 : Int) (xa2 : Int) (w : World) (Q : Ending → World → Prop) :
    wp xa0 xa1 xa2 w Q = codeW Tryd.prog hT 25 D (tab tb) [] body (topQ Tryd.prog hT 25 [.tmp 6] Q) (argsF [.int .u64 xa0, .int .u64 xa1, .int .u64 xa2]) w := by kernel_rfl
theorem ok (xa0 : Int) (xa1 : Int) (xa2 : Int) (w : World) (Q : Ending → World → Prop) (h : wp xa0 xa1 xa2 w Q) : Calls Tryd.prog 55 #[.int .u64 xa0, .int .u64 xa1, .int .u64 xa2] w Q := by
  rw [wp_eq] at h
  exact calls_of_codeW (c := body) (rs := [.tmp 6]) Tryd.func55 (by kernel_rfl) (by kernel_rfl) (by kernel_rfl) (by kernel_rfl) (by kernel_rfl) (tab_snd (by
    intro x hx
    simp only [tb, List.not_mem_nil] at hx
    )) (by kernel_rfl) h
end f_keys_ends
namespace f_keys_blank
/-! skein/keys.blank: function 58 -/
noncomputable def body : Code := (Tryd.f58.body).getD .skip
def wp (xa0_0 : Int) (xa0_1 : Int) (ra0_2 : Nat) (ia0_2 : Nat) (Aa0_3 : Option Addr) (na0_3 : Nat) (ca0_3 : Nat) (w : World) (Q : Ending → World → Prop) : Prop :=
  alW w (.cells #[.int .i64 xa0_0, .int .i64 xa0_1, .complex .f64 ra0_2 ia0_2, .slice Aa0_3 na0_3 ca0_3] 54) fun B1 w2 =>
  alW w2 (.cells #[.int .i64 (0 : Int), .int .i64 (0 : Int), .complex .f64 0 0, .slice none 0 0] 54) fun B3 w4 =>
  ldI w4 (⟨B1, 0, Option.none⟩ : Addr) .i64 fun x5 =>
  alW w4 (.cells #[.int .i64 (0 : Int), .int .i64 (0 : Int), .complex .f64 0 0, .slice none 0 0] 54) fun B6 w7 =>
  stW w7 (⟨B6, 0, Option.none⟩ : Addr) (.int .i64 x5) fun w8 =>
  stW w8 ((⟨B6, 0, Option.none⟩ : Addr).add 1) (.int .i64 (0 : Int)) fun w9 =>
  stW w9 ((⟨B6, 0, Option.none⟩ : Addr).add 2) (.complex .f64 0 0) fun w10 =>
  stW w10 ((⟨B6, 0, Option.none⟩ : Addr).add 3) (.slice none 0 0) fun w11 =>
  ldI w11 (⟨B1, 0, Option.none⟩ : Addr) .i64 fun x12 =>
  sel (x12 == (1 : Int)) (
  ldI w11 ((⟨B1, 0, Option.none⟩ : Addr).add 1) .i64 fun x13 =>
  stW w11 ((⟨B6, 0, Option.none⟩ : Addr).add 1) (.int .i64 x13) fun w14 =>
  ldI w14 (⟨B6, 0, Option.none⟩ : Addr) .i64 fun x15 =>
  ldI w14 ((⟨B6, 0, Option.none⟩ : Addr).add 1) .i64 fun x16 =>
  ldC w14 ((⟨B6, 0, Option.none⟩ : Addr).add 2) .f64 fun r17 i17 =>
  ldS w14 ((⟨B6, 0, Option.none⟩ : Addr).add 3) fun A18 n18 c18 =>
  stW w14 (⟨B3, 0, Option.none⟩ : Addr) (.int .i64 x15) fun w19 =>
  stW w19 ((⟨B3, 0, Option.none⟩ : Addr).add 1) (.int .i64 x16) fun w20 =>
  stW w20 ((⟨B3, 0, Option.none⟩ : Addr).add 2) (.complex .f64 r17 i17) fun w21 =>
  stW w21 ((⟨B3, 0, Option.none⟩ : Addr).add 3) (.slice A18 n18 c18) fun w22 =>
  ldI w22 (⟨B3, 0, Option.none⟩ : Addr) .i64 fun x23 =>
  ldI w22 ((⟨B3, 0, Option.none⟩ : Addr).add 1) .i64 fun x24 =>
  ldC w22 ((⟨B3, 0, Option.none⟩ : Addr).add 2) .f64 fun r25 i25 =>
  ldS w22 ((⟨B3, 0, Option.none⟩ : Addr).add 3) fun A26 n26 c26 =>
  Q (.returned (.agg #[.int .i64 x23, .int .i64 x24, .complex .f64 r25 i25, .slice A26 n26 c26])) w22) (
  sel (x12 == (2 : Int)) (
  ldC w11 ((⟨B1, 0, Option.none⟩ : Addr).add 2) .f64 fun r27 i27 =>
  stW w11 ((⟨B6, 0, Option.none⟩ : Addr).add 2) (.complex .f64 r27 i27) fun w28 =>
  ldI w28 (⟨B6, 0, Option.none⟩ : Addr) .i64 fun x29 =>
  ldI w28 ((⟨B6, 0, Option.none⟩ : Addr).add 1) .i64 fun x30 =>
  ldC w28 ((⟨B6, 0, Option.none⟩ : Addr).add 2) .f64 fun r31 i31 =>
  ldS w28 ((⟨B6, 0, Option.none⟩ : Addr).add 3) fun A32 n32 c32 =>
  stW w28 (⟨B3, 0, Option.none⟩ : Addr) (.int .i64 x29) fun w33 =>
  stW w33 ((⟨B3, 0, Option.none⟩ : Addr).add 1) (.int .i64 x30) fun w34 =>
  stW w34 ((⟨B3, 0, Option.none⟩ : Addr).add 2) (.complex .f64 r31 i31) fun w35 =>
  stW w35 ((⟨B3, 0, Option.none⟩ : Addr).add 3) (.slice A32 n32 c32) fun w36 =>
  ldI w36 (⟨B3, 0, Option.none⟩ : Addr) .i64 fun x37 =>
  ldI w36 ((⟨B3, 0, Option.none⟩ : Addr).add 1) .i64 fun x38 =>
  ldC w36 ((⟨B3, 0, Option.none⟩ : Addr).add 2) .f64 fun r39 i39 =>
  ldS w36 ((⟨B3, 0, Option.none⟩ : Addr).add 3) fun A40 n40 c40 =>
  Q (.returned (.agg #[.int .i64 x37, .int .i64 x38, .complex .f64 r39 i39, .slice A40 n40 c40])) w36) (
  sel (x12 == (3 : Int)) (
  ldS w11 ((⟨B1, 0, Option.none⟩ : Addr).add 3) fun A41 n41 c41 =>
  stW w11 ((⟨B6, 0, Option.none⟩ : Addr).add 3) (.slice A41 n41 c41) fun w42 =>
  ldI w42 (⟨B6, 0, Option.none⟩ : Addr) .i64 fun x43 =>
  ldI w42 ((⟨B6, 0, Option.none⟩ : Addr).add 1) .i64 fun x44 =>
  ldC w42 ((⟨B6, 0, Option.none⟩ : Addr).add 2) .f64 fun r45 i45 =>
  ldS w42 ((⟨B6, 0, Option.none⟩ : Addr).add 3) fun A46 n46 c46 =>
  stW w42 (⟨B3, 0, Option.none⟩ : Addr) (.int .i64 x43) fun w47 =>
  stW w47 ((⟨B3, 0, Option.none⟩ : Addr).add 1) (.int .i64 x44) fun w48 =>
  stW w48 ((⟨B3, 0, Option.none⟩ : Addr).add 2) (.complex .f64 r45 i45) fun w49 =>
  stW w49 ((⟨B3, 0, Option.none⟩ : Addr).add 3) (.slice A46 n46 c46) fun w50 =>
  ldI w50 (⟨B3, 0, Option.none⟩ : Addr) .i64 fun x51 =>
  ldI w50 ((⟨B3, 0, Option.none⟩ : Addr).add 1) .i64 fun x52 =>
  ldC w50 ((⟨B3, 0, Option.none⟩ : Addr).add 2) .f64 fun r53 i53 =>
  ldS w50 ((⟨B3, 0, Option.none⟩ : Addr).add 3) fun A54 n54 c54 =>
  Q (.returned (.agg #[.int .i64 x51, .int .i64 x52, .complex .f64 r53 i53, .slice A54 n54 c54])) w50) (
  ldI w11 (⟨B6, 0, Option.none⟩ : Addr) .i64 fun x55 =>
  ldI w11 ((⟨B6, 0, Option.none⟩ : Addr).add 1) .i64 fun x56 =>
  ldC w11 ((⟨B6, 0, Option.none⟩ : Addr).add 2) .f64 fun r57 i57 =>
  ldS w11 ((⟨B6, 0, Option.none⟩ : Addr).add 3) fun A58 n58 c58 =>
  stW w11 (⟨B3, 0, Option.none⟩ : Addr) (.int .i64 x55) fun w59 =>
  stW w59 ((⟨B3, 0, Option.none⟩ : Addr).add 1) (.int .i64 x56) fun w60 =>
  stW w60 ((⟨B3, 0, Option.none⟩ : Addr).add 2) (.complex .f64 r57 i57) fun w61 =>
  stW w61 ((⟨B3, 0, Option.none⟩ : Addr).add 3) (.slice A58 n58 c58) fun w62 =>
  ldI w62 (⟨B3, 0, Option.none⟩ : Addr) .i64 fun x63 =>
  ldI w62 ((⟨B3, 0, Option.none⟩ : Addr).add 1) .i64 fun x64 =>
  ldC w62 ((⟨B3, 0, Option.none⟩ : Addr).add 2) .f64 fun r65 i65 =>
  ldS w62 ((⟨B3, 0, Option.none⟩ : Addr).add 3) fun A66 n66 c66 =>
  Q (.returned (.agg #[.int .i64 x63, .int .i64 x64, .complex .f64 r65 i65, .slice A66 n66 c66])) w62)))
def D : Nat → Option DH := dtab []
def tb : List (List Nat × Spec) := []
theorem wp_eq (xa0_0 : Int) (xa0_1 : Int) (ra0_2 : Nat) (ia0_2 : Nat) (Aa0_3 : Option Addr) (na0_3 : Nat) (ca0_3 : Nat) (w : World) (Q : Ending → World → Prop) :
    wp xa0_0 xa0_1 ra0_2 ia0_2 Aa0_3 na0_3 ca0_3 w Q = codeW Tryd.prog hT 25 D (tab tb) [] body (topQ Tryd.prog hT 25 [.cell 2 54] Q) (argsF [.agg #[.int .i64 xa0_0, .int .i64 xa0_1, .complex .f64 ra0_2 ia0_2, .slice Aa0_3 na0_3 ca0_3]]) w := by kernel_rfl
theorem ok (xa0_0 : Int) (xa0_1 : Int) (ra0_2 : Nat) (ia0_2 : Nat) (Aa0_3 : Option Addr) (na0_3 : Nat) (ca0_3 : Nat) (w : World) (Q : Ending → World → Prop) (h : wp xa0_0 xa0_1 ra0_2 ia0_2 Aa0_3 na0_3 ca0_3 w Q) : Calls Tryd.prog 58 #[.agg #[.int .i64 xa0_0, .int .i64 xa0_1, .complex .f64 ra0_2 ia0_2, .slice Aa0_3 na0_3 ca0_3]] w Q := by
  rw [wp_eq] at h
  exact calls_of_codeW (c := body) (rs := [.cell 2 54]) Tryd.func58 (by kernel_rfl) (by kernel_rfl) (by kernel_rfl) (by kernel_rfl) (by kernel_rfl) (tab_snd (by
    intro x hx
    simp only [tb, List.not_mem_nil] at hx
    )) (by kernel_rfl) h
end f_keys_blank
namespace f_gauss_Fits
/-! skein/gauss.Fits: function 59 -/
noncomputable def body : Code := (Tryd.f59.body).getD .skip
def wp (ra0 : Nat) (ia0 : Nat) (w : World) (Q : Ending → World → Prop) : Prop :=
  Calls Tryd.prog 71 #[.float .f64 ra0] w fun e1 w2 => ∃ (b3 : Bool), e1 = .returned (.bool b3) ∧ (
  sel b3 (
  Calls Tryd.prog 71 #[.float .f64 ia0] w2 fun e4 w5 => ∃ (b6 : Bool), e4 = .returned (.bool b6) ∧ (
  Q (.returned (.bool b6)) w5)) (
  Q (.returned (.bool false)) w2))
def D : Nat → Option DH := dtab []
def tb : List (List Nat × Spec) := []
theorem wp_eq (ra0 : Nat) (ia0 : Nat) (w : World) (Q : Ending → World → Prop) :
    wp ra0 ia0 w Q = codeW Tryd.prog hT 11 D (tab tb) [] body (topQ Tryd.prog hT 11 [.tmp 2] Q) (argsF [.complex .f64 ra0 ia0]) w := by kernel_rfl
theorem ok (ra0 : Nat) (ia0 : Nat) (w : World) (Q : Ending → World → Prop) (h : wp ra0 ia0 w Q) : Calls Tryd.prog 59 #[.complex .f64 ra0 ia0] w Q := by
  rw [wp_eq] at h
  exact calls_of_codeW (c := body) (rs := [.tmp 2]) Tryd.func59 (by kernel_rfl) (by kernel_rfl) (by kernel_rfl) (by kernel_rfl) (by kernel_rfl) (tab_snd (by
    intro x hx
    simp only [tb, List.not_mem_nil] at hx
    )) (by kernel_rfl) h
end f_gauss_Fits
namespace f_gauss_Parts
/-! skein/gauss.Parts: function 68 -/
noncomputable def body : Code := (Tryd.f68.body).getD .skip
def wp (ra0 : Nat) (ia0 : Nat) (w : World) (Q : Ending → World → Prop) : Prop :=
  Calls Tryd.prog 59 #[.complex .f64 ra0 ia0] w fun e1 w2 => ∃ (b3 : Bool), e1 = .returned (.bool b3) ∧ (
  sel (!b3) (
  Q (.returned (.tuple #[.int .i64 (0 : Int), .int .i64 (0 : Int), .int .i64 (30 : Int)])) w2) (
  Runs Tryd.prog (Go.convert 106 2 (.float .f64 ra0)) w2 fun v5 w4 => ∃ (x6 : Int), v5 = (.int .i64 x6) ∧ (
  Runs Tryd.prog (Go.convert 106 2 (.float .f64 ia0)) w4 fun v8 w7 => ∃ (x9 : Int), v8 = (.int .i64 x9) ∧ (
  Q (.returned (.tuple #[.int .i64 x6, .int .i64 x9, .int .i64 (0 : Int)])) w7))))
def D : Nat → Option DH := dtab []
def tb : List (List Nat × Spec) := []
theorem wp_eq (ra0 : Nat) (ia0 : Nat) (w : World) (Q : Ending → World → Prop) :
    wp ra0 ia0 w Q = codeW Tryd.prog hT 14 D (tab tb) [] body (topQ Tryd.prog hT 14 [.tmp 2, .tmp 3, .tmp 4] Q) (argsF [.complex .f64 ra0 ia0]) w := by kernel_rfl
theorem ok (ra0 : Nat) (ia0 : Nat) (w : World) (Q : Ending → World → Prop) (h : wp ra0 ia0 w Q) : Calls Tryd.prog 68 #[.complex .f64 ra0 ia0] w Q := by
  rw [wp_eq] at h
  exact calls_of_codeW (c := body) (rs := [.tmp 2, .tmp 3, .tmp 4]) Tryd.func68 (by kernel_rfl) (by kernel_rfl) (by kernel_rfl) (by kernel_rfl) (by kernel_rfl) (tab_snd (by
    intro x hx
    simp only [tb, List.not_mem_nil] at hx
    )) (by kernel_rfl) h
end f_gauss_Parts
namespace f_gauss_Of
/-! skein/gauss.Of: function 69 -/
noncomputable def body : Code := (Tryd.f69.body).getD .skip
def wp (xa0 : Int) (xa1 : Int) (w : World) (Q : Ending → World → Prop) : Prop :=
  sel (decide ((if xa1 > xa0 then xa1 else xa0) > (1125899906842624 : Int))) (
  Q (.returned (.tuple #[.complex .f64 0 0, .int .i64 (30 : Int)])) w) (
  sel (decide ((if xa1 < xa0 then xa1 else xa0) < (-1125899906842624 : Int))) (
  Q (.returned (.tuple #[.complex .f64 0 0, .int .i64 (30 : Int)])) w) (
  Runs Tryd.prog (Go.convert 2 106 (.int .i64 xa0)) w fun v2 w1 => ∃ (f3 : Nat), v2 = (.float .f64 f3) ∧ (
  Runs Tryd.prog (Go.convert 2 106 (.int .i64 xa1)) w1 fun v5 w4 => ∃ (f6 : Nat), v5 = (.float .f64 f6) ∧ (
  Q (.returned (.tuple #[.complex .f64 f3 f6, .int .i64 (0 : Int)])) w4))))
def D : Nat → Option DH := dtab []
def tb : List (List Nat × Spec) := []
theorem wp_eq (xa0 : Int) (xa1 : Int) (w : World) (Q : Ending → World → Prop) :
    wp xa0 xa1 w Q = codeW Tryd.prog hT 21 D (tab tb) [] body (topQ Tryd.prog hT 21 [.tmp 4, .tmp 5] Q) (argsF [.int .i64 xa0, .int .i64 xa1]) w := by kernel_rfl
theorem ok (xa0 : Int) (xa1 : Int) (w : World) (Q : Ending → World → Prop) (h : wp xa0 xa1 w Q) : Calls Tryd.prog 69 #[.int .i64 xa0, .int .i64 xa1] w Q := by
  rw [wp_eq] at h
  exact calls_of_codeW (c := body) (rs := [.tmp 4, .tmp 5]) Tryd.func69 (by kernel_rfl) (by kernel_rfl) (by kernel_rfl) (by kernel_rfl) (by kernel_rfl) (tab_snd (by
    intro x hx
    simp only [tb, List.not_mem_nil] at hx
    )) (by kernel_rfl) h
end f_gauss_Of
namespace f_gauss_whole
/-! skein/gauss.whole: function 71 -/
noncomputable def body : Code := (Tryd.f71.body).getD .skip
def wp (fa0 : Nat) (w : World) (Q : Ending → World → Prop) : Prop :=
  Calls Tryd.prog 79 #[.float .f64 fa0] w fun e1 w2 => ∃ (f3 : Nat), e1 = .returned (.float .f64 f3) ∧ (
  Runs Tryd.prog (do eqGuard .leq 106 (.tmp 4) (.const (.float .f64 4832362400168542208)) (.float .f64 f3) (.float .f64 4832362400168542208); binOp .leq 106 (.float .f64 f3) (.float .f64 4832362400168542208) : Sem Value) w2 fun v5 w4 => ∃ (b6 : Bool), v5 = (.bool b6) ∧ (
  sel b6 (
  Calls Tryd.prog 80 #[.float .f64 fa0] w4 fun e7 w8 => ∃ (f9 : Nat), e7 = .returned (.float .f64 f9) ∧ (
  Runs Tryd.prog (do eqGuard .eql 106 (.tmp 7) (.tmp 9) (.float .f64 fa0) (.float .f64 f9); binOp .eql 106 (.float .f64 fa0) (.float .f64 f9) : Sem Value) w8 fun v11 w10 => ∃ (b12 : Bool), v11 = (.bool b12) ∧ (
  Q (.returned (.bool b12)) w10))) (
  Q (.returned (.bool false)) w4)))
def D : Nat → Option DH := dtab []
def tb : List (List Nat × Spec) := []
theorem wp_eq (fa0 : Nat) (w : World) (Q : Ending → World → Prop) :
    wp fa0 w Q = codeW Tryd.prog hT 12 D (tab tb) [] body (topQ Tryd.prog hT 12 [.tmp 2] Q) (argsF [.float .f64 fa0]) w := by kernel_rfl
theorem ok (fa0 : Nat) (w : World) (Q : Ending → World → Prop) (h : wp fa0 w Q) : Calls Tryd.prog 71 #[.float .f64 fa0] w Q := by
  rw [wp_eq] at h
  exact calls_of_codeW (c := body) (rs := [.tmp 2]) Tryd.func71 (by kernel_rfl) (by kernel_rfl) (by kernel_rfl) (by kernel_rfl) (by kernel_rfl) (tab_snd (by
    intro x hx
    simp only [tb, List.not_mem_nil] at hx
    )) (by kernel_rfl) h
end f_gauss_whole
namespace f_math_Abs
/-! math.Abs: function 79 -/
noncomputable def body : Code := (Tryd.f79.body).getD .skip
def wp (fa0 : Nat) (w : World) (Q : Ending → World → Prop) : Prop :=
  Runs Tryd.prog (callFunc 92 #[.float .f64 fa0]) w fun e1 w2 => ∃ (x3 : Int), e1 = .value (.int .u64 x3) ∧ (
  Runs Tryd.prog (callFunc 91 #[.int .u64 (bandn .u64 x3 (9223372036854775808 : Int))]) w2 fun e4 w5 => ∃ (f6 : Nat), e4 = .value (.float .f64 f6) ∧ (
  Q (.returned (.float .f64 f6)) w5))
def D : Nat → Option DH := dtab []
def tb : List (List Nat × Spec) := []
theorem wp_eq (fa0 : Nat) (w : World) (Q : Ending → World → Prop) :
    wp fa0 w Q = codeW Tryd.prog hT 7 D (tab tb) [] body (topQ Tryd.prog hT 7 [.tmp 2] Q) (argsF [.float .f64 fa0]) w := by kernel_rfl
theorem ok (fa0 : Nat) (w : World) (Q : Ending → World → Prop) (h : wp fa0 w Q) : Calls Tryd.prog 79 #[.float .f64 fa0] w Q := by
  rw [wp_eq] at h
  exact calls_of_codeW (c := body) (rs := [.tmp 2]) Tryd.func79 (by kernel_rfl) (by kernel_rfl) (by kernel_rfl) (by kernel_rfl) (by kernel_rfl) (tab_snd (by
    intro x hx
    simp only [tb, List.not_mem_nil] at hx
    )) (by kernel_rfl) h
end f_math_Abs
namespace f_math_Trunc
/-! math.Trunc: function 80 -/
noncomputable def body : Code := (Tryd.f80.body).getD .skip
def wp (fa0 : Nat) (w : World) (Q : Ending → World → Prop) : Prop :=
  Runs Tryd.prog (callFunc 93 #[.float .f64 fa0]) w fun e1 w2 => ∃ (f3 : Nat), e1 = .value (.float .f64 f3) ∧ (
  Q (.returned (.float .f64 f3)) w2)
def D : Nat → Option DH := dtab []
def tb : List (List Nat × Spec) := []
theorem wp_eq (fa0 : Nat) (w : World) (Q : Ending → World → Prop) :
    wp fa0 w Q = codeW Tryd.prog hT 7 D (tab tb) [] body (topQ Tryd.prog hT 7 [.tmp 2] Q) (argsF [.float .f64 fa0]) w := by kernel_rfl
theorem ok (fa0 : Nat) (w : World) (Q : Ending → World → Prop) (h : wp fa0 w Q) : Calls Tryd.prog 80 #[.float .f64 fa0] w Q := by
  rw [wp_eq] at h
  exact calls_of_codeW (c := body) (rs := [.tmp 2]) Tryd.func80 (by kernel_rfl) (by kernel_rfl) (by kernel_rfl) (by kernel_rfl) (by kernel_rfl) (tab_snd (by
    intro x hx
    simp only [tb, List.not_mem_nil] at hx
    )) (by kernel_rfl) h
end f_math_Trunc
end Go.Proofs.YtakgoekfnhkgaaaDoor.Rd
