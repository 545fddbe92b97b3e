/- The printed readings of some functions: each function's code reckoned by the kernel to its predicate transformer. -/
import Derived.Test.YtakgoekfnhkgaaaDoorHint
namespace Go.Proofs.YtakgoekfnhkgaaaDoor.Rd
open Go.Dn
set_option maxRecDepth 100000
set_option linter.unusedVariables false
namespace f_law04_KeysOrder
/-! skein/skeinlaw04.KeysOrder: function 5 -/
noncomputable def body : Code := (Tryd.f5.body).getD .skip
def j0 (At2 : Option Addr) (nt2 : Nat) (ct2 : Nat) (At3 : Option Addr) (nt3 : Nat) (ct3 : Nat) (xt4 : Int) (xt5 : Int) (w : World) (Kr : Bool → World → Prop) : Prop :=
  Calls Tryd.prog 19 #[.slice At2 nt2 ct2, .int .i64 xt4] w fun e32 w33 => ∃ (A34_0 : Option Addr) (n34_0 : Nat) (c34_0 : Nat) (x34_1 : Int), e32 = .returned (.tuple #[.slice A34_0 n34_0 c34_0, .int .i64 x34_1]) ∧ (
  Calls Tryd.prog 19 #[.slice At3 nt3 ct3, .int .i64 xt5] w33 fun e35 w36 => ∃ (A37_0 : Option Addr) (n37_0 : Nat) (c37_0 : Nat) (x37_1 : Int), e35 = .returned (.tuple #[.slice A37_0 n37_0 c37_0, .int .i64 x37_1]) ∧ (
  sel (x34_1 != (0 : Int)) (
  sel (decide (xt4 < (0 : Int))) (
  Kr true w36) (
  sel (decide (xt4 > (1099511627776 : Int))) (
  Kr true w36) (
  sel (decide (xt5 < (0 : Int))) (
  Kr true w36) (
  Kr (decide (xt5 > (1099511627776 : Int))) w36)))) (
  sel (x37_1 != (0 : Int)) (
  sel (decide (xt4 < (0 : Int))) (
  Kr true w36) (
  sel (decide (xt4 > (1099511627776 : Int))) (
  Kr true w36) (
  sel (decide (xt5 < (0 : Int))) (
  Kr true w36) (
  Kr (decide (xt5 > (1099511627776 : Int))) w36)))) (
  Calls Tryd.prog 23 #[.slice At2 nt2 ct2, .slice At3 nt3 ct3] w36 fun e38 w39 => ∃ (x40 : Int), e38 = .returned (.int .i64 x40) ∧ (
  sel (x40 == (0 : Int)) (
  sel (decide (xt4 > xt5)) (
  Calls Tryd.prog 23 #[.slice A34_0 n34_0 c34_0, .slice A37_0 n37_0 c37_0] w39 fun e41 w42 => ∃ (x43 : Int), e41 = .returned (.int .i64 x43) ∧ (
  Kr (x43 == (-1 : Int)) w42)) (
  sel (x40 == (0 : Int)) (
  sel (decide (xt4 < xt5)) (
  Calls Tryd.prog 23 #[.slice A34_0 n34_0 c34_0, .slice A37_0 n37_0 c37_0] w39 fun e44 w45 => ∃ (x46 : Int), e44 = .returned (.int .i64 x46) ∧ (
  Kr (x46 == (1 : Int)) w45)) (
  Calls Tryd.prog 23 #[.slice A34_0 n34_0 c34_0, .slice A37_0 n37_0 c37_0] w39 fun e47 w48 => ∃ (x49 : Int), e47 = .returned (.int .i64 x49) ∧ (
  Kr (x49 == x40) w48))) (
  Calls Tryd.prog 23 #[.slice A34_0 n34_0 c34_0, .slice A37_0 n37_0 c37_0] w39 fun e50 w51 => ∃ (x52 : Int), e50 = .returned (.int .i64 x52) ∧ (
  Kr (x52 == x40) w51)))) (
  sel (x40 == (0 : Int)) (
  sel (decide (xt4 < xt5)) (
  Calls Tryd.prog 23 #[.slice A34_0 n34_0 c34_0, .slice A37_0 n37_0 c37_0] w39 fun e53 w54 => ∃ (x55 : Int), e53 = .returned (.int .i64 x55) ∧ (
  Kr (x55 == (1 : Int)) w54)) (
  Calls Tryd.prog 23 #[.slice A34_0 n34_0 c34_0, .slice A37_0 n37_0 c37_0] w39 fun e56 w57 => ∃ (x58 : Int), e56 = .returned (.int .i64 x58) ∧ (
  Kr (x58 == x40) w57))) (
  Calls Tryd.prog 23 #[.slice A34_0 n34_0 c34_0, .slice A37_0 n37_0 c37_0] w39 fun e59 w60 => ∃ (x61 : Int), e59 = .returned (.int .i64 x61) ∧ (
  Kr (x61 == x40) w60))))))))
def wp (ba0_0 : Bool) (xa0_1 : Int) (ba1_0 : Bool) (xa1_1 : Int) (Aa2 : Option Addr) (na2 : Nat) (ca2 : Nat) (Aa3 : Option Addr) (na3 : Nat) (ca3 : Nat) (xa4 : Int) (xa5 : Int) (w : World) (Q : Ending → World → Prop) : Prop :=
  alW w (.cells #[.bool ba0_0, .int .i64 xa0_1] 23) fun B1 w2 =>
  alW w2 (.cells #[.bool ba1_0, .int .i64 xa1_1] 23) fun B3 w4 =>
  Calls Tryd.prog 7 #[] w4 fun e5 w6 => ∃ (b7 : Bool), e5 = .returned (.bool b7) ∧ (
  sel (!b7) (
  Q (.returned (.bool false)) w6) (
  ldB w6 (⟨B1, 0, Option.none⟩ : Addr) fun b8 =>
  ldI w6 ((⟨B1, 0, Option.none⟩ : Addr).add 1) .i64 fun x9 =>
  Calls Tryd.prog 8 #[.agg #[.bool b8, .int .i64 x9]] w6 fun e10 w11 => ∃ (A12_0 : Option Addr) (n12_0 : Nat) (c12_0 : Nat) (x12_1 : Int), e10 = .returned (.tuple #[.slice A12_0 n12_0 c12_0, .int .i64 x12_1]) ∧ (
  ldB w11 (⟨B3, 0, Option.none⟩ : Addr) fun b13 =>
  ldI w11 ((⟨B3, 0, Option.none⟩ : Addr).add 1) .i64 fun x14 =>
  Calls Tryd.prog 8 #[.agg #[.bool b13, .int .i64 x14]] w11 fun e15 w16 => ∃ (A17_0 : Option Addr) (n17_0 : Nat) (c17_0 : Nat) (x17_1 : Int), e15 = .returned (.tuple #[.slice A17_0 n17_0 c17_0, .int .i64 x17_1]) ∧ (
  sel (x12_1 == (0 : Int)) (
  sel (x17_1 == (0 : Int)) (
  ldB w16 (⟨B1, 0, Option.none⟩ : Addr) fun b18 =>
  sel (!b18) (
  ldB w16 (⟨B3, 0, Option.none⟩ : Addr) fun b19 =>
  sel b19 (
  drW w16 fun w20 =>
  ∃ S21 : World → Prop, S21 w20 ∧ (
  Calls Tryd.prog 23 #[.slice A12_0 n12_0 c12_0, .slice A17_0 n17_0 c17_0] w20 fun e22 w23 => ∃ (x24 : Int), e22 = .returned (.int .i64 x24) ∧ (
  S21 w23 ∧ (
  sel (!((decide (x24 < (0 : Int))) == true)) (
  S21 w23 ∧ (
  Q (.returned (.bool false)) w23)) (
  hdB S21 (⟨B1, 0, Option.none⟩ : Addr) fun b25 =>
  hdI S21 ((⟨B1, 0, Option.none⟩ : Addr).add 1) .i64 fun x26 =>
  hdB S21 (⟨B3, 0, Option.none⟩ : Addr) fun b27 =>
  hdI S21 ((⟨B3, 0, Option.none⟩ : Addr).add 1) .i64 fun x28 =>
  Calls Tryd.prog 24 #[.slice A12_0 n12_0 c12_0, .slice A17_0 n17_0 c17_0] w23 fun e29 w30 => ∃ (b31 : Bool), e29 = .returned (.bool b31) ∧ (
  S21 w30 ∧ (
  sel (!(b31 == ((b25 == b27) && ((x26 == x28) && true)))) (
  Q (.returned (.bool false)) w30) (
  j0 Aa2 na2 ca2 Aa3 na3 ca3 xa4 xa5 w30 (fun (b62 : Bool) (w63 : World) => ∀ _ : Fr,
  Q (.returned (.bool b62)) w63))))))))) (
  ldB w16 (⟨B1, 0, Option.none⟩ : Addr) fun b64 =>
  ldB w16 (⟨B3, 0, Option.none⟩ : Addr) fun b65 =>
  sel (b64 == b65) (
  ldI w16 ((⟨B1, 0, Option.none⟩ : Addr).add 1) .i64 fun x66 =>
  ldI w16 ((⟨B3, 0, Option.none⟩ : Addr).add 1) .i64 fun x67 =>
  drW w16 fun w68 =>
  ∃ S69 : World → Prop, S69 w68 ∧ (
  Calls Tryd.prog 23 #[.slice A12_0 n12_0 c12_0, .slice A17_0 n17_0 c17_0] w68 fun e70 w71 => ∃ (x72 : Int), e70 = .returned (.int .i64 x72) ∧ (
  S69 w71 ∧ (
  sel (!((decide (x72 < (0 : Int))) == (decide (x66 < x67)))) (
  S69 w71 ∧ (
  Q (.returned (.bool false)) w71)) (
  hdB S69 (⟨B1, 0, Option.none⟩ : Addr) fun b73 =>
  hdI S69 ((⟨B1, 0, Option.none⟩ : Addr).add 1) .i64 fun x74 =>
  hdB S69 (⟨B3, 0, Option.none⟩ : Addr) fun b75 =>
  hdI S69 ((⟨B3, 0, Option.none⟩ : Addr).add 1) .i64 fun x76 =>
  Calls Tryd.prog 24 #[.slice A12_0 n12_0 c12_0, .slice A17_0 n17_0 c17_0] w71 fun e77 w78 => ∃ (b79 : Bool), e77 = .returned (.bool b79) ∧ (
  S69 w78 ∧ (
  sel (!(b79 == ((b73 == b75) && ((x74 == x76) && true)))) (
  Q (.returned (.bool false)) w78) (
  j0 Aa2 na2 ca2 Aa3 na3 ca3 xa4 xa5 w78 (fun (b80 : Bool) (w81 : World) => ∀ _ : Fr,
  Q (.returned (.bool b80)) w81))))))))) (
  drW w16 fun w82 =>
  ∃ S83 : World → Prop, S83 w82 ∧ (
  Calls Tryd.prog 23 #[.slice A12_0 n12_0 c12_0, .slice A17_0 n17_0 c17_0] w82 fun e84 w85 => ∃ (x86 : Int), e84 = .returned (.int .i64 x86) ∧ (
  S83 w85 ∧ (
  sel (!((decide (x86 < (0 : Int))) == false)) (
  S83 w85 ∧ (
  Q (.returned (.bool false)) w85)) (
  hdB S83 (⟨B1, 0, Option.none⟩ : Addr) fun b87 =>
  hdI S83 ((⟨B1, 0, Option.none⟩ : Addr).add 1) .i64 fun x88 =>
  hdB S83 (⟨B3, 0, Option.none⟩ : Addr) fun b89 =>
  hdI S83 ((⟨B3, 0, Option.none⟩ : Addr).add 1) .i64 fun x90 =>
  Calls Tryd.prog 24 #[.slice A12_0 n12_0 c12_0, .slice A17_0 n17_0 c17_0] w85 fun e91 w92 => ∃ (b93 : Bool), e91 = .returned (.bool b93) ∧ (
  S83 w92 ∧ (
  sel (!(b93 == ((b87 == b89) && ((x88 == x90) && true)))) (
  Q (.returned (.bool false)) w92) (
  j0 Aa2 na2 ca2 Aa3 na3 ca3 xa4 xa5 w92 (fun (b94 : Bool) (w95 : World) => ∀ _ : Fr,
  Q (.returned (.bool b94)) w95))))))))))) (
  ldB w16 (⟨B1, 0, Option.none⟩ : Addr) fun b96 =>
  ldB w16 (⟨B3, 0, Option.none⟩ : Addr) fun b97 =>
  sel (b96 == b97) (
  ldI w16 ((⟨B1, 0, Option.none⟩ : Addr).add 1) .i64 fun x98 =>
  ldI w16 ((⟨B3, 0, Option.none⟩ : Addr).add 1) .i64 fun x99 =>
  drW w16 fun w100 =>
  ∃ S101 : World → Prop, S101 w100 ∧ (
  Calls Tryd.prog 23 #[.slice A12_0 n12_0 c12_0, .slice A17_0 n17_0 c17_0] w100 fun e102 w103 => ∃ (x104 : Int), e102 = .returned (.int .i64 x104) ∧ (
  S101 w103 ∧ (
  sel (!((decide (x104 < (0 : Int))) == (decide (x98 < x99)))) (
  S101 w103 ∧ (
  Q (.returned (.bool false)) w103)) (
  hdB S101 (⟨B1, 0, Option.none⟩ : Addr) fun b105 =>
  hdI S101 ((⟨B1, 0, Option.none⟩ : Addr).add 1) .i64 fun x106 =>
  hdB S101 (⟨B3, 0, Option.none⟩ : Addr) fun b107 =>
  hdI S101 ((⟨B3, 0, Option.none⟩ : Addr).add 1) .i64 fun x108 =>
  Calls Tryd.prog 24 #[.slice A12_0 n12_0 c12_0, .slice A17_0 n17_0 c17_0] w103 fun e109 w110 => ∃ (b111 : Bool), e109 = .returned (.bool b111) ∧ (
  S101 w110 ∧ (
  sel (!(b111 == ((b105 == b107) && ((x106 == x108) && true)))) (
  Q (.returned (.bool false)) w110) (
  j0 Aa2 na2 ca2 Aa3 na3 ca3 xa4 xa5 w110 (fun (b112 : Bool) (w113 : World) => ∀ _ : Fr,
  Q (.returned (.bool b112)) w113))))))))) (
  drW w16 fun w114 =>
  ∃ S115 : World → Prop, S115 w114 ∧ (
  Calls Tryd.prog 23 #[.slice A12_0 n12_0 c12_0, .slice A17_0 n17_0 c17_0] w114 fun e116 w117 => ∃ (x118 : Int), e116 = .returned (.int .i64 x118) ∧ (
  S115 w117 ∧ (
  sel (!((decide (x118 < (0 : Int))) == false)) (
  S115 w117 ∧ (
  Q (.returned (.bool false)) w117)) (
  hdB S115 (⟨B1, 0, Option.none⟩ : Addr) fun b119 =>
  hdI S115 ((⟨B1, 0, Option.none⟩ : Addr).add 1) .i64 fun x120 =>
  hdB S115 (⟨B3, 0, Option.none⟩ : Addr) fun b121 =>
  hdI S115 ((⟨B3, 0, Option.none⟩ : Addr).add 1) .i64 fun x122 =>
  Calls Tryd.prog 24 #[.slice A12_0 n12_0 c12_0, .slice A17_0 n17_0 c17_0] w117 fun e123 w124 => ∃ (b125 : Bool), e123 = .returned (.bool b125) ∧ (
  S115 w124 ∧ (
  sel (!(b125 == ((b119 == b121) && ((x120 == x122) && true)))) (
  Q (.returned (.bool false)) w124) (
  j0 Aa2 na2 ca2 Aa3 na3 ca3 xa4 xa5 w124 (fun (b126 : Bool) (w127 : World) => ∀ _ : Fr,
  Q (.returned (.bool b126)) w127))))))))))) (
  j0 Aa2 na2 ca2 Aa3 na3 ca3 xa4 xa5 w16 (fun (b128 : Bool) (w129 : World) => ∀ _ : Fr,
  Q (.returned (.bool b128)) w129))) (
  j0 Aa2 na2 ca2 Aa3 na3 ca3 xa4 xa5 w16 (fun (b130 : Bool) (w131 : World) => ∀ _ : Fr,
  Q (.returned (.bool b130)) w131))))))
def D : Nat → Option DH := dtab [(7, .held [.fst 0, .fst 1, .fst 4, .eff 2, .fst 3, .fst 5, .fst 6, .fst 7, .fst 8, .fst 10, .fst 11, .fst 12, .eff 9] [.fst 13, .fst 14])]
def j0LO : LO := ⟨[], [12], [], []⟩
def j0T : Spec := fun Q σ w =>
  gSlice (σ 2) fun At2 nt2 ct2 =>
  gSlice (σ 3) fun At3 nt3 ct3 =>
  gInt .i64 (σ 4) fun xt4 =>
  gInt .i64 (σ 5) fun xt5 =>
  j0 At2 nt2 ct2 At3 nt3 ct3 xt4 xt5 w (fun (bq12 : Bool) (w : World) => ∀ d : Fr, Q .ret (ov d [(12, .bool bq12)]) w)
def j0tb : List (List Nat × Spec) := []
noncomputable def j0b : Code := (subC [1, 1, 1, 1, 1] body).getD .skip
theorem j0_eq (At2 : Option Addr) (nt2 : Nat) (ct2 : Nat) (At3 : Option Addr) (nt3 : Nat) (ct3 : Nat) (xt4 : Int) (xt5 : Int) (Q : PQ) (σ : Fr) (w : World) :
    j0 At2 nt2 ct2 At3 nt3 ct3 xt4 xt5 w (fun (bq12 : Bool) (w : World) => ∀ d : Fr, Q .ret (ov d [(12, .bool bq12)]) w) = codeW Tryd.prog hT 131 D (tab j0tb) [1, 1, 1, 1, 1] j0b (widen j0LO Q) (ov σ [(2, .slice At2 nt2 ct2), (3, .slice At3 nt3 ct3), (4, .int .i64 xt4), (5, .int .i64 xt5)]) w := by kernel_rfl
theorem j0_snd : ∀ c, subC [1, 1, 1, 1, 1] body = some c → Snd Tryd.prog 131 c j0T := by
  refine cut_of (hT := hT) (D := D) (l := j0tb) (b := j0b) (lo := j0LO) (by kernel_rfl) (by
    intro x hx
    simp only [j0tb, List.not_mem_nil] at hx
    ) (by kernel_rfl) (by kernel_rfl) ?_
  intro Q σ w h
  unfold j0T at h
  obtain ⟨At2, nt2, ct2, h2, hn⟩ := gSlice_elim h
  clear h
  have h := hn
  clear hn
  obtain ⟨At3, nt3, ct3, h3, hn⟩ := gSlice_elim h
  clear h
  have h := hn
  clear hn
  obtain ⟨xt4, h4, hn⟩ := gInt_elim h
  clear h
  have h := hn
  clear hn
  obtain ⟨xt5, h5, hn⟩ := gInt_elim h
  clear h
  have h := hn
  clear hn
  rw [j0_eq (σ := σ)] at h
  have e : (ov σ [(2, .slice At2 nt2 ct2), (3, .slice At3 nt3 ct3), (4, .int .i64 xt4), (5, .int .i64 xt5)]) = σ := ov_self (by simp [h2, h3, h4, h5])
  rw [e] at h
  exact h
def tb : List (List Nat × Spec) := [([1, 1, 1, 1, 1], j0T)]
theorem wp_eq (ba0_0 : Bool) (xa0_1 : Int) (ba1_0 : Bool) (xa1_1 : Int) (Aa2 : Option Addr) (na2 : Nat) (ca2 : Nat) (Aa3 : Option Addr) (na3 : Nat) (ca3 : Nat) (xa4 : Int) (xa5 : Int) (w : World) (Q : Ending → World → Prop) :
    wp ba0_0 xa0_1 ba1_0 xa1_1 Aa2 na2 ca2 Aa3 na3 ca3 xa4 xa5 w Q = codeW Tryd.prog hT 131 D (tab tb) [] body (topQ Tryd.prog hT 131 [.tmp 12] Q) (argsF [.agg #[.bool ba0_0, .int .i64 xa0_1], .agg #[.bool ba1_0, .int .i64 xa1_1], .slice Aa2 na2 ca2, .slice Aa3 na3 ca3, .int .i64 xa4, .int .i64 xa5]) w := by cases ba0_0 <;> cases ba1_0 <;> kernel_rfl
theorem ok (ba0_0 : Bool) (xa0_1 : Int) (ba1_0 : Bool) (xa1_1 : Int) (Aa2 : Option Addr) (na2 : Nat) (ca2 : Nat) (Aa3 : Option Addr) (na3 : Nat) (ca3 : Nat) (xa4 : Int) (xa5 : Int) (w : World) (Q : Ending → World → Prop) (h : wp ba0_0 xa0_1 ba1_0 xa1_1 Aa2 na2 ca2 Aa3 na3 ca3 xa4 xa5 w Q) : Calls Tryd.prog 5 #[.agg #[.bool ba0_0, .int .i64 xa0_1], .agg #[.bool ba1_0, .int .i64 xa1_1], .slice Aa2 na2 ca2, .slice Aa3 na3 ca3, .int .i64 xa4, .int .i64 xa5] w Q := by
  rw [wp_eq] at h
  exact calls_of_codeW (c := body) (rs := [.tmp 12]) Tryd.func5 (by kernel_rfl) (by kernel_rfl) (by kernel_rfl) (by kernel_rfl) (by kernel_rfl) (tab_snd (by
    intro x hx
    simp only [tb, List.mem_cons, List.not_mem_nil, or_false] at hx
    subst hx
    exact j0_snd)) (by kernel_rfl) h
end f_law04_KeysOrder
end Go.Proofs.YtakgoekfnhkgaaaDoor.Rd
