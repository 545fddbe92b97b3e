/- The printed readings of some functions: each function's code reckoned by the kernel to its predicate transformer. -/
import Derived.Test.YtakgoekfnhkgaaaDoorHint
namespace Go.Proofs.YtakgoekfnhkgaaaDoor.Rd
open Go.Dn
set_option maxRecDepth 100000
set_option linter.unusedVariables false
namespace f_law04_KeysNames
/-! skein/skeinlaw04.KeysNames: function 3 -/
noncomputable def body : Code := (Tryd.f3.body).getD .skip
def j0 (At2 : Option Addr) (nt2 : Nat) (ct2 : Nat) (w : World) (Kr : Bool → World → Prop) : Prop :=
  Calls Tryd.prog 15 #[.slice At2 nt2 ct2] w fun e48 w49 => ∃ (A50 : Option Addr) (n50 : Nat) (c50 : Nat), e48 = .returned (.slice A50 n50 c50) ∧ (
  req (decide (0 ≤ (nt2 : Int) ∧ (nt2 : Int) ≤ (c50 : Int))) <|
  Calls Tryd.prog 16 #[.slice (slA A50 0 c50 1) ((nt2 : Int).toNat - 0) (c50 - 0)] w49 fun e51 w52 => ∃ (b53_0_0 : Bool) (x53_0_1 : Int) (s53_1 : ByteArray) (b53_2 : Bool), e51 = .returned (.tuple #[.agg #[.bool b53_0_0, .int .i64 x53_0_1], .string s53_1, .bool b53_2]) ∧ (
  alW w52 (.cells #[.bool false, .int .i64 (0 : Int)] 23) fun B54 w55 =>
  stW w55 (⟨B54, 0, Option.none⟩ : Addr) (.bool b53_0_0) fun w56 =>
  stW w56 ((⟨B54, 0, Option.none⟩ : Addr).add 1) (.int .i64 x53_0_1) fun w57 =>
  Calls Tryd.prog 17 #[.slice At2 nt2 ct2] w57 fun e58 w59 => ∃ (b60_0_0 : Bool) (x60_0_1 : Int) (s60_1 : ByteArray) (b60_2 : Bool), e58 = .returned (.tuple #[.agg #[.bool b60_0_0, .int .i64 x60_0_1], .string s60_1, .bool b60_2]) ∧ (
  alW w59 (.cells #[.bool false, .int .i64 (0 : Int)] 23) fun B61 w62 =>
  stW w62 (⟨B61, 0, Option.none⟩ : Addr) (.bool b60_0_0) fun w63 =>
  stW w63 ((⟨B61, 0, Option.none⟩ : Addr).add 1) (.int .i64 x60_0_1) fun w64 =>
  ldB w64 (⟨B54, 0, Option.none⟩ : Addr) fun b65 =>
  ldI w64 ((⟨B54, 0, Option.none⟩ : Addr).add 1) .i64 fun x66 =>
  ldB w64 (⟨B61, 0, Option.none⟩ : Addr) fun b67 =>
  ldI w64 ((⟨B61, 0, Option.none⟩ : Addr).add 1) .i64 fun x68 =>
  sel ((b65 == b67) && ((x66 == x68) && true)) (
  sel (s53_1.toList == s60_1.toList) (
  sel (b53_2 == b60_2) (
  Calls Tryd.prog 18 #[.slice A50 n50 c50, .slice At2 nt2 ct2] w64 fun e69 w70 => ∃ (b71 : Bool), e69 = .returned (.bool b71) ∧ (
  Kr b71 w70)) (
  Kr false w64)) (
  Kr false w64)) (
  Kr false w64))))
def wp (ba0_0 : Bool) (xa0_1 : Int) (sa1 : ByteArray) (Aa2 : Option Addr) (na2 : Nat) (ca2 : Nat) (w : World) (Q : Ending → World → Prop) : Prop :=
  alW w (.cells #[.bool ba0_0, .int .i64 xa0_1] 23) fun B1 w2 =>
  Calls Tryd.prog 7 #[] w2 fun e3 w4 => ∃ (b5 : Bool), e3 = .returned (.bool b5) ∧ (
  sel (!b5) (
  Q (.returned (.bool false)) w4) (
  ldB w4 (⟨B1, 0, Option.none⟩ : Addr) fun b6 =>
  ldI w4 ((⟨B1, 0, Option.none⟩ : Addr).add 1) .i64 fun x7 =>
  Calls Tryd.prog 8 #[.agg #[.bool b6, .int .i64 x7]] w4 fun e8 w9 => ∃ (A10_0 : Option Addr) (n10_0 : Nat) (c10_0 : Nat) (x10_1 : Int), e8 = .returned (.tuple #[.slice A10_0 n10_0 c10_0, .int .i64 x10_1]) ∧ (
  ldB w9 (⟨B1, 0, Option.none⟩ : Addr) fun b11 =>
  ldI w9 ((⟨B1, 0, Option.none⟩ : Addr).add 1) .i64 fun x12 =>
  Calls Tryd.prog 8 #[.agg #[.bool b11, .int .i64 x12]] w9 fun e13 w14 => ∃ (A15_0 : Option Addr) (n15_0 : Nat) (c15_0 : Nat) (x15_1 : Int), e13 = .returned (.tuple #[.slice A15_0 n15_0 c15_0, .int .i64 x15_1]) ∧ (
  ldB w14 (⟨B1, 0, Option.none⟩ : Addr) fun b16 =>
  ldI w14 ((⟨B1, 0, Option.none⟩ : Addr).add 1) .i64 fun x17 =>
  Calls Tryd.prog 9 #[.agg #[.bool b16, .int .i64 x17]] w14 fun e18 w19 => ∃ (A20_0 : Option Addr) (n20_0 : Nat) (c20_0 : Nat) (x20_1 : Int), e18 = .returned (.tuple #[.slice A20_0 n20_0 c20_0, .int .i64 x20_1]) ∧ (
  ldB w19 (⟨B1, 0, Option.none⟩ : Addr) fun b21 =>
  ldI w19 ((⟨B1, 0, Option.none⟩ : Addr).add 1) .i64 fun x22 =>
  Calls Tryd.prog 10 #[.agg #[.bool b21, .int .i64 x22], .string sa1] w19 fun e23 w24 => ∃ (A25_0 : Option Addr) (n25_0 : Nat) (c25_0 : Nat) (x25_1 : Int), e23 = .returned (.tuple #[.slice A25_0 n25_0 c25_0, .int .i64 x25_1]) ∧ (
  ldB w24 (⟨B1, 0, Option.none⟩ : Addr) fun b26 =>
  ldI w24 ((⟨B1, 0, Option.none⟩ : Addr).add 1) .i64 fun x27 =>
  Calls Tryd.prog 10 #[.agg #[.bool b26, .int .i64 x27], .string sa1] w24 fun e28 w29 => ∃ (A30_0 : Option Addr) (n30_0 : Nat) (c30_0 : Nat) (x30_1 : Int), e28 = .returned (.tuple #[.slice A30_0 n30_0 c30_0, .int .i64 x30_1]) ∧ (
  ldB w29 (⟨B1, 0, Option.none⟩ : Addr) fun b31 =>
  ldI w29 ((⟨B1, 0, Option.none⟩ : Addr).add 1) .i64 fun x32 =>
  Calls Tryd.prog 11 #[.agg #[.bool b31, .int .i64 x32], .string sa1] w29 fun e33 w34 => ∃ (A35_0 : Option Addr) (n35_0 : Nat) (c35_0 : Nat) (x35_1 : Int), e33 = .returned (.tuple #[.slice A35_0 n35_0 c35_0, .int .i64 x35_1]) ∧ (
  sel (x10_1 != x20_1) (
  Q (.returned (.bool false)) w34) (
  sel (x25_1 != x35_1) (
  Q (.returned (.bool false)) w34) (
  Calls Tryd.prog 12 #[.slice A10_0 n10_0 c10_0, .slice A15_0 n15_0 c15_0, .slice A20_0 n20_0 c20_0] w34 fun e36 w37 => ∃ (b38 : Bool), e36 = .returned (.bool b38) ∧ (
  sel (!b38) (
  Q (.returned (.bool false)) w37) (
  Calls Tryd.prog 12 #[.slice A25_0 n25_0 c25_0, .slice A30_0 n30_0 c30_0, .slice A35_0 n35_0 c35_0] w37 fun e39 w40 => ∃ (b41 : Bool), e39 = .returned (.bool b41) ∧ (
  sel (!b41) (
  Q (.returned (.bool false)) w40) (
  Calls Tryd.prog 13 #[.string sa1] w40 fun e42 w43 => ∃ (b44 : Bool), e42 = .returned (.bool b44) ∧ (
  Calls Tryd.prog 14 #[.string sa1] w43 fun e45 w46 => ∃ (b47 : Bool), e45 = .returned (.bool b47) ∧ (
  sel (!(b44 == b47)) (
  Q (.returned (.bool false)) w46) (
  j0 Aa2 na2 ca2 w46 (fun (b72 : Bool) (w73 : World) => ∀ _ : Fr,
  Q (.returned (.bool b72)) w73))))))))))))))))))
def D : Nat → Option DH := dtab []
def j0LO : LO := ⟨[], [6], [], []⟩
def j0T : Spec := fun Q σ w =>
  gSlice (σ 2) fun At2 nt2 ct2 =>
  j0 At2 nt2 ct2 w (fun (bq6 : Bool) (w : World) => ∀ d : Fr, Q .ret (ov d [(6, .bool bq6)]) w)
def j0tb : List (List Nat × Spec) := []
noncomputable def j0b : Code := (subC [1, 1, 1, 1, 1, 1, 1, 1, 1] body).getD .skip
theorem j0_eq (At2 : Option Addr) (nt2 : Nat) (ct2 : Nat) (Q : PQ) (σ : Fr) (w : World) :
    j0 At2 nt2 ct2 w (fun (bq6 : Bool) (w : World) => ∀ d : Fr, Q .ret (ov d [(6, .bool bq6)]) w) = codeW Tryd.prog hT 125 D (tab j0tb) [1, 1, 1, 1, 1, 1, 1, 1, 1] j0b (widen j0LO Q) (ov σ [(2, .slice At2 nt2 ct2)]) w := by kernel_rfl
theorem j0_snd : ∀ c, subC [1, 1, 1, 1, 1, 1, 1, 1, 1] body = some c → Snd Tryd.prog 125 c j0T := by
  refine cut_of (hT := hT) (D := D) (l := j0tb) (b := j0b) (lo := j0LO) (by kernel_rfl) (by
    intro x hx
    simp only [j0tb, List.not_mem_nil] at hx
    ) (by kernel_rfl) (by kernel_rfl) ?_
  intro Q σ w h
  unfold j0T at h
  obtain ⟨At2, nt2, ct2, h2, hn⟩ := gSlice_elim h
  clear h
  have h := hn
  clear hn
  rw [j0_eq (σ := σ)] at h
  have e : (ov σ [(2, .slice At2 nt2 ct2)]) = σ := ov_self (by simp [h2])
  rw [e] at h
  exact h
def tb : List (List Nat × Spec) := [([1, 1, 1, 1, 1, 1, 1, 1, 1], j0T)]
theorem wp_eq (ba0_0 : Bool) (xa0_1 : Int) (sa1 : ByteArray) (Aa2 : Option Addr) (na2 : Nat) (ca2 : Nat) (w : World) (Q : Ending → World → Prop) :
    wp ba0_0 xa0_1 sa1 Aa2 na2 ca2 w Q = codeW Tryd.prog hT 125 D (tab tb) [] body (topQ Tryd.prog hT 125 [.tmp 6] Q) (argsF [.agg #[.bool ba0_0, .int .i64 xa0_1], .string sa1, .slice Aa2 na2 ca2]) w := by cases ba0_0 <;> kernel_rfl
theorem ok (ba0_0 : Bool) (xa0_1 : Int) (sa1 : ByteArray) (Aa2 : Option Addr) (na2 : Nat) (ca2 : Nat) (w : World) (Q : Ending → World → Prop) (h : wp ba0_0 xa0_1 sa1 Aa2 na2 ca2 w Q) : Calls Tryd.prog 3 #[.agg #[.bool ba0_0, .int .i64 xa0_1], .string sa1, .slice Aa2 na2 ca2] w Q := by
  rw [wp_eq] at h
  exact calls_of_codeW (c := body) (rs := [.tmp 6]) Tryd.func3 (by kernel_rfl) (by kernel_rfl) (by kernel_rfl) (by kernel_rfl) (by kernel_rfl) (tab_snd (by
    intro x hx
    simp only [tb, List.mem_cons, List.not_mem_nil, or_false] at hx
    subst hx
    exact j0_snd)) (by kernel_rfl) h
end f_law04_KeysNames
end Go.Proofs.YtakgoekfnhkgaaaDoor.Rd
