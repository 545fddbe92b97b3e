/- The printed readings of some functions: each function's code reckoned by the kernel to its predicate transformer. -/
import Derived.Test.YtakgoekfnhkgaaaDoorHint
namespace Go.Proofs.YtakgoekfnhkgaaaDoor.Rd
open Go.Dn
set_option maxRecDepth 100000
set_option linter.unusedVariables false
namespace f_law04_KeysApart
/-! skein/skeinlaw04.KeysApart: function 6 -/
noncomputable def body : Code := (Tryd.f6.body).getD .skip
def j0 (st2 : ByteArray) (st3 : ByteArray) (xt4 : Int) (xt5 : Int) (at6 : Addr) (at7 : Addr) (At15 : Option Addr) (nt15 : Nat) (ct15 : Nat) (At19 : Option Addr) (nt19 : Nat) (ct19 : Nat) (xt20 : Int) (w : World) (Kr : Bool → World → Prop) : Prop :=
  Calls Tryd.prog 19 #[.slice At15 nt15 ct15, .int .i64 xt5] w fun e41 w42 => ∃ (A43_0 : Option Addr) (n43_0 : Nat) (c43_0 : Nat) (x43_1 : Int), e41 = .returned (.tuple #[.slice A43_0 n43_0 c43_0, .int .i64 x43_1]) ∧ (
  sel (xt20 != (0 : Int)) (
  sel ((nt19 : Int) == (0 : Int)) (
  Kr true w42) (
  Kr ((n43_0 : Int) == (0 : Int)) w42)) (
  sel (x43_1 != (0 : Int)) (
  sel ((nt19 : Int) == (0 : Int)) (
  Kr true w42) (
  Kr ((n43_0 : Int) == (0 : Int)) w42)) (
  sel (decide ((n43_0 : Int) ≥ (IntKind.i64.wrap ((nt19 : Int) - (8 : Int))))) (
  Calls Tryd.prog 25 #[.slice A43_0 n43_0 c43_0, .int .i64 (0 : Int), .int .i64 (IntKind.i64.wrap ((nt19 : Int) - (8 : Int)))] w42 fun e44 w45 => ∃ (A46 : Option Addr) (n46 : Nat) (c46 : Nat), e44 = .returned (.slice A46 n46 c46) ∧ (
  Calls Tryd.prog 25 #[.slice At19 nt19 ct19, .int .i64 (0 : Int), .int .i64 (IntKind.i64.wrap ((nt19 : Int) - (8 : Int)))] w45 fun e47 w48 => ∃ (A49 : Option Addr) (n49 : Nat) (c49 : Nat), e47 = .returned (.slice A49 n49 c49) ∧ (
  Calls Tryd.prog 24 #[.slice A46 n46 c46, .slice A49 n49 c49] w48 fun e50 w51 => ∃ (b52 : Bool), e50 = .returned (.bool b52) ∧ (
  ldB w51 at6 fun b53 =>
  ldI w51 (at6.add 1) .i64 fun x54 =>
  ldB w51 at7 fun b55 =>
  ldI w51 (at7.add 1) .i64 fun x56 =>
  sel ((b53 == b55) && ((x54 == x56) && true)) (
  sel (b52 == (st2.toList == st3.toList)) (
  Calls Tryd.prog 24 #[.slice At19 nt19 ct19, .slice A43_0 n43_0 c43_0] w51 fun e57 w58 => ∃ (b59 : Bool), e57 = .returned (.bool b59) ∧ (
  sel b52 (
  Kr (b59 == (xt4 == xt5)) w58) (
  Kr (b59 == false) w58))) (
  Kr false w51)) (
  sel (b52 == false) (
  Calls Tryd.prog 24 #[.slice At19 nt19 ct19, .slice A43_0 n43_0 c43_0] w51 fun e60 w61 => ∃ (b62 : Bool), e60 = .returned (.bool b62) ∧ (
  sel b52 (
  Kr (b62 == (xt4 == xt5)) w61) (
  Kr (b62 == false) w61))) (
  Kr false w51)))))) (
  ldB w42 at6 fun b63 =>
  ldI w42 (at6.add 1) .i64 fun x64 =>
  ldB w42 at7 fun b65 =>
  ldI w42 (at7.add 1) .i64 fun x66 =>
  sel ((b63 == b65) && ((x64 == x66) && true)) (
  sel (false == (st2.toList == st3.toList)) (
  Calls Tryd.prog 24 #[.slice At19 nt19 ct19, .slice A43_0 n43_0 c43_0] w42 fun e67 w68 => ∃ (b69 : Bool), e67 = .returned (.bool b69) ∧ (
  Kr (b69 == false) w68)) (
  Kr false w42)) (
  sel (false == false) (
  Calls Tryd.prog 24 #[.slice At19 nt19 ct19, .slice A43_0 n43_0 c43_0] w42 fun e70 w71 => ∃ (b72 : Bool), e70 = .returned (.bool b72) ∧ (
  Kr (b72 == false) w71)) (
  Kr false w42))))))
def wp (ba0_0 : Bool) (xa0_1 : Int) (ba1_0 : Bool) (xa1_1 : Int) (sa2 : ByteArray) (sa3 : ByteArray) (xa4 : Int) (xa5 : Int) (w : World) (Q : Ending → World → Prop) : Prop :=
  alW w (.cells #[.bool ba0_0, .int .i64 xa0_1] 23) fun B1 w2 =>
  alW w2 (.cells #[.bool ba1_0, .int .i64 xa1_1] 23) fun B3 w4 =>
  Calls Tryd.prog 7 #[] w4 fun e5 w6 => ∃ (b7 : Bool), e5 = .returned (.bool b7) ∧ (
  sel (!b7) (
  Q (.returned (.bool false)) w6) (
  ldB w6 (⟨B1, 0, Option.none⟩ : Addr) fun b8 =>
  ldI w6 ((⟨B1, 0, Option.none⟩ : Addr).add 1) .i64 fun x9 =>
  Calls Tryd.prog 10 #[.agg #[.bool b8, .int .i64 x9], .string sa2] w6 fun e10 w11 => ∃ (A12_0 : Option Addr) (n12_0 : Nat) (c12_0 : Nat) (x12_1 : Int), e10 = .returned (.tuple #[.slice A12_0 n12_0 c12_0, .int .i64 x12_1]) ∧ (
  ldB w11 (⟨B3, 0, Option.none⟩ : Addr) fun b13 =>
  ldI w11 ((⟨B3, 0, Option.none⟩ : Addr).add 1) .i64 fun x14 =>
  Calls Tryd.prog 10 #[.agg #[.bool b13, .int .i64 x14], .string sa3] w11 fun e15 w16 => ∃ (A17_0 : Option Addr) (n17_0 : Nat) (c17_0 : Nat) (x17_1 : Int), e15 = .returned (.tuple #[.slice A17_0 n17_0 c17_0, .int .i64 x17_1]) ∧ (
  ldB w16 (⟨B1, 0, Option.none⟩ : Addr) fun b18 =>
  ldI w16 ((⟨B1, 0, Option.none⟩ : Addr).add 1) .i64 fun x19 =>
  Calls Tryd.prog 8 #[.agg #[.bool b18, .int .i64 x19]] w16 fun e20 w21 => ∃ (A22_0 : Option Addr) (n22_0 : Nat) (c22_0 : Nat) (x22_1 : Int), e20 = .returned (.tuple #[.slice A22_0 n22_0 c22_0, .int .i64 x22_1]) ∧ (
  sel (x12_1 != (0 : Int)) (
  sel ((n12_0 : Int) == (0 : Int)) (
  Q (.returned (.bool true)) w21) (
  sel ((n17_0 : Int) == (0 : Int)) (
  Q (.returned (.bool true)) w21) (
  Q (.returned (.bool ((n22_0 : Int) == (0 : Int)))) w21))) (
  sel (x17_1 != (0 : Int)) (
  sel ((n12_0 : Int) == (0 : Int)) (
  Q (.returned (.bool true)) w21) (
  sel ((n17_0 : Int) == (0 : Int)) (
  Q (.returned (.bool true)) w21) (
  Q (.returned (.bool ((n22_0 : Int) == (0 : Int)))) w21))) (
  sel (x22_1 != (0 : Int)) (
  sel ((n12_0 : Int) == (0 : Int)) (
  Q (.returned (.bool true)) w21) (
  sel ((n17_0 : Int) == (0 : Int)) (
  Q (.returned (.bool true)) w21) (
  Q (.returned (.bool ((n22_0 : Int) == (0 : Int)))) w21))) (
  drW w21 fun w23 =>
  ∃ S24 : World → Prop, S24 w23 ∧ (
  hdB S24 (⟨B1, 0, Option.none⟩ : Addr) fun b25 =>
  hdI S24 ((⟨B1, 0, Option.none⟩ : Addr).add 1) .i64 fun x26 =>
  hdB S24 (⟨B3, 0, Option.none⟩ : Addr) fun b27 =>
  hdI S24 ((⟨B3, 0, Option.none⟩ : Addr).add 1) .i64 fun x28 =>
  Calls Tryd.prog 24 #[.slice A12_0 n12_0 c12_0, .slice A17_0 n17_0 c17_0] w23 fun e29 w30 => ∃ (b31 : Bool), e29 = .returned (.bool b31) ∧ (
  S24 w30 ∧ (
  sel ((b25 == b27) && ((x26 == x28) && true)) (
  sel (!(b31 == (sa2.toList == sa3.toList))) (
  Q (.returned (.bool false)) w30) (
  Calls Tryd.prog 24 #[.slice A12_0 n12_0 c12_0, .slice A22_0 n22_0 c22_0] w30 fun e32 w33 => ∃ (b34 : Bool), e32 = .returned (.bool b34) ∧ (
  sel b34 (
  Q (.returned (.bool false)) w33) (
  Calls Tryd.prog 24 #[.slice A17_0 n17_0 c17_0, .slice A22_0 n22_0 c22_0] w33 fun e35 w36 => ∃ (b37 : Bool), e35 = .returned (.bool b37) ∧ (
  sel b37 (
  Q (.returned (.bool false)) w36) (
  Calls Tryd.prog 19 #[.slice A12_0 n12_0 c12_0, .int .i64 xa4] w36 fun e38 w39 => ∃ (A40_0 : Option Addr) (n40_0 : Nat) (c40_0 : Nat) (x40_1 : Int), e38 = .returned (.tuple #[.slice A40_0 n40_0 c40_0, .int .i64 x40_1]) ∧ (
  j0 sa2 sa3 xa4 xa5 (⟨B1, 0, Option.none⟩ : Addr) (⟨B3, 0, Option.none⟩ : Addr) A17_0 n17_0 c17_0 A40_0 n40_0 c40_0 x40_1 w39 (fun (b73 : Bool) (w74 : World) => ∀ _ : Fr,
  Q (.returned (.bool b73)) w74)))))))) (
  sel (!(b31 == false)) (
  Q (.returned (.bool false)) w30) (
  Calls Tryd.prog 24 #[.slice A12_0 n12_0 c12_0, .slice A22_0 n22_0 c22_0] w30 fun e75 w76 => ∃ (b77 : Bool), e75 = .returned (.bool b77) ∧ (
  sel b77 (
  Q (.returned (.bool false)) w76) (
  Calls Tryd.prog 24 #[.slice A17_0 n17_0 c17_0, .slice A22_0 n22_0 c22_0] w76 fun e78 w79 => ∃ (b80 : Bool), e78 = .returned (.bool b80) ∧ (
  sel b80 (
  Q (.returned (.bool false)) w79) (
  Calls Tryd.prog 19 #[.slice A12_0 n12_0 c12_0, .int .i64 xa4] w79 fun e81 w82 => ∃ (A83_0 : Option Addr) (n83_0 : Nat) (c83_0 : Nat) (x83_1 : Int), e81 = .returned (.tuple #[.slice A83_0 n83_0 c83_0, .int .i64 x83_1]) ∧ (
  j0 sa2 sa3 xa4 xa5 (⟨B1, 0, Option.none⟩ : Addr) (⟨B3, 0, Option.none⟩ : Addr) A17_0 n17_0 c17_0 A83_0 n83_0 c83_0 x83_1 w82 (fun (b84 : Bool) (w85 : World) => ∀ _ : Fr,
  Q (.returned (.bool b84)) w85)))))))))))))))))))
def D : Nat → Option DH := dtab [(8, .held [.fst 0, .fst 1, .fst 3, .fst 4, .fst 5, .eff 2] [.fst 6, .fst 7, .fst 8, .fst 9, .fst 10, .fst 11, .fst 12, .fst 13, .fst 14, .eff 15, .fst 16, .fst 17, .fst 18, .fst 19, .eff 20, .fst 21])]
def j0LO : LO := ⟨[], [12], [], []⟩
def j0T : Spec := fun Q σ w =>
  gStr (σ 2) fun st2 =>
  gStr (σ 3) fun st3 =>
  gInt .i64 (σ 4) fun xt4 =>
  gInt .i64 (σ 5) fun xt5 =>
  gAd (σ 6) fun at6 =>
  gAd (σ 7) fun at7 =>
  gSlice (σ 15) fun At15 nt15 ct15 =>
  gSlice (σ 19) fun At19 nt19 ct19 =>
  gInt .i64 (σ 20) fun xt20 =>
  j0 st2 st3 xt4 xt5 at6 at7 At15 nt15 ct15 At19 nt19 ct19 xt20 w (fun (bq12 : Bool) (w : World) => ∀ d : Fr, Q .ret (ov d [(12, .bool bq12)]) w)
def j0tb : List (List Nat × Spec) := []
noncomputable def j0b : Code := (subC [1, 1, 1, 1, 1, 1, 1, 1] body).getD .skip
theorem j0_eq (st2 : ByteArray) (st3 : ByteArray) (xt4 : Int) (xt5 : Int) (at6 : Addr) (at7 : Addr) (At15 : Option Addr) (nt15 : Nat) (ct15 : Nat) (At19 : Option Addr) (nt19 : Nat) (ct19 : Nat) (xt20 : Int) (Q : PQ) (σ : Fr) (w : World) :
    j0 st2 st3 xt4 xt5 at6 at7 At15 nt15 ct15 At19 nt19 ct19 xt20 w (fun (bq12 : Bool) (w : World) => ∀ d : Fr, Q .ret (ov d [(12, .bool bq12)]) w) = codeW Tryd.prog hT 153 D (tab j0tb) [1, 1, 1, 1, 1, 1, 1, 1] j0b (widen j0LO Q) (ov σ [(2, .string st2), (3, .string st3), (4, .int .i64 xt4), (5, .int .i64 xt5), (6, .pointer (some at6)), (7, .pointer (some at7)), (15, .slice At15 nt15 ct15), (19, .slice At19 nt19 ct19), (20, .int .i64 xt20)]) w := by kernel_rfl
theorem j0_snd : ∀ c, subC [1, 1, 1, 1, 1, 1, 1, 1] body = some c → Snd Tryd.prog 153 c j0T := by
  refine cut_of (hT := hT) (D := D) (l := j0tb) (b := j0b) (lo := j0LO) (by kernel_rfl) (by
    intro x hx
    simp only [j0tb, List.not_mem_nil] at hx
    ) (by kernel_rfl) (by kernel_rfl) ?_
  intro Q σ w h
  unfold j0T at h
  obtain ⟨st2, h2, hn⟩ := gStr_elim h
  clear h
  have h := hn
  clear hn
  obtain ⟨st3, h3, hn⟩ := gStr_elim h
  clear h
  have h := hn
  clear hn
  obtain ⟨xt4, h4, hn⟩ := gInt_elim h
  clear h
  have h := hn
  clear hn
  obtain ⟨xt5, h5, hn⟩ := gInt_elim h
  clear h
  have h := hn
  clear hn
  obtain ⟨at6, h6, hn⟩ := gAd_elim h
  clear h
  have h := hn
  clear hn
  obtain ⟨at7, h7, hn⟩ := gAd_elim h
  clear h
  have h := hn
  clear hn
  obtain ⟨At15, nt15, ct15, h15, hn⟩ := gSlice_elim h
  clear h
  have h := hn
  clear hn
  obtain ⟨At19, nt19, ct19, h19, hn⟩ := gSlice_elim h
  clear h
  have h := hn
  clear hn
  obtain ⟨xt20, h20, hn⟩ := gInt_elim h
  clear h
  have h := hn
  clear hn
  rw [j0_eq (σ := σ)] at h
  have e : (ov σ [(2, .string st2), (3, .string st3), (4, .int .i64 xt4), (5, .int .i64 xt5), (6, .pointer (some at6)), (7, .pointer (some at7)), (15, .slice At15 nt15 ct15), (19, .slice At19 nt19 ct19), (20, .int .i64 xt20)]) = σ := ov_self (by simp [h2, h3, h4, h5, h6, h7, h15, h19, h20])
  rw [e] at h
  exact h
def tb : List (List Nat × Spec) := [([1, 1, 1, 1, 1, 1, 1, 1], j0T)]
theorem wp_eq (ba0_0 : Bool) (xa0_1 : Int) (ba1_0 : Bool) (xa1_1 : Int) (sa2 : ByteArray) (sa3 : ByteArray) (xa4 : Int) (xa5 : Int) (w : World) (Q : Ending → World → Prop) :
    wp ba0_0 xa0_1 ba1_0 xa1_1 sa2 sa3 xa4 xa5 w Q = codeW Tryd.prog hT 153 D (tab tb) [] body (topQ Tryd.prog hT 153 [.tmp 12] Q) (argsF [.agg #[.bool ba0_0, .int .i64 xa0_1], .agg #[.bool ba1_0, .int .i64 xa1_1], .string sa2, .string sa3, .int .i64 xa4, .int .i64 xa5]) w := by cases ba0_0 <;> cases ba1_0 <;> kernel_rfl
theorem ok (ba0_0 : Bool) (xa0_1 : Int) (ba1_0 : Bool) (xa1_1 : Int) (sa2 : ByteArray) (sa3 : ByteArray) (xa4 : Int) (xa5 : Int) (w : World) (Q : Ending → World → Prop) (h : wp ba0_0 xa0_1 ba1_0 xa1_1 sa2 sa3 xa4 xa5 w Q) : Calls Tryd.prog 6 #[.agg #[.bool ba0_0, .int .i64 xa0_1], .agg #[.bool ba1_0, .int .i64 xa1_1], .string sa2, .string sa3, .int .i64 xa4, .int .i64 xa5] w Q := by
  rw [wp_eq] at h
  exact calls_of_codeW (c := body) (rs := [.tmp 12]) Tryd.func6 (by kernel_rfl) (by kernel_rfl) (by kernel_rfl) (by kernel_rfl) (by kernel_rfl) (tab_snd (by
    intro x hx
    simp only [tb, List.mem_cons, List.not_mem_nil, or_false] at hx
    subst hx
    exact j0_snd)) (by kernel_rfl) h
end f_law04_KeysApart
end Go.Proofs.YtakgoekfnhkgaaaDoor.Rd
