/- The printed readings of some functions: each function's code reckoned by the kernel to its predicate transformer. -/
import Derived.Test.YtfknppccgojhdaaHint
namespace Go.Proofs.Ytfknppccgojhdaa.Rd
open Go.Dn
set_option maxRecDepth 100000
set_option linter.unusedVariables false
namespace f_linkcut_New
/-! skein/linkcut.New: function 8 -/
noncomputable def body : Code := (Try.f8.body).getD .skip
def wp  (w : World) (Q : Ending → World → Prop) : Prop :=
  Runs Try.prog (Instr.makeSlice 62 (.int .i64 (1 : Int)) (.int .i64 (1 : Int))) w fun v2 w1 => ∃ (A3 : Option Addr) (n3 : Nat) (c3 : Nat), v2 = (.slice A3 n3 c3) ∧ (
  alW w1 (.map #[] 0) fun B4 w5 =>
  alW w5 (.map #[] 0) fun B6 w7 =>
  alW w7 (.map #[] 0) fun B8 w9 =>
  alW w9 (.cells #[.slice A3 n3 c3, .map (some B4), .map (some B6), .map (some B8), .slice none 0 0] 65) fun B10 w11 =>
  Q (.returned (.pointer (some (⟨B10, 0, Option.none⟩ : Addr)))) w11)
def D : Nat → Option DH := dtab []
def tb : List (List Nat × Spec) := []
theorem wp_eq  (w : World) (Q : Ending → World → Prop) :
    wp  w Q = codeW Try.prog hT 7 D (tab tb) [] body (topQ Try.prog hT 7 [.tmp 0] Q) (argsF []) w := by kernel_rfl
theorem ok  (w : World) (Q : Ending → World → Prop) (h : wp  w Q) : Calls Try.prog 8 #[] w Q := by
  rw [wp_eq] at h
  exact calls_of_codeW (c := body) (rs := [.tmp 0]) Try.func8 (by kernel_rfl) (by kernel_rfl) (by kernel_rfl) (by kernel_rfl) (by kernel_rfl) (tab_snd (by
    intro x hx
    simp only [tb, List.not_mem_nil] at hx
    )) (by kernel_rfl) h
end f_linkcut_New
namespace f_linkcut_Forest_Len
/-! (*skein/linkcut.Forest).Len: function 11 -/
noncomputable def body : Code := (Try.f11.body).getD .skip
def wp (aa0 : Addr) (w : World) (Q : Ending → World → Prop) : Prop :=
  drW w fun w1 =>
  ∃ S2 : World → Prop, S2 w1 ∧ (
  hdM S2 (aa0.add 1) fun m3 =>
  hdM S2 (aa0.add 2) fun m4 =>
  Runs Try.prog (Builtin.len_ #[63] 3 #[.map m3]) w1 fun v6 w5 => ∃ (x7 : Int), v6 = (.int .i64 x7) ∧ (
  S2 w5 ∧ (
  Runs Try.prog (Builtin.len_ #[63] 3 #[.map m4]) w5 fun v9 w8 => ∃ (x10 : Int), v9 = (.int .i64 x10) ∧ (
  Q (.returned (.tuple #[.int .i64 x7, .int .i64 x10])) w8))))
def D : Nat → Option DH := dtab [(1, .held [.fst 0, .fst 1, .fst 2, .fst 3, .fst 5, .fst 6, .fst 7, .fst 8, .eff 4] [.eff 9, .fst 10, .fst 11])]
def tb : List (List Nat × Spec) := []
theorem wp_eq (aa0 : Addr) (w : World) (Q : Ending → World → Prop) :
    wp aa0 w Q = codeW Try.prog hT 14 D (tab tb) [] body (topQ Try.prog hT 14 [.tmp 2, .tmp 3] Q) (argsF [.pointer (some aa0)]) w := by kernel_rfl
theorem ok (aa0 : Addr) (w : World) (Q : Ending → World → Prop) (h : wp aa0 w Q) : Calls Try.prog 11 #[.pointer (some aa0)] w Q := by
  rw [wp_eq] at h
  exact calls_of_codeW (c := body) (rs := [.tmp 2, .tmp 3]) Try.func11 (by kernel_rfl) (by kernel_rfl) (by kernel_rfl) (by kernel_rfl) (by kernel_rfl) (tab_snd (by
    intro x hx
    simp only [tb, List.not_mem_nil] at hx
    )) (by kernel_rfl) h
end f_linkcut_Forest_Len
namespace f_linkcut_Forest_Edge
/-! (*skein/linkcut.Forest).Edge: function 12 -/
noncomputable def body : Code := (Try.f12.body).getD .skip
def wp (aa0 : Addr) (xa1 : Int) (w : World) (Q : Ending → World → Prop) : Prop :=
  alW w (.cells #[.int .i64 (0 : Int), .int .i64 (0 : Int), .int .i64 (0 : Int), .int .i64 (0 : Int)] 33) fun B1 w2 =>
  ldM w2 (aa0.add 2) fun m3 =>
  Runs Try.prog (Instr.lookup 63 (.map m3) (.int .i64 xa1) false) w2 fun v5 w4 => ∃ (x6 : Int), v5 = (.int .i64 x6) ∧ (
  ldS w4 aa0 fun A7 n7 c7 =>
  optB A7 fun a8 =>
  req (decide (0 ≤ x6 ∧ x6 < (n7 : Int))) <|
  ldI w4 ((a8.add (x6.toNat * 13)).add 4) .i64 fun x9 =>
  ldI w4 (((a8.add (x6.toNat * 13)).add 4).add 1) .i64 fun x10 =>
  ldI w4 (((a8.add (x6.toNat * 13)).add 4).add 2) .i64 fun x11 =>
  ldI w4 (((a8.add (x6.toNat * 13)).add 4).add 3) .i64 fun x12 =>
  stW w4 (⟨B1, 0, Option.none⟩ : Addr) (.int .i64 x9) fun w13 =>
  stW w13 ((⟨B1, 0, Option.none⟩ : Addr).add 1) (.int .i64 x10) fun w14 =>
  stW w14 ((⟨B1, 0, Option.none⟩ : Addr).add 2) (.int .i64 x11) fun w15 =>
  stW w15 ((⟨B1, 0, Option.none⟩ : Addr).add 3) (.int .i64 x12) fun w16 =>
  ldI w16 (⟨B1, 0, Option.none⟩ : Addr) .i64 fun x17 =>
  ldI w16 ((⟨B1, 0, Option.none⟩ : Addr).add 1) .i64 fun x18 =>
  ldI w16 ((⟨B1, 0, Option.none⟩ : Addr).add 2) .i64 fun x19 =>
  ldI w16 ((⟨B1, 0, Option.none⟩ : Addr).add 3) .i64 fun x20 =>
  Q (.returned (.tuple #[.agg #[.int .i64 x17, .int .i64 x18, .int .i64 x19, .int .i64 x20], .bool (decide (x6 > (0 : Int)))])) w16)
def D : Nat → Option DH := dtab []
def tb : List (List Nat × Spec) := []
theorem wp_eq (aa0 : Addr) (xa1 : Int) (w : World) (Q : Ending → World → Prop) :
    wp aa0 xa1 w Q = codeW Try.prog hT 23 D (tab tb) [] body (topQ Try.prog hT 23 [.cell 4 33, .tmp 5] Q) (argsF [.pointer (some aa0), .int .i64 xa1]) w := by kernel_rfl
theorem ok (aa0 : Addr) (xa1 : Int) (w : World) (Q : Ending → World → Prop) (h : wp aa0 xa1 w Q) : Calls Try.prog 12 #[.pointer (some aa0), .int .i64 xa1] w Q := by
  rw [wp_eq] at h
  exact calls_of_codeW (c := body) (rs := [.cell 4 33, .tmp 5]) Try.func12 (by kernel_rfl) (by kernel_rfl) (by kernel_rfl) (by kernel_rfl) (by kernel_rfl) (tab_snd (by
    intro x hx
    simp only [tb, List.not_mem_nil] at hx
    )) (by kernel_rfl) h
end f_linkcut_Forest_Edge
namespace f_linkcut_Forest_Along
/-! (*skein/linkcut.Forest).Along: function 16 -/
noncomputable def body : Code := (Try.f16.body).getD .skip
def wp (aa0 : Addr) (xa1 : Int) (xa2 : Int) (w : World) (Q : Ending → World → Prop) : Prop :=
  alW w (.cells #[.int .i64 (0 : Int), .int .i64 (0 : Int), .int .i64 (0 : Int), .int .i64 (0 : Int), .complex .f64 0 0] 48) fun B1 w2 =>
  Calls Try.prog 24 #[.pointer (some aa0), .int .i64 xa1, .int .i64 xa2] w2 fun e3 w4 => ∃ (b5_0 : Bool) (x5_1 : Int), e3 = .returned (.tuple #[.bool b5_0, .int .i64 x5_1]) ∧ (
  sel (x5_1 != (0 : Int)) (
  stW w4 (⟨B1, 0, Option.none⟩ : Addr) (.int .i64 (0 : Int)) fun w6 =>
  stW w6 ((⟨B1, 0, Option.none⟩ : Addr).add 1) (.int .i64 (0 : Int)) fun w7 =>
  stW w7 ((⟨B1, 0, Option.none⟩ : Addr).add 2) (.int .i64 (0 : Int)) fun w8 =>
  stW w8 ((⟨B1, 0, Option.none⟩ : Addr).add 3) (.int .i64 (0 : Int)) fun w9 =>
  stW w9 ((⟨B1, 0, Option.none⟩ : Addr).add 4) (.complex .f64 0 0) fun w10 =>
  ldI w10 (⟨B1, 0, Option.none⟩ : Addr) .i64 fun x11 =>
  ldI w10 ((⟨B1, 0, Option.none⟩ : Addr).add 1) .i64 fun x12 =>
  ldI w10 ((⟨B1, 0, Option.none⟩ : Addr).add 2) .i64 fun x13 =>
  ldI w10 ((⟨B1, 0, Option.none⟩ : Addr).add 3) .i64 fun x14 =>
  ldC w10 ((⟨B1, 0, Option.none⟩ : Addr).add 4) .f64 fun r15 i15 =>
  Q (.returned (.tuple #[.agg #[.int .i64 x11, .int .i64 x12, .int .i64 x13, .int .i64 x14, .complex .f64 r15 i15], .int .i64 x5_1])) w10) (
  sel (!b5_0) (
  stW w4 (⟨B1, 0, Option.none⟩ : Addr) (.int .i64 (0 : Int)) fun w16 =>
  stW w16 ((⟨B1, 0, Option.none⟩ : Addr).add 1) (.int .i64 (0 : Int)) fun w17 =>
  stW w17 ((⟨B1, 0, Option.none⟩ : Addr).add 2) (.int .i64 (0 : Int)) fun w18 =>
  stW w18 ((⟨B1, 0, Option.none⟩ : Addr).add 3) (.int .i64 (0 : Int)) fun w19 =>
  stW w19 ((⟨B1, 0, Option.none⟩ : Addr).add 4) (.complex .f64 0 0) fun w20 =>
  ldI w20 (⟨B1, 0, Option.none⟩ : Addr) .i64 fun x21 =>
  ldI w20 ((⟨B1, 0, Option.none⟩ : Addr).add 1) .i64 fun x22 =>
  ldI w20 ((⟨B1, 0, Option.none⟩ : Addr).add 2) .i64 fun x23 =>
  ldI w20 ((⟨B1, 0, Option.none⟩ : Addr).add 3) .i64 fun x24 =>
  ldC w20 ((⟨B1, 0, Option.none⟩ : Addr).add 4) .f64 fun r25 i25 =>
  Q (.returned (.tuple #[.agg #[.int .i64 x21, .int .i64 x22, .int .i64 x23, .int .i64 x24, .complex .f64 r25 i25], .int .i64 (61 : Int)])) w20) (
  ldM w4 (aa0.add 1) fun m26 =>
  Runs Try.prog (Instr.lookup 63 (.map m26) (.int .i64 xa1) false) w4 fun v28 w27 => ∃ (x29 : Int), v28 = (.int .i64 x29) ∧ (
  Calls Try.prog 29 #[.pointer (some aa0), .int .i64 x29] w27 fun e30 w31 => e30 = .returned (.tuple #[]) ∧ (
  ldM w31 (aa0.add 1) fun m32 =>
  Runs Try.prog (Instr.lookup 63 (.map m32) (.int .i64 xa2) false) w31 fun v34 w33 => ∃ (x35 : Int), v34 = (.int .i64 x35) ∧ (
  Calls Try.prog 30 #[.pointer (some aa0), .int .i64 x35] w33 fun e36 w37 => e36 = .returned (.tuple #[]) ∧ (
  drW w37 fun w38 =>
  ∃ S39 : World → Prop, S39 w38 ∧ (
  hdS S39 aa0 fun A40 n40 c40 =>
  hdM S39 (aa0.add 1) fun m41 =>
  Runs Try.prog (Instr.lookup 63 (.map m41) (.int .i64 xa2) false) w38 fun v43 w42 => ∃ (x44 : Int), v43 = (.int .i64 x44) ∧ (
  S39 w42 ∧ (
  optB A40 fun a45 =>
  req (decide (0 ≤ x44 ∧ x44 < (n40 : Int))) <|
  hdI S39 ((a45.add (x44.toNat * 13)).add 8) .i64 fun x46 =>
  hdI S39 (((a45.add (x44.toNat * 13)).add 8).add 1) .i64 fun x47 =>
  hdI S39 (((a45.add (x44.toNat * 13)).add 8).add 2) .i64 fun x48 =>
  hdI S39 (((a45.add (x44.toNat * 13)).add 8).add 3) .i64 fun x49 =>
  hdC S39 (((a45.add (x44.toNat * 13)).add 8).add 4) .f64 fun r50 i50 =>
  stW w42 (⟨B1, 0, Option.none⟩ : Addr) (.int .i64 x46) fun w51 =>
  stW w51 ((⟨B1, 0, Option.none⟩ : Addr).add 1) (.int .i64 x47) fun w52 =>
  stW w52 ((⟨B1, 0, Option.none⟩ : Addr).add 2) (.int .i64 x48) fun w53 =>
  stW w53 ((⟨B1, 0, Option.none⟩ : Addr).add 3) (.int .i64 x49) fun w54 =>
  stW w54 ((⟨B1, 0, Option.none⟩ : Addr).add 4) (.complex .f64 r50 i50) fun w55 =>
  ldI w55 (⟨B1, 0, Option.none⟩ : Addr) .i64 fun x56 =>
  ldI w55 ((⟨B1, 0, Option.none⟩ : Addr).add 1) .i64 fun x57 =>
  ldI w55 ((⟨B1, 0, Option.none⟩ : Addr).add 2) .i64 fun x58 =>
  ldI w55 ((⟨B1, 0, Option.none⟩ : Addr).add 3) .i64 fun x59 =>
  ldC w55 ((⟨B1, 0, Option.none⟩ : Addr).add 4) .f64 fun r60 i60 =>
  Q (.returned (.tuple #[.agg #[.int .i64 x56, .int .i64 x57, .int .i64 x58, .int .i64 x59, .complex .f64 r60 i60], .int .i64 (0 : Int)])) w55))))))))))
def D : Nat → Option DH := dtab [(8, .held [.fst 0, .fst 1, .fst 2, .fst 3, .fst 4, .fst 5, .fst 6, .fst 7, .fst 8, .eff 9, .fst 10, .fst 11, .fst 12] [.eff 13, .fst 14])]
def tb : List (List Nat × Spec) := []
theorem wp_eq (aa0 : Addr) (xa1 : Int) (xa2 : Int) (w : World) (Q : Ending → World → Prop) :
    wp aa0 xa1 xa2 w Q = codeW Try.prog hT 55 D (tab tb) [] body (topQ Try.prog hT 55 [.cell 6 48, .tmp 7] Q) (argsF [.pointer (some aa0), .int .i64 xa1, .int .i64 xa2]) w := by kernel_rfl
theorem ok (aa0 : Addr) (xa1 : Int) (xa2 : Int) (w : World) (Q : Ending → World → Prop) (h : wp aa0 xa1 xa2 w Q) : Calls Try.prog 16 #[.pointer (some aa0), .int .i64 xa1, .int .i64 xa2] w Q := by
  rw [wp_eq] at h
  exact calls_of_codeW (c := body) (rs := [.cell 6 48, .tmp 7]) Try.func16 (by kernel_rfl) (by kernel_rfl) (by kernel_rfl) (by kernel_rfl) (by kernel_rfl) (tab_snd (by
    intro x hx
    simp only [tb, List.not_mem_nil] at hx
    )) (by kernel_rfl) h
end f_linkcut_Forest_Along
namespace f_linkcut_Forest_Link
/-! (*skein/linkcut.Forest).Link: function 17 -/
noncomputable def body : Code := (Try.f17.body).getD .skip
def od1 : OD := ⟨[0, 3], [3, 5, 6, 10, 12, 13], fun i => ([⟨false, [], [], fun ps vs => match ps, vs with | [.pointer (some ap0), .pointer (some ap3)], [] => .pointer (some ap0) | _, _ => undef⟩,
  ⟨false, [], [0], fun ps vs => match ps, vs with | [.pointer (some ap0), .pointer (some ap3)], [] => .pointer (some ap0) | _, _ => undef⟩,
  ⟨false, [], [1], fun ps vs => match ps, vs with | [.pointer (some ap0), .pointer (some ap3)], [] => .pointer (some (ap0.add 1)) | _, _ => undef⟩,
  ⟨true, [], [2], fun _ _ => undef⟩,
  ⟨false, [], [], fun ps vs => match ps, vs with | [.pointer (some ap0), .pointer (some ap3)], [] => .pointer (some (ap3.add 1)) | _, _ => undef⟩,
  ⟨true, [], [4], fun _ _ => undef⟩,
  ⟨true, [3, 5], [3, 5], fun _ _ => undef⟩,
  ⟨false, [], [], fun ps vs => match ps, vs with | [.pointer (some ap0), .pointer (some ap3)], [] => .pointer (some ap0) | _, _ => undef⟩,
  ⟨false, [], [7], fun ps vs => match ps, vs with | [.pointer (some ap0), .pointer (some ap3)], [] => .pointer (some ap0) | _, _ => undef⟩,
  ⟨false, [], [8], fun ps vs => match ps, vs with | [.pointer (some ap0), .pointer (some ap3)], [] => .pointer (some (ap0.add 1)) | _, _ => undef⟩,
  ⟨true, [], [9], fun _ _ => undef⟩,
  ⟨false, [], [], fun ps vs => match ps, vs with | [.pointer (some ap0), .pointer (some ap3)], [] => .pointer (some (ap3.add 2)) | _, _ => undef⟩,
  ⟨true, [], [11], fun _ _ => undef⟩,
  ⟨true, [10, 12], [10, 12], fun _ _ => undef⟩,
  ⟨false, [3, 5, 6], [6], fun ps vs => match ps, vs with | [.pointer (some ap0), .pointer (some ap3)], [.map me3, .int _ xe5, .int _ xe6] => .int .i64 xe6 | _, _ => undef⟩,
  ⟨false, [3, 5, 6, 10, 12, 13], [13], fun ps vs => match ps, vs with | [.pointer (some ap0), .pointer (some ap3)], [.map me3, .int _ xe5, .int _ xe6, .map me10, .int _ xe12, .int _ xe13] => .int .i64 xe13 | _, _ => undef⟩] : List OI).getD i ⟨true, [], [], fun _ _ => undef⟩, fun i => ([.one (.sc .any), .one (.sc .any), .one (.sc .any), (.one (.sc .map)), .one (.sc .any), (.one (.sc (.int .i64))), (.one (.sc (.int .i64))), .one (.sc .any), .one (.sc .any), .one (.sc .any), (.one (.sc .map)), .one (.sc .any), (.one (.sc (.int .i64))), (.one (.sc (.int .i64))), .one (.sc .any), .one (.sc .any)] : List OS).getD i (.one (.sc .any))⟩
def h1 (ap0 : Addr) (ap3 : Addr) : Prop :=
  (∀ (_ : Fr) (w : World),
  w = w ∧ (.pointer (some ap0) : Value) = (.pointer (some ap0))) ∧
  (∀ (_ : Fr) (w : World),
  w = w ∧ (.pointer (some ap0) : Value) = (.pointer (some ap0))) ∧
  (∀ (_ : Fr) (w : World),
  w = w ∧ (.pointer (some (ap0.add 1)) : Value) = (.pointer (some (ap0.add 1)))) ∧
  (∀ (_ : Fr) (w : World),
  w = w ∧ (.pointer (some (ap3.add 1)) : Value) = (.pointer (some (ap3.add 1)))) ∧
  (∀ (_ : Fr) (w : World),
  w = w ∧ (.pointer (some ap0) : Value) = (.pointer (some ap0))) ∧
  (∀ (_ : Fr) (w : World),
  w = w ∧ (.pointer (some ap0) : Value) = (.pointer (some ap0))) ∧
  (∀ (_ : Fr) (w : World),
  w = w ∧ (.pointer (some (ap0.add 1)) : Value) = (.pointer (some (ap0.add 1)))) ∧
  (∀ (_ : Fr) (w : World),
  w = w ∧ (.pointer (some (ap3.add 2)) : Value) = (.pointer (some (ap3.add 2)))) ∧
  (∀ (_ : Fr) (w : World),
  ∀ (me3 : Option Nat),
  ∀ (xe5 : Int),
  ∀ (xe6 : Int),
  w = w ∧ (.int .i64 xe6 : Value) = (.int .i64 xe6)) ∧
  (∀ (_ : Fr) (w : World),
  ∀ (me3 : Option Nat),
  ∀ (xe5 : Int),
  ∀ (xe6 : Int),
  ∀ (me10 : Option Nat),
  ∀ (xe12 : Int),
  ∀ (xe13 : Int),
  w = w ∧ (.int .i64 xe13 : Value) = (.int .i64 xe13)) ∧
  True
theorem h1_ok (ap0 : Addr) (ap3 : Addr) : h1 ap0 ap3 := ⟨fun _ w => ⟨rfl, rfl⟩, fun _ w => ⟨rfl, rfl⟩, fun _ w => ⟨rfl, rfl⟩, fun _ w => ⟨rfl, rfl⟩, fun _ w => ⟨rfl, rfl⟩, fun _ w => ⟨rfl, rfl⟩, fun _ w => ⟨rfl, rfl⟩, fun _ w => ⟨rfl, rfl⟩, fun _ w _ _ _ => ⟨rfl, rfl⟩, fun _ w _ _ _ _ _ _ => ⟨rfl, rfl⟩, trivial⟩
def j0 (at0 : Addr) (at3 : Addr) (xt5 : Int) (xt6 : Int) (w : World) (Kr : Int → World → Prop) : Prop :=
  ldI w at3 .i64 fun x47 =>
  ldI w (at3.add 1) .i64 fun x48 =>
  ldI w (at3.add 2) .i64 fun x49 =>
  ldI w (at3.add 3) .i64 fun x50 =>
  Calls Try.prog 33 #[.pointer (some at0), .agg #[.int .i64 x47, .int .i64 x48, .int .i64 x49, .int .i64 x50]] w fun e51 w52 => ∃ (x53 : Int), e51 = .returned (.int .i64 x53) ∧ (
  drW w52 fun w54 =>
  ldM w54 (at0.add 2) fun m56 =>
  ldI w54 at3 .i64 fun x57 =>
  Runs Try.prog (Instr.mapUpdate 63 (.map m56) (.int .i64 x57) (.int .i64 x53)) w54 fun _ w58 =>
  Calls Try.prog 29 #[.pointer (some at0), .int .i64 xt5] w58 fun e59 w60 => e59 = .returned (.tuple #[]) ∧ (
  ldS w60 at0 fun A61 n61 c61 =>
  optB A61 fun a62 =>
  req (decide (0 ≤ xt5 ∧ xt5 < (n61 : Int))) <|
  stW w60 ((a62.add (xt5.toNat * 13)).add 2) (.int .i64 x53) fun w63 =>
  Calls Try.prog 29 #[.pointer (some at0), .int .i64 x53] w63 fun e64 w65 => e64 = .returned (.tuple #[]) ∧ (
  ldS w65 at0 fun A66 n66 c66 =>
  optB A66 fun a67 =>
  req (decide (0 ≤ x53 ∧ x53 < (n66 : Int))) <|
  stW w65 ((a67.add (x53.toNat * 13)).add 2) (.int .i64 xt6) fun w68 =>
  drW w68 fun w69 =>
  ldM w69 (at0.add 3) fun m71 =>
  ldI w69 (at3.add 1) .i64 fun x72 =>
  Runs Try.prog (Instr.lookup 63 (.map m71) (.int .i64 x72) false) w69 fun v74 w73 => ∃ (x75 : Int), v74 = (.int .i64 x75) ∧ (
  Runs Try.prog (Instr.mapUpdate 63 (.map m71) (.int .i64 x72) (.int .i64 (IntKind.i64.wrap (x75 + (1 : Int))))) w73 fun _ w76 =>
  drW w76 fun w77 =>
  ldM w77 (at0.add 3) fun m79 =>
  ldI w77 (at3.add 2) .i64 fun x80 =>
  Runs Try.prog (Instr.lookup 63 (.map m79) (.int .i64 x80) false) w77 fun v82 w81 => ∃ (x83 : Int), v82 = (.int .i64 x83) ∧ (
  Runs Try.prog (Instr.mapUpdate 63 (.map m79) (.int .i64 x80) (.int .i64 (IntKind.i64.wrap (x83 + (1 : Int))))) w81 fun _ w84 =>
  Kr (0 : Int) w84)))))
def wp (aa0 : Addr) (xa1_0 : Int) (xa1_1 : Int) (xa1_2 : Int) (xa1_3 : Int) (w : World) (Q : Ending → World → Prop) : Prop :=
  alW w (.cells #[.int .i64 xa1_0, .int .i64 xa1_1, .int .i64 xa1_2, .int .i64 xa1_3] 33) fun B1 w2 =>
  drW w2 fun w3 =>
  h1 aa0 (⟨B1, 0, Option.none⟩ : Addr) ∧
  ∃ (G4 : World → World → Prop) (Φ5 : Nat → Value → World → Prop), (∀ w, G4 w w) ∧ (∀ a b c, G4 a b → G4 b c → G4 a c) ∧ (∀ i v a b, G4 w3 a → G4 a b → Φ5 i v a → Φ5 i v b) ∧ (
  (∀ (_ : Fr) (w6 : World), G4 w3 w6 →
  (
  ldM w6 (aa0.add 1) fun m7 =>
  G4 w6 w6 ∧ Φ5 3 (.map m7) w6)) ∧
  (∀ (_ : Fr) (w8 : World), G4 w3 w8 →
  (
  ldI w8 ((⟨B1, 0, Option.none⟩ : Addr).add 1) .i64 fun x9 =>
  G4 w8 w8 ∧ Φ5 5 (.int .i64 x9) w8)) ∧
  (∀ (_ : Fr) (w10 : World), G4 w3 w10 →
  ∀ (me3 : Option Nat),
  Φ5 3 (.map me3) w10 →
  ∀ (xe5 : Int),
  Φ5 5 (.int .i64 xe5) w10 →
  (
  Runs Try.prog (Instr.lookup 63 (.map me3) (.int .i64 xe5) false) w10 fun v12 w11 => ∃ (x13 : Int), v12 = (.int .i64 x13) ∧ (
  G4 w10 w11 ∧ Φ5 6 (.int .i64 x13) w11))) ∧
  (∀ (_ : Fr) (w14 : World), G4 w3 w14 →
  (
  ldM w14 (aa0.add 1) fun m15 =>
  G4 w14 w14 ∧ Φ5 10 (.map m15) w14)) ∧
  (∀ (_ : Fr) (w16 : World), G4 w3 w16 →
  (
  ldI w16 ((⟨B1, 0, Option.none⟩ : Addr).add 2) .i64 fun x17 =>
  G4 w16 w16 ∧ Φ5 12 (.int .i64 x17) w16)) ∧
  (∀ (_ : Fr) (w18 : World), G4 w3 w18 →
  ∀ (me10 : Option Nat),
  Φ5 10 (.map me10) w18 →
  ∀ (xe12 : Int),
  Φ5 12 (.int .i64 xe12) w18 →
  (
  Runs Try.prog (Instr.lookup 63 (.map me10) (.int .i64 xe12) false) w18 fun v20 w19 => ∃ (x21 : Int), v20 = (.int .i64 x21) ∧ (
  G4 w18 w19 ∧ Φ5 13 (.int .i64 x21) w19))) ∧ True) ∧
  ∀ w22, G4 w3 w22 →
  ∀ (me3 : Option Nat),
  Φ5 3 (.map me3) w22 →
  ∀ (xe5 : Int),
  Φ5 5 (.int .i64 xe5) w22 →
  ∀ (xe6 : Int),
  Φ5 6 (.int .i64 xe6) w22 →
  ∀ (me10 : Option Nat),
  Φ5 10 (.map me10) w22 →
  ∀ (xe12 : Int),
  Φ5 12 (.int .i64 xe12) w22 →
  ∀ (xe13 : Int),
  Φ5 13 (.int .i64 xe13) w22 →
  (
  ldI w22 (⟨B1, 0, Option.none⟩ : Addr) .i64 fun x23 =>
  Calls Try.prog 31 #[.int .i64 x23] w22 fun e24 w25 => ∃ (b26 : Bool), e24 = .returned (.bool b26) ∧ (
  sel b26 (
  Q (.returned (.int .i64 (1 : Int))) w25) (
  ldI w25 ((⟨B1, 0, Option.none⟩ : Addr).add 1) .i64 fun x27 =>
  Calls Try.prog 31 #[.int .i64 x27] w25 fun e28 w29 => ∃ (b30 : Bool), e28 = .returned (.bool b30) ∧ (
  sel b30 (
  Q (.returned (.int .i64 (1 : Int))) w29) (
  ldI w29 ((⟨B1, 0, Option.none⟩ : Addr).add 2) .i64 fun x31 =>
  Calls Try.prog 31 #[.int .i64 x31] w29 fun e32 w33 => ∃ (b34 : Bool), e32 = .returned (.bool b34) ∧ (
  sel b34 (
  Q (.returned (.int .i64 (1 : Int))) w33) (
  ldI w33 ((⟨B1, 0, Option.none⟩ : Addr).add 3) .i64 fun x35 =>
  sel (decide (x35 < (0 : Int))) (
  Q (.returned (.int .i64 (53 : Int))) w33) (
  ldI w33 ((⟨B1, 0, Option.none⟩ : Addr).add 3) .i64 fun x36 =>
  sel (decide (x36 > (1099511627776 : Int))) (
  Q (.returned (.int .i64 (53 : Int))) w33) (
  drW w33 fun w37 =>
  ldM w37 (aa0.add 2) fun m39 =>
  ldI w37 (⟨B1, 0, Option.none⟩ : Addr) .i64 fun x40 =>
  Runs Try.prog (Instr.lookup 63 (.map m39) (.int .i64 x40) false) w37 fun v42 w41 => ∃ (x43 : Int), v42 = (.int .i64 x43) ∧ (
  sel (decide (x43 > (0 : Int))) (
  Q (.returned (.int .i64 (50 : Int))) w41) (
  sel (xe6 == (0 : Int)) (
  Q (.returned (.int .i64 (51 : Int))) w41) (
  sel (xe13 == (0 : Int)) (
  Q (.returned (.int .i64 (51 : Int))) w41) (
  Calls Try.prog 32 #[.pointer (some aa0), .int .i64 xe6, .int .i64 xe13] w41 fun e44 w45 => ∃ (b46 : Bool), e44 = .returned (.bool b46) ∧ (
  sel b46 (
  Q (.returned (.int .i64 (151 : Int))) w45) (
  j0 aa0 (⟨B1, 0, Option.none⟩ : Addr) xe6 xe13 w45 (fun (x85 : Int) (w86 : World) => ∀ _ : Fr,
  Q (.returned (.int .i64 x85)) w86))))))))))))))))
def D : Nat → Option DH := dtab [(1, .opn od1), (6, .simple [.fst 0, .fst 1, .fst 2, .fst 3, .fst 4, .fst 5] [.eff 6, .fst 7, .fst 8]), (13, .simple [.fst 0, .fst 1, .fst 2, .fst 3, .fst 4, .fst 5, .fst 6] [.eff 7]), (18, .simple [.fst 0, .fst 1, .fst 2, .fst 3, .fst 4, .fst 5] [.eff 6, .fst 7, .eff 8]), (19, .simple [.fst 0, .fst 1, .fst 2, .fst 3, .fst 4, .fst 5] [.eff 6, .fst 7, .eff 8])]
def j0LO : LO := ⟨[], [4], [], []⟩
def j0T : Spec := fun Q σ w =>
  gAd (σ 0) fun at0 =>
  gAd (σ 3) fun at3 =>
  gInt .i64 (σ 5) fun xt5 =>
  gInt .i64 (σ 6) fun xt6 =>
  j0 at0 at3 xt5 xt6 w (fun (xq4 : Int) (w : World) => ∀ d : Fr, Q .ret (ov d [(4, .int .i64 xq4)]) w)
def j0tb : List (List Nat × Spec) := []
noncomputable def j0b : Code := (subC [1, 1, 1] body).getD .skip
theorem j0_eq (at0 : Addr) (at3 : Addr) (xt5 : Int) (xt6 : Int) (Q : PQ) (σ : Fr) (w : World) :
    j0 at0 at3 xt5 xt6 w (fun (xq4 : Int) (w : World) => ∀ d : Fr, Q .ret (ov d [(4, .int .i64 xq4)]) w) = codeW Try.prog hT 114 D (tab j0tb) [1, 1, 1] j0b (widen j0LO Q) (ov σ [(0, .pointer (some at0)), (3, .pointer (some at3)), (5, .int .i64 xt5), (6, .int .i64 xt6)]) w := by kernel_rfl
theorem j0_snd : ∀ c, subC [1, 1, 1] body = some c → Snd Try.prog 114 c j0T := by
  refine cut_of (hT := hT) (D := D) (l := j0tb) (b := j0b) (lo := j0LO) (by kernel_rfl) (by
    intro x hx
    simp only [j0tb, List.not_mem_nil] at hx
    ) (by kernel_rfl) (by kernel_rfl) ?_
  intro Q σ w h
  unfold j0T at h
  obtain ⟨at0, h0, hn⟩ := gAd_elim h
  clear h
  have h := hn
  clear hn
  obtain ⟨at3, h3, hn⟩ := gAd_elim h
  clear h
  have h := hn
  clear hn
  obtain ⟨xt5, h5, hn⟩ := gInt_elim h
  clear h
  have h := hn
  clear hn
  obtain ⟨xt6, h6, hn⟩ := gInt_elim h
  clear h
  have h := hn
  clear hn
  rw [j0_eq (σ := σ)] at h
  have e : (ov σ [(0, .pointer (some at0)), (3, .pointer (some at3)), (5, .int .i64 xt5), (6, .int .i64 xt6)]) = σ := ov_self (by simp [h0, h3, h5, h6])
  rw [e] at h
  exact h
def tb : List (List Nat × Spec) := [([1, 1, 1], j0T)]
theorem wp_eq (aa0 : Addr) (xa1_0 : Int) (xa1_1 : Int) (xa1_2 : Int) (xa1_3 : Int) (w : World) (Q : Ending → World → Prop) :
    wp aa0 xa1_0 xa1_1 xa1_2 xa1_3 w Q = codeW Try.prog hT 114 D (tab tb) [] body (topQ Try.prog hT 114 [.tmp 4] Q) (argsF [.pointer (some aa0), .agg #[.int .i64 xa1_0, .int .i64 xa1_1, .int .i64 xa1_2, .int .i64 xa1_3]]) w := by kernel_rfl
theorem ok (aa0 : Addr) (xa1_0 : Int) (xa1_1 : Int) (xa1_2 : Int) (xa1_3 : Int) (w : World) (Q : Ending → World → Prop) (h : wp aa0 xa1_0 xa1_1 xa1_2 xa1_3 w Q) : Calls Try.prog 17 #[.pointer (some aa0), .agg #[.int .i64 xa1_0, .int .i64 xa1_1, .int .i64 xa1_2, .int .i64 xa1_3]] w Q := by
  rw [wp_eq] at h
  exact calls_of_codeW (c := body) (rs := [.tmp 4]) Try.func17 (by kernel_rfl) (by kernel_rfl) (by kernel_rfl) (by kernel_rfl) (by kernel_rfl) (tab_snd (by
    intro x hx
    simp only [tb, List.mem_cons, List.not_mem_nil, or_false] at hx
    subst hx
    exact j0_snd)) (by kernel_rfl) h
end f_linkcut_Forest_Link
namespace f_linkcut_Forest_Cut
/-! (*skein/linkcut.Forest).Cut: function 18 -/
noncomputable def body : Code := (Try.f18.body).getD .skip
def j0 (at0 : Addr) (at6 : Addr) (w : World) (Kr : Int → World → Prop) : Prop :=
  drW w fun w48 =>
  ldM w48 (at0.add 3) fun m50 =>
  ldI w48 (at6.add 1) .i64 fun x51 =>
  Runs Try.prog (Instr.lookup 63 (.map m50) (.int .i64 x51) false) w48 fun v53 w52 => ∃ (x54 : Int), v53 = (.int .i64 x54) ∧ (
  Runs Try.prog (Instr.mapUpdate 63 (.map m50) (.int .i64 x51) (.int .i64 (IntKind.i64.wrap (x54 - (1 : Int))))) w52 fun _ w55 =>
  drW w55 fun w56 =>
  ldM w56 (at0.add 3) fun m58 =>
  ldI w56 (at6.add 2) .i64 fun x59 =>
  Runs Try.prog (Instr.lookup 63 (.map m58) (.int .i64 x59) false) w56 fun v61 w60 => ∃ (x62 : Int), v61 = (.int .i64 x62) ∧ (
  Runs Try.prog (Instr.mapUpdate 63 (.map m58) (.int .i64 x59) (.int .i64 (IntKind.i64.wrap (x62 - (1 : Int))))) w60 fun _ w63 =>
  Kr (0 : Int) w63))
def wp (aa0 : Addr) (xa1 : Int) (w : World) (Q : Ending → World → Prop) : Prop :=
  ldM w (aa0.add 2) fun m1 =>
  Runs Try.prog (Instr.lookup 63 (.map m1) (.int .i64 xa1) false) w fun v3 w2 => ∃ (x4 : Int), v3 = (.int .i64 x4) ∧ (
  Calls Try.prog 31 #[.int .i64 xa1] w2 fun e5 w6 => ∃ (b7 : Bool), e5 = .returned (.bool b7) ∧ (
  sel b7 (
  Q (.returned (.int .i64 (1 : Int))) w6) (
  sel (x4 == (0 : Int)) (
  Q (.returned (.int .i64 (152 : Int))) w6) (
  ldS w6 aa0 fun A8 n8 c8 =>
  optB A8 fun a9 =>
  req (decide (0 ≤ x4 ∧ x4 < (n8 : Int))) <|
  ldI w6 ((a9.add (x4.toNat * 13)).add 4) .i64 fun x10 =>
  ldI w6 (((a9.add (x4.toNat * 13)).add 4).add 1) .i64 fun x11 =>
  ldI w6 (((a9.add (x4.toNat * 13)).add 4).add 2) .i64 fun x12 =>
  ldI w6 (((a9.add (x4.toNat * 13)).add 4).add 3) .i64 fun x13 =>
  alW w6 (.cells #[.int .i64 (0 : Int), .int .i64 (0 : Int), .int .i64 (0 : Int), .int .i64 (0 : Int)] 33) fun B14 w15 =>
  stW w15 (⟨B14, 0, Option.none⟩ : Addr) (.int .i64 x10) fun w16 =>
  stW w16 ((⟨B14, 0, Option.none⟩ : Addr).add 1) (.int .i64 x11) fun w17 =>
  stW w17 ((⟨B14, 0, Option.none⟩ : Addr).add 2) (.int .i64 x12) fun w18 =>
  stW w18 ((⟨B14, 0, Option.none⟩ : Addr).add 3) (.int .i64 x13) fun w19 =>
  drW w19 fun w20 =>
  ∃ S21 : World → Prop, S21 w20 ∧ (
  hdM S21 (aa0.add 1) fun m22 =>
  hdI S21 ((⟨B14, 0, Option.none⟩ : Addr).add 1) .i64 fun x23 =>
  Runs Try.prog (Instr.lookup 63 (.map m22) (.int .i64 x23) false) w20 fun v25 w24 => ∃ (x26 : Int), v25 = (.int .i64 x26) ∧ (
  S21 w24 ∧ (
  Calls Try.prog 34 #[.pointer (some aa0), .int .i64 x26, .int .i64 x4] w24 fun e27 w28 => e27 = .returned (.tuple #[]) ∧ (
  drW w28 fun w29 =>
  ∃ S30 : World → Prop, S30 w29 ∧ (
  hdM S30 (aa0.add 1) fun m31 =>
  hdI S30 ((⟨B14, 0, Option.none⟩ : Addr).add 2) .i64 fun x32 =>
  Runs Try.prog (Instr.lookup 63 (.map m31) (.int .i64 x32) false) w29 fun v34 w33 => ∃ (x35 : Int), v34 = (.int .i64 x35) ∧ (
  S30 w33 ∧ (
  Calls Try.prog 34 #[.pointer (some aa0), .int .i64 x35, .int .i64 x4] w33 fun e36 w37 => e36 = .returned (.tuple #[]) ∧ (
  ldS w37 (aa0.add 4) fun A38 n38 c38 =>
  alW w37 (.cells #[.int .i64 x4] 3) fun B39 w40 =>
  Runs Try.prog (Builtin.append_ #[26, 26] 26 #[.slice A38 n38 c38, .slice (some (⟨B39, 0, Option.none⟩ : Addr)) 1 1]) w40 fun v42 w41 => ∃ (A43 : Option Addr) (n43 : Nat) (c43 : Nat), v42 = (.slice A43 n43 c43) ∧ (
  stW w41 (aa0.add 4) (.slice A43 n43 c43) fun w44 =>
  ldM w44 (aa0.add 2) fun m45 =>
  Runs Try.prog (Builtin.delete_ #[63, 3] 0 #[.map m45, .int .i64 xa1]) w44 fun v47 w46 => v47 = (.tuple #[]) ∧ (
  j0 aa0 (⟨B14, 0, Option.none⟩ : Addr) w46 (fun (x64 : Int) (w65 : World) => ∀ _ : Fr,
  Q (.returned (.int .i64 x64)) w65)))))))))))))))
def D : Nat → Option DH := dtab [(7, .held [.fst 0, .fst 1, .fst 2, .fst 3, .fst 4, .fst 5, .fst 6, .fst 8, .eff 7] [.eff 9]), (8, .held [.fst 0, .fst 1, .fst 2, .fst 3, .fst 4, .fst 5, .fst 6, .fst 8, .eff 7] [.eff 9]), (11, .simple [.fst 0, .fst 1, .fst 2, .fst 3, .fst 4, .fst 5] [.eff 6, .fst 7, .eff 8]), (12, .simple [.fst 0, .fst 1, .fst 2, .fst 3, .fst 4, .fst 5] [.eff 6, .fst 7, .eff 8])]
def j0LO : LO := ⟨[], [4], [], []⟩
def j0T : Spec := fun Q σ w =>
  gAd (σ 0) fun at0 =>
  gAd (σ 6) fun at6 =>
  j0 at0 at6 w (fun (xq4 : Int) (w : World) => ∀ d : Fr, Q .ret (ov d [(4, .int .i64 xq4)]) w)
def j0tb : List (List Nat × Spec) := []
noncomputable def j0b : Code := (subC [1, 1, 1, 1, 1, 1, 1, 1] body).getD .skip
theorem j0_eq (at0 : Addr) (at6 : Addr) (Q : PQ) (σ : Fr) (w : World) :
    j0 at0 at6 w (fun (xq4 : Int) (w : World) => ∀ d : Fr, Q .ret (ov d [(4, .int .i64 xq4)]) w) = codeW Try.prog hT 78 D (tab j0tb) [1, 1, 1, 1, 1, 1, 1, 1] j0b (widen j0LO Q) (ov σ [(0, .pointer (some at0)), (6, .pointer (some at6))]) w := by kernel_rfl
theorem j0_snd : ∀ c, subC [1, 1, 1, 1, 1, 1, 1, 1] body = some c → Snd Try.prog 78 c j0T := by
  refine cut_of (hT := hT) (D := D) (l := j0tb) (b := j0b) (lo := j0LO) (by kernel_rfl) (by
    intro x hx
    simp only [j0tb, List.not_mem_nil] at hx
    ) (by kernel_rfl) (by kernel_rfl) ?_
  intro Q σ w h
  unfold j0T at h
  obtain ⟨at0, h0, hn⟩ := gAd_elim h
  clear h
  have h := hn
  clear hn
  obtain ⟨at6, h6, hn⟩ := gAd_elim h
  clear h
  have h := hn
  clear hn
  rw [j0_eq (σ := σ)] at h
  have e : (ov σ [(0, .pointer (some at0)), (6, .pointer (some at6))]) = σ := ov_self (by simp [h0, h6])
  rw [e] at h
  exact h
def tb : List (List Nat × Spec) := [([1, 1, 1, 1, 1, 1, 1, 1], j0T)]
theorem wp_eq (aa0 : Addr) (xa1 : Int) (w : World) (Q : Ending → World → Prop) :
    wp aa0 xa1 w Q = codeW Try.prog hT 78 D (tab tb) [] body (topQ Try.prog hT 78 [.tmp 4] Q) (argsF [.pointer (some aa0), .int .i64 xa1]) w := by kernel_rfl
theorem ok (aa0 : Addr) (xa1 : Int) (w : World) (Q : Ending → World → Prop) (h : wp aa0 xa1 w Q) : Calls Try.prog 18 #[.pointer (some aa0), .int .i64 xa1] w Q := by
  rw [wp_eq] at h
  exact calls_of_codeW (c := body) (rs := [.tmp 4]) Try.func18 (by kernel_rfl) (by kernel_rfl) (by kernel_rfl) (by kernel_rfl) (by kernel_rfl) (tab_snd (by
    intro x hx
    simp only [tb, List.mem_cons, List.not_mem_nil, or_false] at hx
    subst hx
    exact j0_snd)) (by kernel_rfl) h
end f_linkcut_Forest_Cut
namespace f_linkcut_Forest_AddV
/-! (*skein/linkcut.Forest).AddV: function 23 -/
noncomputable def body : Code := (Try.f23.body).getD .skip
def wp (aa0 : Addr) (xa1 : Int) (w : World) (Q : Ending → World → Prop) : Prop :=
  Calls Try.prog 31 #[.int .i64 xa1] w fun e1 w2 => ∃ (b3 : Bool), e1 = .returned (.bool b3) ∧ (
  sel b3 (
  Q (.returned (.int .i64 (1 : Int))) w2) (
  ldM w2 (aa0.add 1) fun m4 =>
  Runs Try.prog (Instr.lookup 63 (.map m4) (.int .i64 xa1) false) w2 fun v6 w5 => ∃ (x7 : Int), v6 = (.int .i64 x7) ∧ (
  sel (decide (x7 > (0 : Int))) (
  Q (.returned (.int .i64 (50 : Int))) w5) (
  ldM w5 (aa0.add 1) fun m8 =>
  Runs Try.prog (Builtin.len_ #[63] 3 #[.map m8]) w5 fun v10 w9 => ∃ (x11 : Int), v10 = (.int .i64 x11) ∧ (
  sel (decide (x11 ≥ (2048 : Int))) (
  Q (.returned (.int .i64 (55 : Int))) w9) (
  drW w9 fun w12 =>
  ∃ S13 : World → Prop, S13 w12 ∧ (
  hdM S13 (aa0.add 1) fun m14 =>
  Calls Try.prog 33 #[.pointer (some aa0), .agg #[.int .i64 (0 : Int), .int .i64 (0 : Int), .int .i64 (0 : Int), .int .i64 (0 : Int)]] w12 fun e15 w16 => ∃ (x17 : Int), e15 = .returned (.int .i64 x17) ∧ (
  S13 w16 ∧ (
  Runs Try.prog (Instr.mapUpdate 63 (.map m14) (.int .i64 xa1) (.int .i64 x17)) w16 fun _ w18 =>
  Q (.returned (.int .i64 (0 : Int))) w18)))))))))
def D : Nat → Option DH := dtab [(7, .held [.fst 0, .fst 1, .fst 2, .fst 3, .fst 4, .fst 5, .fst 6, .eff 7] [.eff 8])]
def tb : List (List Nat × Spec) := []
theorem wp_eq (aa0 : Addr) (xa1 : Int) (w : World) (Q : Ending → World → Prop) :
    wp aa0 xa1 w Q = codeW Try.prog hT 31 D (tab tb) [] body (topQ Try.prog hT 31 [.tmp 4] Q) (argsF [.pointer (some aa0), .int .i64 xa1]) w := by kernel_rfl
theorem ok (aa0 : Addr) (xa1 : Int) (w : World) (Q : Ending → World → Prop) (h : wp aa0 xa1 w Q) : Calls Try.prog 23 #[.pointer (some aa0), .int .i64 xa1] w Q := by
  rw [wp_eq] at h
  exact calls_of_codeW (c := body) (rs := [.tmp 4]) Try.func23 (by kernel_rfl) (by kernel_rfl) (by kernel_rfl) (by kernel_rfl) (by kernel_rfl) (tab_snd (by
    intro x hx
    simp only [tb, List.not_mem_nil] at hx
    )) (by kernel_rfl) h
end f_linkcut_Forest_AddV
namespace f_linkcut_Forest_Joined
/-! (*skein/linkcut.Forest).Joined: function 24 -/
noncomputable def body : Code := (Try.f24.body).getD .skip
def od1 : OD := ⟨[0, 1, 2], [3, 5, 9, 11], fun i => ([⟨false, [], [], fun ps vs => match ps, vs with | [.pointer (some ap0), .int _ xp1, .int _ xp2], [] => .pointer (some ap0) | _, _ => undef⟩,
  ⟨false, [], [0], fun ps vs => match ps, vs with | [.pointer (some ap0), .int _ xp1, .int _ xp2], [] => .pointer (some ap0) | _, _ => undef⟩,
  ⟨false, [], [1], fun ps vs => match ps, vs with | [.pointer (some ap0), .int _ xp1, .int _ xp2], [] => .pointer (some (ap0.add 1)) | _, _ => undef⟩,
  ⟨true, [], [2], fun _ _ => undef⟩,
  ⟨false, [], [], fun ps vs => match ps, vs with | [.pointer (some ap0), .int _ xp1, .int _ xp2], [] => .int .i64 xp1 | _, _ => undef⟩,
  ⟨true, [3], [3, 4], fun _ _ => undef⟩,
  ⟨false, [], [], fun ps vs => match ps, vs with | [.pointer (some ap0), .int _ xp1, .int _ xp2], [] => .pointer (some ap0) | _, _ => undef⟩,
  ⟨false, [], [6], fun ps vs => match ps, vs with | [.pointer (some ap0), .int _ xp1, .int _ xp2], [] => .pointer (some ap0) | _, _ => undef⟩,
  ⟨false, [], [7], fun ps vs => match ps, vs with | [.pointer (some ap0), .int _ xp1, .int _ xp2], [] => .pointer (some (ap0.add 1)) | _, _ => undef⟩,
  ⟨true, [], [8], fun _ _ => undef⟩,
  ⟨false, [], [], fun ps vs => match ps, vs with | [.pointer (some ap0), .int _ xp1, .int _ xp2], [] => .int .i64 xp2 | _, _ => undef⟩,
  ⟨true, [9], [9, 10], fun _ _ => undef⟩,
  ⟨false, [3, 5], [5], fun ps vs => match ps, vs with | [.pointer (some ap0), .int _ xp1, .int _ xp2], [.map me3, .int _ xe5] => .int .i64 xe5 | _, _ => undef⟩,
  ⟨false, [3, 5, 9, 11], [11], fun ps vs => match ps, vs with | [.pointer (some ap0), .int _ xp1, .int _ xp2], [.map me3, .int _ xe5, .map me9, .int _ xe11] => .int .i64 xe11 | _, _ => undef⟩] : List OI).getD i ⟨true, [], [], fun _ _ => undef⟩, fun i => ([.one (.sc .any), .one (.sc .any), .one (.sc .any), (.one (.sc .map)), .one (.sc .any), (.one (.sc (.int .i64))), .one (.sc .any), .one (.sc .any), .one (.sc .any), (.one (.sc .map)), .one (.sc .any), (.one (.sc (.int .i64))), .one (.sc .any), .one (.sc .any)] : List OS).getD i (.one (.sc .any))⟩
def h1 (ap0 : Addr) (xp1 : Int) (xp2 : Int) : Prop :=
  (∀ (_ : Fr) (w : World),
  w = w ∧ (.pointer (some ap0) : Value) = (.pointer (some ap0))) ∧
  (∀ (_ : Fr) (w : World),
  w = w ∧ (.pointer (some ap0) : Value) = (.pointer (some ap0))) ∧
  (∀ (_ : Fr) (w : World),
  w = w ∧ (.pointer (some (ap0.add 1)) : Value) = (.pointer (some (ap0.add 1)))) ∧
  (∀ (_ : Fr) (w : World),
  w = w ∧ (.int .i64 xp1 : Value) = (.int .i64 xp1)) ∧
  (∀ (_ : Fr) (w : World),
  w = w ∧ (.pointer (some ap0) : Value) = (.pointer (some ap0))) ∧
  (∀ (_ : Fr) (w : World),
  w = w ∧ (.pointer (some ap0) : Value) = (.pointer (some ap0))) ∧
  (∀ (_ : Fr) (w : World),
  w = w ∧ (.pointer (some (ap0.add 1)) : Value) = (.pointer (some (ap0.add 1)))) ∧
  (∀ (_ : Fr) (w : World),
  w = w ∧ (.int .i64 xp2 : Value) = (.int .i64 xp2)) ∧
  (∀ (_ : Fr) (w : World),
  ∀ (me3 : Option Nat),
  ∀ (xe5 : Int),
  w = w ∧ (.int .i64 xe5 : Value) = (.int .i64 xe5)) ∧
  (∀ (_ : Fr) (w : World),
  ∀ (me3 : Option Nat),
  ∀ (xe5 : Int),
  ∀ (me9 : Option Nat),
  ∀ (xe11 : Int),
  w = w ∧ (.int .i64 xe11 : Value) = (.int .i64 xe11)) ∧
  True
theorem h1_ok (ap0 : Addr) (xp1 : Int) (xp2 : Int) : h1 ap0 xp1 xp2 := ⟨fun _ w => ⟨rfl, rfl⟩, fun _ w => ⟨rfl, rfl⟩, fun _ w => ⟨rfl, rfl⟩, fun _ w => ⟨rfl, rfl⟩, fun _ w => ⟨rfl, rfl⟩, fun _ w => ⟨rfl, rfl⟩, fun _ w => ⟨rfl, rfl⟩, fun _ w => ⟨rfl, rfl⟩, fun _ w _ _ => ⟨rfl, rfl⟩, fun _ w _ _ _ _ => ⟨rfl, rfl⟩, trivial⟩
def wp (aa0 : Addr) (xa1 : Int) (xa2 : Int) (w : World) (Q : Ending → World → Prop) : Prop :=
  drW w fun w1 =>
  h1 aa0 xa1 xa2 ∧
  ∃ (G2 : World → World → Prop) (Φ3 : Nat → Value → World → Prop), (∀ w, G2 w w) ∧ (∀ a b c, G2 a b → G2 b c → G2 a c) ∧ (∀ i v a b, G2 w1 a → G2 a b → Φ3 i v a → Φ3 i v b) ∧ (
  (∀ (_ : Fr) (w4 : World), G2 w1 w4 →
  (
  ldM w4 (aa0.add 1) fun m5 =>
  G2 w4 w4 ∧ Φ3 3 (.map m5) w4)) ∧
  (∀ (_ : Fr) (w6 : World), G2 w1 w6 →
  ∀ (me3 : Option Nat),
  Φ3 3 (.map me3) w6 →
  (
  Runs Try.prog (Instr.lookup 63 (.map me3) (.int .i64 xa1) false) w6 fun v8 w7 => ∃ (x9 : Int), v8 = (.int .i64 x9) ∧ (
  G2 w6 w7 ∧ Φ3 5 (.int .i64 x9) w7))) ∧
  (∀ (_ : Fr) (w10 : World), G2 w1 w10 →
  (
  ldM w10 (aa0.add 1) fun m11 =>
  G2 w10 w10 ∧ Φ3 9 (.map m11) w10)) ∧
  (∀ (_ : Fr) (w12 : World), G2 w1 w12 →
  ∀ (me9 : Option Nat),
  Φ3 9 (.map me9) w12 →
  (
  Runs Try.prog (Instr.lookup 63 (.map me9) (.int .i64 xa2) false) w12 fun v14 w13 => ∃ (x15 : Int), v14 = (.int .i64 x15) ∧ (
  G2 w12 w13 ∧ Φ3 11 (.int .i64 x15) w13))) ∧ True) ∧
  ∀ w16, G2 w1 w16 →
  ∀ (me3 : Option Nat),
  Φ3 3 (.map me3) w16 →
  ∀ (xe5 : Int),
  Φ3 5 (.int .i64 xe5) w16 →
  ∀ (me9 : Option Nat),
  Φ3 9 (.map me9) w16 →
  ∀ (xe11 : Int),
  Φ3 11 (.int .i64 xe11) w16 →
  (
  sel (xe5 == (0 : Int)) (
  Q (.returned (.tuple #[.bool false, .int .i64 (51 : Int)])) w16) (
  sel (xe11 == (0 : Int)) (
  Q (.returned (.tuple #[.bool false, .int .i64 (51 : Int)])) w16) (
  Calls Try.prog 32 #[.pointer (some aa0), .int .i64 xe5, .int .i64 xe11] w16 fun e17 w18 => ∃ (b19 : Bool), e17 = .returned (.bool b19) ∧ (
  Q (.returned (.tuple #[.bool b19, .int .i64 (0 : Int)])) w18))))
def D : Nat → Option DH := dtab [(1, .opn od1)]
def tb : List (List Nat × Spec) := []
theorem wp_eq (aa0 : Addr) (xa1 : Int) (xa2 : Int) (w : World) (Q : Ending → World → Prop) :
    wp aa0 xa1 xa2 w Q = codeW Try.prog hT 32 D (tab tb) [] body (topQ Try.prog hT 32 [.tmp 6, .tmp 7] Q) (argsF [.pointer (some aa0), .int .i64 xa1, .int .i64 xa2]) w := by kernel_rfl
theorem ok (aa0 : Addr) (xa1 : Int) (xa2 : Int) (w : World) (Q : Ending → World → Prop) (h : wp aa0 xa1 xa2 w Q) : Calls Try.prog 24 #[.pointer (some aa0), .int .i64 xa1, .int .i64 xa2] w Q := by
  rw [wp_eq] at h
  exact calls_of_codeW (c := body) (rs := [.tmp 6, .tmp 7]) Try.func24 (by kernel_rfl) (by kernel_rfl) (by kernel_rfl) (by kernel_rfl) (by kernel_rfl) (tab_snd (by
    intro x hx
    simp only [tb, List.not_mem_nil] at hx
    )) (by kernel_rfl) h
end f_linkcut_Forest_Joined
namespace f_linkcut_Forest_DelV
/-! (*skein/linkcut.Forest).DelV: function 25 -/
noncomputable def body : Code := (Try.f25.body).getD .skip
def wp (aa0 : Addr) (xa1 : Int) (w : World) (Q : Ending → World → Prop) : Prop :=
  Calls Try.prog 31 #[.int .i64 xa1] w fun e1 w2 => ∃ (b3 : Bool), e1 = .returned (.bool b3) ∧ (
  sel b3 (
  Q (.returned (.int .i64 (1 : Int))) w2) (
  ldM w2 (aa0.add 1) fun m4 =>
  Runs Try.prog (Instr.lookup 63 (.map m4) (.int .i64 xa1) false) w2 fun v6 w5 => ∃ (x7 : Int), v6 = (.int .i64 x7) ∧ (
  sel (x7 == (0 : Int)) (
  Q (.returned (.int .i64 (51 : Int))) w5) (
  ldM w5 (aa0.add 3) fun m8 =>
  Runs Try.prog (Instr.lookup 63 (.map m8) (.int .i64 xa1) false) w5 fun v10 w9 => ∃ (x11 : Int), v10 = (.int .i64 x11) ∧ (
  sel (decide (x11 > (0 : Int))) (
  Q (.returned (.int .i64 (52 : Int))) w9) (
  drW w9 fun w12 =>
  ∃ S13 : World → Prop, S13 w12 ∧ (
  hdS S13 (aa0.add 4) fun A14 n14 c14 =>
  hdM S13 (aa0.add 1) fun m15 =>
  Runs Try.prog (Instr.lookup 63 (.map m15) (.int .i64 xa1) false) w12 fun v17 w16 => ∃ (x18 : Int), v17 = (.int .i64 x18) ∧ (
  S13 w16 ∧ (
  alW w16 (.cells #[.int .i64 x18] 3) fun B19 w20 =>
  S13 w20 ∧ (
  Runs Try.prog (Builtin.append_ #[26, 26] 26 #[.slice A14 n14 c14, .slice (some (⟨B19, 0, Option.none⟩ : Addr)) 1 1]) w20 fun v22 w21 => ∃ (A23 : Option Addr) (n23 : Nat) (c23 : Nat), v22 = (.slice A23 n23 c23) ∧ (
  S13 w21 ∧ (
  stW w21 (aa0.add 4) (.slice A23 n23 c23) fun w24 =>
  ldM w24 (aa0.add 1) fun m25 =>
  Runs Try.prog (Builtin.delete_ #[63, 3] 0 #[.map m25, .int .i64 xa1]) w24 fun v27 w26 => v27 = (.tuple #[]) ∧ (
  ldM w26 (aa0.add 3) fun m28 =>
  Runs Try.prog (Builtin.delete_ #[63, 3] 0 #[.map m28, .int .i64 xa1]) w26 fun v30 w29 => v30 = (.tuple #[]) ∧ (
  Q (.returned (.int .i64 (0 : Int))) w29))))))))))))))
def D : Nat → Option DH := dtab [(7, .held [.fst 0, .fst 1, .fst 2, .fst 3, .fst 4, .fst 5, .fst 6, .fst 7, .fst 8, .fst 9, .eff 10, .eff 11, .eff 12] [.fst 13, .fst 14, .eff 15])]
def tb : List (List Nat × Spec) := []
theorem wp_eq (aa0 : Addr) (xa1 : Int) (w : World) (Q : Ending → World → Prop) :
    wp aa0 xa1 w Q = codeW Try.prog hT 49 D (tab tb) [] body (topQ Try.prog hT 49 [.tmp 4] Q) (argsF [.pointer (some aa0), .int .i64 xa1]) w := by kernel_rfl
theorem ok (aa0 : Addr) (xa1 : Int) (w : World) (Q : Ending → World → Prop) (h : wp aa0 xa1 w Q) : Calls Try.prog 25 #[.pointer (some aa0), .int .i64 xa1] w Q := by
  rw [wp_eq] at h
  exact calls_of_codeW (c := body) (rs := [.tmp 4]) Try.func25 (by kernel_rfl) (by kernel_rfl) (by kernel_rfl) (by kernel_rfl) (by kernel_rfl) (tab_snd (by
    intro x hx
    simp only [tb, List.not_mem_nil] at hx
    )) (by kernel_rfl) h
end f_linkcut_Forest_DelV
namespace f_linkcut_Forest_root
/-! (*skein/linkcut.Forest).root: function 29 -/
noncomputable def body : Code := (Try.f29.body).getD .skip
def wp (aa0 : Addr) (xa1 : Int) (w : World) (Q : Ending → World → Prop) : Prop :=
  Calls Try.prog 30 #[.pointer (some aa0), .int .i64 xa1] w fun e1 w2 => e1 = .returned (.tuple #[]) ∧ (
  drW w2 fun w3 =>
  ldS w3 aa0 fun A5 n5 c5 =>
  ldS w3 aa0 fun A6 n6 c6 =>
  optB A6 fun a7 =>
  req (decide (0 ≤ xa1 ∧ xa1 < (n6 : Int))) <|
  ldB w3 ((a7.add (xa1.toNat * 13)).add 3) fun b8 =>
  optB A5 fun a9 =>
  req (decide (0 ≤ xa1 ∧ xa1 < (n5 : Int))) <|
  stW w3 ((a9.add (xa1.toNat * 13)).add 3) (.bool (!b8)) fun w10 =>
  Calls Try.prog 42 #[.pointer (some aa0), .int .i64 xa1] w10 fun e11 w12 => e11 = .returned (.tuple #[]) ∧ (
  Q (.returned (.tuple #[])) w12))
def D : Nat → Option DH := dtab [(1, .simple [.fst 0, .fst 1, .fst 2, .fst 3, .fst 4, .fst 5, .fst 6, .fst 7, .fst 8, .fst 9, .fst 10, .fst 11, .fst 12, .fst 13] [.fst 14, .fst 15, .eff 16])]
def tb : List (List Nat × Spec) := []
theorem wp_eq (aa0 : Addr) (xa1 : Int) (w : World) (Q : Ending → World → Prop) :
    wp aa0 xa1 w Q = codeW Try.prog hT 26 D (tab tb) [] body (topQ Try.prog hT 26 [] Q) (argsF [.pointer (some aa0), .int .i64 xa1]) w := by kernel_rfl
theorem ok (aa0 : Addr) (xa1 : Int) (w : World) (Q : Ending → World → Prop) (h : wp aa0 xa1 w Q) : Calls Try.prog 29 #[.pointer (some aa0), .int .i64 xa1] w Q := by
  rw [wp_eq] at h
  exact calls_of_codeW (c := body) (rs := []) Try.func29 (by kernel_rfl) (by kernel_rfl) (by kernel_rfl) (by kernel_rfl) (by kernel_rfl) (tab_snd (by
    intro x hx
    simp only [tb, List.not_mem_nil] at hx
    )) (by kernel_rfl) h
end f_linkcut_Forest_root
namespace f_linkcut_Forest_access
/-! (*skein/linkcut.Forest).access: function 30 -/
noncomputable def body : Code := (Try.f30.body).getD .skip
def l0 : Nat → Addr → Int → Int → World → (World → Prop) → Prop
  | 0, _, _, _, _, _ => False
  | k + 1, at0, xt4, xt5, w, K0 =>
    sel (decide (xt5 > (0 : Int))) (
    Calls Try.prog 43 #[.pointer (some at0), .int .i64 xt5] w fun e1 w2 => e1 = .returned (.tuple #[]) ∧ (
    ldS w2 at0 fun A3 n3 c3 =>
    optB A3 fun a4 =>
    req (decide (0 ≤ xt5 ∧ xt5 < (n3 : Int))) <|
    stW w2 ((a4.add (xt5.toNat * 13)).add ((1 : Int).toNat * 1)) (.int .i64 xt4) fun w5 =>
    Calls Try.prog 44 #[.pointer (some at0), .int .i64 xt5] w5 fun e6 w7 => e6 = .returned (.tuple #[]) ∧ (
    ldS w7 at0 fun A8 n8 c8 =>
    optB A8 fun a9 =>
    req (decide (0 ≤ xt5 ∧ xt5 < (n8 : Int))) <|
    ldI w7 ((a9.add (xt5.toNat * 13)).add 2) .i64 fun x10 =>
    l0 k at0 xt5 x10 w7 K0))) (
    K0  w)
def wp (aa0 : Addr) (xa1 : Int) (w : World) (Q : Ending → World → Prop) : Prop :=
  ∃ k14 : Nat, l0 k14 aa0 (0 : Int) xa1 w (fun (w11 : World) => ∀ _ : Fr,
  Calls Try.prog 43 #[.pointer (some aa0), .int .i64 xa1] w11 fun e12 w13 => e12 = .returned (.tuple #[]) ∧ (
  Q (.returned (.tuple #[])) w13))
def D : Nat → Option DH := dtab []
def l0LO : LO := ⟨[], [], [(0, [0, 1])], []⟩
def l0Tk (k : Nat) : Spec := fun Q σ w =>
  gAd (σ 0) fun at0 =>
  gInt .i64 (σ 4) fun xt4 =>
  gInt .i64 (σ 5) fun xt5 =>
  l0 k at0 xt4 xt5 w (fun (w : World) => ∀ d : Fr, Q (.exit 0) (ov d [(0, .pointer (some at0)), (1, σ 1)]) w)
def l0T : Spec := fun Q σ w => ∃ k, l0Tk k Q σ w
def l0tb : List (List Nat × Spec) := []
noncomputable def l0b : Code := (subC [0, 0, 1, 0, 1] body).getD .skip
theorem l0_eq (k : Nat) (at0 : Addr) (xt4 : Int) (xt5 : Int) (Q : PQ) (σ : Fr) (w : World) :
    l0 (k + 1) at0 xt4 xt5 w (fun (w : World) => ∀ d : Fr, Q (.exit 0) (ov d [(0, .pointer (some at0)), (1, σ 1)]) w) = codeW Try.prog hT 36 D (tab l0tb) [0, 0, 1, 0, 1] l0b (thenQ (l0Tk k Q) (widen l0LO Q)) (ov σ [(0, .pointer (some at0)), (4, .int .i64 xt4), (5, .int .i64 xt5)]) w := by kernel_rfl
theorem l0_snd : ∀ c, subC [0, 1, 0, 1] body = some c → Snd Try.prog 36 c l0T := by
  refine loop_of (hT := hT) (D := D) (l := l0tb) (b := l0b) (lo := l0LO) (by kernel_rfl) (by
    intro x hx
    simp only [l0tb, List.not_mem_nil] at hx
    ) (by kernel_rfl) (by kernel_rfl) ?_ ?_
  · intro Q σ w h
    unfold l0Tk at h
    obtain ⟨at0, h0, hn⟩ := gAd_elim h
    clear h
    have h := hn
    clear hn
    obtain ⟨xt4, h4, hn⟩ := gInt_elim h
    clear h
    have h := hn
    clear hn
    obtain ⟨xt5, h5, hn⟩ := gInt_elim h
    clear h
    have h := hn
    clear hn
    exact h
  · intro k Q σ w h
    unfold l0Tk at h
    obtain ⟨at0, h0, hn⟩ := gAd_elim h
    clear h
    have h := hn
    clear hn
    obtain ⟨xt4, h4, hn⟩ := gInt_elim h
    clear h
    have h := hn
    clear hn
    obtain ⟨xt5, h5, hn⟩ := gInt_elim h
    clear h
    have h := hn
    clear hn
    rw [l0_eq (σ := σ)] at h
    have e : (ov σ [(0, .pointer (some at0)), (4, .int .i64 xt4), (5, .int .i64 xt5)]) = σ := ov_self (by simp [h0, h4, h5])
    rw [e] at h
    exact h
def tb : List (List Nat × Spec) := [([0, 1, 0, 1], l0T)]
theorem wp_eq (aa0 : Addr) (xa1 : Int) (w : World) (Q : Ending → World → Prop) :
    wp aa0 xa1 w Q = codeW Try.prog hT 36 D (tab tb) [] body (topQ Try.prog hT 36 [] Q) (argsF [.pointer (some aa0), .int .i64 xa1]) w := by kernel_rfl
theorem ok (aa0 : Addr) (xa1 : Int) (w : World) (Q : Ending → World → Prop) (h : wp aa0 xa1 w Q) : Calls Try.prog 30 #[.pointer (some aa0), .int .i64 xa1] w Q := by
  rw [wp_eq] at h
  exact calls_of_codeW (c := body) (rs := []) Try.func30 (by kernel_rfl) (by kernel_rfl) (by kernel_rfl) (by kernel_rfl) (by kernel_rfl) (tab_snd (by
    intro x hx
    simp only [tb, List.mem_cons, List.not_mem_nil, or_false] at hx
    subst hx
    exact l0_snd)) (by kernel_rfl) h
end f_linkcut_Forest_access
namespace f_linkcut_badId
/-! skein/linkcut.badId: function 31 -/
noncomputable def body : Code := (Try.f31.body).getD .skip
def wp (xa0 : Int) (w : World) (Q : Ending → World → Prop) : Prop :=
  sel (decide (xa0 < (1 : Int))) (
  Q (.returned (.bool true)) w) (
  Q (.returned (.bool (decide (xa0 > (2147483647 : Int))))) w)
def D : Nat → Option DH := dtab []
def tb : List (List Nat × Spec) := []
theorem wp_eq (xa0 : Int) (w : World) (Q : Ending → World → Prop) :
    wp xa0 w Q = codeW Try.prog hT 9 D (tab tb) [] body (topQ Try.prog hT 9 [.tmp 2] Q) (argsF [.int .i64 xa0]) w := by kernel_rfl
theorem ok (xa0 : Int) (w : World) (Q : Ending → World → Prop) (h : wp xa0 w Q) : Calls Try.prog 31 #[.int .i64 xa0] w Q := by
  rw [wp_eq] at h
  exact calls_of_codeW (c := body) (rs := [.tmp 2]) Try.func31 (by kernel_rfl) (by kernel_rfl) (by kernel_rfl) (by kernel_rfl) (by kernel_rfl) (tab_snd (by
    intro x hx
    simp only [tb, List.not_mem_nil] at hx
    )) (by kernel_rfl) h
end f_linkcut_badId
namespace f_linkcut_Forest_joined
/-! (*skein/linkcut.Forest).joined: function 32 -/
noncomputable def body : Code := (Try.f32.body).getD .skip
def wp (aa0 : Addr) (xa1 : Int) (xa2 : Int) (w : World) (Q : Ending → World → Prop) : Prop :=
  sel (xa1 == xa2) (
  Q (.returned (.bool true)) w) (
  Calls Try.prog 30 #[.pointer (some aa0), .int .i64 xa1] w fun e1 w2 => e1 = .returned (.tuple #[]) ∧ (
  Calls Try.prog 30 #[.pointer (some aa0), .int .i64 xa2] w2 fun e3 w4 => e3 = .returned (.tuple #[]) ∧ (
  ldS w4 aa0 fun A5 n5 c5 =>
  optB A5 fun a6 =>
  req (decide (0 ≤ xa1 ∧ xa1 < (n5 : Int))) <|
  ldI w4 ((a6.add (xa1.toNat * 13)).add 2) .i64 fun x7 =>
  Q (.returned (.bool (decide (x7 > (0 : Int))))) w4)))
def D : Nat → Option DH := dtab []
def tb : List (List Nat × Spec) := []
theorem wp_eq (aa0 : Addr) (xa1 : Int) (xa2 : Int) (w : World) (Q : Ending → World → Prop) :
    wp aa0 xa1 xa2 w Q = codeW Try.prog hT 25 D (tab tb) [] body (topQ Try.prog hT 25 [.tmp 6] Q) (argsF [.pointer (some aa0), .int .i64 xa1, .int .i64 xa2]) w := by kernel_rfl
theorem ok (aa0 : Addr) (xa1 : Int) (xa2 : Int) (w : World) (Q : Ending → World → Prop) (h : wp aa0 xa1 xa2 w Q) : Calls Try.prog 32 #[.pointer (some aa0), .int .i64 xa1, .int .i64 xa2] w Q := by
  rw [wp_eq] at h
  exact calls_of_codeW (c := body) (rs := [.tmp 6]) Try.func32 (by kernel_rfl) (by kernel_rfl) (by kernel_rfl) (by kernel_rfl) (by kernel_rfl) (tab_snd (by
    intro x hx
    simp only [tb, List.not_mem_nil] at hx
    )) (by kernel_rfl) h
end f_linkcut_Forest_joined
namespace f_linkcut_Forest_make
/-! (*skein/linkcut.Forest).make: function 33 -/
noncomputable def body : Code := (Try.f33.body).getD .skip
def j0 (at0 : Addr) (at5 : Addr) (w : World) (Kr : Int → World → Prop) : Prop :=
  ldS w (at0.add 4) fun A36 n36 c36 =>
  sel (decide ((n36 : Int) > (0 : Int))) (
  ldS w (at0.add 4) fun A37 n37 c37 =>
  optB A37 fun a38 =>
  req (decide (0 ≤ (IntKind.i64.wrap ((n36 : Int) - (1 : Int))) ∧ (IntKind.i64.wrap ((n36 : Int) - (1 : Int))) < (n37 : Int))) <|
  ldI w (a38.add ((IntKind.i64.wrap ((n36 : Int) - (1 : Int))).toNat * 1)) .i64 fun x39 =>
  ldS w (at0.add 4) fun A40 n40 c40 =>
  req (decide (0 ≤ (IntKind.i64.wrap ((n36 : Int) - (1 : Int))) ∧ (IntKind.i64.wrap ((n36 : Int) - (1 : Int))) ≤ (c40 : Int))) <|
  stW w (at0.add 4) (.slice (slA A40 0 c40 1) ((IntKind.i64.wrap ((n36 : Int) - (1 : Int))).toNat - 0) (c40 - 0)) fun w41 =>
  drW w41 fun w42 =>
  ldS w42 at0 fun A44 n44 c44 =>
  ldI w42 at5 .i64 fun x45 =>
  ldI w42 (at5.add 1) .i64 fun x46 =>
  ldI w42 (at5.add 2) .i64 fun x47 =>
  ldB w42 (at5.add 3) fun b48 =>
  ldI w42 (at5.add 4) .i64 fun x49 =>
  ldI w42 (at5.add 5) .i64 fun x50 =>
  ldI w42 (at5.add 6) .i64 fun x51 =>
  ldI w42 (at5.add 7) .i64 fun x52 =>
  ldI w42 (at5.add 8) .i64 fun x53 =>
  ldI w42 (at5.add 9) .i64 fun x54 =>
  ldI w42 (at5.add 10) .i64 fun x55 =>
  ldI w42 (at5.add 11) .i64 fun x56 =>
  ldC w42 (at5.add 12) .f64 fun r57 i57 =>
  optB A44 fun a58 =>
  req (decide (0 ≤ x39 ∧ x39 < (n44 : Int))) <|
  stW w42 (a58.add (x39.toNat * 13)) (.int .i64 x45) fun w59 =>
  stW w59 ((a58.add (x39.toNat * 13)).add 1) (.int .i64 x46) fun w60 =>
  stW w60 ((a58.add (x39.toNat * 13)).add 2) (.int .i64 x47) fun w61 =>
  stW w61 ((a58.add (x39.toNat * 13)).add 3) (.bool b48) fun w62 =>
  stW w62 ((a58.add (x39.toNat * 13)).add 4) (.int .i64 x49) fun w63 =>
  stW w63 ((a58.add (x39.toNat * 13)).add 5) (.int .i64 x50) fun w64 =>
  stW w64 ((a58.add (x39.toNat * 13)).add 6) (.int .i64 x51) fun w65 =>
  stW w65 ((a58.add (x39.toNat * 13)).add 7) (.int .i64 x52) fun w66 =>
  stW w66 ((a58.add (x39.toNat * 13)).add 8) (.int .i64 x53) fun w67 =>
  stW w67 ((a58.add (x39.toNat * 13)).add 9) (.int .i64 x54) fun w68 =>
  stW w68 ((a58.add (x39.toNat * 13)).add 10) (.int .i64 x55) fun w69 =>
  stW w69 ((a58.add (x39.toNat * 13)).add 11) (.int .i64 x56) fun w70 =>
  stW w70 ((a58.add (x39.toNat * 13)).add 12) (.complex .f64 r57 i57) fun w71 =>
  Kr x39 w71) (
  drW w fun w72 =>
  ∃ S73 : World → Prop, S73 w72 ∧ (
  hdS S73 at0 fun A74 n74 c74 =>
  hdI S73 at5 .i64 fun x75 =>
  hdI S73 (at5.add 1) .i64 fun x76 =>
  hdI S73 (at5.add 2) .i64 fun x77 =>
  hdB S73 (at5.add 3) fun b78 =>
  hdI S73 (at5.add 4) .i64 fun x79 =>
  hdI S73 (at5.add 5) .i64 fun x80 =>
  hdI S73 (at5.add 6) .i64 fun x81 =>
  hdI S73 (at5.add 7) .i64 fun x82 =>
  hdI S73 (at5.add 8) .i64 fun x83 =>
  hdI S73 (at5.add 9) .i64 fun x84 =>
  hdI S73 (at5.add 10) .i64 fun x85 =>
  hdI S73 (at5.add 11) .i64 fun x86 =>
  hdC S73 (at5.add 12) .f64 fun r87 i87 =>
  alW w72 (.cells #[.int .i64 x75, .int .i64 x76, .int .i64 x77, .bool b78, .int .i64 x79, .int .i64 x80, .int .i64 x81, .int .i64 x82, .int .i64 x83, .int .i64 x84, .int .i64 x85, .int .i64 x86, .complex .f64 r87 i87] 70) fun B88 w89 =>
  S73 w89 ∧ (
  Runs Try.prog (Builtin.append_ #[62, 62] 62 #[.slice A74 n74 c74, .slice (some (⟨B88, 0, Option.none⟩ : Addr)) 1 1]) w89 fun v91 w90 => ∃ (A92 : Option Addr) (n92 : Nat) (c92 : Nat), v91 = (.slice A92 n92 c92) ∧ (
  S73 w90 ∧ (
  stW w90 at0 (.slice A92 n92 c92) fun w93 =>
  ldS w93 at0 fun A94 n94 c94 =>
  Kr (IntKind.i64.wrap ((n94 : Int) - (1 : Int))) w93)))))
def wp (aa0 : Addr) (xa1_0 : Int) (xa1_1 : Int) (xa1_2 : Int) (xa1_3 : Int) (w : World) (Q : Ending → World → Prop) : Prop :=
  alW w (.cells #[.int .i64 xa1_0, .int .i64 xa1_1, .int .i64 xa1_2, .int .i64 xa1_3] 33) fun B1 w2 =>
  ldI w2 (⟨B1, 0, Option.none⟩ : Addr) .i64 fun x3 =>
  ldI w2 ((⟨B1, 0, Option.none⟩ : Addr).add 1) .i64 fun x4 =>
  ldI w2 ((⟨B1, 0, Option.none⟩ : Addr).add 2) .i64 fun x5 =>
  ldI w2 ((⟨B1, 0, Option.none⟩ : Addr).add 3) .i64 fun x6 =>
  alW w2 (.cells #[.int .i64 (0 : Int), .int .i64 (0 : Int), .int .i64 (0 : Int), .bool false, .int .i64 (0 : Int), .int .i64 (0 : Int), .int .i64 (0 : Int), .int .i64 (0 : Int), .int .i64 (0 : Int), .int .i64 (0 : Int), .int .i64 (0 : Int), .int .i64 (0 : Int), .complex .f64 0 0] 70) fun B7 w8 =>
  stW w8 (⟨B7, 0, Option.none⟩ : Addr) (.int .i64 (0 : Int)) fun w9 =>
  stW w9 ((⟨B7, 0, Option.none⟩ : Addr).add 1) (.int .i64 (0 : Int)) fun w10 =>
  stW w10 ((⟨B7, 0, Option.none⟩ : Addr).add 2) (.int .i64 (0 : Int)) fun w11 =>
  stW w11 ((⟨B7, 0, Option.none⟩ : Addr).add 3) (.bool false) fun w12 =>
  stW w12 ((⟨B7, 0, Option.none⟩ : Addr).add 4) (.int .i64 x3) fun w13 =>
  stW w13 ((⟨B7, 0, Option.none⟩ : Addr).add 5) (.int .i64 x4) fun w14 =>
  stW w14 ((⟨B7, 0, Option.none⟩ : Addr).add 6) (.int .i64 x5) fun w15 =>
  stW w15 ((⟨B7, 0, Option.none⟩ : Addr).add 7) (.int .i64 x6) fun w16 =>
  stW w16 ((⟨B7, 0, Option.none⟩ : Addr).add 8) (.int .i64 (0 : Int)) fun w17 =>
  stW w17 ((⟨B7, 0, Option.none⟩ : Addr).add 9) (.int .i64 (0 : Int)) fun w18 =>
  stW w18 ((⟨B7, 0, Option.none⟩ : Addr).add 10) (.int .i64 (0 : Int)) fun w19 =>
  stW w19 ((⟨B7, 0, Option.none⟩ : Addr).add 11) (.int .i64 (0 : Int)) fun w20 =>
  stW w20 ((⟨B7, 0, Option.none⟩ : Addr).add 12) (.complex .f64 0 0) fun w21 =>
  ldI w21 (⟨B1, 0, Option.none⟩ : Addr) .i64 fun x22 =>
  sel (decide (x22 > (0 : Int))) (
  ldI w21 (⟨B1, 0, Option.none⟩ : Addr) .i64 fun x23 =>
  ldI w21 ((⟨B1, 0, Option.none⟩ : Addr).add 1) .i64 fun x24 =>
  ldI w21 ((⟨B1, 0, Option.none⟩ : Addr).add 2) .i64 fun x25 =>
  ldI w21 ((⟨B1, 0, Option.none⟩ : Addr).add 3) .i64 fun x26 =>
  ldI w21 ((⟨B1, 0, Option.none⟩ : Addr).add 3) .i64 fun x27 =>
  Runs Try.prog (Go.convert 2 52 (.int .i64 x27)) w21 fun v29 w28 => ∃ (f30 : Nat), v29 = (.float .f64 f30) ∧ (
  stW w28 ((⟨B7, 0, Option.none⟩ : Addr).add 8) (.int .i64 x23) fun w31 =>
  stW w31 (((⟨B7, 0, Option.none⟩ : Addr).add 8).add 1) (.int .i64 x24) fun w32 =>
  stW w32 (((⟨B7, 0, Option.none⟩ : Addr).add 8).add 2) (.int .i64 x25) fun w33 =>
  stW w33 (((⟨B7, 0, Option.none⟩ : Addr).add 8).add 3) (.int .i64 x26) fun w34 =>
  stW w34 (((⟨B7, 0, Option.none⟩ : Addr).add 8).add 4) (.complex .f64 f30 4607182418800017408) fun w35 =>
  j0 aa0 (⟨B7, 0, Option.none⟩ : Addr) w35 (fun (x95 : Int) (w96 : World) => ∀ _ : Fr,
  Q (.returned (.int .i64 x95)) w96))) (
  j0 aa0 (⟨B7, 0, Option.none⟩ : Addr) w21 (fun (x97 : Int) (w98 : World) => ∀ _ : Fr,
  Q (.returned (.int .i64 x97)) w98))
def D : Nat → Option DH := dtab [(8, .simple [.fst 0, .fst 1, .fst 2, .fst 3, .fst 4, .fst 5] [.fst 6, .eff 7]), (10, .held [.fst 0, .fst 1, .fst 2, .fst 3, .fst 4, .fst 5, .eff 6, .eff 7] [.fst 8, .fst 9, .eff 10])]
def j0LO : LO := ⟨[], [4], [], []⟩
def j0T : Spec := fun Q σ w =>
  gAd (σ 0) fun at0 =>
  gAd (σ 5) fun at5 =>
  j0 at0 at5 w (fun (xq4 : Int) (w : World) => ∀ d : Fr, Q .ret (ov d [(4, .int .i64 xq4)]) w)
def j0tb : List (List Nat × Spec) := []
noncomputable def j0b : Code := (subC [1, 1, 1] body).getD .skip
theorem j0_eq (at0 : Addr) (at5 : Addr) (Q : PQ) (σ : Fr) (w : World) :
    j0 at0 at5 w (fun (xq4 : Int) (w : World) => ∀ d : Fr, Q .ret (ov d [(4, .int .i64 xq4)]) w) = codeW Try.prog hT 69 D (tab j0tb) [1, 1, 1] j0b (widen j0LO Q) (ov σ [(0, .pointer (some at0)), (5, .pointer (some at5))]) w := by kernel_rfl
theorem j0_snd : ∀ c, subC [1, 1, 1] body = some c → Snd Try.prog 69 c j0T := by
  refine cut_of (hT := hT) (D := D) (l := j0tb) (b := j0b) (lo := j0LO) (by kernel_rfl) (by
    intro x hx
    simp only [j0tb, List.not_mem_nil] at hx
    ) (by kernel_rfl) (by kernel_rfl) ?_
  intro Q σ w h
  unfold j0T at h
  obtain ⟨at0, h0, hn⟩ := gAd_elim h
  clear h
  have h := hn
  clear hn
  obtain ⟨at5, h5, hn⟩ := gAd_elim h
  clear h
  have h := hn
  clear hn
  rw [j0_eq (σ := σ)] at h
  have e : (ov σ [(0, .pointer (some at0)), (5, .pointer (some at5))]) = σ := ov_self (by simp [h0, h5])
  rw [e] at h
  exact h
def tb : List (List Nat × Spec) := [([1, 1, 1], j0T)]
theorem wp_eq (aa0 : Addr) (xa1_0 : Int) (xa1_1 : Int) (xa1_2 : Int) (xa1_3 : Int) (w : World) (Q : Ending → World → Prop) :
    wp aa0 xa1_0 xa1_1 xa1_2 xa1_3 w Q = codeW Try.prog hT 69 D (tab tb) [] body (topQ Try.prog hT 69 [.tmp 4] Q) (argsF [.pointer (some aa0), .agg #[.int .i64 xa1_0, .int .i64 xa1_1, .int .i64 xa1_2, .int .i64 xa1_3]]) w := by kernel_rfl
theorem ok (aa0 : Addr) (xa1_0 : Int) (xa1_1 : Int) (xa1_2 : Int) (xa1_3 : Int) (w : World) (Q : Ending → World → Prop) (h : wp aa0 xa1_0 xa1_1 xa1_2 xa1_3 w Q) : Calls Try.prog 33 #[.pointer (some aa0), .agg #[.int .i64 xa1_0, .int .i64 xa1_1, .int .i64 xa1_2, .int .i64 xa1_3]] w Q := by
  rw [wp_eq] at h
  exact calls_of_codeW (c := body) (rs := [.tmp 4]) Try.func33 (by kernel_rfl) (by kernel_rfl) (by kernel_rfl) (by kernel_rfl) (by kernel_rfl) (tab_snd (by
    intro x hx
    simp only [tb, List.mem_cons, List.not_mem_nil, or_false] at hx
    subst hx
    exact j0_snd)) (by kernel_rfl) h
end f_linkcut_Forest_make
namespace f_linkcut_Forest_part
/-! (*skein/linkcut.Forest).part: function 34 -/
noncomputable def body : Code := (Try.f34.body).getD .skip
def wp (aa0 : Addr) (xa1 : Int) (xa2 : Int) (w : World) (Q : Ending → World → Prop) : Prop :=
  Calls Try.prog 29 #[.pointer (some aa0), .int .i64 xa1] w fun e1 w2 => e1 = .returned (.tuple #[]) ∧ (
  Calls Try.prog 30 #[.pointer (some aa0), .int .i64 xa2] w2 fun e3 w4 => e3 = .returned (.tuple #[]) ∧ (
  ldS w4 aa0 fun A5 n5 c5 =>
  optB A5 fun a6 =>
  req (decide (0 ≤ xa2 ∧ xa2 < (n5 : Int))) <|
  stW w4 ((a6.add (xa2.toNat * 13)).add ((0 : Int).toNat * 1)) (.int .i64 (0 : Int)) fun w7 =>
  ldS w7 aa0 fun A8 n8 c8 =>
  optB A8 fun a9 =>
  req (decide (0 ≤ xa1 ∧ xa1 < (n8 : Int))) <|
  stW w7 ((a9.add (xa1.toNat * 13)).add 2) (.int .i64 (0 : Int)) fun w10 =>
  Calls Try.prog 44 #[.pointer (some aa0), .int .i64 xa2] w10 fun e11 w12 => e11 = .returned (.tuple #[]) ∧ (
  Q (.returned (.tuple #[])) w12)))
def D : Nat → Option DH := dtab []
def tb : List (List Nat × Spec) := []
theorem wp_eq (aa0 : Addr) (xa1 : Int) (xa2 : Int) (w : World) (Q : Ending → World → Prop) :
    wp aa0 xa1 xa2 w Q = codeW Try.prog hT 30 D (tab tb) [] body (topQ Try.prog hT 30 [] Q) (argsF [.pointer (some aa0), .int .i64 xa1, .int .i64 xa2]) w := by kernel_rfl
theorem ok (aa0 : Addr) (xa1 : Int) (xa2 : Int) (w : World) (Q : Ending → World → Prop) (h : wp aa0 xa1 xa2 w Q) : Calls Try.prog 34 #[.pointer (some aa0), .int .i64 xa1, .int .i64 xa2] w Q := by
  rw [wp_eq] at h
  exact calls_of_codeW (c := body) (rs := []) Try.func34 (by kernel_rfl) (by kernel_rfl) (by kernel_rfl) (by kernel_rfl) (by kernel_rfl) (tab_snd (by
    intro x hx
    simp only [tb, List.not_mem_nil] at hx
    )) (by kernel_rfl) h
end f_linkcut_Forest_part
namespace f_linkcut_Forest_push
/-! (*skein/linkcut.Forest).push: function 42 -/
noncomputable def body : Code := (Try.f42.body).getD .skip
def l0 : Nat → Addr → Int → Int → Int → World → (World → Prop) → Prop
  | 0, _, _, _, _, _, _ => False
  | k + 1, at0, xt42_0, xt42_1, xt43, w, K0 =>
    sel (decide (xt43 < (2 : Int))) (
    req (true && decide (0 ≤ xt43 ∧ xt43 < ((2 : Nat) : Int))) <|
    idxI (#[.int .i64 xt42_0, .int .i64 xt42_1] : Array Value) xt43.toNat .i64 fun x13 =>
    sel (decide (x13 > (0 : Int))) (
    drW w fun w14 =>
    ldS w14 at0 fun A16 n16 c16 =>
    ldS w14 at0 fun A17 n17 c17 =>
    optB A17 fun a18 =>
    req (decide (0 ≤ x13 ∧ x13 < (n17 : Int))) <|
    ldB w14 ((a18.add (x13.toNat * 13)).add 3) fun b19 =>
    optB A16 fun a20 =>
    req (decide (0 ≤ x13 ∧ x13 < (n16 : Int))) <|
    stW w14 ((a20.add (x13.toNat * 13)).add 3) (.bool (!b19)) fun w21 =>
    l0 k at0 xt42_0 xt42_1 (IntKind.i64.wrap (xt43 + (1 : Int))) w21 K0) (
    l0 k at0 xt42_0 xt42_1 (IntKind.i64.wrap (xt43 + (1 : Int))) w K0)) (
    K0  w)
def wp (aa0 : Addr) (xa1 : Int) (w : World) (Q : Ending → World → Prop) : Prop :=
  ldS w aa0 fun A1 n1 c1 =>
  optB A1 fun a2 =>
  req (decide (0 ≤ xa1 ∧ xa1 < (n1 : Int))) <|
  ldB w ((a2.add (xa1.toNat * 13)).add 3) fun b3 =>
  sel (!b3) (
  Q (.returned (.tuple #[])) w) (
  stW w ((a2.add (xa1.toNat * 13)).add 3) (.bool false) fun w4 =>
  drW w4 fun w5 =>
  ldI w5 ((a2.add (xa1.toNat * 13)).add ((1 : Int).toNat * 1)) .i64 fun x7 =>
  ldI w5 ((a2.add (xa1.toNat * 13)).add ((0 : Int).toNat * 1)) .i64 fun x8 =>
  stW w5 ((a2.add (xa1.toNat * 13)).add ((0 : Int).toNat * 1)) (.int .i64 x7) fun w9 =>
  stW w9 ((a2.add (xa1.toNat * 13)).add ((1 : Int).toNat * 1)) (.int .i64 x8) fun w10 =>
  ldI w10 (a2.add (xa1.toNat * 13)) .i64 fun x11 =>
  ldI w10 ((a2.add (xa1.toNat * 13)).add 1) .i64 fun x12 =>
  ∃ k23 : Nat, l0 k23 aa0 x11 x12 (0 : Int) w10 (fun (w22 : World) => ∀ _ : Fr,
  Q (.returned (.tuple #[])) w22))
def D : Nat → Option DH := dtab [(3, .pre [0, 1, 2, 3, 4, 5, 7, 8, 9, 10, 12, 13, 16, 17] [.fst 6, .fst 11] [.fst 14, .eff 15, .fst 18, .eff 19]), (8, .simple [.fst 0, .fst 1, .fst 2, .fst 3, .fst 4, .fst 5, .fst 6, .fst 7, .fst 8, .fst 9, .fst 10, .fst 11, .fst 12, .fst 13] [.fst 14, .fst 15, .eff 16])]
def l0LO : LO := ⟨[], [], [(0, [])], []⟩
def l0Tk (k : Nat) : Spec := fun Q σ w =>
  gAd (σ 0) fun at0 =>
  gAgg (σ 42) fun l24 =>
  gCons l24 fun h27 l25 =>
  gInt .i64 h27 fun xt42_0 =>
  gCons l25 fun h28 l26 =>
  gInt .i64 h28 fun xt42_1 =>
  gNil l26 <|
  gInt .i64 (σ 43) fun xt43 =>
  l0 k at0 xt42_0 xt42_1 xt43 w (fun (w : World) => ∀ d : Fr, Q (.exit 0) (ov d []) w)
def l0T : Spec := fun Q σ w => ∃ k, l0Tk k Q σ w
def l0tb : List (List Nat × Spec) := []
noncomputable def l0b : Code := (subC [0, 0, 1, 1, 1, 1, 1] body).getD .skip
theorem l0_eq (k : Nat) (at0 : Addr) (xt42_0 : Int) (xt42_1 : Int) (xt43 : Int) (Q : PQ) (σ : Fr) (w : World) :
    l0 (k + 1) at0 xt42_0 xt42_1 xt43 w (fun (w : World) => ∀ d : Fr, Q (.exit 0) (ov d []) w) = codeW Try.prog hT 65 D (tab l0tb) [0, 0, 1, 1, 1, 1, 1] l0b (thenQ (l0Tk k Q) (widen l0LO Q)) (ov σ [(0, .pointer (some at0)), (42, .agg #[.int .i64 xt42_0, .int .i64 xt42_1]), (43, .int .i64 xt43)]) w := by kernel_rfl
theorem l0_snd : ∀ c, subC [0, 1, 1, 1, 1, 1] body = some c → Snd Try.prog 65 c l0T := by
  refine loop_of (hT := hT) (D := D) (l := l0tb) (b := l0b) (lo := l0LO) (by kernel_rfl) (by
    intro x hx
    simp only [l0tb, List.not_mem_nil] at hx
    ) (by kernel_rfl) (by kernel_rfl) ?_ ?_
  · intro Q σ w h
    unfold l0Tk at h
    obtain ⟨at0, h0, hn⟩ := gAd_elim h
    clear h
    have h := hn
    clear hn
    obtain ⟨lh42, h42, hn⟩ := gAgg_elim h
    clear h
    have h := hn
    clear hn
    obtain ⟨hdh42_0, tlh42_0, eh42_0, hn⟩ := gCons_elim h
    clear h
    have h := hn
    clear hn
    subst eh42_0
    obtain ⟨xt42_0, fh42_0, hn⟩ := gInt_elim h
    clear h
    have h := hn
    clear hn
    subst fh42_0
    obtain ⟨hdh42_1, tlh42_1, eh42_1, hn⟩ := gCons_elim h
    clear h
    have h := hn
    clear hn
    subst eh42_1
    obtain ⟨xt42_1, fh42_1, hn⟩ := gInt_elim h
    clear h
    have h := hn
    clear hn
    subst fh42_1
    obtain ⟨eh42, hn⟩ := gNil_elim h
    clear h
    have h := hn
    clear hn
    subst eh42
    obtain ⟨xt43, h43, hn⟩ := gInt_elim h
    clear h
    have h := hn
    clear hn
    exact h
  · intro k Q σ w h
    unfold l0Tk at h
    obtain ⟨at0, h0, hn⟩ := gAd_elim h
    clear h
    have h := hn
    clear hn
    obtain ⟨lh42, h42, hn⟩ := gAgg_elim h
    clear h
    have h := hn
    clear hn
    obtain ⟨hdh42_0, tlh42_0, eh42_0, hn⟩ := gCons_elim h
    clear h
    have h := hn
    clear hn
    subst eh42_0
    obtain ⟨xt42_0, fh42_0, hn⟩ := gInt_elim h
    clear h
    have h := hn
    clear hn
    subst fh42_0
    obtain ⟨hdh42_1, tlh42_1, eh42_1, hn⟩ := gCons_elim h
    clear h
    have h := hn
    clear hn
    subst eh42_1
    obtain ⟨xt42_1, fh42_1, hn⟩ := gInt_elim h
    clear h
    have h := hn
    clear hn
    subst fh42_1
    obtain ⟨eh42, hn⟩ := gNil_elim h
    clear h
    have h := hn
    clear hn
    subst eh42
    obtain ⟨xt43, h43, hn⟩ := gInt_elim h
    clear h
    have h := hn
    clear hn
    rw [l0_eq (σ := σ)] at h
    have e : (ov σ [(0, .pointer (some at0)), (42, .agg #[.int .i64 xt42_0, .int .i64 xt42_1]), (43, .int .i64 xt43)]) = σ := ov_self (by simp [h0, h42, h43])
    rw [e] at h
    exact h
def tb : List (List Nat × Spec) := [([0, 1, 1, 1, 1, 1], l0T)]
theorem wp_eq (aa0 : Addr) (xa1 : Int) (w : World) (Q : Ending → World → Prop) :
    wp aa0 xa1 w Q = codeW Try.prog hT 65 D (tab tb) [] body (topQ Try.prog hT 65 [] Q) (argsF [.pointer (some aa0), .int .i64 xa1]) w := by kernel_rfl
theorem ok (aa0 : Addr) (xa1 : Int) (w : World) (Q : Ending → World → Prop) (h : wp aa0 xa1 w Q) : Calls Try.prog 42 #[.pointer (some aa0), .int .i64 xa1] w Q := by
  rw [wp_eq] at h
  exact calls_of_codeW (c := body) (rs := []) Try.func42 (by kernel_rfl) (by kernel_rfl) (by kernel_rfl) (by kernel_rfl) (by kernel_rfl) (tab_snd (by
    intro x hx
    simp only [tb, List.mem_cons, List.not_mem_nil, or_false] at hx
    subst hx
    exact l0_snd)) (by kernel_rfl) h
end f_linkcut_Forest_push
namespace f_linkcut_Forest_splay
/-! (*skein/linkcut.Forest).splay: function 43 -/
noncomputable def body : Code := (Try.f43.body).getD .skip
def l0 : Nat → Addr → Option Addr → Nat → Nat → Int → World → ((Option Addr) → Nat → Nat → World → Prop) → Prop
  | 0, _, _, _, _, _, _, _ => False
  | k + 1, at0, At4, nt4, ct4, xt5, w, K0 =>
    Calls Try.prog 48 #[.pointer (some at0), .int .i64 xt5] w fun e3 w4 => ∃ (x5 : Int), e3 = .returned (.int .i64 x5) ∧ (
    sel (decide (x5 ≥ (0 : Int))) (
    ldS w4 at0 fun A6 n6 c6 =>
    optB A6 fun a7 =>
    req (decide (0 ≤ xt5 ∧ xt5 < (n6 : Int))) <|
    ldI w4 ((a7.add (xt5.toNat * 13)).add 2) .i64 fun x8 =>
    alW w4 (.cells #[.int .i64 x8] 3) fun B9 w10 =>
    Runs Try.prog (Builtin.append_ #[26, 26] 26 #[.slice At4 nt4 ct4, .slice (some (⟨B9, 0, Option.none⟩ : Addr)) 1 1]) w10 fun v12 w11 => ∃ (A13 : Option Addr) (n13 : Nat) (c13 : Nat), v12 = (.slice A13 n13 c13) ∧ (
    l0 k at0 A13 n13 c13 x8 w11 K0)) (
    K0 At4 nt4 ct4 w4))
def l1 : Nat → Addr → Option Addr → Nat → Nat → Int → World → (World → Prop) → Prop
  | 0, _, _, _, _, _, _, _ => False
  | k + 1, at0, At4, nt4, ct4, xt6, w, K2 =>
    sel (decide (xt6 ≥ (0 : Int))) (
    optB At4 fun a16 =>
    req (decide (0 ≤ xt6 ∧ xt6 < (nt4 : Int))) <|
    ldI w (a16.add (xt6.toNat * 1)) .i64 fun x17 =>
    Calls Try.prog 42 #[.pointer (some at0), .int .i64 x17] w fun e18 w19 => e18 = .returned (.tuple #[]) ∧ (
    l1 k at0 At4 nt4 ct4 (IntKind.i64.wrap (xt6 - (1 : Int))) w19 K2)) (
    K2  w)
def l2 : Nat → Addr → Int → Int → World → (World → Prop) → Prop
  | 0, _, _, _, _, _ => False
  | k + 1, at0, xt1, xt7, w, K4 =>
    sel (decide (xt7 ≥ (0 : Int))) (
    ldS w at0 fun A24 n24 c24 =>
    optB A24 fun a25 =>
    req (decide (0 ≤ xt1 ∧ xt1 < (n24 : Int))) <|
    ldI w ((a25.add (xt1.toNat * 13)).add 2) .i64 fun x26 =>
    Calls Try.prog 48 #[.pointer (some at0), .int .i64 x26] w fun e27 w28 => ∃ (x29 : Int), e27 = .returned (.int .i64 x29) ∧ (
    sel (x29 == (-1 : Int)) (
    Calls Try.prog 49 #[.pointer (some at0), .int .i64 xt1] w28 fun e30 w31 => e30 = .returned (.tuple #[]) ∧ (
    Calls Try.prog 48 #[.pointer (some at0), .int .i64 xt1] w31 fun e32 w33 => ∃ (x34 : Int), e32 = .returned (.int .i64 x34) ∧ (
    l2 k at0 xt1 x34 w33 K4))) (
    sel (x29 == xt7) (
    Calls Try.prog 49 #[.pointer (some at0), .int .i64 x26] w28 fun e35 w36 => e35 = .returned (.tuple #[]) ∧ (
    Calls Try.prog 49 #[.pointer (some at0), .int .i64 xt1] w36 fun e37 w38 => e37 = .returned (.tuple #[]) ∧ (
    Calls Try.prog 48 #[.pointer (some at0), .int .i64 xt1] w38 fun e39 w40 => ∃ (x41 : Int), e39 = .returned (.int .i64 x41) ∧ (
    l2 k at0 xt1 x41 w40 K4)))) (
    Calls Try.prog 49 #[.pointer (some at0), .int .i64 xt1] w28 fun e42 w43 => e42 = .returned (.tuple #[]) ∧ (
    Calls Try.prog 49 #[.pointer (some at0), .int .i64 xt1] w43 fun e44 w45 => e44 = .returned (.tuple #[]) ∧ (
    Calls Try.prog 48 #[.pointer (some at0), .int .i64 xt1] w45 fun e46 w47 => ∃ (x48 : Int), e46 = .returned (.int .i64 x48) ∧ (
    l2 k at0 xt1 x48 w47 K4))))))) (
    K4  w)
def wp (aa0 : Addr) (xa1 : Int) (w : World) (Q : Ending → World → Prop) : Prop :=
  alW w (.cells #[.int .i64 xa1] 3) fun B1 w2 =>
  ∃ k52 : Nat, l0 k52 aa0 (some (⟨B1, 0, Option.none⟩ : Addr)) 1 1 xa1 w2 (fun (A14 : Option Addr) (n14 : Nat) (c14 : Nat) (w15 : World) => ∀ _ : Fr,
  ∃ k51 : Nat, l1 k51 aa0 A14 n14 c14 (IntKind.i64.wrap ((n14 : Int) - (1 : Int))) w15 (fun (w20 : World) => ∀ _ : Fr,
  Calls Try.prog 48 #[.pointer (some aa0), .int .i64 xa1] w20 fun e21 w22 => ∃ (x23 : Int), e21 = .returned (.int .i64 x23) ∧ (
  ∃ k50 : Nat, l2 k50 aa0 xa1 x23 w22 (fun (w49 : World) => ∀ _ : Fr,
  Q (.returned (.tuple #[])) w49))))
def D : Nat → Option DH := dtab []
def l0LO : LO := ⟨[], [], [(0, [0, 1, 4])], []⟩
def l0Tk (k : Nat) : Spec := fun Q σ w =>
  gAd (σ 0) fun at0 =>
  gSlice (σ 4) fun At4 nt4 ct4 =>
  gInt .i64 (σ 5) fun xt5 =>
  l0 k at0 At4 nt4 ct4 xt5 w (fun (Aq4 : Option Addr) (nq4 : Nat) (cq4 : Nat) (w : World) => ∀ d : Fr, Q (.exit 0) (ov d [(0, .pointer (some at0)), (1, σ 1), (4, .slice Aq4 nq4 cq4)]) w)
def l0T : Spec := fun Q σ w => ∃ k, l0Tk k Q σ w
def l0tb : List (List Nat × Spec) := []
noncomputable def l0b : Code := (subC [0, 0, 1, 0, 1] body).getD .skip
theorem l0_eq (k : Nat) (at0 : Addr) (At4 : Option Addr) (nt4 : Nat) (ct4 : Nat) (xt5 : Int) (Q : PQ) (σ : Fr) (w : World) :
    l0 (k + 1) at0 At4 nt4 ct4 xt5 w (fun (Aq4 : Option Addr) (nq4 : Nat) (cq4 : Nat) (w : World) => ∀ d : Fr, Q (.exit 0) (ov d [(0, .pointer (some at0)), (1, σ 1), (4, .slice Aq4 nq4 cq4)]) w) = codeW Try.prog hT 74 D (tab l0tb) [0, 0, 1, 0, 1] l0b (thenQ (l0Tk k Q) (widen l0LO Q)) (ov σ [(0, .pointer (some at0)), (4, .slice At4 nt4 ct4), (5, .int .i64 xt5)]) w := by kernel_rfl
theorem l0_snd : ∀ c, subC [0, 1, 0, 1] body = some c → Snd Try.prog 74 c l0T := by
  refine loop_of (hT := hT) (D := D) (l := l0tb) (b := l0b) (lo := l0LO) (by kernel_rfl) (by
    intro x hx
    simp only [l0tb, List.not_mem_nil] at hx
    ) (by kernel_rfl) (by kernel_rfl) ?_ ?_
  · intro Q σ w h
    unfold l0Tk at h
    obtain ⟨at0, h0, hn⟩ := gAd_elim h
    clear h
    have h := hn
    clear hn
    obtain ⟨At4, nt4, ct4, h4, hn⟩ := gSlice_elim h
    clear h
    have h := hn
    clear hn
    obtain ⟨xt5, h5, hn⟩ := gInt_elim h
    clear h
    have h := hn
    clear hn
    exact h
  · intro k Q σ w h
    unfold l0Tk at h
    obtain ⟨at0, h0, hn⟩ := gAd_elim h
    clear h
    have h := hn
    clear hn
    obtain ⟨At4, nt4, ct4, h4, hn⟩ := gSlice_elim h
    clear h
    have h := hn
    clear hn
    obtain ⟨xt5, h5, hn⟩ := gInt_elim h
    clear h
    have h := hn
    clear hn
    rw [l0_eq (σ := σ)] at h
    have e : (ov σ [(0, .pointer (some at0)), (4, .slice At4 nt4 ct4), (5, .int .i64 xt5)]) = σ := ov_self (by simp [h0, h4, h5])
    rw [e] at h
    exact h
def l1LO : LO := ⟨[], [], [(2, [0, 1])], []⟩
def l1Tk (k : Nat) : Spec := fun Q σ w =>
  gAd (σ 0) fun at0 =>
  gSlice (σ 4) fun At4 nt4 ct4 =>
  gInt .i64 (σ 6) fun xt6 =>
  l1 k at0 At4 nt4 ct4 xt6 w (fun (w : World) => ∀ d : Fr, Q (.exit 2) (ov d [(0, .pointer (some at0)), (1, σ 1)]) w)
def l1T : Spec := fun Q σ w => ∃ k, l1Tk k Q σ w
def l1tb : List (List Nat × Spec) := []
noncomputable def l1b : Code := (subC [0, 0, 1, 0, 1, 1] body).getD .skip
theorem l1_eq (k : Nat) (at0 : Addr) (At4 : Option Addr) (nt4 : Nat) (ct4 : Nat) (xt6 : Int) (Q : PQ) (σ : Fr) (w : World) :
    l1 (k + 1) at0 At4 nt4 ct4 xt6 w (fun (w : World) => ∀ d : Fr, Q (.exit 2) (ov d [(0, .pointer (some at0)), (1, σ 1)]) w) = codeW Try.prog hT 74 D (tab l1tb) [0, 0, 1, 0, 1, 1] l1b (thenQ (l1Tk k Q) (widen l1LO Q)) (ov σ [(0, .pointer (some at0)), (4, .slice At4 nt4 ct4), (6, .int .i64 xt6)]) w := by kernel_rfl
theorem l1_snd : ∀ c, subC [0, 1, 0, 1, 1] body = some c → Snd Try.prog 74 c l1T := by
  refine loop_of (hT := hT) (D := D) (l := l1tb) (b := l1b) (lo := l1LO) (by kernel_rfl) (by
    intro x hx
    simp only [l1tb, List.not_mem_nil] at hx
    ) (by kernel_rfl) (by kernel_rfl) ?_ ?_
  · intro Q σ w h
    unfold l1Tk at h
    obtain ⟨at0, h0, hn⟩ := gAd_elim h
    clear h
    have h := hn
    clear hn
    obtain ⟨At4, nt4, ct4, h4, hn⟩ := gSlice_elim h
    clear h
    have h := hn
    clear hn
    obtain ⟨xt6, h6, hn⟩ := gInt_elim h
    clear h
    have h := hn
    clear hn
    exact h
  · intro k Q σ w h
    unfold l1Tk at h
    obtain ⟨at0, h0, hn⟩ := gAd_elim h
    clear h
    have h := hn
    clear hn
    obtain ⟨At4, nt4, ct4, h4, hn⟩ := gSlice_elim h
    clear h
    have h := hn
    clear hn
    obtain ⟨xt6, h6, hn⟩ := gInt_elim h
    clear h
    have h := hn
    clear hn
    rw [l1_eq (σ := σ)] at h
    have e : (ov σ [(0, .pointer (some at0)), (4, .slice At4 nt4 ct4), (6, .int .i64 xt6)]) = σ := ov_self (by simp [h0, h4, h6])
    rw [e] at h
    exact h
def l2LO : LO := ⟨[], [], [(4, [])], []⟩
def l2Tk (k : Nat) : Spec := fun Q σ w =>
  gAd (σ 0) fun at0 =>
  gInt .i64 (σ 1) fun xt1 =>
  gInt .i64 (σ 7) fun xt7 =>
  l2 k at0 xt1 xt7 w (fun (w : World) => ∀ d : Fr, Q (.exit 4) (ov d []) w)
def l2T : Spec := fun Q σ w => ∃ k, l2Tk k Q σ w
def l2tb : List (List Nat × Spec) := []
noncomputable def l2b : Code := (subC [0, 0, 1, 1, 1, 1] body).getD .skip
theorem l2_eq (k : Nat) (at0 : Addr) (xt1 : Int) (xt7 : Int) (Q : PQ) (σ : Fr) (w : World) :
    l2 (k + 1) at0 xt1 xt7 w (fun (w : World) => ∀ d : Fr, Q (.exit 4) (ov d []) w) = codeW Try.prog hT 74 D (tab l2tb) [0, 0, 1, 1, 1, 1] l2b (thenQ (l2Tk k Q) (widen l2LO Q)) (ov σ [(0, .pointer (some at0)), (1, .int .i64 xt1), (7, .int .i64 xt7)]) w := by kernel_rfl
theorem l2_snd : ∀ c, subC [0, 1, 1, 1, 1] body = some c → Snd Try.prog 74 c l2T := by
  refine loop_of (hT := hT) (D := D) (l := l2tb) (b := l2b) (lo := l2LO) (by kernel_rfl) (by
    intro x hx
    simp only [l2tb, List.not_mem_nil] at hx
    ) (by kernel_rfl) (by kernel_rfl) ?_ ?_
  · intro Q σ w h
    unfold l2Tk at h
    obtain ⟨at0, h0, hn⟩ := gAd_elim h
    clear h
    have h := hn
    clear hn
    obtain ⟨xt1, h1, hn⟩ := gInt_elim h
    clear h
    have h := hn
    clear hn
    obtain ⟨xt7, h7, hn⟩ := gInt_elim h
    clear h
    have h := hn
    clear hn
    exact h
  · intro k Q σ w h
    unfold l2Tk at h
    obtain ⟨at0, h0, hn⟩ := gAd_elim h
    clear h
    have h := hn
    clear hn
    obtain ⟨xt1, h1, hn⟩ := gInt_elim h
    clear h
    have h := hn
    clear hn
    obtain ⟨xt7, h7, hn⟩ := gInt_elim h
    clear h
    have h := hn
    clear hn
    rw [l2_eq (σ := σ)] at h
    have e : (ov σ [(0, .pointer (some at0)), (1, .int .i64 xt1), (7, .int .i64 xt7)]) = σ := ov_self (by simp [h0, h1, h7])
    rw [e] at h
    exact h
def tb : List (List Nat × Spec) := [([0, 1, 0, 1], l0T), ([0, 1, 0, 1, 1], l1T), ([0, 1, 1, 1, 1], l2T)]
theorem wp_eq (aa0 : Addr) (xa1 : Int) (w : World) (Q : Ending → World → Prop) :
    wp aa0 xa1 w Q = codeW Try.prog hT 74 D (tab tb) [] body (topQ Try.prog hT 74 [] Q) (argsF [.pointer (some aa0), .int .i64 xa1]) w := by kernel_rfl
theorem ok (aa0 : Addr) (xa1 : Int) (w : World) (Q : Ending → World → Prop) (h : wp aa0 xa1 w Q) : Calls Try.prog 43 #[.pointer (some aa0), .int .i64 xa1] w Q := by
  rw [wp_eq] at h
  exact calls_of_codeW (c := body) (rs := []) Try.func43 (by kernel_rfl) (by kernel_rfl) (by kernel_rfl) (by kernel_rfl) (by kernel_rfl) (tab_snd (by
    intro x hx
    simp only [tb, List.mem_cons, List.not_mem_nil, or_false] at hx
    rcases hx with rfl | rfl | rfl
    · exact l0_snd
    · exact l1_snd
    · exact l2_snd)) (by kernel_rfl) h
end f_linkcut_Forest_splay
namespace f_linkcut_Forest_pull
/-! (*skein/linkcut.Forest).pull: function 44 -/
noncomputable def body : Code := (Try.f44.body).getD .skip
def l1 : Nat → Addr → Addr → Int → Int → Int → World → (World → Prop) → Prop
  | 0, _, _, _, _, _, _, _ => False
  | k + 1, at0, at4, xt41_0, xt41_1, xt42, w, K0 =>
    sel (decide (xt42 < (2 : Int))) (
    req (true && decide (0 ≤ xt42 ∧ xt42 < ((2 : Nat) : Int))) <|
    idxI (#[.int .i64 xt41_0, .int .i64 xt41_1] : Array Value) xt42.toNat .i64 fun x20 =>
    sel (decide (x20 > (0 : Int))) (
    drW w fun w21 =>
    ∃ S22 : World → Prop, S22 w21 ∧ (
    hdI S22 (at4.add 8) .i64 fun x23 =>
    hdI S22 ((at4.add 8).add 1) .i64 fun x24 =>
    hdI S22 ((at4.add 8).add 2) .i64 fun x25 =>
    hdI S22 ((at4.add 8).add 3) .i64 fun x26 =>
    hdS S22 at0 fun A27 n27 c27 =>
    optB A27 fun a28 =>
    req (decide (0 ≤ x20 ∧ x20 < (n27 : Int))) <|
    hdI S22 ((a28.add (x20.toNat * 13)).add 8) .i64 fun x29 =>
    hdI S22 (((a28.add (x20.toNat * 13)).add 8).add 1) .i64 fun x30 =>
    hdI S22 (((a28.add (x20.toNat * 13)).add 8).add 2) .i64 fun x31 =>
    hdI S22 (((a28.add (x20.toNat * 13)).add 8).add 3) .i64 fun x32 =>
    Calls Try.prog 50 #[.agg #[.int .i64 x23, .int .i64 x24, .int .i64 x25, .int .i64 x26], .agg #[.int .i64 x29, .int .i64 x30, .int .i64 x31, .int .i64 x32]] w21 fun e33 w34 => ∃ (x35_0 : Int) (x35_1 : Int) (x35_2 : Int) (x35_3 : Int), e33 = .returned (.agg #[.int .i64 x35_0, .int .i64 x35_1, .int .i64 x35_2, .int .i64 x35_3]) ∧ (
    S22 w34 ∧ (
    stW w34 (at4.add 8) (.int .i64 x35_0) fun w36 =>
    stW w36 ((at4.add 8).add 1) (.int .i64 x35_1) fun w37 =>
    stW w37 ((at4.add 8).add 2) (.int .i64 x35_2) fun w38 =>
    stW w38 ((at4.add 8).add 3) (.int .i64 x35_3) fun w39 =>
    drW w39 fun w40 =>
    ldC w40 ((at4.add 8).add 4) .f64 fun r42 i42 =>
    ldS w40 at0 fun A43 n43 c43 =>
    optB A43 fun a44 =>
    req (decide (0 ≤ x20 ∧ x20 < (n43 : Int))) <|
    ldC w40 (((a44.add (x20.toNat * 13)).add 8).add 4) .f64 fun r45 i45 =>
    Runs Try.prog (do eqGuard .add 46 (.tmp 70) (.tmp 79) (.complex .f64 r42 i42) (.complex .f64 r45 i45); binOp .add 46 (.complex .f64 r42 i42) (.complex .f64 r45 i45) : Sem Value) w40 fun v47 w46 => ∃ (r48 : Nat) (i48 : Nat), v47 = (.complex .f64 r48 i48) ∧ (
    stW w46 ((at4.add 8).add 4) (.complex .f64 r48 i48) fun w49 =>
    l1 k at0 at4 xt41_0 xt41_1 (IntKind.i64.wrap (xt42 + (1 : Int))) w49 K0))))) (
    l1 k at0 at4 xt41_0 xt41_1 (IntKind.i64.wrap (xt42 + (1 : Int))) w K0)) (
    K0  w)
def j0 (at0 : Addr) (at4 : Addr) (w : World) (Kn : World → Prop) : Prop :=
  ldI w at4 .i64 fun x18 =>
  ldI w (at4.add 1) .i64 fun x19 =>
  ∃ k51 : Nat, l1 k51 at0 at4 x18 x19 (0 : Int) w (fun (w50 : World) => ∀ _ : Fr,
  Kn  w50)
def wp (aa0 : Addr) (xa1 : Int) (w : World) (Q : Ending → World → Prop) : Prop :=
  ldS w aa0 fun A1 n1 c1 =>
  optB A1 fun a2 =>
  req (decide (0 ≤ xa1 ∧ xa1 < (n1 : Int))) <|
  ldI w ((a2.add (xa1.toNat * 13)).add 4) .i64 fun x3 =>
  ldI w (((a2.add (xa1.toNat * 13)).add 4).add 1) .i64 fun x4 =>
  ldI w (((a2.add (xa1.toNat * 13)).add 4).add 2) .i64 fun x5 =>
  ldI w (((a2.add (xa1.toNat * 13)).add 4).add 3) .i64 fun x6 =>
  stW w ((a2.add (xa1.toNat * 13)).add 8) (.int .i64 x3) fun w7 =>
  stW w7 (((a2.add (xa1.toNat * 13)).add 8).add 1) (.int .i64 x4) fun w8 =>
  stW w8 (((a2.add (xa1.toNat * 13)).add 8).add 2) (.int .i64 x5) fun w9 =>
  stW w9 (((a2.add (xa1.toNat * 13)).add 8).add 3) (.int .i64 x6) fun w10 =>
  stW w10 (((a2.add (xa1.toNat * 13)).add 8).add 4) (.complex .f64 0 0) fun w11 =>
  ldI w11 ((a2.add (xa1.toNat * 13)).add 4) .i64 fun x12 =>
  sel (decide (x12 > (0 : Int))) (
  ldI w11 (((a2.add (xa1.toNat * 13)).add 4).add 3) .i64 fun x13 =>
  Runs Try.prog (Go.convert 2 52 (.int .i64 x13)) w11 fun v15 w14 => ∃ (f16 : Nat), v15 = (.float .f64 f16) ∧ (
  stW w14 (((a2.add (xa1.toNat * 13)).add 8).add 4) (.complex .f64 f16 4607182418800017408) fun w17 =>
  j0 aa0 (a2.add (xa1.toNat * 13)) w17 (fun (w52 : World) => ∀ _ : Fr,
  Q (.returned (.tuple #[])) w52))) (
  j0 aa0 (a2.add (xa1.toNat * 13)) w11 (fun (w53 : World) => ∀ _ : Fr,
  Q (.returned (.tuple #[])) w53))
def D : Nat → Option DH := dtab [(8, .held [.fst 0, .fst 1, .fst 2, .fst 3, .fst 4, .fst 5, .fst 6, .fst 7, .fst 8, .fst 9, .fst 10, .fst 11, .fst 12, .fst 13, .fst 14, .eff 15] [.fst 16, .fst 17, .fst 18, .eff 19]), (9, .simple [.fst 0, .fst 1, .fst 2, .fst 3, .fst 4, .fst 5, .fst 6, .fst 7, .fst 8, .fst 9, .fst 10, .fst 11, .fst 12, .fst 13] [.eff 14, .fst 15, .fst 16, .fst 17, .eff 18])]
def l1LO : LO := ⟨[], [], [(0, [])], []⟩
def l1Tk (k : Nat) : Spec := fun Q σ w =>
  gAd (σ 0) fun at0 =>
  gAd (σ 4) fun at4 =>
  gAgg (σ 41) fun l54 =>
  gCons l54 fun h57 l55 =>
  gInt .i64 h57 fun xt41_0 =>
  gCons l55 fun h58 l56 =>
  gInt .i64 h58 fun xt41_1 =>
  gNil l56 <|
  gInt .i64 (σ 42) fun xt42 =>
  l1 k at0 at4 xt41_0 xt41_1 xt42 w (fun (w : World) => ∀ d : Fr, Q (.exit 0) (ov d []) w)
def l1T : Spec := fun Q σ w => ∃ k, l1Tk k Q σ w
def l1tb : List (List Nat × Spec) := []
noncomputable def l1b : Code := (subC [0, 0, 1, 1, 1, 1] body).getD .skip
theorem l1_eq (k : Nat) (at0 : Addr) (at4 : Addr) (xt41_0 : Int) (xt41_1 : Int) (xt42 : Int) (Q : PQ) (σ : Fr) (w : World) :
    l1 (k + 1) at0 at4 xt41_0 xt41_1 xt42 w (fun (w : World) => ∀ d : Fr, Q (.exit 0) (ov d []) w) = codeW Try.prog hT 85 D (tab l1tb) [0, 0, 1, 1, 1, 1] l1b (thenQ (l1Tk k Q) (widen l1LO Q)) (ov σ [(0, .pointer (some at0)), (4, .pointer (some at4)), (41, .agg #[.int .i64 xt41_0, .int .i64 xt41_1]), (42, .int .i64 xt42)]) w := by kernel_rfl
theorem l1_snd : ∀ c, subC [0, 1, 1, 1, 1] body = some c → Snd Try.prog 85 c l1T := by
  refine loop_of (hT := hT) (D := D) (l := l1tb) (b := l1b) (lo := l1LO) (by kernel_rfl) (by
    intro x hx
    simp only [l1tb, List.not_mem_nil] at hx
    ) (by kernel_rfl) (by kernel_rfl) ?_ ?_
  · intro Q σ w h
    unfold l1Tk at h
    obtain ⟨at0, h0, hn⟩ := gAd_elim h
    clear h
    have h := hn
    clear hn
    obtain ⟨at4, h4, hn⟩ := gAd_elim h
    clear h
    have h := hn
    clear hn
    obtain ⟨lh41, h41, hn⟩ := gAgg_elim h
    clear h
    have h := hn
    clear hn
    obtain ⟨hdh41_0, tlh41_0, eh41_0, hn⟩ := gCons_elim h
    clear h
    have h := hn
    clear hn
    subst eh41_0
    obtain ⟨xt41_0, fh41_0, hn⟩ := gInt_elim h
    clear h
    have h := hn
    clear hn
    subst fh41_0
    obtain ⟨hdh41_1, tlh41_1, eh41_1, hn⟩ := gCons_elim h
    clear h
    have h := hn
    clear hn
    subst eh41_1
    obtain ⟨xt41_1, fh41_1, hn⟩ := gInt_elim h
    clear h
    have h := hn
    clear hn
    subst fh41_1
    obtain ⟨eh41, hn⟩ := gNil_elim h
    clear h
    have h := hn
    clear hn
    subst eh41
    obtain ⟨xt42, h42, hn⟩ := gInt_elim h
    clear h
    have h := hn
    clear hn
    exact h
  · intro k Q σ w h
    unfold l1Tk at h
    obtain ⟨at0, h0, hn⟩ := gAd_elim h
    clear h
    have h := hn
    clear hn
    obtain ⟨at4, h4, hn⟩ := gAd_elim h
    clear h
    have h := hn
    clear hn
    obtain ⟨lh41, h41, hn⟩ := gAgg_elim h
    clear h
    have h := hn
    clear hn
    obtain ⟨hdh41_0, tlh41_0, eh41_0, hn⟩ := gCons_elim h
    clear h
    have h := hn
    clear hn
    subst eh41_0
    obtain ⟨xt41_0, fh41_0, hn⟩ := gInt_elim h
    clear h
    have h := hn
    clear hn
    subst fh41_0
    obtain ⟨hdh41_1, tlh41_1, eh41_1, hn⟩ := gCons_elim h
    clear h
    have h := hn
    clear hn
    subst eh41_1
    obtain ⟨xt41_1, fh41_1, hn⟩ := gInt_elim h
    clear h
    have h := hn
    clear hn
    subst fh41_1
    obtain ⟨eh41, hn⟩ := gNil_elim h
    clear h
    have h := hn
    clear hn
    subst eh41
    obtain ⟨xt42, h42, hn⟩ := gInt_elim h
    clear h
    have h := hn
    clear hn
    rw [l1_eq (σ := σ)] at h
    have e : (ov σ [(0, .pointer (some at0)), (4, .pointer (some at4)), (41, .agg #[.int .i64 xt41_0, .int .i64 xt41_1]), (42, .int .i64 xt42)]) = σ := ov_self (by simp [h0, h4, h41, h42])
    rw [e] at h
    exact h
def j0LO : LO := ⟨[], [], [], []⟩
def j0T : Spec := fun Q σ w =>
  gAd (σ 0) fun at0 =>
  gAd (σ 4) fun at4 =>
  j0 at0 at4 w (fun (w : World) => ∀ d : Fr, Q .normal (ov d []) w)
def j0tb : List (List Nat × Spec) := [([0, 1, 1, 1, 1], l1T)]
noncomputable def j0b : Code := (subC [1, 1, 1] body).getD .skip
theorem j0_eq (at0 : Addr) (at4 : Addr) (Q : PQ) (σ : Fr) (w : World) :
    j0 at0 at4 w (fun (w : World) => ∀ d : Fr, Q .normal (ov d []) w) = codeW Try.prog hT 85 D (tab j0tb) [1, 1, 1] j0b (widen j0LO Q) (ov σ [(0, .pointer (some at0)), (4, .pointer (some at4))]) w := by kernel_rfl
theorem j0_snd : ∀ c, subC [1, 1, 1] body = some c → Snd Try.prog 85 c j0T := by
  refine cut_of (hT := hT) (D := D) (l := j0tb) (b := j0b) (lo := j0LO) (by kernel_rfl) (by
    intro x hx
    simp only [j0tb, List.mem_cons, List.not_mem_nil, or_false] at hx
    subst hx
    exact l1_snd) (by kernel_rfl) (by kernel_rfl) ?_
  intro Q σ w h
  unfold j0T at h
  obtain ⟨at0, h0, hn⟩ := gAd_elim h
  clear h
  have h := hn
  clear hn
  obtain ⟨at4, h4, hn⟩ := gAd_elim h
  clear h
  have h := hn
  clear hn
  rw [j0_eq (σ := σ)] at h
  have e : (ov σ [(0, .pointer (some at0)), (4, .pointer (some at4))]) = σ := ov_self (by simp [h0, h4])
  rw [e] at h
  exact h
def tb : List (List Nat × Spec) := [([0, 1, 1, 1, 1], l1T), ([1, 1, 1], j0T)]
theorem wp_eq (aa0 : Addr) (xa1 : Int) (w : World) (Q : Ending → World → Prop) :
    wp aa0 xa1 w Q = codeW Try.prog hT 85 D (tab tb) [] body (topQ Try.prog hT 85 [] Q) (argsF [.pointer (some aa0), .int .i64 xa1]) w := by kernel_rfl
theorem ok (aa0 : Addr) (xa1 : Int) (w : World) (Q : Ending → World → Prop) (h : wp aa0 xa1 w Q) : Calls Try.prog 44 #[.pointer (some aa0), .int .i64 xa1] w Q := by
  rw [wp_eq] at h
  exact calls_of_codeW (c := body) (rs := []) Try.func44 (by kernel_rfl) (by kernel_rfl) (by kernel_rfl) (by kernel_rfl) (by kernel_rfl) (tab_snd (by
    intro x hx
    simp only [tb, List.mem_cons, List.not_mem_nil, or_false] at hx
    rcases hx with rfl | rfl
    · exact l1_snd
    · exact j0_snd)) (by kernel_rfl) h
end f_linkcut_Forest_pull
namespace f_linkcut_Forest_side
/-! (*skein/linkcut.Forest).side: function 48 -/
noncomputable def body : Code := (Try.f48.body).getD .skip
def wp (aa0 : Addr) (xa1 : Int) (w : World) (Q : Ending → World → Prop) : Prop :=
  ldS w aa0 fun A1 n1 c1 =>
  optB A1 fun a2 =>
  req (decide (0 ≤ xa1 ∧ xa1 < (n1 : Int))) <|
  ldI w ((a2.add (xa1.toNat * 13)).add 2) .i64 fun x3 =>
  sel (decide (x3 > (0 : Int))) (
  ldS w aa0 fun A4 n4 c4 =>
  optB A4 fun a5 =>
  req (decide (0 ≤ x3 ∧ x3 < (n4 : Int))) <|
  ldI w ((a5.add (x3.toNat * 13)).add ((0 : Int).toNat * 1)) .i64 fun x6 =>
  sel (x6 == xa1) (
  Q (.returned (.int .i64 (0 : Int))) w) (
  sel (decide (x3 > (0 : Int))) (
  ldS w aa0 fun A7 n7 c7 =>
  optB A7 fun a8 =>
  req (decide (0 ≤ x3 ∧ x3 < (n7 : Int))) <|
  ldI w ((a8.add (x3.toNat * 13)).add ((1 : Int).toNat * 1)) .i64 fun x9 =>
  sel (x9 == xa1) (
  Q (.returned (.int .i64 (1 : Int))) w) (
  Q (.returned (.int .i64 (-1 : Int))) w)) (
  Q (.returned (.int .i64 (-1 : Int))) w))) (
  sel (decide (x3 > (0 : Int))) (
  ldS w aa0 fun A10 n10 c10 =>
  optB A10 fun a11 =>
  req (decide (0 ≤ x3 ∧ x3 < (n10 : Int))) <|
  ldI w ((a11.add (x3.toNat * 13)).add ((1 : Int).toNat * 1)) .i64 fun x12 =>
  sel (x12 == xa1) (
  Q (.returned (.int .i64 (1 : Int))) w) (
  Q (.returned (.int .i64 (-1 : Int))) w)) (
  Q (.returned (.int .i64 (-1 : Int))) w))
def D : Nat → Option DH := dtab []
def tb : List (List Nat × Spec) := []
theorem wp_eq (aa0 : Addr) (xa1 : Int) (w : World) (Q : Ending → World → Prop) :
    wp aa0 xa1 w Q = codeW Try.prog hT 46 D (tab tb) [] body (topQ Try.prog hT 46 [.tmp 4] Q) (argsF [.pointer (some aa0), .int .i64 xa1]) w := by kernel_rfl
theorem ok (aa0 : Addr) (xa1 : Int) (w : World) (Q : Ending → World → Prop) (h : wp aa0 xa1 w Q) : Calls Try.prog 48 #[.pointer (some aa0), .int .i64 xa1] w Q := by
  rw [wp_eq] at h
  exact calls_of_codeW (c := body) (rs := [.tmp 4]) Try.func48 (by kernel_rfl) (by kernel_rfl) (by kernel_rfl) (by kernel_rfl) (by kernel_rfl) (tab_snd (by
    intro x hx
    simp only [tb, List.not_mem_nil] at hx
    )) (by kernel_rfl) h
end f_linkcut_Forest_side
namespace f_linkcut_Forest_rotate
/-! (*skein/linkcut.Forest).rotate: function 49 -/
noncomputable def body : Code := (Try.f49.body).getD .skip
def wp (aa0 : Addr) (xa1 : Int) (w : World) (Q : Ending → World → Prop) : Prop :=
  ldS w aa0 fun A1 n1 c1 =>
  optB A1 fun a2 =>
  req (decide (0 ≤ xa1 ∧ xa1 < (n1 : Int))) <|
  ldI w ((a2.add (xa1.toNat * 13)).add 2) .i64 fun x3 =>
  drW w fun w4 =>
  ∃ S5 : World → Prop, S5 w4 ∧ (
  hdS S5 aa0 fun A6 n6 c6 =>
  optB A6 fun a7 =>
  req (decide (0 ≤ x3 ∧ x3 < (n6 : Int))) <|
  hdI S5 ((a7.add (x3.toNat * 13)).add 2) .i64 fun x8 =>
  Calls Try.prog 48 #[.pointer (some aa0), .int .i64 xa1] w4 fun e9 w10 => ∃ (x11 : Int), e9 = .returned (.int .i64 x11) ∧ (
  S5 w10 ∧ (
  Calls Try.prog 48 #[.pointer (some aa0), .int .i64 x3] w10 fun e12 w13 => ∃ (x14 : Int), e12 = .returned (.int .i64 x14) ∧ (
  S5 w13 ∧ (
  ldS w13 aa0 fun A15 n15 c15 =>
  optB A15 fun a16 =>
  req (decide (0 ≤ xa1 ∧ xa1 < (n15 : Int))) <|
  req (decide (0 ≤ (IntKind.i64.wrap ((1 : Int) - x11)) ∧ (IntKind.i64.wrap ((1 : Int) - x11)) < ((2 : Nat) : Int))) <|
  ldI w13 ((a16.add (xa1.toNat * 13)).add ((IntKind.i64.wrap ((1 : Int) - x11)).toNat * 1)) .i64 fun x17 =>
  Calls Try.prog 52 #[.pointer (some aa0), .int .i64 x3, .int .i64 x17, .int .i64 x11] w13 fun e18 w19 => e18 = .returned (.tuple #[]) ∧ (
  Calls Try.prog 52 #[.pointer (some aa0), .int .i64 xa1, .int .i64 x3, .int .i64 (IntKind.i64.wrap ((1 : Int) - x11))] w19 fun e20 w21 => e20 = .returned (.tuple #[]) ∧ (
  ldS w21 aa0 fun A22 n22 c22 =>
  optB A22 fun a23 =>
  req (decide (0 ≤ xa1 ∧ xa1 < (n22 : Int))) <|
  stW w21 ((a23.add (xa1.toNat * 13)).add 2) (.int .i64 x8) fun w24 =>
  sel (decide (x14 ≥ (0 : Int))) (
  ldS w24 aa0 fun A25 n25 c25 =>
  optB A25 fun a26 =>
  req (decide (0 ≤ x8 ∧ x8 < (n25 : Int))) <|
  req (decide (0 ≤ x14 ∧ x14 < ((2 : Nat) : Int))) <|
  stW w24 ((a26.add (x8.toNat * 13)).add (x14.toNat * 1)) (.int .i64 xa1) fun w27 =>
  Calls Try.prog 44 #[.pointer (some aa0), .int .i64 x3] w27 fun e28 w29 => e28 = .returned (.tuple #[]) ∧ (
  Calls Try.prog 44 #[.pointer (some aa0), .int .i64 xa1] w29 fun e30 w31 => e30 = .returned (.tuple #[]) ∧ (
  Q (.returned (.tuple #[])) w31))) (
  Calls Try.prog 44 #[.pointer (some aa0), .int .i64 x3] w24 fun e32 w33 => e32 = .returned (.tuple #[]) ∧ (
  Calls Try.prog 44 #[.pointer (some aa0), .int .i64 xa1] w33 fun e34 w35 => e34 = .returned (.tuple #[]) ∧ (
  Q (.returned (.tuple #[])) w35))))))))))
def D : Nat → Option DH := dtab [(1, .held [.fst 0, .fst 1, .fst 2, .fst 3, .fst 4, .fst 5, .fst 6, .fst 7, .fst 8, .fst 9, .fst 11, .fst 12, .eff 10, .eff 13] [.fst 14, .fst 15, .fst 16])]
def tb : List (List Nat × Spec) := []
theorem wp_eq (aa0 : Addr) (xa1 : Int) (w : World) (Q : Ending → World → Prop) :
    wp aa0 xa1 w Q = codeW Try.prog hT 77 D (tab tb) [] body (topQ Try.prog hT 77 [] Q) (argsF [.pointer (some aa0), .int .i64 xa1]) w := by kernel_rfl
theorem ok (aa0 : Addr) (xa1 : Int) (w : World) (Q : Ending → World → Prop) (h : wp aa0 xa1 w Q) : Calls Try.prog 49 #[.pointer (some aa0), .int .i64 xa1] w Q := by
  rw [wp_eq] at h
  exact calls_of_codeW (c := body) (rs := []) Try.func49 (by kernel_rfl) (by kernel_rfl) (by kernel_rfl) (by kernel_rfl) (by kernel_rfl) (tab_snd (by
    intro x hx
    simp only [tb, List.not_mem_nil] at hx
    )) (by kernel_rfl) h
end f_linkcut_Forest_rotate
namespace f_linkcut_greater
/-! skein/linkcut.greater: function 50 -/
noncomputable def body : Code := (Try.f50.body).getD .skip
def wp (xa0_0 : Int) (xa0_1 : Int) (xa0_2 : Int) (xa0_3 : Int) (xa1_0 : Int) (xa1_1 : Int) (xa1_2 : Int) (xa1_3 : Int) (w : World) (Q : Ending → World → Prop) : Prop :=
  alW w (.cells #[.int .i64 xa0_0, .int .i64 xa0_1, .int .i64 xa0_2, .int .i64 xa0_3] 33) fun B1 w2 =>
  alW w2 (.cells #[.int .i64 xa1_0, .int .i64 xa1_1, .int .i64 xa1_2, .int .i64 xa1_3] 33) fun B3 w4 =>
  alW w4 (.cells #[.int .i64 (0 : Int), .int .i64 (0 : Int), .int .i64 (0 : Int), .int .i64 (0 : Int)] 33) fun B5 w6 =>
  ldI w6 (⟨B1, 0, Option.none⟩ : Addr) .i64 fun x7 =>
  sel (x7 == (0 : Int)) (
  ldI w6 (⟨B3, 0, Option.none⟩ : Addr) .i64 fun x8 =>
  ldI w6 ((⟨B3, 0, Option.none⟩ : Addr).add 1) .i64 fun x9 =>
  ldI w6 ((⟨B3, 0, Option.none⟩ : Addr).add 2) .i64 fun x10 =>
  ldI w6 ((⟨B3, 0, Option.none⟩ : Addr).add 3) .i64 fun x11 =>
  stW w6 (⟨B5, 0, Option.none⟩ : Addr) (.int .i64 x8) fun w12 =>
  stW w12 ((⟨B5, 0, Option.none⟩ : Addr).add 1) (.int .i64 x9) fun w13 =>
  stW w13 ((⟨B5, 0, Option.none⟩ : Addr).add 2) (.int .i64 x10) fun w14 =>
  stW w14 ((⟨B5, 0, Option.none⟩ : Addr).add 3) (.int .i64 x11) fun w15 =>
  ldI w15 (⟨B5, 0, Option.none⟩ : Addr) .i64 fun x16 =>
  ldI w15 ((⟨B5, 0, Option.none⟩ : Addr).add 1) .i64 fun x17 =>
  ldI w15 ((⟨B5, 0, Option.none⟩ : Addr).add 2) .i64 fun x18 =>
  ldI w15 ((⟨B5, 0, Option.none⟩ : Addr).add 3) .i64 fun x19 =>
  Q (.returned (.agg #[.int .i64 x16, .int .i64 x17, .int .i64 x18, .int .i64 x19])) w15) (
  ldI w6 (⟨B3, 0, Option.none⟩ : Addr) .i64 fun x20 =>
  sel (decide (x20 > (0 : Int))) (
  ldI w6 ((⟨B1, 0, Option.none⟩ : Addr).add 3) .i64 fun x21 =>
  ldI w6 ((⟨B3, 0, Option.none⟩ : Addr).add 3) .i64 fun x22 =>
  sel (decide (x21 < x22)) (
  ldI w6 (⟨B3, 0, Option.none⟩ : Addr) .i64 fun x23 =>
  ldI w6 ((⟨B3, 0, Option.none⟩ : Addr).add 1) .i64 fun x24 =>
  ldI w6 ((⟨B3, 0, Option.none⟩ : Addr).add 2) .i64 fun x25 =>
  ldI w6 ((⟨B3, 0, Option.none⟩ : Addr).add 3) .i64 fun x26 =>
  stW w6 (⟨B5, 0, Option.none⟩ : Addr) (.int .i64 x23) fun w27 =>
  stW w27 ((⟨B5, 0, Option.none⟩ : Addr).add 1) (.int .i64 x24) fun w28 =>
  stW w28 ((⟨B5, 0, Option.none⟩ : Addr).add 2) (.int .i64 x25) fun w29 =>
  stW w29 ((⟨B5, 0, Option.none⟩ : Addr).add 3) (.int .i64 x26) fun w30 =>
  ldI w30 (⟨B5, 0, Option.none⟩ : Addr) .i64 fun x31 =>
  ldI w30 ((⟨B5, 0, Option.none⟩ : Addr).add 1) .i64 fun x32 =>
  ldI w30 ((⟨B5, 0, Option.none⟩ : Addr).add 2) .i64 fun x33 =>
  ldI w30 ((⟨B5, 0, Option.none⟩ : Addr).add 3) .i64 fun x34 =>
  Q (.returned (.agg #[.int .i64 x31, .int .i64 x32, .int .i64 x33, .int .i64 x34])) w30) (
  ldI w6 ((⟨B1, 0, Option.none⟩ : Addr).add 3) .i64 fun x35 =>
  ldI w6 ((⟨B3, 0, Option.none⟩ : Addr).add 3) .i64 fun x36 =>
  sel (x35 == x36) (
  ldI w6 (⟨B1, 0, Option.none⟩ : Addr) .i64 fun x37 =>
  ldI w6 (⟨B3, 0, Option.none⟩ : Addr) .i64 fun x38 =>
  sel (decide (x37 < x38)) (
  ldI w6 (⟨B3, 0, Option.none⟩ : Addr) .i64 fun x39 =>
  ldI w6 ((⟨B3, 0, Option.none⟩ : Addr).add 1) .i64 fun x40 =>
  ldI w6 ((⟨B3, 0, Option.none⟩ : Addr).add 2) .i64 fun x41 =>
  ldI w6 ((⟨B3, 0, Option.none⟩ : Addr).add 3) .i64 fun x42 =>
  stW w6 (⟨B5, 0, Option.none⟩ : Addr) (.int .i64 x39) fun w43 =>
  stW w43 ((⟨B5, 0, Option.none⟩ : Addr).add 1) (.int .i64 x40) fun w44 =>
  stW w44 ((⟨B5, 0, Option.none⟩ : Addr).add 2) (.int .i64 x41) fun w45 =>
  stW w45 ((⟨B5, 0, Option.none⟩ : Addr).add 3) (.int .i64 x42) fun w46 =>
  ldI w46 (⟨B5, 0, Option.none⟩ : Addr) .i64 fun x47 =>
  ldI w46 ((⟨B5, 0, Option.none⟩ : Addr).add 1) .i64 fun x48 =>
  ldI w46 ((⟨B5, 0, Option.none⟩ : Addr).add 2) .i64 fun x49 =>
  ldI w46 ((⟨B5, 0, Option.none⟩ : Addr).add 3) .i64 fun x50 =>
  Q (.returned (.agg #[.int .i64 x47, .int .i64 x48, .int .i64 x49, .int .i64 x50])) w46) (
  ldI w6 (⟨B1, 0, Option.none⟩ : Addr) .i64 fun x51 =>
  ldI w6 ((⟨B1, 0, Option.none⟩ : Addr).add 1) .i64 fun x52 =>
  ldI w6 ((⟨B1, 0, Option.none⟩ : Addr).add 2) .i64 fun x53 =>
  ldI w6 ((⟨B1, 0, Option.none⟩ : Addr).add 3) .i64 fun x54 =>
  stW w6 (⟨B5, 0, Option.none⟩ : Addr) (.int .i64 x51) fun w55 =>
  stW w55 ((⟨B5, 0, Option.none⟩ : Addr).add 1) (.int .i64 x52) fun w56 =>
  stW w56 ((⟨B5, 0, Option.none⟩ : Addr).add 2) (.int .i64 x53) fun w57 =>
  stW w57 ((⟨B5, 0, Option.none⟩ : Addr).add 3) (.int .i64 x54) fun w58 =>
  ldI w58 (⟨B5, 0, Option.none⟩ : Addr) .i64 fun x59 =>
  ldI w58 ((⟨B5, 0, Option.none⟩ : Addr).add 1) .i64 fun x60 =>
  ldI w58 ((⟨B5, 0, Option.none⟩ : Addr).add 2) .i64 fun x61 =>
  ldI w58 ((⟨B5, 0, Option.none⟩ : Addr).add 3) .i64 fun x62 =>
  Q (.returned (.agg #[.int .i64 x59, .int .i64 x60, .int .i64 x61, .int .i64 x62])) w58)) (
  ldI w6 (⟨B1, 0, Option.none⟩ : Addr) .i64 fun x63 =>
  ldI w6 ((⟨B1, 0, Option.none⟩ : Addr).add 1) .i64 fun x64 =>
  ldI w6 ((⟨B1, 0, Option.none⟩ : Addr).add 2) .i64 fun x65 =>
  ldI w6 ((⟨B1, 0, Option.none⟩ : Addr).add 3) .i64 fun x66 =>
  stW w6 (⟨B5, 0, Option.none⟩ : Addr) (.int .i64 x63) fun w67 =>
  stW w67 ((⟨B5, 0, Option.none⟩ : Addr).add 1) (.int .i64 x64) fun w68 =>
  stW w68 ((⟨B5, 0, Option.none⟩ : Addr).add 2) (.int .i64 x65) fun w69 =>
  stW w69 ((⟨B5, 0, Option.none⟩ : Addr).add 3) (.int .i64 x66) fun w70 =>
  ldI w70 (⟨B5, 0, Option.none⟩ : Addr) .i64 fun x71 =>
  ldI w70 ((⟨B5, 0, Option.none⟩ : Addr).add 1) .i64 fun x72 =>
  ldI w70 ((⟨B5, 0, Option.none⟩ : Addr).add 2) .i64 fun x73 =>
  ldI w70 ((⟨B5, 0, Option.none⟩ : Addr).add 3) .i64 fun x74 =>
  Q (.returned (.agg #[.int .i64 x71, .int .i64 x72, .int .i64 x73, .int .i64 x74])) w70))) (
  ldI w6 (⟨B1, 0, Option.none⟩ : Addr) .i64 fun x75 =>
  ldI w6 ((⟨B1, 0, Option.none⟩ : Addr).add 1) .i64 fun x76 =>
  ldI w6 ((⟨B1, 0, Option.none⟩ : Addr).add 2) .i64 fun x77 =>
  ldI w6 ((⟨B1, 0, Option.none⟩ : Addr).add 3) .i64 fun x78 =>
  stW w6 (⟨B5, 0, Option.none⟩ : Addr) (.int .i64 x75) fun w79 =>
  stW w79 ((⟨B5, 0, Option.none⟩ : Addr).add 1) (.int .i64 x76) fun w80 =>
  stW w80 ((⟨B5, 0, Option.none⟩ : Addr).add 2) (.int .i64 x77) fun w81 =>
  stW w81 ((⟨B5, 0, Option.none⟩ : Addr).add 3) (.int .i64 x78) fun w82 =>
  ldI w82 (⟨B5, 0, Option.none⟩ : Addr) .i64 fun x83 =>
  ldI w82 ((⟨B5, 0, Option.none⟩ : Addr).add 1) .i64 fun x84 =>
  ldI w82 ((⟨B5, 0, Option.none⟩ : Addr).add 2) .i64 fun x85 =>
  ldI w82 ((⟨B5, 0, Option.none⟩ : Addr).add 3) .i64 fun x86 =>
  Q (.returned (.agg #[.int .i64 x83, .int .i64 x84, .int .i64 x85, .int .i64 x86])) w82))
def D : Nat → Option DH := dtab []
def tb : List (List Nat × Spec) := []
theorem wp_eq (xa0_0 : Int) (xa0_1 : Int) (xa0_2 : Int) (xa0_3 : Int) (xa1_0 : Int) (xa1_1 : Int) (xa1_2 : Int) (xa1_3 : Int) (w : World) (Q : Ending → World → Prop) :
    wp xa0_0 xa0_1 xa0_2 xa0_3 xa1_0 xa1_1 xa1_2 xa1_3 w Q = codeW Try.prog hT 36 D (tab tb) [] body (topQ Try.prog hT 36 [.cell 4 33] Q) (argsF [.agg #[.int .i64 xa0_0, .int .i64 xa0_1, .int .i64 xa0_2, .int .i64 xa0_3], .agg #[.int .i64 xa1_0, .int .i64 xa1_1, .int .i64 xa1_2, .int .i64 xa1_3]]) w := by kernel_rfl
theorem ok (xa0_0 : Int) (xa0_1 : Int) (xa0_2 : Int) (xa0_3 : Int) (xa1_0 : Int) (xa1_1 : Int) (xa1_2 : Int) (xa1_3 : Int) (w : World) (Q : Ending → World → Prop) (h : wp xa0_0 xa0_1 xa0_2 xa0_3 xa1_0 xa1_1 xa1_2 xa1_3 w Q) : Calls Try.prog 50 #[.agg #[.int .i64 xa0_0, .int .i64 xa0_1, .int .i64 xa0_2, .int .i64 xa0_3], .agg #[.int .i64 xa1_0, .int .i64 xa1_1, .int .i64 xa1_2, .int .i64 xa1_3]] w Q := by
  rw [wp_eq] at h
  exact calls_of_codeW (c := body) (rs := [.cell 4 33]) Try.func50 (by kernel_rfl) (by kernel_rfl) (by kernel_rfl) (by kernel_rfl) (by kernel_rfl) (tab_snd (by
    intro x hx
    simp only [tb, List.not_mem_nil] at hx
    )) (by kernel_rfl) h
end f_linkcut_greater
namespace f_linkcut_Forest_hang
/-! (*skein/linkcut.Forest).hang: function 52 -/
noncomputable def body : Code := (Try.f52.body).getD .skip
def wp (aa0 : Addr) (xa1 : Int) (xa2 : Int) (xa3 : Int) (w : World) (Q : Ending → World → Prop) : Prop :=
  ldS w aa0 fun A1 n1 c1 =>
  optB A1 fun a2 =>
  req (decide (0 ≤ xa1 ∧ xa1 < (n1 : Int))) <|
  req (decide (0 ≤ xa3 ∧ xa3 < ((2 : Nat) : Int))) <|
  stW w ((a2.add (xa1.toNat * 13)).add (xa3.toNat * 1)) (.int .i64 xa2) fun w3 =>
  sel (decide (xa2 > (0 : Int))) (
  ldS w3 aa0 fun A4 n4 c4 =>
  optB A4 fun a5 =>
  req (decide (0 ≤ xa2 ∧ xa2 < (n4 : Int))) <|
  stW w3 ((a5.add (xa2.toNat * 13)).add 2) (.int .i64 xa1) fun w6 =>
  Q (.returned (.tuple #[])) w6) (
  Q (.returned (.tuple #[])) w3)
def D : Nat → Option DH := dtab []
def tb : List (List Nat × Spec) := []
theorem wp_eq (aa0 : Addr) (xa1 : Int) (xa2 : Int) (xa3 : Int) (w : World) (Q : Ending → World → Prop) :
    wp aa0 xa1 xa2 xa3 w Q = codeW Try.prog hT 28 D (tab tb) [] body (topQ Try.prog hT 28 [] Q) (argsF [.pointer (some aa0), .int .i64 xa1, .int .i64 xa2, .int .i64 xa3]) w := by kernel_rfl
theorem ok (aa0 : Addr) (xa1 : Int) (xa2 : Int) (xa3 : Int) (w : World) (Q : Ending → World → Prop) (h : wp aa0 xa1 xa2 xa3 w Q) : Calls Try.prog 52 #[.pointer (some aa0), .int .i64 xa1, .int .i64 xa2, .int .i64 xa3] w Q := by
  rw [wp_eq] at h
  exact calls_of_codeW (c := body) (rs := []) Try.func52 (by kernel_rfl) (by kernel_rfl) (by kernel_rfl) (by kernel_rfl) (by kernel_rfl) (tab_snd (by
    intro x hx
    simp only [tb, List.not_mem_nil] at hx
    )) (by kernel_rfl) h
end f_linkcut_Forest_hang
end Go.Proofs.Ytfknppccgojhdaa.Rd
