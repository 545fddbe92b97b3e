/- The printed readings of some functions: each function's code reckoned by the kernel to its predicate transformer. -/
import Derived.Test.YtkkobfajahmfaaaHint
namespace Go.Proofs.Ytkkobfajahmfaaa.Rd
open Go.Dn
set_option maxRecDepth 100000
set_option linter.unusedVariables false
namespace f_euler_Forest_Verts
/-! (*skein/euler.Forest).Verts: function 10 -/
noncomputable def body : Code := (Try.f10.body).getD .skip
def wp (aa0 : Addr) (xa1 : Int) (w : World) (Q : Ending → World → Prop) : Prop :=
  Calls Try.prog 36 #[.pointer (some aa0), .int .i64 xa1, .bool false] w fun e1 w2 => ∃ (A3_0 : Option Addr) (n3_0 : Nat) (c3_0 : Nat) (x3_1 : Int), e1 = .returned (.tuple #[.slice A3_0 n3_0 c3_0, .int .i64 x3_1]) ∧ (
  Q (.returned (.tuple #[.slice A3_0 n3_0 c3_0, .int .i64 x3_1])) w2)
def D : Nat → Option DH := dtab []
def tb : List (List Nat × Spec) := []
theorem wp_eq (aa0 : Addr) (xa1 : Int) (w : World) (Q : Ending → World → Prop) :
    wp aa0 xa1 w Q = codeW Try.prog hT 11 D (tab tb) [] body (topQ Try.prog hT 11 [.tmp 4, .tmp 5] Q) (argsF [.pointer (some aa0), .int .i64 xa1]) w := by kernel_rfl
theorem ok (aa0 : Addr) (xa1 : Int) (w : World) (Q : Ending → World → Prop) (h : wp aa0 xa1 w Q) : Calls Try.prog 10 #[.pointer (some aa0), .int .i64 xa1] w Q := by
  rw [wp_eq] at h
  exact calls_of_codeW (c := body) (rs := [.tmp 4, .tmp 5]) Try.func10 (by kernel_rfl) (by kernel_rfl) (by kernel_rfl) (by kernel_rfl) (by kernel_rfl) (tab_snd (by
    intro x hx
    simp only [tb, List.not_mem_nil] at hx
    )) (by kernel_rfl) h
end f_euler_Forest_Verts
namespace f_euler_Forest_Edges
/-! (*skein/euler.Forest).Edges: function 11 -/
noncomputable def body : Code := (Try.f11.body).getD .skip
def wp (aa0 : Addr) (xa1 : Int) (w : World) (Q : Ending → World → Prop) : Prop :=
  Calls Try.prog 36 #[.pointer (some aa0), .int .i64 xa1, .bool true] w fun e1 w2 => ∃ (A3_0 : Option Addr) (n3_0 : Nat) (c3_0 : Nat) (x3_1 : Int), e1 = .returned (.tuple #[.slice A3_0 n3_0 c3_0, .int .i64 x3_1]) ∧ (
  Q (.returned (.tuple #[.slice A3_0 n3_0 c3_0, .int .i64 x3_1])) w2)
def D : Nat → Option DH := dtab []
def tb : List (List Nat × Spec) := []
theorem wp_eq (aa0 : Addr) (xa1 : Int) (w : World) (Q : Ending → World → Prop) :
    wp aa0 xa1 w Q = codeW Try.prog hT 11 D (tab tb) [] body (topQ Try.prog hT 11 [.tmp 4, .tmp 5] Q) (argsF [.pointer (some aa0), .int .i64 xa1]) w := by kernel_rfl
theorem ok (aa0 : Addr) (xa1 : Int) (w : World) (Q : Ending → World → Prop) (h : wp aa0 xa1 w Q) : Calls Try.prog 11 #[.pointer (some aa0), .int .i64 xa1] w Q := by
  rw [wp_eq] at h
  exact calls_of_codeW (c := body) (rs := [.tmp 4, .tmp 5]) Try.func11 (by kernel_rfl) (by kernel_rfl) (by kernel_rfl) (by kernel_rfl) (by kernel_rfl) (tab_snd (by
    intro x hx
    simp only [tb, List.not_mem_nil] at hx
    )) (by kernel_rfl) h
end f_euler_Forest_Edges
namespace f_euler_Forest_Link
/-! (*skein/euler.Forest).Link: function 12 -/
noncomputable def body : Code := (Try.f12.body).getD .skip
def od5 : OD := ⟨[0, 2, 3], [3, 5, 9, 11], fun i => ([⟨false, [], [], fun ps vs => match ps, vs with | [.pointer (some ap0), .int _ xp2, .int _ xp3], [] => .pointer (some ap0) | _, _ => undef⟩,
  ⟨false, [], [0], fun ps vs => match ps, vs with | [.pointer (some ap0), .int _ xp2, .int _ xp3], [] => .pointer (some ap0) | _, _ => undef⟩,
  ⟨false, [], [1], fun ps vs => match ps, vs with | [.pointer (some ap0), .int _ xp2, .int _ xp3], [] => .pointer (some (ap0.add 1)) | _, _ => undef⟩,
  ⟨true, [], [2], fun _ _ => undef⟩,
  ⟨false, [], [], fun ps vs => match ps, vs with | [.pointer (some ap0), .int _ xp2, .int _ xp3], [] => .int .i64 xp2 | _, _ => undef⟩,
  ⟨true, [3], [3, 4], fun _ _ => undef⟩,
  ⟨false, [], [], fun ps vs => match ps, vs with | [.pointer (some ap0), .int _ xp2, .int _ xp3], [] => .pointer (some ap0) | _, _ => undef⟩,
  ⟨false, [], [6], fun ps vs => match ps, vs with | [.pointer (some ap0), .int _ xp2, .int _ xp3], [] => .pointer (some ap0) | _, _ => undef⟩,
  ⟨false, [], [7], fun ps vs => match ps, vs with | [.pointer (some ap0), .int _ xp2, .int _ xp3], [] => .pointer (some (ap0.add 1)) | _, _ => undef⟩,
  ⟨true, [], [8], fun _ _ => undef⟩,
  ⟨false, [], [], fun ps vs => match ps, vs with | [.pointer (some ap0), .int _ xp2, .int _ xp3], [] => .int .i64 xp3 | _, _ => undef⟩,
  ⟨true, [9], [9, 10], fun _ _ => undef⟩,
  ⟨false, [3, 5], [5], fun ps vs => match ps, vs with | [.pointer (some ap0), .int _ xp2, .int _ xp3], [.map me3, .int _ xe5] => .int .i64 xe5 | _, _ => undef⟩,
  ⟨false, [3, 5, 9, 11], [11], fun ps vs => match ps, vs with | [.pointer (some ap0), .int _ xp2, .int _ xp3], [.map me3, .int _ xe5, .map me9, .int _ xe11] => .int .i64 xe11 | _, _ => undef⟩] : List OI).getD i ⟨true, [], [], fun _ _ => undef⟩, fun i => ([.one (.sc .any), .one (.sc .any), .one (.sc .any), (.one (.sc .map)), .one (.sc .any), (.one (.sc (.int .i64))), .one (.sc .any), .one (.sc .any), .one (.sc .any), (.one (.sc .map)), .one (.sc .any), (.one (.sc (.int .i64))), .one (.sc .any), .one (.sc .any)] : List OS).getD i (.one (.sc .any))⟩
def h5 (ap0 : Addr) (xp2 : Int) (xp3 : Int) : Prop :=
  (∀ (_ : Fr) (w : World),
  w = w ∧ (.pointer (some ap0) : Value) = (.pointer (some ap0))) ∧
  (∀ (_ : Fr) (w : World),
  w = w ∧ (.pointer (some ap0) : Value) = (.pointer (some ap0))) ∧
  (∀ (_ : Fr) (w : World),
  w = w ∧ (.pointer (some (ap0.add 1)) : Value) = (.pointer (some (ap0.add 1)))) ∧
  (∀ (_ : Fr) (w : World),
  w = w ∧ (.int .i64 xp2 : Value) = (.int .i64 xp2)) ∧
  (∀ (_ : Fr) (w : World),
  w = w ∧ (.pointer (some ap0) : Value) = (.pointer (some ap0))) ∧
  (∀ (_ : Fr) (w : World),
  w = w ∧ (.pointer (some ap0) : Value) = (.pointer (some ap0))) ∧
  (∀ (_ : Fr) (w : World),
  w = w ∧ (.pointer (some (ap0.add 1)) : Value) = (.pointer (some (ap0.add 1)))) ∧
  (∀ (_ : Fr) (w : World),
  w = w ∧ (.int .i64 xp3 : Value) = (.int .i64 xp3)) ∧
  (∀ (_ : Fr) (w : World),
  ∀ (me3 : Option Nat),
  ∀ (xe5 : Int),
  w = w ∧ (.int .i64 xe5 : Value) = (.int .i64 xe5)) ∧
  (∀ (_ : Fr) (w : World),
  ∀ (me3 : Option Nat),
  ∀ (xe5 : Int),
  ∀ (me9 : Option Nat),
  ∀ (xe11 : Int),
  w = w ∧ (.int .i64 xe11 : Value) = (.int .i64 xe11)) ∧
  True
theorem h5_ok (ap0 : Addr) (xp2 : Int) (xp3 : Int) : h5 ap0 xp2 xp3 := ⟨fun _ w => ⟨rfl, rfl⟩, fun _ w => ⟨rfl, rfl⟩, fun _ w => ⟨rfl, rfl⟩, fun _ w => ⟨rfl, rfl⟩, fun _ w => ⟨rfl, rfl⟩, fun _ w => ⟨rfl, rfl⟩, fun _ w => ⟨rfl, rfl⟩, fun _ w => ⟨rfl, rfl⟩, fun _ w _ _ => ⟨rfl, rfl⟩, fun _ w _ _ _ _ => ⟨rfl, rfl⟩, trivial⟩
def j0 (at0 : Addr) (xt9 : Int) (xt10 : Int) (xt13 : Int) (xt14 : Int) (w : World) (Kr : Int → World → Prop) : Prop :=
  Calls Try.prog 40 #[.pointer (some at0), .int .i64 xt9] w fun e37 w38 => e37 = .returned (.tuple #[]) ∧ (
  Calls Try.prog 40 #[.pointer (some at0), .int .i64 xt10] w38 fun e39 w40 => e39 = .returned (.tuple #[]) ∧ (
  ldP w40 at0 fun p41 =>
  Calls Try.prog 41 #[.pointer p41, .int .i64 xt9, .int .i64 xt13] w40 fun e42 w43 => ∃ (x44 : Int), e42 = .returned (.int .i64 x44) ∧ (
  ldP w43 at0 fun p45 =>
  Calls Try.prog 41 #[.pointer p45, .int .i64 xt13, .int .i64 xt10] w43 fun e46 w47 => ∃ (x48 : Int), e46 = .returned (.int .i64 x48) ∧ (
  ldP w47 at0 fun p49 =>
  Calls Try.prog 41 #[.pointer p49, .int .i64 xt10, .int .i64 xt14] w47 fun e50 w51 => ∃ (x52 : Int), e50 = .returned (.int .i64 x52) ∧ (
  Kr (0 : Int) w51)))))
def wp (aa0 : Addr) (xa1 : Int) (xa2 : Int) (xa3 : Int) (w : World) (Q : Ending → World → Prop) : Prop :=
  alW w (.cells #[.int .i64 xa1, .int .i64 xa2, .int .i64 xa3] 3) fun B1 w2 =>
  Calls Try.prog 37 #[.slice (some (⟨B1, 0, Option.none⟩ : Addr)) 3 3] w2 fun e3 w4 => ∃ (b5 : Bool), e3 = .returned (.bool b5) ∧ (
  sel b5 (
  Q (.returned (.int .i64 (1 : Int))) w4) (
  Calls Try.prog 18 #[.pointer (some aa0), .int .i64 xa1] w4 fun e6 w7 => ∃ (b8 : Bool), e6 = .returned (.bool b8) ∧ (
  sel b8 (
  Q (.returned (.int .i64 (50 : Int))) w7) (
  drW w7 fun w9 =>
  h5 aa0 xa2 xa3 ∧
  ∃ (G10 : World → World → Prop) (Φ11 : Nat → Value → World → Prop), (∀ w, G10 w w) ∧ (∀ a b c, G10 a b → G10 b c → G10 a c) ∧ (∀ i v a b, G10 w9 a → G10 a b → Φ11 i v a → Φ11 i v b) ∧ (
  (∀ (_ : Fr) (w12 : World), G10 w9 w12 →
  (
  ldM w12 (aa0.add 1) fun m13 =>
  G10 w12 w12 ∧ Φ11 3 (.map m13) w12)) ∧
  (∀ (_ : Fr) (w14 : World), G10 w9 w14 →
  ∀ (me3 : Option Nat),
  Φ11 3 (.map me3) w14 →
  (
  Runs Try.prog (Instr.lookup 68 (.map me3) (.int .i64 xa2) false) w14 fun v16 w15 => ∃ (x17 : Int), v16 = (.int .i64 x17) ∧ (
  G10 w14 w15 ∧ Φ11 5 (.int .i64 x17) w15))) ∧
  (∀ (_ : Fr) (w18 : World), G10 w9 w18 →
  (
  ldM w18 (aa0.add 1) fun m19 =>
  G10 w18 w18 ∧ Φ11 9 (.map m19) w18)) ∧
  (∀ (_ : Fr) (w20 : World), G10 w9 w20 →
  ∀ (me9 : Option Nat),
  Φ11 9 (.map me9) w20 →
  (
  Runs Try.prog (Instr.lookup 68 (.map me9) (.int .i64 xa3) false) w20 fun v22 w21 => ∃ (x23 : Int), v22 = (.int .i64 x23) ∧ (
  G10 w20 w21 ∧ Φ11 11 (.int .i64 x23) w21))) ∧ True) ∧
  ∀ w24, G10 w9 w24 →
  ∀ (me3 : Option Nat),
  Φ11 3 (.map me3) w24 →
  ∀ (xe5 : Int),
  Φ11 5 (.int .i64 xe5) w24 →
  ∀ (me9 : Option Nat),
  Φ11 9 (.map me9) w24 →
  ∀ (xe11 : Int),
  Φ11 11 (.int .i64 xe11) w24 →
  (
  sel (xe5 == (0 : Int)) (
  Q (.returned (.int .i64 (51 : Int))) w24) (
  sel (xe11 == (0 : Int)) (
  Q (.returned (.int .i64 (51 : Int))) w24) (
  ldP w24 aa0 fun p25 =>
  Calls Try.prog 38 #[.pointer p25, .int .i64 xe5, .int .i64 xe11] w24 fun e26 w27 => ∃ (b28_0 : Bool) (x28_1 : Int), e26 = .returned (.tuple #[.bool b28_0, .int .i64 x28_1]) ∧ (
  sel b28_0 (
  Q (.returned (.int .i64 (151 : Int))) w27) (
  Calls Try.prog 39 #[.pointer (some aa0), .agg #[.bool true, .int .i64 xa1], .agg #[.int .i64 (0 : Int), .int .i64 (0 : Int), .int .i64 (0 : Int)]] w27 fun e29 w30 => ∃ (x31 : Int), e29 = .returned (.int .i64 x31) ∧ (
  Calls Try.prog 39 #[.pointer (some aa0), .agg #[.bool true, .int .i64 xa1], .agg #[.int .i64 (0 : Int), .int .i64 (0 : Int), .int .i64 (0 : Int)]] w30 fun e32 w33 => ∃ (x34 : Int), e32 = .returned (.int .i64 x34) ∧ (
  ldM w33 (aa0.add 2) fun m35 =>
  Runs Try.prog (Instr.mapUpdate 69 (.map m35) (.int .i64 xa1) (.agg #[.int .i64 x31, .int .i64 x34])) w33 fun _ w36 =>
  j0 aa0 xe5 xe11 x31 x34 w36 (fun (x53 : Int) (w54 : World) => ∀ _ : Fr,
  Q (.returned (.int .i64 x53)) w54))))))))))))
def D : Nat → Option DH := dtab [(5, .opn od5)]
def j0LO : LO := ⟨[], [8], [], []⟩
def j0T : Spec := fun Q σ w =>
  gAd (σ 0) fun at0 =>
  gInt .i64 (σ 9) fun xt9 =>
  gInt .i64 (σ 10) fun xt10 =>
  gInt .i64 (σ 13) fun xt13 =>
  gInt .i64 (σ 14) fun xt14 =>
  j0 at0 xt9 xt10 xt13 xt14 w (fun (xq8 : Int) (w : World) => ∀ d : Fr, Q .ret (ov d [(8, .int .i64 xq8)]) w)
def j0tb : List (List Nat × Spec) := []
noncomputable def j0b : Code := (subC [1, 1, 1, 1, 1, 1, 1, 1] body).getD .skip
theorem j0_eq (at0 : Addr) (xt9 : Int) (xt10 : Int) (xt13 : Int) (xt14 : Int) (Q : PQ) (σ : Fr) (w : World) :
    j0 at0 xt9 xt10 xt13 xt14 w (fun (xq8 : Int) (w : World) => ∀ d : Fr, Q .ret (ov d [(8, .int .i64 xq8)]) w) = codeW Try.prog hT 97 D (tab j0tb) [1, 1, 1, 1, 1, 1, 1, 1] j0b (widen j0LO Q) (ov σ [(0, .pointer (some at0)), (9, .int .i64 xt9), (10, .int .i64 xt10), (13, .int .i64 xt13), (14, .int .i64 xt14)]) w := by kernel_rfl
theorem j0_snd : ∀ c, subC [1, 1, 1, 1, 1, 1, 1, 1] body = some c → Snd Try.prog 97 c j0T := by
  refine cut_of (hT := hT) (D := D) (l := j0tb) (b := j0b) (lo := j0LO) (by kernel_rfl) (by
    intro x hx
    simp only [j0tb, List.not_mem_nil] at hx
    ) (by kernel_rfl) (by kernel_rfl) ?_
  intro Q σ w h
  unfold j0T at h
  obtain ⟨at0, h0, hn⟩ := gAd_elim h
  clear h
  have h := hn
  clear hn
  obtain ⟨xt9, h9, hn⟩ := gInt_elim h
  clear h
  have h := hn
  clear hn
  obtain ⟨xt10, h10, hn⟩ := gInt_elim h
  clear h
  have h := hn
  clear hn
  obtain ⟨xt13, h13, hn⟩ := gInt_elim h
  clear h
  have h := hn
  clear hn
  obtain ⟨xt14, h14, hn⟩ := gInt_elim h
  clear h
  have h := hn
  clear hn
  rw [j0_eq (σ := σ)] at h
  have e : (ov σ [(0, .pointer (some at0)), (9, .int .i64 xt9), (10, .int .i64 xt10), (13, .int .i64 xt13), (14, .int .i64 xt14)]) = σ := ov_self (by simp [h0, h9, h10, h13, h14])
  rw [e] at h
  exact h
def tb : List (List Nat × Spec) := [([1, 1, 1, 1, 1, 1, 1, 1], j0T)]
theorem wp_eq (aa0 : Addr) (xa1 : Int) (xa2 : Int) (xa3 : Int) (w : World) (Q : Ending → World → Prop) :
    wp aa0 xa1 xa2 xa3 w Q = codeW Try.prog hT 97 D (tab tb) [] body (topQ Try.prog hT 97 [.tmp 8] Q) (argsF [.pointer (some aa0), .int .i64 xa1, .int .i64 xa2, .int .i64 xa3]) w := by kernel_rfl
theorem ok (aa0 : Addr) (xa1 : Int) (xa2 : Int) (xa3 : Int) (w : World) (Q : Ending → World → Prop) (h : wp aa0 xa1 xa2 xa3 w Q) : Calls Try.prog 12 #[.pointer (some aa0), .int .i64 xa1, .int .i64 xa2, .int .i64 xa3] w Q := by
  rw [wp_eq] at h
  exact calls_of_codeW (c := body) (rs := [.tmp 8]) Try.func12 (by kernel_rfl) (by kernel_rfl) (by kernel_rfl) (by kernel_rfl) (by kernel_rfl) (tab_snd (by
    intro x hx
    simp only [tb, List.mem_cons, List.not_mem_nil, or_false] at hx
    subst hx
    exact j0_snd)) (by kernel_rfl) h
end f_euler_Forest_Link
namespace f_euler_Forest_Cut
/-! (*skein/euler.Forest).Cut: function 17 -/
noncomputable def body : Code := (Try.f17.body).getD .skip
def wp (aa0 : Addr) (xa1 : Int) (w : World) (Q : Ending → World → Prop) : Prop :=
  alW w (.cells #[.int .i64 xa1] 3) fun B1 w2 =>
  Calls Try.prog 37 #[.slice (some (⟨B1, 0, Option.none⟩ : Addr)) 1 1] w2 fun e3 w4 => ∃ (b5 : Bool), e3 = .returned (.bool b5) ∧ (
  sel b5 (
  Q (.returned (.int .i64 (1 : Int))) w4) (
  ldM w4 (aa0.add 2) fun m6 =>
  Runs Try.prog (Instr.lookup 69 (.map m6) (.int .i64 xa1) true) w4 fun v8 w7 => ∃ (x9_0_0 : Int) (x9_0_1 : Int) (b9_1 : Bool), v8 = (.tuple #[.agg #[.int .i64 x9_0_0, .int .i64 x9_0_1], .bool b9_1]) ∧ (
  alW w7 (.cells #[.int .i64 (0 : Int), .int .i64 (0 : Int)] 79) fun B10 w11 =>
  stW w11 (⟨B10, 0, Option.none⟩ : Addr) (.int .i64 x9_0_0) fun w12 =>
  stW w12 ((⟨B10, 0, Option.none⟩ : Addr).add 1) (.int .i64 x9_0_1) fun w13 =>
  sel (!b9_1) (
  Q (.returned (.int .i64 (152 : Int))) w13) (
  drW w13 fun w14 =>
  ldI w14 ((⟨B10, 0, Option.none⟩ : Addr).add ((0 : Int).toNat * 1)) .i64 fun x16 =>
  ldI w14 ((⟨B10, 0, Option.none⟩ : Addr).add ((1 : Int).toNat * 1)) .i64 fun x17 =>
  Calls Try.prog 40 #[.pointer (some aa0), .int .i64 x16] w14 fun e18 w19 => e18 = .returned (.tuple #[]) ∧ (
  ldP w19 aa0 fun p20 =>
  Calls Try.prog 42 #[.pointer p20, .int .i64 x17] w19 fun e21 w22 => ∃ (x23 : Int), e21 = .returned (.int .i64 x23) ∧ (
  Calls Try.prog 43 #[.pointer (some aa0), .int .i64 x16] w22 fun e24 w25 => e24 = .returned (.tuple #[]) ∧ (
  Calls Try.prog 43 #[.pointer (some aa0), .int .i64 x17] w25 fun e26 w27 => e26 = .returned (.tuple #[]) ∧ (
  Calls Try.prog 44 #[.pointer (some aa0), .int .i64 x16] w27 fun e28 w29 => e28 = .returned (.tuple #[]) ∧ (
  Calls Try.prog 44 #[.pointer (some aa0), .int .i64 x17] w29 fun e30 w31 => e30 = .returned (.tuple #[]) ∧ (
  ldM w31 (aa0.add 2) fun m32 =>
  Runs Try.prog (Builtin.delete_ #[69, 3] 0 #[.map m32, .int .i64 xa1]) w31 fun v34 w33 => v34 = (.tuple #[]) ∧ (
  Q (.returned (.int .i64 (0 : Int))) w33)))))))))))
def D : Nat → Option DH := dtab [(6, .simple [.fst 0, .fst 1, .fst 2, .fst 3, .fst 4] [.fst 5])]
def tb : List (List Nat × Spec) := []
theorem wp_eq (aa0 : Addr) (xa1 : Int) (w : World) (Q : Ending → World → Prop) :
    wp aa0 xa1 w Q = codeW Try.prog hT 53 D (tab tb) [] body (topQ Try.prog hT 53 [.tmp 4] Q) (argsF [.pointer (some aa0), .int .i64 xa1]) w := by kernel_rfl
theorem ok (aa0 : Addr) (xa1 : Int) (w : World) (Q : Ending → World → Prop) (h : wp aa0 xa1 w Q) : Calls Try.prog 17 #[.pointer (some aa0), .int .i64 xa1] w Q := by
  rw [wp_eq] at h
  exact calls_of_codeW (c := body) (rs := [.tmp 4]) Try.func17 (by kernel_rfl) (by kernel_rfl) (by kernel_rfl) (by kernel_rfl) (by kernel_rfl) (tab_snd (by
    intro x hx
    simp only [tb, List.not_mem_nil] at hx
    )) (by kernel_rfl) h
end f_euler_Forest_Cut
namespace f_euler_Forest_Has
/-! (*skein/euler.Forest).Has: function 18 -/
noncomputable def body : Code := (Try.f18.body).getD .skip
def wp (aa0 : Addr) (xa1 : Int) (w : World) (Q : Ending → World → Prop) : Prop :=
  ldM w (aa0.add 2) fun m1 =>
  Runs Try.prog (Instr.lookup 69 (.map m1) (.int .i64 xa1) true) w fun v3 w2 => ∃ (x4_0_0 : Int) (x4_0_1 : Int) (b4_1 : Bool), v3 = (.tuple #[.agg #[.int .i64 x4_0_0, .int .i64 x4_0_1], .bool b4_1]) ∧ (
  alW w2 (.cells #[.int .i64 (0 : Int), .int .i64 (0 : Int)] 79) fun B5 w6 =>
  stW w6 (⟨B5, 0, Option.none⟩ : Addr) (.int .i64 x4_0_0) fun w7 =>
  stW w7 ((⟨B5, 0, Option.none⟩ : Addr).add 1) (.int .i64 x4_0_1) fun w8 =>
  Q (.returned (.bool b4_1)) w8)
def D : Nat → Option DH := dtab []
def tb : List (List Nat × Spec) := []
theorem wp_eq (aa0 : Addr) (xa1 : Int) (w : World) (Q : Ending → World → Prop) :
    wp aa0 xa1 w Q = codeW Try.prog hT 17 D (tab tb) [] body (topQ Try.prog hT 17 [.tmp 4] Q) (argsF [.pointer (some aa0), .int .i64 xa1]) w := by kernel_rfl
theorem ok (aa0 : Addr) (xa1 : Int) (w : World) (Q : Ending → World → Prop) (h : wp aa0 xa1 w Q) : Calls Try.prog 18 #[.pointer (some aa0), .int .i64 xa1] w Q := by
  rw [wp_eq] at h
  exact calls_of_codeW (c := body) (rs := [.tmp 4]) Try.func18 (by kernel_rfl) (by kernel_rfl) (by kernel_rfl) (by kernel_rfl) (by kernel_rfl) (tab_snd (by
    intro x hx
    simp only [tb, List.not_mem_nil] at hx
    )) (by kernel_rfl) h
end f_euler_Forest_Has
namespace f_euler_New
/-! skein/euler.New: function 19 -/
noncomputable def body : Code := (Try.f19.body).getD .skip
def wp (Aa0 : Option Addr) (na0 : Nat) (ca0 : Nat) (w : World) (Q : Ending → World → Prop) : Prop :=
  Calls Try.prog 45 #[.slice Aa0 na0 ca0] w fun e1 w2 => ∃ (p3 : Option Addr), e1 = .returned (.pointer p3) ∧ (
  alW w2 (.map #[] 0) fun B4 w5 =>
  alW w5 (.map #[] 0) fun B6 w7 =>
  alW w7 (.map #[] 0) fun B8 w9 =>
  alW w9 (.cells #[.pointer p3, .map (some B4), .map (some B6), .map (some B8), .slice none 0 0] 72) fun B10 w11 =>
  Q (.returned (.pointer (some (⟨B10, 0, Option.none⟩ : Addr)))) w11)
def D : Nat → Option DH := dtab []
def tb : List (List Nat × Spec) := []
theorem wp_eq (Aa0 : Option Addr) (na0 : Nat) (ca0 : Nat) (w : World) (Q : Ending → World → Prop) :
    wp Aa0 na0 ca0 w Q = codeW Try.prog hT 10 D (tab tb) [] body (topQ Try.prog hT 10 [.tmp 2] Q) (argsF [.slice Aa0 na0 ca0]) w := by kernel_rfl
theorem ok (Aa0 : Option Addr) (na0 : Nat) (ca0 : Nat) (w : World) (Q : Ending → World → Prop) (h : wp Aa0 na0 ca0 w Q) : Calls Try.prog 19 #[.slice Aa0 na0 ca0] w Q := by
  rw [wp_eq] at h
  exact calls_of_codeW (c := body) (rs := [.tmp 2]) Try.func19 (by kernel_rfl) (by kernel_rfl) (by kernel_rfl) (by kernel_rfl) (by kernel_rfl) (tab_snd (by
    intro x hx
    simp only [tb, List.not_mem_nil] at hx
    )) (by kernel_rfl) h
end f_euler_New
namespace f_euler_Forest_AddV
/-! (*skein/euler.Forest).AddV: function 24 -/
noncomputable def body : Code := (Try.f24.body).getD .skip
def wp (aa0 : Addr) (xa1 : Int) (w : World) (Q : Ending → World → Prop) : Prop :=
  alW w (.cells #[.int .i64 xa1] 3) fun B1 w2 =>
  Calls Try.prog 37 #[.slice (some (⟨B1, 0, Option.none⟩ : Addr)) 1 1] w2 fun e3 w4 => ∃ (b5 : Bool), e3 = .returned (.bool b5) ∧ (
  sel b5 (
  Q (.returned (.int .i64 (1 : Int))) w4) (
  ldM w4 (aa0.add 1) fun m6 =>
  Runs Try.prog (Instr.lookup 68 (.map m6) (.int .i64 xa1) false) w4 fun v8 w7 => ∃ (x9 : Int), v8 = (.int .i64 x9) ∧ (
  sel (decide (x9 > (0 : Int))) (
  Q (.returned (.int .i64 (50 : Int))) w7) (
  ldM w7 (aa0.add 1) fun m10 =>
  Runs Try.prog (Builtin.len_ #[68] 3 #[.map m10]) w7 fun v12 w11 => ∃ (x13 : Int), v12 = (.int .i64 x13) ∧ (
  sel (decide (x13 ≥ (2048 : Int))) (
  Q (.returned (.int .i64 (55 : Int))) w11) (
  drW w11 fun w14 =>
  ∃ S15 : World → Prop, S15 w14 ∧ (
  hdM S15 (aa0.add 1) fun m16 =>
  Calls Try.prog 39 #[.pointer (some aa0), .agg #[.bool false, .int .i64 xa1], .agg #[.int .i64 (1 : Int), .int .i64 (0 : Int), .int .i64 (0 : Int)]] w14 fun e17 w18 => ∃ (x19 : Int), e17 = .returned (.int .i64 x19) ∧ (
  S15 w18 ∧ (
  Runs Try.prog (Instr.mapUpdate 68 (.map m16) (.int .i64 xa1) (.int .i64 x19)) w18 fun _ w20 =>
  Q (.returned (.int .i64 (0 : Int))) w20)))))))))
def D : Nat → Option DH := dtab [(7, .held [.fst 0, .fst 1, .fst 2, .fst 3, .fst 4, .fst 5, .fst 6, .fst 7, .fst 8, .eff 9] [.eff 10])]
def tb : List (List Nat × Spec) := []
theorem wp_eq (aa0 : Addr) (xa1 : Int) (w : World) (Q : Ending → World → Prop) :
    wp aa0 xa1 w Q = codeW Try.prog hT 34 D (tab tb) [] body (topQ Try.prog hT 34 [.tmp 4] Q) (argsF [.pointer (some aa0), .int .i64 xa1]) w := by kernel_rfl
theorem ok (aa0 : Addr) (xa1 : Int) (w : World) (Q : Ending → World → Prop) (h : wp aa0 xa1 w Q) : Calls Try.prog 24 #[.pointer (some aa0), .int .i64 xa1] w Q := by
  rw [wp_eq] at h
  exact calls_of_codeW (c := body) (rs := [.tmp 4]) Try.func24 (by kernel_rfl) (by kernel_rfl) (by kernel_rfl) (by kernel_rfl) (by kernel_rfl) (tab_snd (by
    intro x hx
    simp only [tb, List.not_mem_nil] at hx
    )) (by kernel_rfl) h
end f_euler_Forest_AddV
namespace f_euler_Forest_Len
/-! (*skein/euler.Forest).Len: function 25 -/
noncomputable def body : Code := (Try.f25.body).getD .skip
def wp (aa0 : Addr) (w : World) (Q : Ending → World → Prop) : Prop :=
  ldM w (aa0.add 1) fun m1 =>
  Runs Try.prog (Builtin.len_ #[68] 3 #[.map m1]) w fun v3 w2 => ∃ (x4 : Int), v3 = (.int .i64 x4) ∧ (
  Q (.returned (.int .i64 x4)) w2)
def D : Nat → Option DH := dtab []
def tb : List (List Nat × Spec) := []
theorem wp_eq (aa0 : Addr) (w : World) (Q : Ending → World → Prop) :
    wp aa0 w Q = codeW Try.prog hT 8 D (tab tb) [] body (topQ Try.prog hT 8 [.tmp 2] Q) (argsF [.pointer (some aa0)]) w := by kernel_rfl
theorem ok (aa0 : Addr) (w : World) (Q : Ending → World → Prop) (h : wp aa0 w Q) : Calls Try.prog 25 #[.pointer (some aa0)] w Q := by
  rw [wp_eq] at h
  exact calls_of_codeW (c := body) (rs := [.tmp 2]) Try.func25 (by kernel_rfl) (by kernel_rfl) (by kernel_rfl) (by kernel_rfl) (by kernel_rfl) (tab_snd (by
    intro x hx
    simp only [tb, List.not_mem_nil] at hx
    )) (by kernel_rfl) h
end f_euler_Forest_Len
namespace f_euler_Forest_Size
/-! (*skein/euler.Forest).Size: function 29 -/
noncomputable def body : Code := (Try.f29.body).getD .skip
def od1 : OD := ⟨[0, 1], [3, 7, 9, 10, 14, 15], fun i => ([⟨false, [], [], fun ps vs => match ps, vs with | [.pointer (some ap0), .int _ xp1], [] => .pointer (some ap0) | _, _ => undef⟩,
  ⟨false, [], [0], fun ps vs => match ps, vs with | [.pointer (some ap0), .int _ xp1], [] => .pointer (some ap0) | _, _ => undef⟩,
  ⟨false, [], [1], fun ps vs => match ps, vs with | [.pointer (some ap0), .int _ xp1], [] => .pointer (some ap0) | _, _ => undef⟩,
  ⟨true, [], [2], fun _ _ => undef⟩,
  ⟨false, [], [], fun ps vs => match ps, vs with | [.pointer (some ap0), .int _ xp1], [] => .pointer (some ap0) | _, _ => undef⟩,
  ⟨false, [], [4], fun ps vs => match ps, vs with | [.pointer (some ap0), .int _ xp1], [] => .pointer (some ap0) | _, _ => undef⟩,
  ⟨false, [], [5], fun ps vs => match ps, vs with | [.pointer (some ap0), .int _ xp1], [] => .pointer (some (ap0.add 1)) | _, _ => undef⟩,
  ⟨true, [], [6], fun _ _ => undef⟩,
  ⟨false, [], [], fun ps vs => match ps, vs with | [.pointer (some ap0), .int _ xp1], [] => .int .i64 xp1 | _, _ => undef⟩,
  ⟨true, [7], [7, 8], fun _ _ => undef⟩,
  ⟨true, [3, 7, 9], [3, 9], fun _ _ => undef⟩,
  ⟨false, [3, 7, 9, 10], [10], fun ps vs => match ps, vs with | [.pointer (some ap0), .int _ xp1], [.pointer pe3, .map me7, .int _ xe9, .tuple ⟨[.agg ⟨[.int _ xe10_0_0, .int _ xe10_0_1, .int _ xe10_0_2]⟩, .int _ xe10_1]⟩] => .tuple #[.agg #[.int .i64 xe10_0_0, .int .i64 xe10_0_1, .int .i64 xe10_0_2], .int .i64 xe10_1] | _, _ => undef⟩,
  ⟨false, [3, 7, 9, 10], [11], fun ps vs => match ps, vs with | [.pointer (some ap0), .int _ xp1], [.pointer pe3, .map me7, .int _ xe9, .tuple ⟨[.agg ⟨[.int _ xe10_0_0, .int _ xe10_0_1, .int _ xe10_0_2]⟩, .int _ xe10_1]⟩] => .agg #[.int .i64 xe10_0_0, .int .i64 xe10_0_1, .int .i64 xe10_0_2] | _, _ => undef⟩,
  ⟨false, [3, 7, 9, 10], [11], fun ps vs => match ps, vs with | [.pointer (some ap0), .int _ xp1], [.pointer pe3, .map me7, .int _ xe9, .tuple ⟨[.agg ⟨[.int _ xe10_0_0, .int _ xe10_0_1, .int _ xe10_0_2]⟩, .int _ xe10_1]⟩] => .int .i64 xe10_1 | _, _ => undef⟩,
  ⟨true, [], [], fun _ _ => undef⟩,
  ⟨true, [3, 7, 9, 10, 14], [12, 14], fun _ _ => undef⟩,
  ⟨false, [3, 7, 9, 10, 14, 15], [13], fun ps vs => match ps, vs with | [.pointer (some ap0), .int _ xp1], [.pointer pe3, .map me7, .int _ xe9, .tuple ⟨[.agg ⟨[.int _ xe10_0_0, .int _ xe10_0_1, .int _ xe10_0_2]⟩, .int _ xe10_1]⟩, .pointer (some ae14), .tuple ⟨[]⟩] => .int .i64 xe10_1 | _, _ => undef⟩] : List OI).getD i ⟨true, [], [], fun _ _ => undef⟩, fun i => ([.one (.sc .any), .one (.sc .any), .one (.sc .any), (.one (.sc .ptr)), .one (.sc .any), .one (.sc .any), .one (.sc .any), (.one (.sc .map)), .one (.sc .any), (.one (.sc (.int .i64))), (.tup [(.agg [(.int .i64), (.int .i64), (.int .i64)]), (.sc (.int .i64))]), .one (.sc .any), .one (.sc .any), .one (.sc .any), (.one (.sc .ad)), (.tup []), .one (.sc .any)] : List OS).getD i (.one (.sc .any))⟩
def h1 (ap0 : Addr) (xp1 : Int) : Prop :=
  (∀ (_ : Fr) (w : World),
  w = w ∧ (.pointer (some ap0) : Value) = (.pointer (some ap0))) ∧
  (∀ (_ : Fr) (w : World),
  w = w ∧ (.pointer (some ap0) : Value) = (.pointer (some ap0))) ∧
  (∀ (_ : Fr) (w : World),
  w = w ∧ (.pointer (some ap0) : Value) = (.pointer (some ap0))) ∧
  (∀ (_ : Fr) (w : World),
  w = w ∧ (.pointer (some ap0) : Value) = (.pointer (some ap0))) ∧
  (∀ (_ : Fr) (w : World),
  w = w ∧ (.pointer (some ap0) : Value) = (.pointer (some ap0))) ∧
  (∀ (_ : Fr) (w : World),
  w = w ∧ (.pointer (some (ap0.add 1)) : Value) = (.pointer (some (ap0.add 1)))) ∧
  (∀ (_ : Fr) (w : World),
  w = w ∧ (.int .i64 xp1 : Value) = (.int .i64 xp1)) ∧
  (∀ (_ : Fr) (w : World),
  ∀ (pe3 : Option Addr),
  ∀ (me7 : Option Nat),
  ∀ (xe9 : Int),
  ∀ (xe10_0_0 : Int) (xe10_0_1 : Int) (xe10_0_2 : Int) (xe10_1 : Int),
  w = w ∧ (.tuple #[.agg #[.int .i64 xe10_0_0, .int .i64 xe10_0_1, .int .i64 xe10_0_2], .int .i64 xe10_1] : Value) = (.tuple #[.agg #[.int .i64 xe10_0_0, .int .i64 xe10_0_1, .int .i64 xe10_0_2], .int .i64 xe10_1])) ∧
  (∀ (_ : Fr) (w : World),
  ∀ (pe3 : Option Addr),
  ∀ (me7 : Option Nat),
  ∀ (xe9 : Int),
  ∀ (xe10_0_0 : Int) (xe10_0_1 : Int) (xe10_0_2 : Int) (xe10_1 : Int),
  w = w ∧ (.agg #[.int .i64 xe10_0_0, .int .i64 xe10_0_1, .int .i64 xe10_0_2] : Value) = (.agg #[.int .i64 xe10_0_0, .int .i64 xe10_0_1, .int .i64 xe10_0_2])) ∧
  (∀ (_ : Fr) (w : World),
  ∀ (pe3 : Option Addr),
  ∀ (me7 : Option Nat),
  ∀ (xe9 : Int),
  ∀ (xe10_0_0 : Int) (xe10_0_1 : Int) (xe10_0_2 : Int) (xe10_1 : Int),
  w = w ∧ (.int .i64 xe10_1 : Value) = (.int .i64 xe10_1)) ∧
  (∀ (_ : Fr) (w : World),
  ∀ (pe3 : Option Addr),
  ∀ (me7 : Option Nat),
  ∀ (xe9 : Int),
  ∀ (xe10_0_0 : Int) (xe10_0_1 : Int) (xe10_0_2 : Int) (xe10_1 : Int),
  ∀ (ae14 : Addr),
  w = w ∧ (.int .i64 xe10_1 : Value) = (.int .i64 xe10_1)) ∧
  True
theorem h1_ok (ap0 : Addr) (xp1 : Int) : h1 ap0 xp1 := ⟨fun _ w => ⟨rfl, rfl⟩, fun _ w => ⟨rfl, rfl⟩, fun _ w => ⟨rfl, rfl⟩, fun _ w => ⟨rfl, rfl⟩, fun _ w => ⟨rfl, rfl⟩, fun _ w => ⟨rfl, rfl⟩, fun _ w => ⟨rfl, rfl⟩, fun _ w _ _ _ _ _ _ _ => ⟨rfl, rfl⟩, fun _ w _ _ _ _ _ _ _ => ⟨rfl, rfl⟩, fun _ w _ _ _ _ _ _ _ => ⟨rfl, rfl⟩, fun _ w _ _ _ _ _ _ _ _ => ⟨rfl, rfl⟩, trivial⟩
def wp (aa0 : Addr) (xa1 : Int) (w : World) (Q : Ending → World → Prop) : Prop :=
  drW w fun w1 =>
  h1 aa0 xa1 ∧
  ∃ (I2 : (Nat → Bool) → (Nat → Value) → World → Prop), I2 (fun _ => false) (fun _ => undef) w1 ∧ (
  (∀ (_ : Fr) (ls : Nat → Bool) (vv : Nat → Value) (w23 : World), ls 3 = false → I2 ls vv w23 →
  (
  ldP w23 aa0 fun p24 =>
  I2 (upB ls 3) (upV vv 3 (.pointer p24)) w23)) ∧
  (∀ (_ : Fr) (ls : Nat → Bool) (vv : Nat → Value) (w25 : World), ls 7 = false → I2 ls vv w25 →
  (
  ldM w25 (aa0.add 1) fun m26 =>
  I2 (upB ls 7) (upV vv 7 (.map m26)) w25)) ∧
  (∀ (_ : Fr) (ls : Nat → Bool) (vv : Nat → Value) (w27 : World), ls 9 = false → I2 ls vv w27 →
  ∀ (me7 : Option Nat),
  (ls 7 = true ∧ vv 7 = .map me7) →
  (
  Runs Try.prog (Instr.lookup 68 (.map me7) (.int .i64 xa1) false) w27 fun v29 w28 => ∃ (x30 : Int), v29 = (.int .i64 x30) ∧ (
  I2 (upB ls 9) (upV vv 9 (.int .i64 x30)) w28))) ∧
  (∀ (_ : Fr) (ls : Nat → Bool) (vv : Nat → Value) (w31 : World), ls 10 = false → I2 ls vv w31 →
  ∀ (pe3 : Option Addr),
  (ls 3 = true ∧ vv 3 = .pointer pe3) →
  ∀ (me7 : Option Nat),
  (ls 7 = true ∧ vv 7 = .map me7) →
  ∀ (xe9 : Int),
  (ls 9 = true ∧ vv 9 = .int .i64 xe9) →
  (
  Calls Try.prog 54 #[.pointer pe3, .int .i64 xe9] w31 fun e32 w33 => ∃ (x34_0_0 : Int) (x34_0_1 : Int) (x34_0_2 : Int) (x34_1 : Int), e32 = .returned (.tuple #[.agg #[.int .i64 x34_0_0, .int .i64 x34_0_1, .int .i64 x34_0_2], .int .i64 x34_1]) ∧ (
  I2 (upB ls 10) (upV vv 10 (.tuple #[.agg #[.int .i64 x34_0_0, .int .i64 x34_0_1, .int .i64 x34_0_2], .int .i64 x34_1])) w33))) ∧
  (∀ (_ : Fr) (ls : Nat → Bool) (vv : Nat → Value) (w35 : World), ls 14 = false → I2 ls vv w35 →
  (
  alW w35 (.cells #[.int .i64 (0 : Int), .int .i64 (0 : Int), .int .i64 (0 : Int)] 74) fun B36 w37 =>
  I2 (upB ls 14) (upV vv 14 (.pointer (some (⟨B36, 0, Option.none⟩ : Addr)))) w37)) ∧
  (∀ (_ : Fr) (ls : Nat → Bool) (vv : Nat → Value) (w38 : World), ls 15 = false → I2 ls vv w38 →
  ∀ (pe3 : Option Addr),
  (ls 3 = true ∧ vv 3 = .pointer pe3) →
  ∀ (me7 : Option Nat),
  (ls 7 = true ∧ vv 7 = .map me7) →
  ∀ (xe9 : Int),
  (ls 9 = true ∧ vv 9 = .int .i64 xe9) →
  ∀ (xe10_0_0 : Int) (xe10_0_1 : Int) (xe10_0_2 : Int) (xe10_1 : Int),
  (ls 10 = true ∧ vv 10 = .tuple #[.agg #[.int .i64 xe10_0_0, .int .i64 xe10_0_1, .int .i64 xe10_0_2], .int .i64 xe10_1]) →
  ∀ (ae14 : Addr),
  (ls 14 = true ∧ vv 14 = .pointer (some ae14)) →
  (
  stW w38 ae14 (.int .i64 xe10_0_0) fun w39 =>
  stW w39 (ae14.add 1) (.int .i64 xe10_0_1) fun w40 =>
  stW w40 (ae14.add 2) (.int .i64 xe10_0_2) fun w41 =>
  I2 (upB ls 15) (upV vv 15 (.tuple #[])) w41)) ∧ True) ∧
  ∀ (ls : Nat → Bool) (vv : Nat → Value) (w42 : World), I2 ls vv w42 →
  ∀ (pe3 : Option Addr),
  (ls 3 = true ∧ vv 3 = .pointer pe3) →
  ∀ (me7 : Option Nat),
  (ls 7 = true ∧ vv 7 = .map me7) →
  ∀ (xe9 : Int),
  (ls 9 = true ∧ vv 9 = .int .i64 xe9) →
  ∀ (xe10_0_0 : Int) (xe10_0_1 : Int) (xe10_0_2 : Int) (xe10_1 : Int),
  (ls 10 = true ∧ vv 10 = .tuple #[.agg #[.int .i64 xe10_0_0, .int .i64 xe10_0_1, .int .i64 xe10_0_2], .int .i64 xe10_1]) →
  ∀ (ae14 : Addr),
  (ls 14 = true ∧ vv 14 = .pointer (some ae14)) →
  (ls 15 = true ∧ vv 15 = .tuple #[]) →
  (
  sel (xe10_1 != (0 : Int)) (
  Q (.returned (.tuple #[.int .i64 (0 : Int), .int .i64 (51 : Int)])) w42) (
  ldI w42 ae14 .i64 fun x43 =>
  Q (.returned (.tuple #[.int .i64 x43, .int .i64 (0 : Int)])) w42))
def D : Nat → Option DH := dtab [(1, .opi od1)]
def tb : List (List Nat × Spec) := []
theorem wp_eq (aa0 : Addr) (xa1 : Int) (w : World) (Q : Ending → World → Prop) :
    wp aa0 xa1 w Q = codeW Try.prog hT 26 D (tab tb) [] body (topQ Try.prog hT 26 [.tmp 4, .tmp 5] Q) (argsF [.pointer (some aa0), .int .i64 xa1]) w := by kernel_rfl
theorem ok (aa0 : Addr) (xa1 : Int) (w : World) (Q : Ending → World → Prop) (h : wp aa0 xa1 w Q) : Calls Try.prog 29 #[.pointer (some aa0), .int .i64 xa1] w Q := by
  rw [wp_eq] at h
  exact calls_of_codeW (c := body) (rs := [.tmp 4, .tmp 5]) Try.func29 (by kernel_rfl) (by kernel_rfl) (by kernel_rfl) (by kernel_rfl) (by kernel_rfl) (tab_snd (by
    intro x hx
    simp only [tb, List.not_mem_nil] at hx
    )) (by kernel_rfl) h
end f_euler_Forest_Size
namespace f_euler_Forest_Joined
/-! (*skein/euler.Forest).Joined: function 30 -/
noncomputable def body : Code := (Try.f30.body).getD .skip
def od1 : OD := ⟨[0, 1, 2], [3, 5, 9, 11], fun i => ([⟨false, [], [], fun ps vs => match ps, vs with | [.pointer (some ap0), .int _ xp1, .int _ xp2], [] => .pointer (some ap0) | _, _ => undef⟩,
  ⟨false, [], [0], fun ps vs => match ps, vs with | [.pointer (some ap0), .int _ xp1, .int _ xp2], [] => .pointer (some ap0) | _, _ => undef⟩,
  ⟨false, [], [1], fun ps vs => match ps, vs with | [.pointer (some ap0), .int _ xp1, .int _ xp2], [] => .pointer (some (ap0.add 1)) | _, _ => undef⟩,
  ⟨true, [], [2], fun _ _ => undef⟩,
  ⟨false, [], [], fun ps vs => match ps, vs with | [.pointer (some ap0), .int _ xp1, .int _ xp2], [] => .int .i64 xp1 | _, _ => undef⟩,
  ⟨true, [3], [3, 4], fun _ _ => undef⟩,
  ⟨false, [], [], fun ps vs => match ps, vs with | [.pointer (some ap0), .int _ xp1, .int _ xp2], [] => .pointer (some ap0) | _, _ => undef⟩,
  ⟨false, [], [6], fun ps vs => match ps, vs with | [.pointer (some ap0), .int _ xp1, .int _ xp2], [] => .pointer (some ap0) | _, _ => undef⟩,
  ⟨false, [], [7], fun ps vs => match ps, vs with | [.pointer (some ap0), .int _ xp1, .int _ xp2], [] => .pointer (some (ap0.add 1)) | _, _ => undef⟩,
  ⟨true, [], [8], fun _ _ => undef⟩,
  ⟨false, [], [], fun ps vs => match ps, vs with | [.pointer (some ap0), .int _ xp1, .int _ xp2], [] => .int .i64 xp2 | _, _ => undef⟩,
  ⟨true, [9], [9, 10], fun _ _ => undef⟩,
  ⟨false, [3, 5], [5], fun ps vs => match ps, vs with | [.pointer (some ap0), .int _ xp1, .int _ xp2], [.map me3, .int _ xe5] => .int .i64 xe5 | _, _ => undef⟩,
  ⟨false, [3, 5, 9, 11], [11], fun ps vs => match ps, vs with | [.pointer (some ap0), .int _ xp1, .int _ xp2], [.map me3, .int _ xe5, .map me9, .int _ xe11] => .int .i64 xe11 | _, _ => undef⟩] : List OI).getD i ⟨true, [], [], fun _ _ => undef⟩, fun i => ([.one (.sc .any), .one (.sc .any), .one (.sc .any), (.one (.sc .map)), .one (.sc .any), (.one (.sc (.int .i64))), .one (.sc .any), .one (.sc .any), .one (.sc .any), (.one (.sc .map)), .one (.sc .any), (.one (.sc (.int .i64))), .one (.sc .any), .one (.sc .any)] : List OS).getD i (.one (.sc .any))⟩
def h1 (ap0 : Addr) (xp1 : Int) (xp2 : Int) : Prop :=
  (∀ (_ : Fr) (w : World),
  w = w ∧ (.pointer (some ap0) : Value) = (.pointer (some ap0))) ∧
  (∀ (_ : Fr) (w : World),
  w = w ∧ (.pointer (some ap0) : Value) = (.pointer (some ap0))) ∧
  (∀ (_ : Fr) (w : World),
  w = w ∧ (.pointer (some (ap0.add 1)) : Value) = (.pointer (some (ap0.add 1)))) ∧
  (∀ (_ : Fr) (w : World),
  w = w ∧ (.int .i64 xp1 : Value) = (.int .i64 xp1)) ∧
  (∀ (_ : Fr) (w : World),
  w = w ∧ (.pointer (some ap0) : Value) = (.pointer (some ap0))) ∧
  (∀ (_ : Fr) (w : World),
  w = w ∧ (.pointer (some ap0) : Value) = (.pointer (some ap0))) ∧
  (∀ (_ : Fr) (w : World),
  w = w ∧ (.pointer (some (ap0.add 1)) : Value) = (.pointer (some (ap0.add 1)))) ∧
  (∀ (_ : Fr) (w : World),
  w = w ∧ (.int .i64 xp2 : Value) = (.int .i64 xp2)) ∧
  (∀ (_ : Fr) (w : World),
  ∀ (me3 : Option Nat),
  ∀ (xe5 : Int),
  w = w ∧ (.int .i64 xe5 : Value) = (.int .i64 xe5)) ∧
  (∀ (_ : Fr) (w : World),
  ∀ (me3 : Option Nat),
  ∀ (xe5 : Int),
  ∀ (me9 : Option Nat),
  ∀ (xe11 : Int),
  w = w ∧ (.int .i64 xe11 : Value) = (.int .i64 xe11)) ∧
  True
theorem h1_ok (ap0 : Addr) (xp1 : Int) (xp2 : Int) : h1 ap0 xp1 xp2 := ⟨fun _ w => ⟨rfl, rfl⟩, fun _ w => ⟨rfl, rfl⟩, fun _ w => ⟨rfl, rfl⟩, fun _ w => ⟨rfl, rfl⟩, fun _ w => ⟨rfl, rfl⟩, fun _ w => ⟨rfl, rfl⟩, fun _ w => ⟨rfl, rfl⟩, fun _ w => ⟨rfl, rfl⟩, fun _ w _ _ => ⟨rfl, rfl⟩, fun _ w _ _ _ _ => ⟨rfl, rfl⟩, trivial⟩
def wp (aa0 : Addr) (xa1 : Int) (xa2 : Int) (w : World) (Q : Ending → World → Prop) : Prop :=
  drW w fun w1 =>
  h1 aa0 xa1 xa2 ∧
  ∃ (G2 : World → World → Prop) (Φ3 : Nat → Value → World → Prop), (∀ w, G2 w w) ∧ (∀ a b c, G2 a b → G2 b c → G2 a c) ∧ (∀ i v a b, G2 w1 a → G2 a b → Φ3 i v a → Φ3 i v b) ∧ (
  (∀ (_ : Fr) (w4 : World), G2 w1 w4 →
  (
  ldM w4 (aa0.add 1) fun m5 =>
  G2 w4 w4 ∧ Φ3 3 (.map m5) w4)) ∧
  (∀ (_ : Fr) (w6 : World), G2 w1 w6 →
  ∀ (me3 : Option Nat),
  Φ3 3 (.map me3) w6 →
  (
  Runs Try.prog (Instr.lookup 68 (.map me3) (.int .i64 xa1) false) w6 fun v8 w7 => ∃ (x9 : Int), v8 = (.int .i64 x9) ∧ (
  G2 w6 w7 ∧ Φ3 5 (.int .i64 x9) w7))) ∧
  (∀ (_ : Fr) (w10 : World), G2 w1 w10 →
  (
  ldM w10 (aa0.add 1) fun m11 =>
  G2 w10 w10 ∧ Φ3 9 (.map m11) w10)) ∧
  (∀ (_ : Fr) (w12 : World), G2 w1 w12 →
  ∀ (me9 : Option Nat),
  Φ3 9 (.map me9) w12 →
  (
  Runs Try.prog (Instr.lookup 68 (.map me9) (.int .i64 xa2) false) w12 fun v14 w13 => ∃ (x15 : Int), v14 = (.int .i64 x15) ∧ (
  G2 w12 w13 ∧ Φ3 11 (.int .i64 x15) w13))) ∧ True) ∧
  ∀ w16, G2 w1 w16 →
  ∀ (me3 : Option Nat),
  Φ3 3 (.map me3) w16 →
  ∀ (xe5 : Int),
  Φ3 5 (.int .i64 xe5) w16 →
  ∀ (me9 : Option Nat),
  Φ3 9 (.map me9) w16 →
  ∀ (xe11 : Int),
  Φ3 11 (.int .i64 xe11) w16 →
  (
  sel (xe5 == (0 : Int)) (
  Q (.returned (.tuple #[.bool false, .int .i64 (51 : Int)])) w16) (
  sel (xe11 == (0 : Int)) (
  Q (.returned (.tuple #[.bool false, .int .i64 (51 : Int)])) w16) (
  ldP w16 aa0 fun p17 =>
  Calls Try.prog 38 #[.pointer p17, .int .i64 xe5, .int .i64 xe11] w16 fun e18 w19 => ∃ (b20_0 : Bool) (x20_1 : Int), e18 = .returned (.tuple #[.bool b20_0, .int .i64 x20_1]) ∧ (
  Q (.returned (.tuple #[.bool b20_0, .int .i64 x20_1])) w19))))
def D : Nat → Option DH := dtab [(1, .opn od1)]
def tb : List (List Nat × Spec) := []
theorem wp_eq (aa0 : Addr) (xa1 : Int) (xa2 : Int) (w : World) (Q : Ending → World → Prop) :
    wp aa0 xa1 xa2 w Q = codeW Try.prog hT 37 D (tab tb) [] body (topQ Try.prog hT 37 [.tmp 6, .tmp 7] Q) (argsF [.pointer (some aa0), .int .i64 xa1, .int .i64 xa2]) w := by kernel_rfl
theorem ok (aa0 : Addr) (xa1 : Int) (xa2 : Int) (w : World) (Q : Ending → World → Prop) (h : wp aa0 xa1 xa2 w Q) : Calls Try.prog 30 #[.pointer (some aa0), .int .i64 xa1, .int .i64 xa2] w Q := by
  rw [wp_eq] at h
  exact calls_of_codeW (c := body) (rs := [.tmp 6, .tmp 7]) Try.func30 (by kernel_rfl) (by kernel_rfl) (by kernel_rfl) (by kernel_rfl) (by kernel_rfl) (tab_snd (by
    intro x hx
    simp only [tb, List.not_mem_nil] at hx
    )) (by kernel_rfl) h
end f_euler_Forest_Joined
namespace f_euler_Forest_MarkE
/-! (*skein/euler.Forest).MarkE: function 31 -/
noncomputable def body : Code := (Try.f31.body).getD .skip
def wp (aa0 : Addr) (xa1 : Int) (ba2 : Bool) (w : World) (Q : Ending → World → Prop) : Prop :=
  ldM w (aa0.add 2) fun m1 =>
  Runs Try.prog (Instr.lookup 69 (.map m1) (.int .i64 xa1) true) w fun v3 w2 => ∃ (x4_0_0 : Int) (x4_0_1 : Int) (b4_1 : Bool), v3 = (.tuple #[.agg #[.int .i64 x4_0_0, .int .i64 x4_0_1], .bool b4_1]) ∧ (
  alW w2 (.cells #[.int .i64 (0 : Int), .int .i64 (0 : Int)] 79) fun B5 w6 =>
  stW w6 (⟨B5, 0, Option.none⟩ : Addr) (.int .i64 x4_0_0) fun w7 =>
  stW w7 ((⟨B5, 0, Option.none⟩ : Addr).add 1) (.int .i64 x4_0_1) fun w8 =>
  sel (!b4_1) (
  Q (.returned (.int .i64 (152 : Int))) w8) (
  drW w8 fun w9 =>
  ∃ S10 : World → Prop, S10 w9 ∧ (
  hdP S10 aa0 fun p11 =>
  hdI S10 ((⟨B5, 0, Option.none⟩ : Addr).add ((0 : Int).toNat * 1)) .i64 fun x12 =>
  Calls Try.prog 56 #[.bool ba2] w9 fun e13 w14 => ∃ (x15 : Int), e13 = .returned (.int .i64 x15) ∧ (
  S10 w14 ∧ (
  Calls Try.prog 55 #[.pointer p11, .int .i64 x12, .agg #[.int .i64 (0 : Int), .int .i64 (0 : Int), .int .i64 x15]] w14 fun e16 w17 => ∃ (x18 : Int), e16 = .returned (.int .i64 x18) ∧ (
  Q (.returned (.int .i64 x18)) w17))))))
def D : Nat → Option DH := dtab [(4, .held [.fst 0, .fst 1, .fst 2, .fst 3, .fst 4, .fst 5, .fst 6, .eff 7, .fst 8] [.eff 9, .fst 10])]
def tb : List (List Nat × Spec) := []
theorem wp_eq (aa0 : Addr) (xa1 : Int) (ba2 : Bool) (w : World) (Q : Ending → World → Prop) :
    wp aa0 xa1 ba2 w Q = codeW Try.prog hT 30 D (tab tb) [] body (topQ Try.prog hT 30 [.tmp 6] Q) (argsF [.pointer (some aa0), .int .i64 xa1, .bool ba2]) w := by cases ba2 <;> kernel_rfl
theorem ok (aa0 : Addr) (xa1 : Int) (ba2 : Bool) (w : World) (Q : Ending → World → Prop) (h : wp aa0 xa1 ba2 w Q) : Calls Try.prog 31 #[.pointer (some aa0), .int .i64 xa1, .bool ba2] w Q := by
  rw [wp_eq] at h
  exact calls_of_codeW (c := body) (rs := [.tmp 6]) Try.func31 (by kernel_rfl) (by kernel_rfl) (by kernel_rfl) (by kernel_rfl) (by kernel_rfl) (tab_snd (by
    intro x hx
    simp only [tb, List.not_mem_nil] at hx
    )) (by kernel_rfl) h
end f_euler_Forest_MarkE
namespace f_euler_Forest_SomeE
/-! (*skein/euler.Forest).SomeE: function 32 -/
noncomputable def body : Code := (Try.f32.body).getD .skip
def wp (aa0 : Addr) (xa1 : Int) (w : World) (Q : Ending → World → Prop) : Prop :=
  Calls Try.prog 57 #[.pointer (some aa0), .int .i64 xa1, .func (.func 58) #[] #[]] w fun e1 w2 => ∃ (x3_0 : Int) (x3_1 : Int), e1 = .returned (.tuple #[.int .i64 x3_0, .int .i64 x3_1]) ∧ (
  Q (.returned (.tuple #[.int .i64 x3_0, .int .i64 x3_1])) w2)
def D : Nat → Option DH := dtab []
def tb : List (List Nat × Spec) := []
theorem wp_eq (aa0 : Addr) (xa1 : Int) (w : World) (Q : Ending → World → Prop) :
    wp aa0 xa1 w Q = codeW Try.prog hT 11 D (tab tb) [] body (topQ Try.prog hT 11 [.tmp 4, .tmp 5] Q) (argsF [.pointer (some aa0), .int .i64 xa1]) w := by kernel_rfl
theorem ok (aa0 : Addr) (xa1 : Int) (w : World) (Q : Ending → World → Prop) (h : wp aa0 xa1 w Q) : Calls Try.prog 32 #[.pointer (some aa0), .int .i64 xa1] w Q := by
  rw [wp_eq] at h
  exact calls_of_codeW (c := body) (rs := [.tmp 4, .tmp 5]) Try.func32 (by kernel_rfl) (by kernel_rfl) (by kernel_rfl) (by kernel_rfl) (by kernel_rfl) (tab_snd (by
    intro x hx
    simp only [tb, List.not_mem_nil] at hx
    )) (by kernel_rfl) h
end f_euler_Forest_SomeE
namespace f_euler_Forest_SomeV
/-! (*skein/euler.Forest).SomeV: function 33 -/
noncomputable def body : Code := (Try.f33.body).getD .skip
def wp (aa0 : Addr) (xa1 : Int) (w : World) (Q : Ending → World → Prop) : Prop :=
  Calls Try.prog 57 #[.pointer (some aa0), .int .i64 xa1, .func (.func 59) #[] #[]] w fun e1 w2 => ∃ (x3_0 : Int) (x3_1 : Int), e1 = .returned (.tuple #[.int .i64 x3_0, .int .i64 x3_1]) ∧ (
  Q (.returned (.tuple #[.int .i64 x3_0, .int .i64 x3_1])) w2)
def D : Nat → Option DH := dtab []
def tb : List (List Nat × Spec) := []
theorem wp_eq (aa0 : Addr) (xa1 : Int) (w : World) (Q : Ending → World → Prop) :
    wp aa0 xa1 w Q = codeW Try.prog hT 11 D (tab tb) [] body (topQ Try.prog hT 11 [.tmp 4, .tmp 5] Q) (argsF [.pointer (some aa0), .int .i64 xa1]) w := by kernel_rfl
theorem ok (aa0 : Addr) (xa1 : Int) (w : World) (Q : Ending → World → Prop) (h : wp aa0 xa1 w Q) : Calls Try.prog 33 #[.pointer (some aa0), .int .i64 xa1] w Q := by
  rw [wp_eq] at h
  exact calls_of_codeW (c := body) (rs := [.tmp 4, .tmp 5]) Try.func33 (by kernel_rfl) (by kernel_rfl) (by kernel_rfl) (by kernel_rfl) (by kernel_rfl) (tab_snd (by
    intro x hx
    simp only [tb, List.not_mem_nil] at hx
    )) (by kernel_rfl) h
end f_euler_Forest_SomeV
namespace f_euler_Forest_MarkV
/-! (*skein/euler.Forest).MarkV: function 34 -/
noncomputable def body : Code := (Try.f34.body).getD .skip
def wp (aa0 : Addr) (xa1 : Int) (ba2 : Bool) (w : World) (Q : Ending → World → Prop) : Prop :=
  ldM w (aa0.add 1) fun m1 =>
  Runs Try.prog (Instr.lookup 68 (.map m1) (.int .i64 xa1) false) w fun v3 w2 => ∃ (x4 : Int), v3 = (.int .i64 x4) ∧ (
  sel (x4 == (0 : Int)) (
  Q (.returned (.int .i64 (51 : Int))) w2) (
  drW w2 fun w5 =>
  ∃ S6 : World → Prop, S6 w5 ∧ (
  hdP S6 aa0 fun p7 =>
  Calls Try.prog 56 #[.bool ba2] w5 fun e8 w9 => ∃ (x10 : Int), e8 = .returned (.int .i64 x10) ∧ (
  S6 w9 ∧ (
  Calls Try.prog 55 #[.pointer p7, .int .i64 x4, .agg #[.int .i64 (1 : Int), .int .i64 x10, .int .i64 (0 : Int)]] w9 fun e11 w12 => ∃ (x13 : Int), e11 = .returned (.int .i64 x13) ∧ (
  Q (.returned (.int .i64 x13)) w12))))))
def D : Nat → Option DH := dtab [(4, .held [.fst 0, .fst 1, .fst 2, .fst 3, .fst 4, .fst 5, .eff 6, .fst 7] [.eff 8, .fst 9])]
def tb : List (List Nat × Spec) := []
theorem wp_eq (aa0 : Addr) (xa1 : Int) (ba2 : Bool) (w : World) (Q : Ending → World → Prop) :
    wp aa0 xa1 ba2 w Q = codeW Try.prog hT 25 D (tab tb) [] body (topQ Try.prog hT 25 [.tmp 6] Q) (argsF [.pointer (some aa0), .int .i64 xa1, .bool ba2]) w := by cases ba2 <;> kernel_rfl
theorem ok (aa0 : Addr) (xa1 : Int) (ba2 : Bool) (w : World) (Q : Ending → World → Prop) (h : wp aa0 xa1 ba2 w Q) : Calls Try.prog 34 #[.pointer (some aa0), .int .i64 xa1, .bool ba2] w Q := by
  rw [wp_eq] at h
  exact calls_of_codeW (c := body) (rs := [.tmp 6]) Try.func34 (by kernel_rfl) (by kernel_rfl) (by kernel_rfl) (by kernel_rfl) (by kernel_rfl) (tab_snd (by
    intro x hx
    simp only [tb, List.not_mem_nil] at hx
    )) (by kernel_rfl) h
end f_euler_Forest_MarkV
namespace f_euler_Forest_list
/-! (*skein/euler.Forest).list: function 36 -/
noncomputable def body : Code := (Try.f36.body).getD .skip
def l0 : Nat → Addr → Bool → Option Addr → Nat → Nat → Option Addr → Nat → Nat → Int → Int → World → ((Option Addr) → Nat → Nat → World → Prop) → Prop
  | 0, _, _, _, _, _, _, _, _, _, _, _, _ => False
  | k + 1, at0, bt2, At10, nt10, ct10, At30, nt30, ct30, xt31, xt32, w, K0 =>
    sel (decide (xt32 < xt31)) (
    optB At30 fun a11 =>
    req (decide (0 ≤ xt32 ∧ xt32 < (nt30 : Int))) <|
    ldI w (a11.add (xt32.toNat * 1)) .i64 fun x12 =>
    ldM w (at0.add 3) fun m13 =>
    Runs Try.prog (Instr.lookup 70 (.map m13) (.int .i64 x12) false) w fun v15 w14 => ∃ (b16_0 : Bool) (x16_1 : Int), v15 = (.agg #[.bool b16_0, .int .i64 x16_1]) ∧ (
    alW w14 (.cells #[.bool false, .int .i64 (0 : Int)] 77) fun B17 w18 =>
    stW w18 (⟨B17, 0, Option.none⟩ : Addr) (.bool b16_0) fun w19 =>
    stW w19 ((⟨B17, 0, Option.none⟩ : Addr).add 1) (.int .i64 x16_1) fun w20 =>
    ldB w20 (⟨B17, 0, Option.none⟩ : Addr) fun b21 =>
    sel (b21 == bt2) (
    ldI w20 ((⟨B17, 0, Option.none⟩ : Addr).add 1) .i64 fun x22 =>
    alW w20 (.cells #[.int .i64 x22] 3) fun B23 w24 =>
    Runs Try.prog (Builtin.append_ #[22, 22] 22 #[.slice At10 nt10 ct10, .slice (some (⟨B23, 0, Option.none⟩ : Addr)) 1 1]) w24 fun v26 w25 => ∃ (A27 : Option Addr) (n27 : Nat) (c27 : Nat), v26 = (.slice A27 n27 c27) ∧ (
    l0 k at0 bt2 A27 n27 c27 At30 nt30 ct30 xt31 (IntKind.i64.wrap (xt32 + (1 : Int))) w25 K0)) (
    l0 k at0 bt2 At10 nt10 ct10 At30 nt30 ct30 xt31 (IntKind.i64.wrap (xt32 + (1 : Int))) w20 K0))) (
    K0 At10 nt10 ct10 w)
def wp (aa0 : Addr) (xa1 : Int) (ba2 : Bool) (w : World) (Q : Ending → World → Prop) : Prop :=
  drW w fun w1 =>
  ∃ S2 : World → Prop, S2 w1 ∧ (
  hdP S2 aa0 fun p3 =>
  hdM S2 (aa0.add 1) fun m4 =>
  Runs Try.prog (Instr.lookup 68 (.map m4) (.int .i64 xa1) false) w1 fun v6 w5 => ∃ (x7 : Int), v6 = (.int .i64 x7) ∧ (
  S2 w5 ∧ (
  Calls Try.prog 60 #[.pointer p3, .int .i64 x7] w5 fun e8 w9 => ∃ (A10_0 : Option Addr) (n10_0 : Nat) (c10_0 : Nat) (x10_1 : Int), e8 = .returned (.tuple #[.slice A10_0 n10_0 c10_0, .int .i64 x10_1]) ∧ (
  sel (x10_1 != (0 : Int)) (
  Q (.returned (.tuple #[.slice none 0 0, .int .i64 (51 : Int)])) w9) (
  ∃ k35 : Nat, l0 k35 aa0 ba2 none 0 0 A10_0 n10_0 c10_0 (n10_0 : Int) (0 : Int) w9 (fun (A28 : Option Addr) (n28 : Nat) (c28 : Nat) (w29 : World) => ∀ _ : Fr,
  Calls Try.prog 61 #[.slice A28 n28 c28] w29 fun e30 w31 => e30 = .returned (.tuple #[]) ∧ (
  Calls Try.prog 62 #[.slice A28 n28 c28] w31 fun e32 w33 => ∃ (A34 : Option Addr) (n34 : Nat) (c34 : Nat), e32 = .returned (.slice A34 n34 c34) ∧ (
  Q (.returned (.tuple #[.slice A34 n34 c34, .int .i64 (0 : Int)])) w33))))))))
def D : Nat → Option DH := dtab [(1, .held [.fst 0, .fst 1, .fst 2, .fst 3, .fst 4, .fst 5, .fst 6, .fst 7, .fst 8, .eff 9] [.eff 10, .fst 11, .fst 12, .fst 13, .fst 14, .fst 15])]
def l0LO : LO := ⟨[], [], [(0, [10])], []⟩
def l0Tk (k : Nat) : Spec := fun Q σ w =>
  gAd (σ 0) fun at0 =>
  gBool (σ 2) fun bt2 =>
  gSlice (σ 10) fun At10 nt10 ct10 =>
  gSlice (σ 30) fun At30 nt30 ct30 =>
  gInt .i64 (σ 31) fun xt31 =>
  gInt .i64 (σ 32) fun xt32 =>
  l0 k at0 bt2 At10 nt10 ct10 At30 nt30 ct30 xt31 xt32 w (fun (Aq10 : Option Addr) (nq10 : Nat) (cq10 : Nat) (w : World) => ∀ d : Fr, Q (.exit 0) (ov d [(10, .slice Aq10 nq10 cq10)]) w)
def l0T : Spec := fun Q σ w => ∃ k, l0Tk k Q σ w
def l0tb : List (List Nat × Spec) := []
noncomputable def l0b : Code := (subC [0, 0, 1, 0, 1, 1, 1, 1] body).getD .skip
theorem l0_eq (k : Nat) (at0 : Addr) (bt2 : Bool) (At10 : Option Addr) (nt10 : Nat) (ct10 : Nat) (At30 : Option Addr) (nt30 : Nat) (ct30 : Nat) (xt31 : Int) (xt32 : Int) (Q : PQ) (σ : Fr) (w : World) :
    l0 (k + 1) at0 bt2 At10 nt10 ct10 At30 nt30 ct30 xt31 xt32 w (fun (Aq10 : Option Addr) (nq10 : Nat) (cq10 : Nat) (w : World) => ∀ d : Fr, Q (.exit 0) (ov d [(10, .slice Aq10 nq10 cq10)]) w) = codeW Try.prog hT 56 D (tab l0tb) [0, 0, 1, 0, 1, 1, 1, 1] l0b (thenQ (l0Tk k Q) (widen l0LO Q)) (ov σ [(0, .pointer (some at0)), (2, .bool bt2), (10, .slice At10 nt10 ct10), (30, .slice At30 nt30 ct30), (31, .int .i64 xt31), (32, .int .i64 xt32)]) w := by cases bt2 <;> kernel_rfl
theorem l0_snd : ∀ c, subC [0, 1, 0, 1, 1, 1, 1] body = some c → Snd Try.prog 56 c l0T := by
  refine loop_of (hT := hT) (D := D) (l := l0tb) (b := l0b) (lo := l0LO) (by kernel_rfl) (by
    intro x hx
    simp only [l0tb, List.not_mem_nil] at hx
    ) (by kernel_rfl) (by kernel_rfl) ?_ ?_
  · intro Q σ w h
    unfold l0Tk at h
    obtain ⟨at0, h0, hn⟩ := gAd_elim h
    clear h
    have h := hn
    clear hn
    obtain ⟨bt2, h2, hn⟩ := gBool_elim h
    clear h
    have h := hn
    clear hn
    obtain ⟨At10, nt10, ct10, h10, hn⟩ := gSlice_elim h
    clear h
    have h := hn
    clear hn
    obtain ⟨At30, nt30, ct30, h30, hn⟩ := gSlice_elim h
    clear h
    have h := hn
    clear hn
    obtain ⟨xt31, h31, hn⟩ := gInt_elim h
    clear h
    have h := hn
    clear hn
    obtain ⟨xt32, h32, hn⟩ := gInt_elim h
    clear h
    have h := hn
    clear hn
    exact h
  · intro k Q σ w h
    unfold l0Tk at h
    obtain ⟨at0, h0, hn⟩ := gAd_elim h
    clear h
    have h := hn
    clear hn
    obtain ⟨bt2, h2, hn⟩ := gBool_elim h
    clear h
    have h := hn
    clear hn
    obtain ⟨At10, nt10, ct10, h10, hn⟩ := gSlice_elim h
    clear h
    have h := hn
    clear hn
    obtain ⟨At30, nt30, ct30, h30, hn⟩ := gSlice_elim h
    clear h
    have h := hn
    clear hn
    obtain ⟨xt31, h31, hn⟩ := gInt_elim h
    clear h
    have h := hn
    clear hn
    obtain ⟨xt32, h32, hn⟩ := gInt_elim h
    clear h
    have h := hn
    clear hn
    rw [l0_eq (σ := σ)] at h
    have e : (ov σ [(0, .pointer (some at0)), (2, .bool bt2), (10, .slice At10 nt10 ct10), (30, .slice At30 nt30 ct30), (31, .int .i64 xt31), (32, .int .i64 xt32)]) = σ := ov_self (by simp [h0, h2, h10, h30, h31, h32])
    rw [e] at h
    exact h
def tb : List (List Nat × Spec) := [([0, 1, 0, 1, 1, 1, 1], l0T)]
theorem wp_eq (aa0 : Addr) (xa1 : Int) (ba2 : Bool) (w : World) (Q : Ending → World → Prop) :
    wp aa0 xa1 ba2 w Q = codeW Try.prog hT 56 D (tab tb) [] body (topQ Try.prog hT 56 [.tmp 6, .tmp 7] Q) (argsF [.pointer (some aa0), .int .i64 xa1, .bool ba2]) w := by cases ba2 <;> kernel_rfl
theorem ok (aa0 : Addr) (xa1 : Int) (ba2 : Bool) (w : World) (Q : Ending → World → Prop) (h : wp aa0 xa1 ba2 w Q) : Calls Try.prog 36 #[.pointer (some aa0), .int .i64 xa1, .bool ba2] w Q := by
  rw [wp_eq] at h
  exact calls_of_codeW (c := body) (rs := [.tmp 6, .tmp 7]) Try.func36 (by kernel_rfl) (by kernel_rfl) (by kernel_rfl) (by kernel_rfl) (by kernel_rfl) (tab_snd (by
    intro x hx
    simp only [tb, List.mem_cons, List.not_mem_nil, or_false] at hx
    subst hx
    exact l0_snd)) (by kernel_rfl) h
end f_euler_Forest_list
namespace f_euler_badId
/-! skein/euler.badId: function 37 -/
noncomputable def body : Code := (Try.f37.body).getD .skip
def wp (Aa0 : Option Addr) (na0 : Nat) (ca0 : Nat) (w : World) (Q : Ending → World → Prop) : Prop :=
  Calls Try.prog 63 #[.slice Aa0 na0 ca0, .func (.func 64) #[] #[]] w fun e1 w2 => ∃ (b3 : Bool), e1 = .returned (.bool b3) ∧ (
  Q (.returned (.bool b3)) w2)
def D : Nat → Option DH := dtab []
def tb : List (List Nat × Spec) := []
theorem wp_eq (Aa0 : Option Addr) (na0 : Nat) (ca0 : Nat) (w : World) (Q : Ending → World → Prop) :
    wp Aa0 na0 ca0 w Q = codeW Try.prog hT 5 D (tab tb) [] body (topQ Try.prog hT 5 [.tmp 2] Q) (argsF [.slice Aa0 na0 ca0]) w := by kernel_rfl
theorem ok (Aa0 : Option Addr) (na0 : Nat) (ca0 : Nat) (w : World) (Q : Ending → World → Prop) (h : wp Aa0 na0 ca0 w Q) : Calls Try.prog 37 #[.slice Aa0 na0 ca0] w Q := by
  rw [wp_eq] at h
  exact calls_of_codeW (c := body) (rs := [.tmp 2]) Try.func37 (by kernel_rfl) (by kernel_rfl) (by kernel_rfl) (by kernel_rfl) (by kernel_rfl) (tab_snd (by
    intro x hx
    simp only [tb, List.not_mem_nil] at hx
    )) (by kernel_rfl) h
end f_euler_badId
namespace f_euler_Forest_make
/-! (*skein/euler.Forest).make: function 39 -/
noncomputable def body : Code := (Try.f39.body).getD .skip
def j0 (at0 : Addr) (at4 : Addr) (xt7 : Int) (w : World) (Kr : Int → World → Prop) : Prop :=
  drW w fun w22 =>
  ldM w22 (at0.add 3) fun m24 =>
  ldB w22 at4 fun b25 =>
  ldI w22 (at4.add 1) .i64 fun x26 =>
  Runs Try.prog (Instr.mapUpdate 70 (.map m24) (.int .i64 xt7) (.agg #[.bool b25, .int .i64 x26])) w22 fun _ w27 =>
  Kr xt7 w27
def wp (aa0 : Addr) (ba1_0 : Bool) (xa1_1 : Int) (xa2_0 : Int) (xa2_1 : Int) (xa2_2 : Int) (w : World) (Q : Ending → World → Prop) : Prop :=
  alW w (.cells #[.bool ba1_0, .int .i64 xa1_1] 77) fun B1 w2 =>
  alW w2 (.cells #[.int .i64 xa2_0, .int .i64 xa2_1, .int .i64 xa2_2] 74) fun B3 w4 =>
  ldS w4 (aa0.add 4) fun A5 n5 c5 =>
  sel (decide ((n5 : Int) > (0 : Int))) (
  drW w4 fun w6 =>
  ldS w6 (aa0.add 4) fun A8 n8 c8 =>
  optB A8 fun a9 =>
  req (decide (0 ≤ (IntKind.i64.wrap ((n5 : Int) - (1 : Int))) ∧ (IntKind.i64.wrap ((n5 : Int) - (1 : Int))) < (n8 : Int))) <|
  ldI w6 (a9.add ((IntKind.i64.wrap ((n5 : Int) - (1 : Int))).toNat * 1)) .i64 fun x10 =>
  ldS w6 (aa0.add 4) fun A11 n11 c11 =>
  req (decide (0 ≤ (IntKind.i64.wrap ((n5 : Int) - (1 : Int))) ∧ (IntKind.i64.wrap ((n5 : Int) - (1 : Int))) ≤ (c11 : Int))) <|
  stW w6 (aa0.add 4) (.slice (slA A11 0 c11 1) ((IntKind.i64.wrap ((n5 : Int) - (1 : Int))).toNat - 0) (c11 - 0)) fun w12 =>
  drW w12 fun w13 =>
  ldP w13 aa0 fun p15 =>
  ldI w13 (⟨B3, 0, Option.none⟩ : Addr) .i64 fun x16 =>
  ldI w13 ((⟨B3, 0, Option.none⟩ : Addr).add 1) .i64 fun x17 =>
  ldI w13 ((⟨B3, 0, Option.none⟩ : Addr).add 2) .i64 fun x18 =>
  Calls Try.prog 55 #[.pointer p15, .int .i64 x10, .agg #[.int .i64 x16, .int .i64 x17, .int .i64 x18]] w13 fun e19 w20 => ∃ (x21 : Int), e19 = .returned (.int .i64 x21) ∧ (
  j0 aa0 (⟨B1, 0, Option.none⟩ : Addr) x10 w20 (fun (x28 : Int) (w29 : World) => ∀ _ : Fr,
  Q (.returned (.int .i64 x28)) w29))) (
  drW w4 fun w30 =>
  ldP w30 aa0 fun p32 =>
  ldI w30 (⟨B3, 0, Option.none⟩ : Addr) .i64 fun x33 =>
  ldI w30 ((⟨B3, 0, Option.none⟩ : Addr).add 1) .i64 fun x34 =>
  ldI w30 ((⟨B3, 0, Option.none⟩ : Addr).add 2) .i64 fun x35 =>
  Calls Try.prog 67 #[.pointer p32, .agg #[.int .i64 x33, .int .i64 x34, .int .i64 x35]] w30 fun e36 w37 => ∃ (x38_0 : Int) (x38_1 : Int), e36 = .returned (.tuple #[.int .i64 x38_0, .int .i64 x38_1]) ∧ (
  j0 aa0 (⟨B1, 0, Option.none⟩ : Addr) x38_0 w37 (fun (x39 : Int) (w40 : World) => ∀ _ : Fr,
  Q (.returned (.int .i64 x39)) w40)))
def D : Nat → Option DH := dtab [(4, .simple [.fst 0, .fst 1, .fst 2, .fst 3, .fst 4, .fst 5, .fst 6, .fst 7, .fst 8, .fst 9, .fst 10, .fst 11, .fst 12, .fst 13, .fst 14, .fst 15, .fst 16] [.fst 17, .fst 18, .eff 19]), (5, .simple [.fst 0, .fst 1, .fst 2, .fst 3, .fst 4, .fst 5] [.eff 6]), (6, .simple [.fst 0, .fst 1, .fst 2, .fst 3, .fst 4] [.eff 5, .fst 6, .fst 7, .fst 8, .fst 9]), (7, .simple [.fst 0, .fst 1, .fst 2, .fst 3, .fst 4, .fst 5] [.eff 6])]
def j0LO : LO := ⟨[], [6], [], []⟩
def j0T : Spec := fun Q σ w =>
  gAd (σ 0) fun at0 =>
  gAd (σ 4) fun at4 =>
  gInt .i64 (σ 7) fun xt7 =>
  j0 at0 at4 xt7 w (fun (xq6 : Int) (w : World) => ∀ d : Fr, Q .ret (ov d [(6, .int .i64 xq6)]) w)
def j0tb : List (List Nat × Spec) := []
noncomputable def j0b : Code := (subC [1, 1, 1] body).getD .skip
theorem j0_eq (at0 : Addr) (at4 : Addr) (xt7 : Int) (Q : PQ) (σ : Fr) (w : World) :
    j0 at0 at4 xt7 w (fun (xq6 : Int) (w : World) => ∀ d : Fr, Q .ret (ov d [(6, .int .i64 xq6)]) w) = codeW Try.prog hT 57 D (tab j0tb) [1, 1, 1] j0b (widen j0LO Q) (ov σ [(0, .pointer (some at0)), (4, .pointer (some at4)), (7, .int .i64 xt7)]) w := by kernel_rfl
theorem j0_snd : ∀ c, subC [1, 1, 1] body = some c → Snd Try.prog 57 c j0T := by
  refine cut_of (hT := hT) (D := D) (l := j0tb) (b := j0b) (lo := j0LO) (by kernel_rfl) (by
    intro x hx
    simp only [j0tb, List.not_mem_nil] at hx
    ) (by kernel_rfl) (by kernel_rfl) ?_
  intro Q σ w h
  unfold j0T at h
  obtain ⟨at0, h0, hn⟩ := gAd_elim h
  clear h
  have h := hn
  clear hn
  obtain ⟨at4, h4, hn⟩ := gAd_elim h
  clear h
  have h := hn
  clear hn
  obtain ⟨xt7, h7, hn⟩ := gInt_elim h
  clear h
  have h := hn
  clear hn
  rw [j0_eq (σ := σ)] at h
  have e : (ov σ [(0, .pointer (some at0)), (4, .pointer (some at4)), (7, .int .i64 xt7)]) = σ := ov_self (by simp [h0, h4, h7])
  rw [e] at h
  exact h
def tb : List (List Nat × Spec) := [([1, 1, 1], j0T)]
theorem wp_eq (aa0 : Addr) (ba1_0 : Bool) (xa1_1 : Int) (xa2_0 : Int) (xa2_1 : Int) (xa2_2 : Int) (w : World) (Q : Ending → World → Prop) :
    wp aa0 ba1_0 xa1_1 xa2_0 xa2_1 xa2_2 w Q = codeW Try.prog hT 57 D (tab tb) [] body (topQ Try.prog hT 57 [.tmp 6] Q) (argsF [.pointer (some aa0), .agg #[.bool ba1_0, .int .i64 xa1_1], .agg #[.int .i64 xa2_0, .int .i64 xa2_1, .int .i64 xa2_2]]) w := by cases ba1_0 <;> kernel_rfl
theorem ok (aa0 : Addr) (ba1_0 : Bool) (xa1_1 : Int) (xa2_0 : Int) (xa2_1 : Int) (xa2_2 : Int) (w : World) (Q : Ending → World → Prop) (h : wp aa0 ba1_0 xa1_1 xa2_0 xa2_1 xa2_2 w Q) : Calls Try.prog 39 #[.pointer (some aa0), .agg #[.bool ba1_0, .int .i64 xa1_1], .agg #[.int .i64 xa2_0, .int .i64 xa2_1, .int .i64 xa2_2]] w Q := by
  rw [wp_eq] at h
  exact calls_of_codeW (c := body) (rs := [.tmp 6]) Try.func39 (by kernel_rfl) (by kernel_rfl) (by kernel_rfl) (by kernel_rfl) (by kernel_rfl) (tab_snd (by
    intro x hx
    simp only [tb, List.mem_cons, List.not_mem_nil, or_false] at hx
    subst hx
    exact j0_snd)) (by kernel_rfl) h
end f_euler_Forest_make
namespace f_euler_Forest_turn
/-! (*skein/euler.Forest).turn: function 40 -/
noncomputable def body : Code := (Try.f40.body).getD .skip
def wp (aa0 : Addr) (xa1 : Int) (w : World) (Q : Ending → World → Prop) : Prop :=
  ldP w aa0 fun p1 =>
  Calls Try.prog 68 #[.pointer p1, .int .i64 xa1, .int .i64 (0 : Int)] w fun e2 w3 => ∃ (x4_0 : Int) (x4_1 : Int), e2 = .returned (.tuple #[.int .i64 x4_0, .int .i64 x4_1]) ∧ (
  sel (x4_0 == xa1) (
  Q (.returned (.tuple #[])) w3) (
  ldP w3 aa0 fun p5 =>
  Calls Try.prog 42 #[.pointer p5, .int .i64 xa1] w3 fun e6 w7 => ∃ (x8 : Int), e6 = .returned (.int .i64 x8) ∧ (
  ldP w7 aa0 fun p9 =>
  Calls Try.prog 41 #[.pointer p9, .int .i64 xa1, .int .i64 x4_0] w7 fun e10 w11 => ∃ (x12 : Int), e10 = .returned (.int .i64 x12) ∧ (
  Q (.returned (.tuple #[])) w11))))
def D : Nat → Option DH := dtab []
def tb : List (List Nat × Spec) := []
theorem wp_eq (aa0 : Addr) (xa1 : Int) (w : World) (Q : Ending → World → Prop) :
    wp aa0 xa1 w Q = codeW Try.prog hT 31 D (tab tb) [] body (topQ Try.prog hT 31 [] Q) (argsF [.pointer (some aa0), .int .i64 xa1]) w := by kernel_rfl
theorem ok (aa0 : Addr) (xa1 : Int) (w : World) (Q : Ending → World → Prop) (h : wp aa0 xa1 w Q) : Calls Try.prog 40 #[.pointer (some aa0), .int .i64 xa1] w Q := by
  rw [wp_eq] at h
  exact calls_of_codeW (c := body) (rs := []) Try.func40 (by kernel_rfl) (by kernel_rfl) (by kernel_rfl) (by kernel_rfl) (by kernel_rfl) (tab_snd (by
    intro x hx
    simp only [tb, List.not_mem_nil] at hx
    )) (by kernel_rfl) h
end f_euler_Forest_turn
namespace f_euler_Forest_alone
/-! (*skein/euler.Forest).alone: function 43 -/
noncomputable def body : Code := (Try.f43.body).getD .skip
def wp (aa0 : Addr) (xa1 : Int) (w : World) (Q : Ending → World → Prop) : Prop :=
  ldP w aa0 fun p1 =>
  Calls Try.prog 68 #[.pointer p1, .int .i64 xa1, .int .i64 (1 : Int)] w fun e2 w3 => ∃ (x4_0 : Int) (x4_1 : Int), e2 = .returned (.tuple #[.int .i64 x4_0, .int .i64 x4_1]) ∧ (
  sel (x4_1 == (0 : Int)) (
  ldP w3 aa0 fun p5 =>
  Calls Try.prog 42 #[.pointer p5, .int .i64 x4_0] w3 fun e6 w7 => ∃ (x8 : Int), e6 = .returned (.int .i64 x8) ∧ (
  Q (.returned (.tuple #[])) w7)) (
  Q (.returned (.tuple #[])) w3))
def D : Nat → Option DH := dtab []
def tb : List (List Nat × Spec) := []
theorem wp_eq (aa0 : Addr) (xa1 : Int) (w : World) (Q : Ending → World → Prop) :
    wp aa0 xa1 w Q = codeW Try.prog hT 23 D (tab tb) [] body (topQ Try.prog hT 23 [] Q) (argsF [.pointer (some aa0), .int .i64 xa1]) w := by kernel_rfl
theorem ok (aa0 : Addr) (xa1 : Int) (w : World) (Q : Ending → World → Prop) (h : wp aa0 xa1 w Q) : Calls Try.prog 43 #[.pointer (some aa0), .int .i64 xa1] w Q := by
  rw [wp_eq] at h
  exact calls_of_codeW (c := body) (rs := []) Try.func43 (by kernel_rfl) (by kernel_rfl) (by kernel_rfl) (by kernel_rfl) (by kernel_rfl) (tab_snd (by
    intro x hx
    simp only [tb, List.not_mem_nil] at hx
    )) (by kernel_rfl) h
end f_euler_Forest_alone
namespace f_euler_Forest_drop
/-! (*skein/euler.Forest).drop: function 44 -/
noncomputable def body : Code := (Try.f44.body).getD .skip
def wp (aa0 : Addr) (xa1 : Int) (w : World) (Q : Ending → World → Prop) : Prop :=
  ldM w (aa0.add 3) fun m1 =>
  Runs Try.prog (Builtin.delete_ #[70, 3] 0 #[.map m1, .int .i64 xa1]) w fun v3 w2 => v3 = (.tuple #[]) ∧ (
  ldS w2 (aa0.add 4) fun A4 n4 c4 =>
  alW w2 (.cells #[.int .i64 xa1] 3) fun B5 w6 =>
  Runs Try.prog (Builtin.append_ #[22, 22] 22 #[.slice A4 n4 c4, .slice (some (⟨B5, 0, Option.none⟩ : Addr)) 1 1]) w6 fun v8 w7 => ∃ (A9 : Option Addr) (n9 : Nat) (c9 : Nat), v8 = (.slice A9 n9 c9) ∧ (
  stW w7 (aa0.add 4) (.slice A9 n9 c9) fun w10 =>
  Q (.returned (.tuple #[])) w10))
def D : Nat → Option DH := dtab []
def tb : List (List Nat × Spec) := []
theorem wp_eq (aa0 : Addr) (xa1 : Int) (w : World) (Q : Ending → World → Prop) :
    wp aa0 xa1 w Q = codeW Try.prog hT 19 D (tab tb) [] body (topQ Try.prog hT 19 [] Q) (argsF [.pointer (some aa0), .int .i64 xa1]) w := by kernel_rfl
theorem ok (aa0 : Addr) (xa1 : Int) (w : World) (Q : Ending → World → Prop) (h : wp aa0 xa1 w Q) : Calls Try.prog 44 #[.pointer (some aa0), .int .i64 xa1] w Q := by
  rw [wp_eq] at h
  exact calls_of_codeW (c := body) (rs := []) Try.func44 (by kernel_rfl) (by kernel_rfl) (by kernel_rfl) (by kernel_rfl) (by kernel_rfl) (tab_snd (by
    intro x hx
    simp only [tb, List.not_mem_nil] at hx
    )) (by kernel_rfl) h
end f_euler_Forest_drop
namespace f_euler_Forest_DelV
/-! (*skein/euler.Forest).DelV: function 48 -/
noncomputable def body : Code := (Try.f48.body).getD .skip
def wp (aa0 : Addr) (xa1 : Int) (w : World) (Q : Ending → World → Prop) : Prop :=
  ldM w (aa0.add 1) fun m1 =>
  Runs Try.prog (Instr.lookup 68 (.map m1) (.int .i64 xa1) false) w fun v3 w2 => ∃ (x4 : Int), v3 = (.int .i64 x4) ∧ (
  alW w2 (.cells #[.int .i64 xa1] 3) fun B5 w6 =>
  Calls Try.prog 37 #[.slice (some (⟨B5, 0, Option.none⟩ : Addr)) 1 1] w6 fun e7 w8 => ∃ (b9 : Bool), e7 = .returned (.bool b9) ∧ (
  sel b9 (
  Q (.returned (.int .i64 (1 : Int))) w8) (
  sel (x4 == (0 : Int)) (
  Q (.returned (.int .i64 (51 : Int))) w8) (
  ldP w8 aa0 fun p10 =>
  Calls Try.prog 73 #[.pointer p10, .int .i64 x4] w8 fun e11 w12 => ∃ (x13_0 : Int) (x13_1 : Int), e11 = .returned (.tuple #[.int .i64 x13_0, .int .i64 x13_1]) ∧ (
  sel (decide (x13_0 > (1 : Int))) (
  Q (.returned (.int .i64 (52 : Int))) w12) (
  Calls Try.prog 44 #[.pointer (some aa0), .int .i64 x4] w12 fun e14 w15 => e14 = .returned (.tuple #[]) ∧ (
  ldM w15 (aa0.add 1) fun m16 =>
  Runs Try.prog (Builtin.delete_ #[68, 3] 0 #[.map m16, .int .i64 xa1]) w15 fun v18 w17 => v18 = (.tuple #[]) ∧ (
  Q (.returned (.int .i64 (0 : Int))) w17))))))))
def D : Nat → Option DH := dtab []
def tb : List (List Nat × Spec) := []
theorem wp_eq (aa0 : Addr) (xa1 : Int) (w : World) (Q : Ending → World → Prop) :
    wp aa0 xa1 w Q = codeW Try.prog hT 40 D (tab tb) [] body (topQ Try.prog hT 40 [.tmp 4] Q) (argsF [.pointer (some aa0), .int .i64 xa1]) w := by kernel_rfl
theorem ok (aa0 : Addr) (xa1 : Int) (w : World) (Q : Ending → World → Prop) (h : wp aa0 xa1 w Q) : Calls Try.prog 48 #[.pointer (some aa0), .int .i64 xa1] w Q := by
  rw [wp_eq] at h
  exact calls_of_codeW (c := body) (rs := [.tmp 4]) Try.func48 (by kernel_rfl) (by kernel_rfl) (by kernel_rfl) (by kernel_rfl) (by kernel_rfl) (tab_snd (by
    intro x hx
    simp only [tb, List.not_mem_nil] at hx
    )) (by kernel_rfl) h
end f_euler_Forest_DelV
namespace f_euler_Forest_some_E
/-! (*skein/euler.Forest).some: function 57 -/
noncomputable def body : Code := (Try.f57.body).getD .skip
def wp (aa0 : Addr) (xa1 : Int) (w : World) (Q : Ending → World → Prop) : Prop :=
  drW w fun w1 =>
  ∃ S2 : World → Prop, S2 w1 ∧ (
  hdP S2 aa0 fun p3 =>
  hdM S2 (aa0.add 1) fun m4 =>
  Runs Try.prog (Instr.lookup 68 (.map m4) (.int .i64 xa1) false) w1 fun v6 w5 => ∃ (x7 : Int), v6 = (.int .i64 x7) ∧ (
  S2 w5 ∧ (
  Calls Try.prog 76 #[.pointer p3, .int .i64 x7, .func (.func 58) #[] #[]] w5 fun e8 w9 => ∃ (x10_0 : Int) (x10_1 : Int), e8 = .returned (.tuple #[.int .i64 x10_0, .int .i64 x10_1]) ∧ (
  sel (x10_1 != (0 : Int)) (
  Q (.returned (.tuple #[.int .i64 (0 : Int), .int .i64 (51 : Int)])) w9) (
  ldM w9 (aa0.add 3) fun m11 =>
  Runs Try.prog (Instr.lookup 70 (.map m11) (.int .i64 x10_0) false) w9 fun v13 w12 => ∃ (b14_0 : Bool) (x14_1 : Int), v13 = (.agg #[.bool b14_0, .int .i64 x14_1]) ∧ (
  Q (.returned (.tuple #[.int .i64 x14_1, .int .i64 (0 : Int)])) w12))))))
def D : Nat → Option DH := dtab [(1, .held [.fst 0, .fst 1, .fst 2, .fst 3, .fst 4, .fst 5, .fst 6, .fst 7, .fst 8, .fst 10, .eff 9] [.eff 11, .fst 12, .fst 13, .fst 14, .fst 15, .fst 16])]
def tb : List (List Nat × Spec) := []
theorem wp_eq (aa0 : Addr) (xa1 : Int) (w : World) (Q : Ending → World → Prop) :
    wp aa0 xa1 w Q = codeW Try.prog hT 34 D (tab tb) [] body (topQ Try.prog hT 34 [.tmp 6, .tmp 7] Q) (argsF [.pointer (some aa0), .int .i64 xa1, .func (.func 58) #[] #[]]) w := by kernel_rfl
theorem ok (aa0 : Addr) (xa1 : Int) (w : World) (Q : Ending → World → Prop) (h : wp aa0 xa1 w Q) : Calls Try.prog 57 #[.pointer (some aa0), .int .i64 xa1, .func (.func 58) #[] #[]] w Q := by
  rw [wp_eq] at h
  exact calls_of_codeW (c := body) (rs := [.tmp 6, .tmp 7]) Try.func57 (by kernel_rfl) (by kernel_rfl) (by kernel_rfl) (by kernel_rfl) (by kernel_rfl) (tab_snd (by
    intro x hx
    simp only [tb, List.not_mem_nil] at hx
    )) (by kernel_rfl) h
end f_euler_Forest_some_E
namespace f_euler_Forest_some_V
/-! (*skein/euler.Forest).some: function 57 -/
noncomputable def body : Code := (Try.f57.body).getD .skip
def wp (aa0 : Addr) (xa1 : Int) (w : World) (Q : Ending → World → Prop) : Prop :=
  drW w fun w1 =>
  ∃ S2 : World → Prop, S2 w1 ∧ (
  hdP S2 aa0 fun p3 =>
  hdM S2 (aa0.add 1) fun m4 =>
  Runs Try.prog (Instr.lookup 68 (.map m4) (.int .i64 xa1) false) w1 fun v6 w5 => ∃ (x7 : Int), v6 = (.int .i64 x7) ∧ (
  S2 w5 ∧ (
  Calls Try.prog 76 #[.pointer p3, .int .i64 x7, .func (.func 59) #[] #[]] w5 fun e8 w9 => ∃ (x10_0 : Int) (x10_1 : Int), e8 = .returned (.tuple #[.int .i64 x10_0, .int .i64 x10_1]) ∧ (
  sel (x10_1 != (0 : Int)) (
  Q (.returned (.tuple #[.int .i64 (0 : Int), .int .i64 (51 : Int)])) w9) (
  ldM w9 (aa0.add 3) fun m11 =>
  Runs Try.prog (Instr.lookup 70 (.map m11) (.int .i64 x10_0) false) w9 fun v13 w12 => ∃ (b14_0 : Bool) (x14_1 : Int), v13 = (.agg #[.bool b14_0, .int .i64 x14_1]) ∧ (
  Q (.returned (.tuple #[.int .i64 x14_1, .int .i64 (0 : Int)])) w12))))))
def D : Nat → Option DH := dtab [(1, .held [.fst 0, .fst 1, .fst 2, .fst 3, .fst 4, .fst 5, .fst 6, .fst 7, .fst 8, .fst 10, .eff 9] [.eff 11, .fst 12, .fst 13, .fst 14, .fst 15, .fst 16])]
def tb : List (List Nat × Spec) := []
theorem wp_eq (aa0 : Addr) (xa1 : Int) (w : World) (Q : Ending → World → Prop) :
    wp aa0 xa1 w Q = codeW Try.prog hT 34 D (tab tb) [] body (topQ Try.prog hT 34 [.tmp 6, .tmp 7] Q) (argsF [.pointer (some aa0), .int .i64 xa1, .func (.func 59) #[] #[]]) w := by kernel_rfl
theorem ok (aa0 : Addr) (xa1 : Int) (w : World) (Q : Ending → World → Prop) (h : wp aa0 xa1 w Q) : Calls Try.prog 57 #[.pointer (some aa0), .int .i64 xa1, .func (.func 59) #[] #[]] w Q := by
  rw [wp_eq] at h
  exact calls_of_codeW (c := body) (rs := [.tmp 6, .tmp 7]) Try.func57 (by kernel_rfl) (by kernel_rfl) (by kernel_rfl) (by kernel_rfl) (by kernel_rfl) (tab_snd (by
    intro x hx
    simp only [tb, List.not_mem_nil] at hx
    )) (by kernel_rfl) h
end f_euler_Forest_some_V
namespace f_law16_filled
/-! skein/skeinlaw16.filled: function 8 -/
noncomputable def body : Code := (Try.f8.body).getD .skip
def l0 : Nat → Option Addr → Nat → Nat → Option Addr → Int → World → (World → Prop) → Prop
  | 0, _, _, _, _, _, _, _ => False
  | k + 1, At1, nt1, ct1, pt5, xt6, w, K0 =>
    sel (!pt5.isNone) (
    sel (decide (xt6 < (nt1 : Int))) (
    optB At1 fun a4 =>
    req (decide (0 ≤ xt6 ∧ xt6 < (nt1 : Int))) <|
    ldI w (a4.add (xt6.toNat * 5)) .i64 fun x5 =>
    ldI w ((a4.add (xt6.toNat * 5)).add 1) .i64 fun x6 =>
    ldI w ((a4.add (xt6.toNat * 5)).add 2) .i64 fun x7 =>
    ldI w ((a4.add (xt6.toNat * 5)).add 3) .i64 fun x8 =>
    ldB w ((a4.add (xt6.toNat * 5)).add 4) fun b9 =>
    Calls Try.prog 26 #[.pointer pt5, .agg #[.slice none 0 0, .slice none 0 0, .slice none 0 0, .slice none 0 0], .agg #[.int .i64 x5, .int .i64 x6, .int .i64 x7, .int .i64 x8, .bool b9]] w fun e10 w11 => ∃ (A12_0_0 : Option Addr) (n12_0_0 : Nat) (c12_0_0 : Nat) (A12_0_1 : Option Addr) (n12_0_1 : Nat) (c12_0_1 : Nat) (A12_0_2 : Option Addr) (n12_0_2 : Nat) (c12_0_2 : Nat) (A12_0_3 : Option Addr) (n12_0_3 : Nat) (c12_0_3 : Nat) (b12_1 : Bool), e10 = .returned (.tuple #[.agg #[.slice A12_0_0 n12_0_0 c12_0_0, .slice A12_0_1 n12_0_1 c12_0_1, .slice A12_0_2 n12_0_2 c12_0_2, .slice A12_0_3 n12_0_3 c12_0_3], .bool b12_1]) ∧ (
    l0 k At1 nt1 ct1 pt5 (IntKind.i64.wrap (xt6 + (1 : Int))) w11 K0)) (
    K0  w)) (
    K0  w)
def wp (Aa0 : Option Addr) (na0 : Nat) (ca0 : Nat) (Aa1 : Option Addr) (na1 : Nat) (ca1 : Nat) (w : World) (Q : Ending → World → Prop) : Prop :=
  Calls Try.prog 19 #[.slice Aa0 na0 ca0] w fun e1 w2 => ∃ (p3 : Option Addr), e1 = .returned (.pointer p3) ∧ (
  ∃ k14 : Nat, l0 k14 Aa1 na1 ca1 p3 (0 : Int) w2 (fun (w13 : World) => ∀ _ : Fr,
  Q (.returned (.pointer p3)) w13))
def D : Nat → Option DH := dtab []
def l0LO : LO := ⟨[], [], [(0, [5])], []⟩
def l0Tk (k : Nat) : Spec := fun Q σ w =>
  gSlice (σ 1) fun At1 nt1 ct1 =>
  gPtr (σ 5) fun pt5 =>
  gInt .i64 (σ 6) fun xt6 =>
  l0 k At1 nt1 ct1 pt5 xt6 w (fun (w : World) => ∀ d : Fr, Q (.exit 0) (ov d [(5, .pointer pt5)]) w)
def l0T : Spec := fun Q σ w => ∃ k, l0Tk k Q σ w
def l0tb : List (List Nat × Spec) := []
noncomputable def l0b : Code := (subC [0, 0, 1, 0, 1, 1] body).getD .skip
theorem l0_eq (k : Nat) (At1 : Option Addr) (nt1 : Nat) (ct1 : Nat) (pt5 : Option Addr) (xt6 : Int) (Q : PQ) (σ : Fr) (w : World) :
    l0 (k + 1) At1 nt1 ct1 pt5 xt6 w (fun (w : World) => ∀ d : Fr, Q (.exit 0) (ov d [(5, .pointer pt5)]) w) = codeW Try.prog hT 27 D (tab l0tb) [0, 0, 1, 0, 1, 1] l0b (thenQ (l0Tk k Q) (widen l0LO Q)) (ov σ [(1, .slice At1 nt1 ct1), (5, .pointer pt5), (6, .int .i64 xt6)]) w := by kernel_rfl
theorem l0_snd : ∀ c, subC [0, 1, 0, 1, 1] body = some c → Snd Try.prog 27 c l0T := by
  refine loop_of (hT := hT) (D := D) (l := l0tb) (b := l0b) (lo := l0LO) (by kernel_rfl) (by
    intro x hx
    simp only [l0tb, List.not_mem_nil] at hx
    ) (by kernel_rfl) (by kernel_rfl) ?_ ?_
  · intro Q σ w h
    unfold l0Tk at h
    obtain ⟨At1, nt1, ct1, h1, hn⟩ := gSlice_elim h
    clear h
    have h := hn
    clear hn
    obtain ⟨pt5, h5, hn⟩ := gPtr_elim h
    clear h
    have h := hn
    clear hn
    obtain ⟨xt6, h6, hn⟩ := gInt_elim h
    clear h
    have h := hn
    clear hn
    exact h
  · intro k Q σ w h
    unfold l0Tk at h
    obtain ⟨At1, nt1, ct1, h1, hn⟩ := gSlice_elim h
    clear h
    have h := hn
    clear hn
    obtain ⟨pt5, h5, hn⟩ := gPtr_elim h
    clear h
    have h := hn
    clear hn
    obtain ⟨xt6, h6, hn⟩ := gInt_elim h
    clear h
    have h := hn
    clear hn
    rw [l0_eq (σ := σ)] at h
    have e : (ov σ [(1, .slice At1 nt1 ct1), (5, .pointer pt5), (6, .int .i64 xt6)]) = σ := ov_self (by simp [h1, h5, h6])
    rw [e] at h
    exact h
def tb : List (List Nat × Spec) := [([0, 1, 0, 1, 1], l0T)]
theorem wp_eq (Aa0 : Option Addr) (na0 : Nat) (ca0 : Nat) (Aa1 : Option Addr) (na1 : Nat) (ca1 : Nat) (w : World) (Q : Ending → World → Prop) :
    wp Aa0 na0 ca0 Aa1 na1 ca1 w Q = codeW Try.prog hT 27 D (tab tb) [] body (topQ Try.prog hT 27 [.tmp 4] Q) (argsF [.slice Aa0 na0 ca0, .slice Aa1 na1 ca1]) w := by kernel_rfl
theorem ok (Aa0 : Option Addr) (na0 : Nat) (ca0 : Nat) (Aa1 : Option Addr) (na1 : Nat) (ca1 : Nat) (w : World) (Q : Ending → World → Prop) (h : wp Aa0 na0 ca0 Aa1 na1 ca1 w Q) : Calls Try.prog 8 #[.slice Aa0 na0 ca0, .slice Aa1 na1 ca1] w Q := by
  rw [wp_eq] at h
  exact calls_of_codeW (c := body) (rs := [.tmp 4]) Try.func8 (by kernel_rfl) (by kernel_rfl) (by kernel_rfl) (by kernel_rfl) (by kernel_rfl) (tab_snd (by
    intro x hx
    simp only [tb, List.mem_cons, List.not_mem_nil, or_false] at hx
    subst hx
    exact l0_snd)) (by kernel_rfl) h
end f_law16_filled
namespace f_law16_alive
/-! skein/skeinlaw16.alive: function 9 -/
noncomputable def body : Code := (Try.f9.body).getD .skip
def l0 : Nat → Option Addr → Int → World → (World → Prop) → (Bool → World → Prop) → Prop
  | 0, _, _, _, _, _ => False
  | k + 1, pt1, xt2, w, K0, Kr =>
    sel (decide (xt2 ≤ (4 : Int))) (
    Calls Try.prog 24 #[.pointer pt1, .int .i64 xt2] w fun e6 w7 => ∃ (x8 : Int), e6 = .returned (.int .i64 x8) ∧ (
    sel (x8 != (0 : Int)) (
    Kr false w7) (
    l0 k pt1 (IntKind.i64.wrap (xt2 + (1 : Int))) w7 K0 Kr))) (
    K0  w)
def wp  (w : World) (Q : Ending → World → Prop) : Prop :=
  alW w (.cells #[.int .i64 (5 : Int)] 3) fun B1 w2 =>
  Calls Try.prog 19 #[.slice (some (⟨B1, 0, Option.none⟩ : Addr)) 1 1] w2 fun e3 w4 => ∃ (p5 : Option Addr), e3 = .returned (.pointer p5) ∧ (
  sel p5.isNone (
  Q (.returned (.bool false)) w4) (
  ∃ k51 : Nat, l0 k51 p5 (1 : Int) w4 (fun (w9 : World) => ∀ _ : Fr,
  Calls Try.prog 12 #[.pointer p5, .int .i64 (7 : Int), .int .i64 (1 : Int), .int .i64 (2 : Int)] w9 fun e10 w11 => ∃ (x12 : Int), e10 = .returned (.int .i64 x12) ∧ (
  Calls Try.prog 12 #[.pointer p5, .int .i64 (8 : Int), .int .i64 (2 : Int), .int .i64 (3 : Int)] w11 fun e13 w14 => ∃ (x15 : Int), e13 = .returned (.int .i64 x15) ∧ (
  Calls Try.prog 12 #[.pointer p5, .int .i64 (9 : Int), .int .i64 (1 : Int), .int .i64 (3 : Int)] w14 fun e16 w17 => ∃ (x18 : Int), e16 = .returned (.int .i64 x18) ∧ (
  Calls Try.prog 10 #[.pointer p5, .int .i64 (3 : Int)] w17 fun e19 w20 => ∃ (A21_0 : Option Addr) (n21_0 : Nat) (c21_0 : Nat) (x21_1 : Int), e19 = .returned (.tuple #[.slice A21_0 n21_0 c21_0, .int .i64 x21_1]) ∧ (
  Calls Try.prog 11 #[.pointer p5, .int .i64 (1 : Int)] w20 fun e22 w23 => ∃ (A24_0 : Option Addr) (n24_0 : Nat) (c24_0 : Nat) (x24_1 : Int), e22 = .returned (.tuple #[.slice A24_0 n24_0 c24_0, .int .i64 x24_1]) ∧ (
  Calls Try.prog 34 #[.pointer p5, .int .i64 (2 : Int), .bool true] w23 fun e25 w26 => ∃ (x27 : Int), e25 = .returned (.int .i64 x27) ∧ (
  Calls Try.prog 33 #[.pointer p5, .int .i64 (1 : Int)] w26 fun e28 w29 => ∃ (x30_0 : Int) (x30_1 : Int), e28 = .returned (.tuple #[.int .i64 x30_0, .int .i64 x30_1]) ∧ (
  Calls Try.prog 17 #[.pointer p5, .int .i64 (7 : Int)] w29 fun e31 w32 => ∃ (x33 : Int), e31 = .returned (.int .i64 x33) ∧ (
  Calls Try.prog 10 #[.pointer p5, .int .i64 (3 : Int)] w32 fun e34 w35 => ∃ (A36_0 : Option Addr) (n36_0 : Nat) (c36_0 : Nat) (x36_1 : Int), e34 = .returned (.tuple #[.slice A36_0 n36_0 c36_0, .int .i64 x36_1]) ∧ (
  Calls Try.prog 29 #[.pointer p5, .int .i64 (4 : Int)] w35 fun e37 w38 => ∃ (x39_0 : Int) (x39_1 : Int), e37 = .returned (.tuple #[.int .i64 x39_0, .int .i64 x39_1]) ∧ (
  Calls Try.prog 30 #[.pointer p5, .int .i64 (2 : Int), .int .i64 (3 : Int)] w38 fun e40 w41 => ∃ (b42_0 : Bool) (x42_1 : Int), e40 = .returned (.tuple #[.bool b42_0, .int .i64 x42_1]) ∧ (
  sel (x12 == (0 : Int)) (
  sel (x15 == (0 : Int)) (
  sel (x18 == (151 : Int)) (
  sel ((n21_0 : Int) == (3 : Int)) (
  sel (x21_1 == (0 : Int)) (
  sel ((n24_0 : Int) == (2 : Int)) (
  sel (x24_1 == (0 : Int)) (
  sel (x27 == (0 : Int)) (
  sel (x30_0 == (2 : Int)) (
  sel (x30_1 == (0 : Int)) (
  sel (x33 == (0 : Int)) (
  sel ((n36_0 : Int) == (2 : Int)) (
  sel (x36_1 == (0 : Int)) (
  sel (x39_0 == (1 : Int)) (
  sel (x39_1 == (0 : Int)) (
  sel b42_0 (
  sel (x42_1 == (0 : Int)) (
  Calls Try.prog 18 #[.pointer p5, .int .i64 (8 : Int)] w41 fun e43 w44 => ∃ (b45 : Bool), e43 = .returned (.bool b45) ∧ (
  sel b45 (
  Calls Try.prog 25 #[.pointer p5] w44 fun e46 w47 => ∃ (x48 : Int), e46 = .returned (.int .i64 x48) ∧ (
  Q (.returned (.bool (x48 == (4 : Int)))) w47)) (
  Q (.returned (.bool false)) w44))) (
  Q (.returned (.bool false)) w41)) (
  Q (.returned (.bool false)) w41)) (
  Q (.returned (.bool false)) w41)) (
  Q (.returned (.bool false)) w41)) (
  Q (.returned (.bool false)) w41)) (
  Q (.returned (.bool false)) w41)) (
  Q (.returned (.bool false)) w41)) (
  Q (.returned (.bool false)) w41)) (
  Q (.returned (.bool false)) w41)) (
  Q (.returned (.bool false)) w41)) (
  Q (.returned (.bool false)) w41)) (
  Q (.returned (.bool false)) w41)) (
  Q (.returned (.bool false)) w41)) (
  Q (.returned (.bool false)) w41)) (
  Q (.returned (.bool false)) w41)) (
  Q (.returned (.bool false)) w41)) (
  Q (.returned (.bool false)) w41))))))))))))) (fun (b49 : Bool) (w50 : World) => ∀ _ : Fr,
  Q (.returned (.bool b49)) w50)))
def D : Nat → Option DH := dtab []
def l0LO : LO := ⟨[], [0], [(0, [1])], []⟩
def l0Tk (k : Nat) : Spec := fun Q σ w =>
  gPtr (σ 1) fun pt1 =>
  gInt .i64 (σ 2) fun xt2 =>
  l0 k pt1 xt2 w (fun (w : World) => ∀ d : Fr, Q (.exit 0) (ov d [(1, .pointer pt1)]) w) (fun (bq0 : Bool) (w : World) => ∀ d : Fr, Q .ret (ov d [(0, .bool bq0)]) w)
def l0T : Spec := fun Q σ w => ∃ k, l0Tk k Q σ w
def l0tb : List (List Nat × Spec) := []
noncomputable def l0b : Code := (subC [0, 0, 1, 0, 1, 1, 1] body).getD .skip
theorem l0_eq (k : Nat) (pt1 : Option Addr) (xt2 : Int) (Q : PQ) (σ : Fr) (w : World) :
    l0 (k + 1) pt1 xt2 w (fun (w : World) => ∀ d : Fr, Q (.exit 0) (ov d [(1, .pointer pt1)]) w) (fun (bq0 : Bool) (w : World) => ∀ d : Fr, Q .ret (ov d [(0, .bool bq0)]) w) = codeW Try.prog hT 149 D (tab l0tb) [0, 0, 1, 0, 1, 1, 1] l0b (thenQ (l0Tk k Q) (widen l0LO Q)) (ov σ [(1, .pointer pt1), (2, .int .i64 xt2)]) w := by kernel_rfl
theorem l0_snd : ∀ c, subC [0, 1, 0, 1, 1, 1] body = some c → Snd Try.prog 149 c l0T := by
  refine loop_of (hT := hT) (D := D) (l := l0tb) (b := l0b) (lo := l0LO) (by kernel_rfl) (by
    intro x hx
    simp only [l0tb, List.not_mem_nil] at hx
    ) (by kernel_rfl) (by kernel_rfl) ?_ ?_
  · intro Q σ w h
    unfold l0Tk at h
    obtain ⟨pt1, h1, hn⟩ := gPtr_elim h
    clear h
    have h := hn
    clear hn
    obtain ⟨xt2, h2, hn⟩ := gInt_elim h
    clear h
    have h := hn
    clear hn
    exact h
  · intro k Q σ w h
    unfold l0Tk at h
    obtain ⟨pt1, h1, hn⟩ := gPtr_elim h
    clear h
    have h := hn
    clear hn
    obtain ⟨xt2, h2, hn⟩ := gInt_elim h
    clear h
    have h := hn
    clear hn
    rw [l0_eq (σ := σ)] at h
    have e : (ov σ [(1, .pointer pt1), (2, .int .i64 xt2)]) = σ := ov_self (by simp [h1, h2])
    rw [e] at h
    exact h
def tb : List (List Nat × Spec) := [([0, 1, 0, 1, 1, 1], l0T)]
theorem wp_eq  (w : World) (Q : Ending → World → Prop) :
    wp  w Q = codeW Try.prog hT 149 D (tab tb) [] body (topQ Try.prog hT 149 [.tmp 0] Q) (argsF []) w := by kernel_rfl
theorem ok  (w : World) (Q : Ending → World → Prop) (h : wp  w Q) : Calls Try.prog 9 #[] w Q := by
  rw [wp_eq] at h
  exact calls_of_codeW (c := body) (rs := [.tmp 0]) Try.func9 (by kernel_rfl) (by kernel_rfl) (by kernel_rfl) (by kernel_rfl) (by kernel_rfl) (tab_snd (by
    intro x hx
    simp only [tb, List.mem_cons, List.not_mem_nil, or_false] at hx
    subst hx
    exact l0_snd)) (by kernel_rfl) h
end f_law16_alive
namespace f_law16_changes
/-! skein/skeinlaw16.changes: function 26 -/
noncomputable def body : Code := (Try.f26.body).getD .skip
def wp (pa0 : Option Addr) (Aa1_0 : Option Addr) (na1_0 : Nat) (ca1_0 : Nat) (Aa1_1 : Option Addr) (na1_1 : Nat) (ca1_1 : Nat) (Aa1_2 : Option Addr) (na1_2 : Nat) (ca1_2 : Nat) (Aa1_3 : Option Addr) (na1_3 : Nat) (ca1_3 : Nat) (xa2_0 : Int) (xa2_1 : Int) (xa2_2 : Int) (xa2_3 : Int) (ba2_4 : Bool) (w : World) (Q : Ending → World → Prop) : Prop :=
  alW w (.cells #[.slice Aa1_0 na1_0 ca1_0, .slice Aa1_1 na1_1 ca1_1, .slice Aa1_2 na1_2 ca1_2, .slice Aa1_3 na1_3 ca1_3] 43) fun B1 w2 =>
  alW w2 (.cells #[.int .i64 xa2_0, .int .i64 xa2_1, .int .i64 xa2_2, .int .i64 xa2_3, .bool ba2_4] 45) fun B3 w4 =>
  alW w4 (.cells #[.slice none 0 0, .slice none 0 0, .slice none 0 0, .slice none 0 0] 43) fun B5 w6 =>
  ldI w6 (⟨B3, 0, Option.none⟩ : Addr) .i64 fun x7 =>
  sel (x7 == (1 : Int)) (
  ldI w6 ((⟨B3, 0, Option.none⟩ : Addr).add 2) .i64 fun x8 =>
  Calls Try.prog 24 #[.pointer pa0, .int .i64 x8] w6 fun e9 w10 => ∃ (x11 : Int), e9 = .returned (.int .i64 x11) ∧ (
  ldS w10 (⟨B1, 0, Option.none⟩ : Addr) fun A12 n12 c12 =>
  ldS w10 ((⟨B1, 0, Option.none⟩ : Addr).add 1) fun A13 n13 c13 =>
  ldS w10 ((⟨B1, 0, Option.none⟩ : Addr).add 2) fun A14 n14 c14 =>
  ldS w10 ((⟨B1, 0, Option.none⟩ : Addr).add 3) fun A15 n15 c15 =>
  ldI w10 ((⟨B3, 0, Option.none⟩ : Addr).add 2) .i64 fun x16 =>
  Calls Try.prog 20 #[.agg #[.slice A12 n12 c12, .slice A13 n13 c13, .slice A14 n14 c14, .slice A15 n15 c15], .int .i64 x16] w10 fun e17 w18 => ∃ (A19_0_0 : Option Addr) (n19_0_0 : Nat) (c19_0_0 : Nat) (A19_0_1 : Option Addr) (n19_0_1 : Nat) (c19_0_1 : Nat) (A19_0_2 : Option Addr) (n19_0_2 : Nat) (c19_0_2 : Nat) (A19_0_3 : Option Addr) (n19_0_3 : Nat) (c19_0_3 : Nat) (x19_1 : Int), e17 = .returned (.tuple #[.agg #[.slice A19_0_0 n19_0_0 c19_0_0, .slice A19_0_1 n19_0_1 c19_0_1, .slice A19_0_2 n19_0_2 c19_0_2, .slice A19_0_3 n19_0_3 c19_0_3], .int .i64 x19_1]) ∧ (
  alW w18 (.cells #[.slice none 0 0, .slice none 0 0, .slice none 0 0, .slice none 0 0] 43) fun B20 w21 =>
  stW w21 (⟨B20, 0, Option.none⟩ : Addr) (.slice A19_0_0 n19_0_0 c19_0_0) fun w22 =>
  stW w22 ((⟨B20, 0, Option.none⟩ : Addr).add 1) (.slice A19_0_1 n19_0_1 c19_0_1) fun w23 =>
  stW w23 ((⟨B20, 0, Option.none⟩ : Addr).add 2) (.slice A19_0_2 n19_0_2 c19_0_2) fun w24 =>
  stW w24 ((⟨B20, 0, Option.none⟩ : Addr).add 3) (.slice A19_0_3 n19_0_3 c19_0_3) fun w25 =>
  ldS w25 (⟨B20, 0, Option.none⟩ : Addr) fun A26 n26 c26 =>
  ldS w25 ((⟨B20, 0, Option.none⟩ : Addr).add 1) fun A27 n27 c27 =>
  ldS w25 ((⟨B20, 0, Option.none⟩ : Addr).add 2) fun A28 n28 c28 =>
  ldS w25 ((⟨B20, 0, Option.none⟩ : Addr).add 3) fun A29 n29 c29 =>
  stW w25 (⟨B5, 0, Option.none⟩ : Addr) (.slice A26 n26 c26) fun w30 =>
  stW w30 ((⟨B5, 0, Option.none⟩ : Addr).add 1) (.slice A27 n27 c27) fun w31 =>
  stW w31 ((⟨B5, 0, Option.none⟩ : Addr).add 2) (.slice A28 n28 c28) fun w32 =>
  stW w32 ((⟨B5, 0, Option.none⟩ : Addr).add 3) (.slice A29 n29 c29) fun w33 =>
  ldS w33 (⟨B5, 0, Option.none⟩ : Addr) fun A34 n34 c34 =>
  ldS w33 ((⟨B5, 0, Option.none⟩ : Addr).add 1) fun A35 n35 c35 =>
  ldS w33 ((⟨B5, 0, Option.none⟩ : Addr).add 2) fun A36 n36 c36 =>
  ldS w33 ((⟨B5, 0, Option.none⟩ : Addr).add 3) fun A37 n37 c37 =>
  Q (.returned (.tuple #[.agg #[.slice A34 n34 c34, .slice A35 n35 c35, .slice A36 n36 c36, .slice A37 n37 c37], .bool (x11 == x19_1)])) w33))) (
  sel (x7 == (2 : Int)) (
  ldI w6 ((⟨B3, 0, Option.none⟩ : Addr).add 2) .i64 fun x38 =>
  Calls Try.prog 48 #[.pointer pa0, .int .i64 x38] w6 fun e39 w40 => ∃ (x41 : Int), e39 = .returned (.int .i64 x41) ∧ (
  ldS w40 (⟨B1, 0, Option.none⟩ : Addr) fun A42 n42 c42 =>
  ldS w40 ((⟨B1, 0, Option.none⟩ : Addr).add 1) fun A43 n43 c43 =>
  ldS w40 ((⟨B1, 0, Option.none⟩ : Addr).add 2) fun A44 n44 c44 =>
  ldS w40 ((⟨B1, 0, Option.none⟩ : Addr).add 3) fun A45 n45 c45 =>
  ldI w40 ((⟨B3, 0, Option.none⟩ : Addr).add 2) .i64 fun x46 =>
  Calls Try.prog 21 #[.agg #[.slice A42 n42 c42, .slice A43 n43 c43, .slice A44 n44 c44, .slice A45 n45 c45], .int .i64 x46] w40 fun e47 w48 => ∃ (A49_0_0 : Option Addr) (n49_0_0 : Nat) (c49_0_0 : Nat) (A49_0_1 : Option Addr) (n49_0_1 : Nat) (c49_0_1 : Nat) (A49_0_2 : Option Addr) (n49_0_2 : Nat) (c49_0_2 : Nat) (A49_0_3 : Option Addr) (n49_0_3 : Nat) (c49_0_3 : Nat) (x49_1 : Int), e47 = .returned (.tuple #[.agg #[.slice A49_0_0 n49_0_0 c49_0_0, .slice A49_0_1 n49_0_1 c49_0_1, .slice A49_0_2 n49_0_2 c49_0_2, .slice A49_0_3 n49_0_3 c49_0_3], .int .i64 x49_1]) ∧ (
  alW w48 (.cells #[.slice none 0 0, .slice none 0 0, .slice none 0 0, .slice none 0 0] 43) fun B50 w51 =>
  stW w51 (⟨B50, 0, Option.none⟩ : Addr) (.slice A49_0_0 n49_0_0 c49_0_0) fun w52 =>
  stW w52 ((⟨B50, 0, Option.none⟩ : Addr).add 1) (.slice A49_0_1 n49_0_1 c49_0_1) fun w53 =>
  stW w53 ((⟨B50, 0, Option.none⟩ : Addr).add 2) (.slice A49_0_2 n49_0_2 c49_0_2) fun w54 =>
  stW w54 ((⟨B50, 0, Option.none⟩ : Addr).add 3) (.slice A49_0_3 n49_0_3 c49_0_3) fun w55 =>
  ldS w55 (⟨B50, 0, Option.none⟩ : Addr) fun A56 n56 c56 =>
  ldS w55 ((⟨B50, 0, Option.none⟩ : Addr).add 1) fun A57 n57 c57 =>
  ldS w55 ((⟨B50, 0, Option.none⟩ : Addr).add 2) fun A58 n58 c58 =>
  ldS w55 ((⟨B50, 0, Option.none⟩ : Addr).add 3) fun A59 n59 c59 =>
  stW w55 (⟨B5, 0, Option.none⟩ : Addr) (.slice A56 n56 c56) fun w60 =>
  stW w60 ((⟨B5, 0, Option.none⟩ : Addr).add 1) (.slice A57 n57 c57) fun w61 =>
  stW w61 ((⟨B5, 0, Option.none⟩ : Addr).add 2) (.slice A58 n58 c58) fun w62 =>
  stW w62 ((⟨B5, 0, Option.none⟩ : Addr).add 3) (.slice A59 n59 c59) fun w63 =>
  ldS w63 (⟨B5, 0, Option.none⟩ : Addr) fun A64 n64 c64 =>
  ldS w63 ((⟨B5, 0, Option.none⟩ : Addr).add 1) fun A65 n65 c65 =>
  ldS w63 ((⟨B5, 0, Option.none⟩ : Addr).add 2) fun A66 n66 c66 =>
  ldS w63 ((⟨B5, 0, Option.none⟩ : Addr).add 3) fun A67 n67 c67 =>
  Q (.returned (.tuple #[.agg #[.slice A64 n64 c64, .slice A65 n65 c65, .slice A66 n66 c66, .slice A67 n67 c67], .bool (x41 == x49_1)])) w63))) (
  sel (x7 == (3 : Int)) (
  ldI w6 ((⟨B3, 0, Option.none⟩ : Addr).add 1) .i64 fun x68 =>
  ldI w6 ((⟨B3, 0, Option.none⟩ : Addr).add 2) .i64 fun x69 =>
  ldI w6 ((⟨B3, 0, Option.none⟩ : Addr).add 3) .i64 fun x70 =>
  Calls Try.prog 12 #[.pointer pa0, .int .i64 x68, .int .i64 x69, .int .i64 x70] w6 fun e71 w72 => ∃ (x73 : Int), e71 = .returned (.int .i64 x73) ∧ (
  ldS w72 (⟨B1, 0, Option.none⟩ : Addr) fun A74 n74 c74 =>
  ldS w72 ((⟨B1, 0, Option.none⟩ : Addr).add 1) fun A75 n75 c75 =>
  ldS w72 ((⟨B1, 0, Option.none⟩ : Addr).add 2) fun A76 n76 c76 =>
  ldS w72 ((⟨B1, 0, Option.none⟩ : Addr).add 3) fun A77 n77 c77 =>
  ldI w72 ((⟨B3, 0, Option.none⟩ : Addr).add 1) .i64 fun x78 =>
  ldI w72 ((⟨B3, 0, Option.none⟩ : Addr).add 2) .i64 fun x79 =>
  ldI w72 ((⟨B3, 0, Option.none⟩ : Addr).add 3) .i64 fun x80 =>
  Calls Try.prog 22 #[.agg #[.slice A74 n74 c74, .slice A75 n75 c75, .slice A76 n76 c76, .slice A77 n77 c77], .agg #[.int .i64 x78, .int .i64 x79, .int .i64 x80, .int .i64 (0 : Int)]] w72 fun e81 w82 => ∃ (A83_0_0 : Option Addr) (n83_0_0 : Nat) (c83_0_0 : Nat) (A83_0_1 : Option Addr) (n83_0_1 : Nat) (c83_0_1 : Nat) (A83_0_2 : Option Addr) (n83_0_2 : Nat) (c83_0_2 : Nat) (A83_0_3 : Option Addr) (n83_0_3 : Nat) (c83_0_3 : Nat) (x83_1 : Int), e81 = .returned (.tuple #[.agg #[.slice A83_0_0 n83_0_0 c83_0_0, .slice A83_0_1 n83_0_1 c83_0_1, .slice A83_0_2 n83_0_2 c83_0_2, .slice A83_0_3 n83_0_3 c83_0_3], .int .i64 x83_1]) ∧ (
  alW w82 (.cells #[.slice none 0 0, .slice none 0 0, .slice none 0 0, .slice none 0 0] 43) fun B84 w85 =>
  stW w85 (⟨B84, 0, Option.none⟩ : Addr) (.slice A83_0_0 n83_0_0 c83_0_0) fun w86 =>
  stW w86 ((⟨B84, 0, Option.none⟩ : Addr).add 1) (.slice A83_0_1 n83_0_1 c83_0_1) fun w87 =>
  stW w87 ((⟨B84, 0, Option.none⟩ : Addr).add 2) (.slice A83_0_2 n83_0_2 c83_0_2) fun w88 =>
  stW w88 ((⟨B84, 0, Option.none⟩ : Addr).add 3) (.slice A83_0_3 n83_0_3 c83_0_3) fun w89 =>
  ldS w89 (⟨B84, 0, Option.none⟩ : Addr) fun A90 n90 c90 =>
  ldS w89 ((⟨B84, 0, Option.none⟩ : Addr).add 1) fun A91 n91 c91 =>
  ldS w89 ((⟨B84, 0, Option.none⟩ : Addr).add 2) fun A92 n92 c92 =>
  ldS w89 ((⟨B84, 0, Option.none⟩ : Addr).add 3) fun A93 n93 c93 =>
  stW w89 (⟨B5, 0, Option.none⟩ : Addr) (.slice A90 n90 c90) fun w94 =>
  stW w94 ((⟨B5, 0, Option.none⟩ : Addr).add 1) (.slice A91 n91 c91) fun w95 =>
  stW w95 ((⟨B5, 0, Option.none⟩ : Addr).add 2) (.slice A92 n92 c92) fun w96 =>
  stW w96 ((⟨B5, 0, Option.none⟩ : Addr).add 3) (.slice A93 n93 c93) fun w97 =>
  ldS w97 (⟨B5, 0, Option.none⟩ : Addr) fun A98 n98 c98 =>
  ldS w97 ((⟨B5, 0, Option.none⟩ : Addr).add 1) fun A99 n99 c99 =>
  ldS w97 ((⟨B5, 0, Option.none⟩ : Addr).add 2) fun A100 n100 c100 =>
  ldS w97 ((⟨B5, 0, Option.none⟩ : Addr).add 3) fun A101 n101 c101 =>
  Q (.returned (.tuple #[.agg #[.slice A98 n98 c98, .slice A99 n99 c99, .slice A100 n100 c100, .slice A101 n101 c101], .bool (x73 == x83_1)])) w97))) (
  sel (x7 == (4 : Int)) (
  ldI w6 ((⟨B3, 0, Option.none⟩ : Addr).add 1) .i64 fun x102 =>
  Calls Try.prog 17 #[.pointer pa0, .int .i64 x102] w6 fun e103 w104 => ∃ (x105 : Int), e103 = .returned (.int .i64 x105) ∧ (
  ldS w104 (⟨B1, 0, Option.none⟩ : Addr) fun A106 n106 c106 =>
  ldS w104 ((⟨B1, 0, Option.none⟩ : Addr).add 1) fun A107 n107 c107 =>
  ldS w104 ((⟨B1, 0, Option.none⟩ : Addr).add 2) fun A108 n108 c108 =>
  ldS w104 ((⟨B1, 0, Option.none⟩ : Addr).add 3) fun A109 n109 c109 =>
  ldI w104 ((⟨B3, 0, Option.none⟩ : Addr).add 1) .i64 fun x110 =>
  Calls Try.prog 23 #[.agg #[.slice A106 n106 c106, .slice A107 n107 c107, .slice A108 n108 c108, .slice A109 n109 c109], .int .i64 x110] w104 fun e111 w112 => ∃ (A113_0_0 : Option Addr) (n113_0_0 : Nat) (c113_0_0 : Nat) (A113_0_1 : Option Addr) (n113_0_1 : Nat) (c113_0_1 : Nat) (A113_0_2 : Option Addr) (n113_0_2 : Nat) (c113_0_2 : Nat) (A113_0_3 : Option Addr) (n113_0_3 : Nat) (c113_0_3 : Nat) (x113_1 : Int), e111 = .returned (.tuple #[.agg #[.slice A113_0_0 n113_0_0 c113_0_0, .slice A113_0_1 n113_0_1 c113_0_1, .slice A113_0_2 n113_0_2 c113_0_2, .slice A113_0_3 n113_0_3 c113_0_3], .int .i64 x113_1]) ∧ (
  alW w112 (.cells #[.slice none 0 0, .slice none 0 0, .slice none 0 0, .slice none 0 0] 43) fun B114 w115 =>
  stW w115 (⟨B114, 0, Option.none⟩ : Addr) (.slice A113_0_0 n113_0_0 c113_0_0) fun w116 =>
  stW w116 ((⟨B114, 0, Option.none⟩ : Addr).add 1) (.slice A113_0_1 n113_0_1 c113_0_1) fun w117 =>
  stW w117 ((⟨B114, 0, Option.none⟩ : Addr).add 2) (.slice A113_0_2 n113_0_2 c113_0_2) fun w118 =>
  stW w118 ((⟨B114, 0, Option.none⟩ : Addr).add 3) (.slice A113_0_3 n113_0_3 c113_0_3) fun w119 =>
  ldS w119 (⟨B114, 0, Option.none⟩ : Addr) fun A120 n120 c120 =>
  ldS w119 ((⟨B114, 0, Option.none⟩ : Addr).add 1) fun A121 n121 c121 =>
  ldS w119 ((⟨B114, 0, Option.none⟩ : Addr).add 2) fun A122 n122 c122 =>
  ldS w119 ((⟨B114, 0, Option.none⟩ : Addr).add 3) fun A123 n123 c123 =>
  stW w119 (⟨B5, 0, Option.none⟩ : Addr) (.slice A120 n120 c120) fun w124 =>
  stW w124 ((⟨B5, 0, Option.none⟩ : Addr).add 1) (.slice A121 n121 c121) fun w125 =>
  stW w125 ((⟨B5, 0, Option.none⟩ : Addr).add 2) (.slice A122 n122 c122) fun w126 =>
  stW w126 ((⟨B5, 0, Option.none⟩ : Addr).add 3) (.slice A123 n123 c123) fun w127 =>
  ldS w127 (⟨B5, 0, Option.none⟩ : Addr) fun A128 n128 c128 =>
  ldS w127 ((⟨B5, 0, Option.none⟩ : Addr).add 1) fun A129 n129 c129 =>
  ldS w127 ((⟨B5, 0, Option.none⟩ : Addr).add 2) fun A130 n130 c130 =>
  ldS w127 ((⟨B5, 0, Option.none⟩ : Addr).add 3) fun A131 n131 c131 =>
  Q (.returned (.tuple #[.agg #[.slice A128 n128 c128, .slice A129 n129 c129, .slice A130 n130 c130, .slice A131 n131 c131], .bool (x105 == x113_1)])) w127))) (
  sel (x7 == (5 : Int)) (
  ldI w6 ((⟨B3, 0, Option.none⟩ : Addr).add 2) .i64 fun x132 =>
  ldB w6 ((⟨B3, 0, Option.none⟩ : Addr).add 4) fun b133 =>
  Calls Try.prog 34 #[.pointer pa0, .int .i64 x132, .bool b133] w6 fun e134 w135 => ∃ (x136 : Int), e134 = .returned (.int .i64 x136) ∧ (
  ldS w135 (⟨B1, 0, Option.none⟩ : Addr) fun A137 n137 c137 =>
  ldI w135 ((⟨B3, 0, Option.none⟩ : Addr).add 2) .i64 fun x138 =>
  Calls Try.prog 15 #[.slice A137 n137 c137, .int .i64 x138] w135 fun e139 w140 => ∃ (b141 : Bool), e139 = .returned (.bool b141) ∧ (
  sel (!b141) (
  ldS w140 (⟨B1, 0, Option.none⟩ : Addr) fun A142 n142 c142 =>
  ldS w140 ((⟨B1, 0, Option.none⟩ : Addr).add 1) fun A143 n143 c143 =>
  ldS w140 ((⟨B1, 0, Option.none⟩ : Addr).add 2) fun A144 n144 c144 =>
  ldS w140 ((⟨B1, 0, Option.none⟩ : Addr).add 3) fun A145 n145 c145 =>
  stW w140 (⟨B5, 0, Option.none⟩ : Addr) (.slice A142 n142 c142) fun w146 =>
  stW w146 ((⟨B5, 0, Option.none⟩ : Addr).add 1) (.slice A143 n143 c143) fun w147 =>
  stW w147 ((⟨B5, 0, Option.none⟩ : Addr).add 2) (.slice A144 n144 c144) fun w148 =>
  stW w148 ((⟨B5, 0, Option.none⟩ : Addr).add 3) (.slice A145 n145 c145) fun w149 =>
  ldS w149 (⟨B5, 0, Option.none⟩ : Addr) fun A150 n150 c150 =>
  ldS w149 ((⟨B5, 0, Option.none⟩ : Addr).add 1) fun A151 n151 c151 =>
  ldS w149 ((⟨B5, 0, Option.none⟩ : Addr).add 2) fun A152 n152 c152 =>
  ldS w149 ((⟨B5, 0, Option.none⟩ : Addr).add 3) fun A153 n153 c153 =>
  Q (.returned (.tuple #[.agg #[.slice A150 n150 c150, .slice A151 n151 c151, .slice A152 n152 c152, .slice A153 n153 c153], .bool (x136 == (51 : Int))])) w149) (
  ldS w140 ((⟨B1, 0, Option.none⟩ : Addr).add 2) fun A154 n154 c154 =>
  ldI w140 ((⟨B3, 0, Option.none⟩ : Addr).add 2) .i64 fun x155 =>
  ldB w140 ((⟨B3, 0, Option.none⟩ : Addr).add 4) fun b156 =>
  Calls Try.prog 49 #[.slice A154 n154 c154, .int .i64 x155, .bool b156] w140 fun e157 w158 => ∃ (A159 : Option Addr) (n159 : Nat) (c159 : Nat), e157 = .returned (.slice A159 n159 c159) ∧ (
  stW w158 ((⟨B1, 0, Option.none⟩ : Addr).add 2) (.slice A159 n159 c159) fun w160 =>
  ldS w160 (⟨B1, 0, Option.none⟩ : Addr) fun A161 n161 c161 =>
  ldS w160 ((⟨B1, 0, Option.none⟩ : Addr).add 1) fun A162 n162 c162 =>
  ldS w160 ((⟨B1, 0, Option.none⟩ : Addr).add 2) fun A163 n163 c163 =>
  ldS w160 ((⟨B1, 0, Option.none⟩ : Addr).add 3) fun A164 n164 c164 =>
  stW w160 (⟨B5, 0, Option.none⟩ : Addr) (.slice A161 n161 c161) fun w165 =>
  stW w165 ((⟨B5, 0, Option.none⟩ : Addr).add 1) (.slice A162 n162 c162) fun w166 =>
  stW w166 ((⟨B5, 0, Option.none⟩ : Addr).add 2) (.slice A163 n163 c163) fun w167 =>
  stW w167 ((⟨B5, 0, Option.none⟩ : Addr).add 3) (.slice A164 n164 c164) fun w168 =>
  ldS w168 (⟨B5, 0, Option.none⟩ : Addr) fun A169 n169 c169 =>
  ldS w168 ((⟨B5, 0, Option.none⟩ : Addr).add 1) fun A170 n170 c170 =>
  ldS w168 ((⟨B5, 0, Option.none⟩ : Addr).add 2) fun A171 n171 c171 =>
  ldS w168 ((⟨B5, 0, Option.none⟩ : Addr).add 3) fun A172 n172 c172 =>
  Q (.returned (.tuple #[.agg #[.slice A169 n169 c169, .slice A170 n170 c170, .slice A171 n171 c171, .slice A172 n172 c172], .bool (x136 == (0 : Int))])) w168))))) (
  sel (x7 == (6 : Int)) (
  ldI w6 ((⟨B3, 0, Option.none⟩ : Addr).add 1) .i64 fun x173 =>
  ldB w6 ((⟨B3, 0, Option.none⟩ : Addr).add 4) fun b174 =>
  Calls Try.prog 31 #[.pointer pa0, .int .i64 x173, .bool b174] w6 fun e175 w176 => ∃ (x177 : Int), e175 = .returned (.int .i64 x177) ∧ (
  ldS w176 (⟨B1, 0, Option.none⟩ : Addr) fun A178 n178 c178 =>
  ldS w176 ((⟨B1, 0, Option.none⟩ : Addr).add 1) fun A179 n179 c179 =>
  ldS w176 ((⟨B1, 0, Option.none⟩ : Addr).add 2) fun A180 n180 c180 =>
  ldS w176 ((⟨B1, 0, Option.none⟩ : Addr).add 3) fun A181 n181 c181 =>
  ldI w176 ((⟨B3, 0, Option.none⟩ : Addr).add 1) .i64 fun x182 =>
  Calls Try.prog 27 #[.agg #[.slice A178 n178 c178, .slice A179 n179 c179, .slice A180 n180 c180, .slice A181 n181 c181], .int .i64 x182] w176 fun e183 w184 => ∃ (x185_0_0 : Int) (x185_0_1 : Int) (x185_0_2 : Int) (x185_0_3 : Int) (b185_1 : Bool), e183 = .returned (.tuple #[.agg #[.int .i64 x185_0_0, .int .i64 x185_0_1, .int .i64 x185_0_2, .int .i64 x185_0_3], .bool b185_1]) ∧ (
  alW w184 (.cells #[.int .i64 (0 : Int), .int .i64 (0 : Int), .int .i64 (0 : Int), .int .i64 (0 : Int)] 50) fun B186 w187 =>
  stW w187 (⟨B186, 0, Option.none⟩ : Addr) (.int .i64 x185_0_0) fun w188 =>
  stW w188 ((⟨B186, 0, Option.none⟩ : Addr).add 1) (.int .i64 x185_0_1) fun w189 =>
  stW w189 ((⟨B186, 0, Option.none⟩ : Addr).add 2) (.int .i64 x185_0_2) fun w190 =>
  stW w190 ((⟨B186, 0, Option.none⟩ : Addr).add 3) (.int .i64 x185_0_3) fun w191 =>
  sel (!b185_1) (
  ldS w191 (⟨B1, 0, Option.none⟩ : Addr) fun A192 n192 c192 =>
  ldS w191 ((⟨B1, 0, Option.none⟩ : Addr).add 1) fun A193 n193 c193 =>
  ldS w191 ((⟨B1, 0, Option.none⟩ : Addr).add 2) fun A194 n194 c194 =>
  ldS w191 ((⟨B1, 0, Option.none⟩ : Addr).add 3) fun A195 n195 c195 =>
  stW w191 (⟨B5, 0, Option.none⟩ : Addr) (.slice A192 n192 c192) fun w196 =>
  stW w196 ((⟨B5, 0, Option.none⟩ : Addr).add 1) (.slice A193 n193 c193) fun w197 =>
  stW w197 ((⟨B5, 0, Option.none⟩ : Addr).add 2) (.slice A194 n194 c194) fun w198 =>
  stW w198 ((⟨B5, 0, Option.none⟩ : Addr).add 3) (.slice A195 n195 c195) fun w199 =>
  ldS w199 (⟨B5, 0, Option.none⟩ : Addr) fun A200 n200 c200 =>
  ldS w199 ((⟨B5, 0, Option.none⟩ : Addr).add 1) fun A201 n201 c201 =>
  ldS w199 ((⟨B5, 0, Option.none⟩ : Addr).add 2) fun A202 n202 c202 =>
  ldS w199 ((⟨B5, 0, Option.none⟩ : Addr).add 3) fun A203 n203 c203 =>
  Q (.returned (.tuple #[.agg #[.slice A200 n200 c200, .slice A201 n201 c201, .slice A202 n202 c202, .slice A203 n203 c203], .bool (x177 == (152 : Int))])) w199) (
  ldS w191 ((⟨B1, 0, Option.none⟩ : Addr).add 3) fun A204 n204 c204 =>
  ldI w191 ((⟨B3, 0, Option.none⟩ : Addr).add 1) .i64 fun x205 =>
  ldB w191 ((⟨B3, 0, Option.none⟩ : Addr).add 4) fun b206 =>
  Calls Try.prog 49 #[.slice A204 n204 c204, .int .i64 x205, .bool b206] w191 fun e207 w208 => ∃ (A209 : Option Addr) (n209 : Nat) (c209 : Nat), e207 = .returned (.slice A209 n209 c209) ∧ (
  stW w208 ((⟨B1, 0, Option.none⟩ : Addr).add 3) (.slice A209 n209 c209) fun w210 =>
  ldS w210 (⟨B1, 0, Option.none⟩ : Addr) fun A211 n211 c211 =>
  ldS w210 ((⟨B1, 0, Option.none⟩ : Addr).add 1) fun A212 n212 c212 =>
  ldS w210 ((⟨B1, 0, Option.none⟩ : Addr).add 2) fun A213 n213 c213 =>
  ldS w210 ((⟨B1, 0, Option.none⟩ : Addr).add 3) fun A214 n214 c214 =>
  stW w210 (⟨B5, 0, Option.none⟩ : Addr) (.slice A211 n211 c211) fun w215 =>
  stW w215 ((⟨B5, 0, Option.none⟩ : Addr).add 1) (.slice A212 n212 c212) fun w216 =>
  stW w216 ((⟨B5, 0, Option.none⟩ : Addr).add 2) (.slice A213 n213 c213) fun w217 =>
  stW w217 ((⟨B5, 0, Option.none⟩ : Addr).add 3) (.slice A214 n214 c214) fun w218 =>
  ldS w218 (⟨B5, 0, Option.none⟩ : Addr) fun A219 n219 c219 =>
  ldS w218 ((⟨B5, 0, Option.none⟩ : Addr).add 1) fun A220 n220 c220 =>
  ldS w218 ((⟨B5, 0, Option.none⟩ : Addr).add 2) fun A221 n221 c221 =>
  ldS w218 ((⟨B5, 0, Option.none⟩ : Addr).add 3) fun A222 n222 c222 =>
  Q (.returned (.tuple #[.agg #[.slice A219 n219 c219, .slice A220 n220 c220, .slice A221 n221 c221, .slice A222 n222 c222], .bool (x177 == (0 : Int))])) w218))))) (
  ldS w6 (⟨B1, 0, Option.none⟩ : Addr) fun A223 n223 c223 =>
  ldS w6 ((⟨B1, 0, Option.none⟩ : Addr).add 1) fun A224 n224 c224 =>
  ldS w6 ((⟨B1, 0, Option.none⟩ : Addr).add 2) fun A225 n225 c225 =>
  ldS w6 ((⟨B1, 0, Option.none⟩ : Addr).add 3) fun A226 n226 c226 =>
  stW w6 (⟨B5, 0, Option.none⟩ : Addr) (.slice A223 n223 c223) fun w227 =>
  stW w227 ((⟨B5, 0, Option.none⟩ : Addr).add 1) (.slice A224 n224 c224) fun w228 =>
  stW w228 ((⟨B5, 0, Option.none⟩ : Addr).add 2) (.slice A225 n225 c225) fun w229 =>
  stW w229 ((⟨B5, 0, Option.none⟩ : Addr).add 3) (.slice A226 n226 c226) fun w230 =>
  ldS w230 (⟨B5, 0, Option.none⟩ : Addr) fun A231 n231 c231 =>
  ldS w230 ((⟨B5, 0, Option.none⟩ : Addr).add 1) fun A232 n232 c232 =>
  ldS w230 ((⟨B5, 0, Option.none⟩ : Addr).add 2) fun A233 n233 c233 =>
  ldS w230 ((⟨B5, 0, Option.none⟩ : Addr).add 3) fun A234 n234 c234 =>
  Q (.returned (.tuple #[.agg #[.slice A231 n231 c231, .slice A232 n232 c232, .slice A233 n233 c233, .slice A234 n234 c234], .bool true])) w230))))))
def D : Nat → Option DH := dtab []
def tb : List (List Nat × Spec) := []
theorem wp_eq (pa0 : Option Addr) (Aa1_0 : Option Addr) (na1_0 : Nat) (ca1_0 : Nat) (Aa1_1 : Option Addr) (na1_1 : Nat) (ca1_1 : Nat) (Aa1_2 : Option Addr) (na1_2 : Nat) (ca1_2 : Nat) (Aa1_3 : Option Addr) (na1_3 : Nat) (ca1_3 : Nat) (xa2_0 : Int) (xa2_1 : Int) (xa2_2 : Int) (xa2_3 : Int) (ba2_4 : Bool) (w : World) (Q : Ending → World → Prop) :
    wp pa0 Aa1_0 na1_0 ca1_0 Aa1_1 na1_1 ca1_1 Aa1_2 na1_2 ca1_2 Aa1_3 na1_3 ca1_3 xa2_0 xa2_1 xa2_2 xa2_3 ba2_4 w Q = codeW Try.prog hT 164 D (tab tb) [] body (topQ Try.prog hT 164 [.cell 6 43, .tmp 7] Q) (argsF [.pointer pa0, .agg #[.slice Aa1_0 na1_0 ca1_0, .slice Aa1_1 na1_1 ca1_1, .slice Aa1_2 na1_2 ca1_2, .slice Aa1_3 na1_3 ca1_3], .agg #[.int .i64 xa2_0, .int .i64 xa2_1, .int .i64 xa2_2, .int .i64 xa2_3, .bool ba2_4]]) w := by cases ba2_4 <;> kernel_rfl
theorem ok (pa0 : Option Addr) (Aa1_0 : Option Addr) (na1_0 : Nat) (ca1_0 : Nat) (Aa1_1 : Option Addr) (na1_1 : Nat) (ca1_1 : Nat) (Aa1_2 : Option Addr) (na1_2 : Nat) (ca1_2 : Nat) (Aa1_3 : Option Addr) (na1_3 : Nat) (ca1_3 : Nat) (xa2_0 : Int) (xa2_1 : Int) (xa2_2 : Int) (xa2_3 : Int) (ba2_4 : Bool) (w : World) (Q : Ending → World → Prop) (h : wp pa0 Aa1_0 na1_0 ca1_0 Aa1_1 na1_1 ca1_1 Aa1_2 na1_2 ca1_2 Aa1_3 na1_3 ca1_3 xa2_0 xa2_1 xa2_2 xa2_3 ba2_4 w Q) : Calls Try.prog 26 #[.pointer pa0, .agg #[.slice Aa1_0 na1_0 ca1_0, .slice Aa1_1 na1_1 ca1_1, .slice Aa1_2 na1_2 ca1_2, .slice Aa1_3 na1_3 ca1_3], .agg #[.int .i64 xa2_0, .int .i64 xa2_1, .int .i64 xa2_2, .int .i64 xa2_3, .bool ba2_4]] w Q := by
  rw [wp_eq] at h
  exact calls_of_codeW (c := body) (rs := [.cell 6 43, .tmp 7]) Try.func26 (by kernel_rfl) (by kernel_rfl) (by kernel_rfl) (by kernel_rfl) (by kernel_rfl) (tab_snd (by
    intro x hx
    simp only [tb, List.not_mem_nil] at hx
    )) (by kernel_rfl) h
end f_law16_changes
namespace f_law16_tells
/-! skein/skeinlaw16.tells: function 28 -/
noncomputable def body : Code := (Try.f28.body).getD .skip
def j0 (xt3 : Int) (at5 : Addr) (At10 : Option Addr) (nt10 : Nat) (ct10 : Nat) (xt11 : Int) (At12 : Option Addr) (nt12 : Nat) (ct12 : Nat) (xt13 : Int) (xt14 : Int) (xt15 : Int) (xt16 : Int) (xt17 : Int) (xt18 : Int) (xt19 : Int) (bt20 : Bool) (xt21 : Int) (At22 : Option Addr) (nt22 : Nat) (ct22 : Nat) (At23 : Option Addr) (nt23 : Nat) (ct23 : Nat) (w : World) (Kr : Bool → World → Prop) : Prop :=
  sel (xt11 != (0 : Int)) (
  Kr false w) (
  sel (xt13 != (0 : Int)) (
  Kr false w) (
  sel (xt15 != (0 : Int)) (
  Kr false w) (
  sel (xt17 != (0 : Int)) (
  Kr false w) (
  sel (xt19 != (0 : Int)) (
  Kr false w) (
  Calls Try.prog 13 #[.slice At10 nt10 ct10, .slice At22 nt22 ct22] w fun e41 w42 => ∃ (b43 : Bool), e41 = .returned (.bool b43) ∧ (
  sel (!b43) (
  Kr false w42) (
  Calls Try.prog 13 #[.slice At12 nt12 ct12, .slice At23 nt23 ct23] w42 fun e44 w45 => ∃ (b46 : Bool), e44 = .returned (.bool b46) ∧ (
  sel (!b46) (
  Kr false w45) (
  sel (xt14 != (nt22 : Int)) (
  Kr false w45) (
  ldS w45 (at5.add 2) fun A47 n47 c47 =>
  Calls Try.prog 53 #[.int .i64 xt16, .slice At22 nt22 ct22, .slice A47 n47 c47] w45 fun e48 w49 => ∃ (b50 : Bool), e48 = .returned (.bool b50) ∧ (
  sel (!b50) (
  Kr false w49) (
  ldS w49 (at5.add 3) fun A51 n51 c51 =>
  Calls Try.prog 53 #[.int .i64 xt18, .slice At23 nt23 ct23, .slice A51 n51 c51] w49 fun e52 w53 => ∃ (b54 : Bool), e52 = .returned (.bool b54) ∧ (
  sel (!b54) (
  Kr false w53) (
  ldS w53 at5 fun A55 n55 c55 =>
  Calls Try.prog 15 #[.slice A55 n55 c55, .int .i64 xt3] w53 fun e56 w57 => ∃ (b58 : Bool), e56 = .returned (.bool b58) ∧ (
  sel (!b58) (
  sel (!bt20) (
  Kr (xt21 == (51 : Int)) w57) (
  Kr false w57)) (
  sel (xt21 == (0 : Int)) (
  Calls Try.prog 15 #[.slice At22 nt22 ct22, .int .i64 xt3] w57 fun e59 w60 => ∃ (b61 : Bool), e59 = .returned (.bool b61) ∧ (
  Kr (bt20 == b61) w60)) (
  Kr false w57)))))))))))))))))
def wp (pa0 : Option Addr) (Aa1_0 : Option Addr) (na1_0 : Nat) (ca1_0 : Nat) (Aa1_1 : Option Addr) (na1_1 : Nat) (ca1_1 : Nat) (Aa1_2 : Option Addr) (na1_2 : Nat) (ca1_2 : Nat) (Aa1_3 : Option Addr) (na1_3 : Nat) (ca1_3 : Nat) (xa2 : Int) (xa3 : Int) (w : World) (Q : Ending → World → Prop) : Prop :=
  alW w (.cells #[.slice Aa1_0 na1_0 ca1_0, .slice Aa1_1 na1_1 ca1_1, .slice Aa1_2 na1_2 ca1_2, .slice Aa1_3 na1_3 ca1_3] 43) fun B1 w2 =>
  ldS w2 (⟨B1, 0, Option.none⟩ : Addr) fun A3 n3 c3 =>
  Calls Try.prog 15 #[.slice A3 n3 c3, .int .i64 xa2] w2 fun e4 w5 => ∃ (b6 : Bool), e4 = .returned (.bool b6) ∧ (
  Calls Try.prog 10 #[.pointer pa0, .int .i64 xa2] w5 fun e7 w8 => ∃ (A9_0 : Option Addr) (n9_0 : Nat) (c9_0 : Nat) (x9_1 : Int), e7 = .returned (.tuple #[.slice A9_0 n9_0 c9_0, .int .i64 x9_1]) ∧ (
  Calls Try.prog 11 #[.pointer pa0, .int .i64 xa2] w8 fun e10 w11 => ∃ (A12_0 : Option Addr) (n12_0 : Nat) (c12_0 : Nat) (x12_1 : Int), e10 = .returned (.tuple #[.slice A12_0 n12_0 c12_0, .int .i64 x12_1]) ∧ (
  Calls Try.prog 29 #[.pointer pa0, .int .i64 xa2] w11 fun e13 w14 => ∃ (x15_0 : Int) (x15_1 : Int), e13 = .returned (.tuple #[.int .i64 x15_0, .int .i64 x15_1]) ∧ (
  Calls Try.prog 33 #[.pointer pa0, .int .i64 xa2] w14 fun e16 w17 => ∃ (x18_0 : Int) (x18_1 : Int), e16 = .returned (.tuple #[.int .i64 x18_0, .int .i64 x18_1]) ∧ (
  Calls Try.prog 32 #[.pointer pa0, .int .i64 xa2] w17 fun e19 w20 => ∃ (x21_0 : Int) (x21_1 : Int), e19 = .returned (.tuple #[.int .i64 x21_0, .int .i64 x21_1]) ∧ (
  Calls Try.prog 30 #[.pointer pa0, .int .i64 xa2, .int .i64 xa3] w20 fun e22 w23 => ∃ (b24_0 : Bool) (x24_1 : Int), e22 = .returned (.tuple #[.bool b24_0, .int .i64 x24_1]) ∧ (
  sel (!b6) (
  sel ((n9_0 : Int) == (0 : Int)) (
  sel ((n12_0 : Int) == (0 : Int)) (
  sel (x15_0 == (0 : Int)) (
  sel (x18_0 == (0 : Int)) (
  sel (x21_0 == (0 : Int)) (
  sel (!b24_0) (
  sel (x9_1 == (51 : Int)) (
  sel (x12_1 == x9_1) (
  sel (x15_1 == x9_1) (
  sel (x18_1 == x9_1) (
  sel (x21_1 == x9_1) (
  Q (.returned (.bool (x24_1 == x9_1))) w23) (
  Q (.returned (.bool false)) w23)) (
  Q (.returned (.bool false)) w23)) (
  Q (.returned (.bool false)) w23)) (
  Q (.returned (.bool false)) w23)) (
  Q (.returned (.bool false)) w23)) (
  Q (.returned (.bool false)) w23)) (
  Q (.returned (.bool false)) w23)) (
  Q (.returned (.bool false)) w23)) (
  Q (.returned (.bool false)) w23)) (
  Q (.returned (.bool false)) w23)) (
  Q (.returned (.bool false)) w23)) (
  drW w23 fun w25 =>
  ∃ S26 : World → Prop, S26 w25 ∧ (
  hdS S26 (⟨B1, 0, Option.none⟩ : Addr) fun A27 n27 c27 =>
  hdS S26 ((⟨B1, 0, Option.none⟩ : Addr).add 1) fun A28 n28 c28 =>
  hdS S26 ((⟨B1, 0, Option.none⟩ : Addr).add 2) fun A29 n29 c29 =>
  hdS S26 ((⟨B1, 0, Option.none⟩ : Addr).add 3) fun A30 n30 c30 =>
  hdS S26 (⟨B1, 0, Option.none⟩ : Addr) fun A31 n31 c31 =>
  hdS S26 ((⟨B1, 0, Option.none⟩ : Addr).add 1) fun A32 n32 c32 =>
  hdS S26 ((⟨B1, 0, Option.none⟩ : Addr).add 2) fun A33 n33 c33 =>
  hdS S26 ((⟨B1, 0, Option.none⟩ : Addr).add 3) fun A34 n34 c34 =>
  Calls Try.prog 51 #[.agg #[.slice A27 n27 c27, .slice A28 n28 c28, .slice A29 n29 c29, .slice A30 n30 c30], .int .i64 xa2] w25 fun e35 w36 => ∃ (A37 : Option Addr) (n37 : Nat) (c37 : Nat), e35 = .returned (.slice A37 n37 c37) ∧ (
  S26 w36 ∧ (
  Calls Try.prog 52 #[.agg #[.slice A31 n31 c31, .slice A32 n32 c32, .slice A33 n33 c33, .slice A34 n34 c34], .int .i64 xa2] w36 fun e38 w39 => ∃ (A40 : Option Addr) (n40 : Nat) (c40 : Nat), e38 = .returned (.slice A40 n40 c40) ∧ (
  j0 xa3 (⟨B1, 0, Option.none⟩ : Addr) A9_0 n9_0 c9_0 x9_1 A12_0 n12_0 c12_0 x12_1 x15_0 x15_1 x18_0 x18_1 x21_0 x21_1 b24_0 x24_1 A37 n37 c37 A40 n40 c40 w39 (fun (b62 : Bool) (w63 : World) => ∀ _ : Fr,
  Q (.returned (.bool b62)) w63)))))))))))))
def D : Nat → Option DH := dtab [(10, .held [.fst 0, .fst 1, .fst 3, .fst 4, .eff 2] [.eff 5, .fst 6, .fst 7])]
def j0LO : LO := ⟨[], [8], [], []⟩
def j0T : Spec := fun Q σ w =>
  gInt .i64 (σ 3) fun xt3 =>
  gAd (σ 5) fun at5 =>
  gSlice (σ 10) fun At10 nt10 ct10 =>
  gInt .i64 (σ 11) fun xt11 =>
  gSlice (σ 12) fun At12 nt12 ct12 =>
  gInt .i64 (σ 13) fun xt13 =>
  gInt .i64 (σ 14) fun xt14 =>
  gInt .i64 (σ 15) fun xt15 =>
  gInt .i64 (σ 16) fun xt16 =>
  gInt .i64 (σ 17) fun xt17 =>
  gInt .i64 (σ 18) fun xt18 =>
  gInt .i64 (σ 19) fun xt19 =>
  gBool (σ 20) fun bt20 =>
  gInt .i64 (σ 21) fun xt21 =>
  gSlice (σ 22) fun At22 nt22 ct22 =>
  gSlice (σ 23) fun At23 nt23 ct23 =>
  j0 xt3 at5 At10 nt10 ct10 xt11 At12 nt12 ct12 xt13 xt14 xt15 xt16 xt17 xt18 xt19 bt20 xt21 At22 nt22 ct22 At23 nt23 ct23 w (fun (bq8 : Bool) (w : World) => ∀ d : Fr, Q .ret (ov d [(8, .bool bq8)]) w)
def j0tb : List (List Nat × Spec) := []
noncomputable def j0b : Code := (subC [1, 1, 1, 1, 1, 1, 1, 1, 1, 1] body).getD .skip
theorem j0_eq (xt3 : Int) (at5 : Addr) (At10 : Option Addr) (nt10 : Nat) (ct10 : Nat) (xt11 : Int) (At12 : Option Addr) (nt12 : Nat) (ct12 : Nat) (xt13 : Int) (xt14 : Int) (xt15 : Int) (xt16 : Int) (xt17 : Int) (xt18 : Int) (xt19 : Int) (bt20 : Bool) (xt21 : Int) (At22 : Option Addr) (nt22 : Nat) (ct22 : Nat) (At23 : Option Addr) (nt23 : Nat) (ct23 : Nat) (Q : PQ) (σ : Fr) (w : World) :
    j0 xt3 at5 At10 nt10 ct10 xt11 At12 nt12 ct12 xt13 xt14 xt15 xt16 xt17 xt18 xt19 bt20 xt21 At22 nt22 ct22 At23 nt23 ct23 w (fun (bq8 : Bool) (w : World) => ∀ d : Fr, Q .ret (ov d [(8, .bool bq8)]) w) = codeW Try.prog hT 198 D (tab j0tb) [1, 1, 1, 1, 1, 1, 1, 1, 1, 1] j0b (widen j0LO Q) (ov σ [(3, .int .i64 xt3), (5, .pointer (some at5)), (10, .slice At10 nt10 ct10), (11, .int .i64 xt11), (12, .slice At12 nt12 ct12), (13, .int .i64 xt13), (14, .int .i64 xt14), (15, .int .i64 xt15), (16, .int .i64 xt16), (17, .int .i64 xt17), (18, .int .i64 xt18), (19, .int .i64 xt19), (20, .bool bt20), (21, .int .i64 xt21), (22, .slice At22 nt22 ct22), (23, .slice At23 nt23 ct23)]) w := by cases bt20 <;> kernel_rfl
theorem j0_snd : ∀ c, subC [1, 1, 1, 1, 1, 1, 1, 1, 1, 1] body = some c → Snd Try.prog 198 c j0T := by
  refine cut_of (hT := hT) (D := D) (l := j0tb) (b := j0b) (lo := j0LO) (by kernel_rfl) (by
    intro x hx
    simp only [j0tb, List.not_mem_nil] at hx
    ) (by kernel_rfl) (by kernel_rfl) ?_
  intro Q σ w h
  unfold j0T at h
  obtain ⟨xt3, h3, hn⟩ := gInt_elim h
  clear h
  have h := hn
  clear hn
  obtain ⟨at5, h5, hn⟩ := gAd_elim h
  clear h
  have h := hn
  clear hn
  obtain ⟨At10, nt10, ct10, h10, hn⟩ := gSlice_elim h
  clear h
  have h := hn
  clear hn
  obtain ⟨xt11, h11, hn⟩ := gInt_elim h
  clear h
  have h := hn
  clear hn
  obtain ⟨At12, nt12, ct12, h12, hn⟩ := gSlice_elim h
  clear h
  have h := hn
  clear hn
  obtain ⟨xt13, h13, hn⟩ := gInt_elim h
  clear h
  have h := hn
  clear hn
  obtain ⟨xt14, h14, hn⟩ := gInt_elim h
  clear h
  have h := hn
  clear hn
  obtain ⟨xt15, h15, hn⟩ := gInt_elim h
  clear h
  have h := hn
  clear hn
  obtain ⟨xt16, h16, hn⟩ := gInt_elim h
  clear h
  have h := hn
  clear hn
  obtain ⟨xt17, h17, hn⟩ := gInt_elim h
  clear h
  have h := hn
  clear hn
  obtain ⟨xt18, h18, hn⟩ := gInt_elim h
  clear h
  have h := hn
  clear hn
  obtain ⟨xt19, h19, hn⟩ := gInt_elim h
  clear h
  have h := hn
  clear hn
  obtain ⟨bt20, h20, hn⟩ := gBool_elim h
  clear h
  have h := hn
  clear hn
  obtain ⟨xt21, h21, hn⟩ := gInt_elim h
  clear h
  have h := hn
  clear hn
  obtain ⟨At22, nt22, ct22, h22, hn⟩ := gSlice_elim h
  clear h
  have h := hn
  clear hn
  obtain ⟨At23, nt23, ct23, h23, hn⟩ := gSlice_elim h
  clear h
  have h := hn
  clear hn
  rw [j0_eq (σ := σ)] at h
  have e : (ov σ [(3, .int .i64 xt3), (5, .pointer (some at5)), (10, .slice At10 nt10 ct10), (11, .int .i64 xt11), (12, .slice At12 nt12 ct12), (13, .int .i64 xt13), (14, .int .i64 xt14), (15, .int .i64 xt15), (16, .int .i64 xt16), (17, .int .i64 xt17), (18, .int .i64 xt18), (19, .int .i64 xt19), (20, .bool bt20), (21, .int .i64 xt21), (22, .slice At22 nt22 ct22), (23, .slice At23 nt23 ct23)]) = σ := ov_self (by simp [h3, h5, h10, h11, h12, h13, h14, h15, h16, h17, h18, h19, h20, h21, h22, h23])
  rw [e] at h
  exact h
def tb : List (List Nat × Spec) := [([1, 1, 1, 1, 1, 1, 1, 1, 1, 1], j0T)]
theorem wp_eq (pa0 : Option Addr) (Aa1_0 : Option Addr) (na1_0 : Nat) (ca1_0 : Nat) (Aa1_1 : Option Addr) (na1_1 : Nat) (ca1_1 : Nat) (Aa1_2 : Option Addr) (na1_2 : Nat) (ca1_2 : Nat) (Aa1_3 : Option Addr) (na1_3 : Nat) (ca1_3 : Nat) (xa2 : Int) (xa3 : Int) (w : World) (Q : Ending → World → Prop) :
    wp pa0 Aa1_0 na1_0 ca1_0 Aa1_1 na1_1 ca1_1 Aa1_2 na1_2 ca1_2 Aa1_3 na1_3 ca1_3 xa2 xa3 w Q = codeW Try.prog hT 198 D (tab tb) [] body (topQ Try.prog hT 198 [.tmp 8] Q) (argsF [.pointer pa0, .agg #[.slice Aa1_0 na1_0 ca1_0, .slice Aa1_1 na1_1 ca1_1, .slice Aa1_2 na1_2 ca1_2, .slice Aa1_3 na1_3 ca1_3], .int .i64 xa2, .int .i64 xa3]) w := by kernel_rfl
theorem ok (pa0 : Option Addr) (Aa1_0 : Option Addr) (na1_0 : Nat) (ca1_0 : Nat) (Aa1_1 : Option Addr) (na1_1 : Nat) (ca1_1 : Nat) (Aa1_2 : Option Addr) (na1_2 : Nat) (ca1_2 : Nat) (Aa1_3 : Option Addr) (na1_3 : Nat) (ca1_3 : Nat) (xa2 : Int) (xa3 : Int) (w : World) (Q : Ending → World → Prop) (h : wp pa0 Aa1_0 na1_0 ca1_0 Aa1_1 na1_1 ca1_1 Aa1_2 na1_2 ca1_2 Aa1_3 na1_3 ca1_3 xa2 xa3 w Q) : Calls Try.prog 28 #[.pointer pa0, .agg #[.slice Aa1_0 na1_0 ca1_0, .slice Aa1_1 na1_1 ca1_1, .slice Aa1_2 na1_2 ca1_2, .slice Aa1_3 na1_3 ca1_3], .int .i64 xa2, .int .i64 xa3] w Q := by
  rw [wp_eq] at h
  exact calls_of_codeW (c := body) (rs := [.tmp 8]) Try.func28 (by kernel_rfl) (by kernel_rfl) (by kernel_rfl) (by kernel_rfl) (by kernel_rfl) (tab_snd (by
    intro x hx
    simp only [tb, List.mem_cons, List.not_mem_nil, or_false] at hx
    subst hx
    exact j0_snd)) (by kernel_rfl) h
end f_law16_tells
end Go.Proofs.Ytkkobfajahmfaaa.Rd
