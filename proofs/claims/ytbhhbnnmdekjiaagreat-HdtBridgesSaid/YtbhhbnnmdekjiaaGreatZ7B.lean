/- The printed readings of some functions: each function's code reckoned by the kernel to its predicate transformer · The printed readings of some functions: each function's code reckoned by the kernel to its predicate transformer · The printed readings -/
import Derived.Test.YtbhhbnnmdekjiaaGreatZ7A
set_option linter.unusedSimpArgs false
set_option linter.unusedVariables false
namespace Go.Proofs.YtbhhbnnmdekjiaaGreat.Rd
open Go.Dn
set_option maxRecDepth 100000
namespace f_euler_New
noncomputable def body : Code := (Tryz.f52.body).getD .skip
def wp (Aa0 : Option Addr) (na0 ca0 : Nat) (w : World) (Q : Ending → World → Prop) : Prop := Calls Tryz.prog 80 #[.slice Aa0 na0 ca0] w fun e1 w2 => ∃ p3, e1 = .returned (.pointer p3) ∧ (alW w2 (.map #[] 0) fun B4 w5 => alW w5 (.map #[] 0) fun B6 w7 => alW w7 (.map #[] 0) fun B8 w9 => alW w9 (.cells #[.pointer p3, .map (some B4), .map (some B6), .map (some B8), .slice none 0 0] 108) fun B10 w11 => Q (.returned (.pointer (some ⟨B10, 0, none⟩))) w11)
def D : Nat → Option DH := dtab []
def tb : List (List Nat × Spec) := []
variable (Aa0 : Option Addr) (na0 ca0 : Nat) (w : World) (Q : Ending → World → Prop)
theorem wp_eq : wp Aa0 na0 ca0 w Q = codeW Tryz.prog hT 10 D (tab tb) [] body (topQ Tryz.prog hT 10 [.tmp 2] Q) (argsF [.slice Aa0 na0 ca0]) w := by kernel_rfl
theorem ok (h : wp Aa0 na0 ca0 w Q) : Calls Tryz.prog 52 #[.slice Aa0 na0 ca0] w Q := by
  rw [wp_eq] at h
  refine calls_of_codeW (c := body) (rs := [.tmp 2]) Tryz.func52 ?_ ?_ ?_ ?_ ?_ (tab_snd (by
    intro x hx
    simp only [tb, List.not_mem_nil] at hx
    )) ?_ h <;> kernel_rfl
end f_euler_New
namespace f_euler_Forest_AddV
noncomputable def body : Code := (Tryz.f47.body).getD .skip
def wp (aa0 : Addr) (xa1 : Int) (w : World) (Q : Ending → World → Prop) : Prop := alW w (.cells #[.int .i64 xa1] 3) fun B1 w2 => Calls Tryz.prog 60 #[.slice (some ⟨B1, 0, none⟩) 1 1] w2 fun e3 w4 => ∃ b5, e3 = .returned (.bool b5) ∧ (sel b5 (Q (.returned (.int .i64 1)) w4) (ldM w4 (aa0.add 1) fun m6 => Runs Tryz.prog (Instr.lookup 64 (.map m6) (.int .i64 xa1) false) w4 fun v8 w7 => ∃ x9, v8 = (.int .i64 x9) ∧ (sel (decide (x9 > 0)) (Q (.returned (.int .i64 50)) w7) (ldM w7 (aa0.add 1) fun m10 => Runs Tryz.prog (Builtin.len_ #[64] 3 #[.map m10]) w7 fun v12 w11 => ∃ x13, v12 = (.int .i64 x13) ∧ (sel (decide (x13 ≥ 2048)) (Q (.returned (.int .i64 55)) w11) (drW w11 fun w14 => ∃ S15 : World → Prop, S15 w14 ∧ (hdM S15 (aa0.add 1) fun m16 => Calls Tryz.prog 62 #[.pointer (some aa0), .agg #[.bool false, .int .i64 xa1], .agg #[.int .i64 1, .int .i64 0, .int .i64 0]] w14 fun e17 w18 => ∃ x19, e17 = .returned (.int .i64 x19) ∧ (S15 w18 ∧ (Runs Tryz.prog (Instr.mapUpdate 64 (.map m16) (.int .i64 xa1) (.int .i64 x19)) w18 fun _ w20 => Q (.returned (.int .i64 0)) w20)))))))))
def D : Nat → Option DH := dtab [(7, .held [.fst 0, .fst 1, .fst 2, .fst 3, .fst 4, .fst 5, .fst 6, .fst 7, .fst 8, .eff 9] [.eff 10])]
def tb : List (List Nat × Spec) := []
variable (aa0 : Addr) (xa1 : Int) (w : World) (Q : Ending → World → Prop)
theorem wp_eq : wp aa0 xa1 w Q = codeW Tryz.prog hT 34 D (tab tb) [] body (topQ Tryz.prog hT 34 [.tmp 4] Q) (argsF [.pointer (some aa0), .int .i64 xa1]) w := by kernel_rfl
theorem ok (h : wp aa0 xa1 w Q) : Calls Tryz.prog 47 #[.pointer (some aa0), .int .i64 xa1] w Q := by
  rw [wp_eq] at h
  refine calls_of_codeW (c := body) (rs := [.tmp 4]) Tryz.func47 ?_ ?_ ?_ ?_ ?_ (tab_snd (by
    intro x hx
    simp only [tb, List.not_mem_nil] at hx
    )) ?_ h <;> kernel_rfl
end f_euler_Forest_AddV
namespace f_euler_Forest_DelV
noncomputable def body : Code := (Tryz.f53.body).getD .skip
def wp (aa0 : Addr) (xa1 : Int) (w : World) (Q : Ending → World → Prop) : Prop := ldM w (aa0.add 1) fun m1 => Runs Tryz.prog (Instr.lookup 64 (.map m1) (.int .i64 xa1) false) w fun v3 w2 => ∃ x4, v3 = (.int .i64 x4) ∧ (alW w2 (.cells #[.int .i64 xa1] 3) fun B5 w6 => Calls Tryz.prog 60 #[.slice (some ⟨B5, 0, none⟩) 1 1] w6 fun e7 w8 => ∃ b9, e7 = .returned (.bool b9) ∧ (sel b9 (Q (.returned (.int .i64 1)) w8) (sel (x4 == 0) (Q (.returned (.int .i64 51)) w8) (ldP w8 aa0 fun p10 => Calls Tryz.prog 81 #[.pointer p10, .int .i64 x4] w8 fun e11 w12 => ∃ x13_0 x13_1, e11 = .returned (.tuple #[.int .i64 x13_0, .int .i64 x13_1]) ∧ (sel (decide (x13_0 > 1)) (Q (.returned (.int .i64 52)) w12) (Calls Tryz.prog 70 #[.pointer (some aa0), .int .i64 x4] w12 fun e14 w15 => e14 = .returned (.tuple #[]) ∧ (ldM w15 (aa0.add 1) fun m16 => Runs Tryz.prog (Builtin.delete_ #[64, 3] 0 #[.map m16, .int .i64 xa1]) w15 fun v18 w17 => v18 = (.tuple #[]) ∧ (Q (.returned (.int .i64 0)) w17))))))))
def D : Nat → Option DH := dtab []
def tb : List (List Nat × Spec) := []
variable (aa0 : Addr) (xa1 : Int) (w : World) (Q : Ending → World → Prop)
theorem wp_eq : wp aa0 xa1 w Q = codeW Tryz.prog hT 40 D (tab tb) [] body (topQ Tryz.prog hT 40 [.tmp 4] Q) (argsF [.pointer (some aa0), .int .i64 xa1]) w := by kernel_rfl
theorem ok (h : wp aa0 xa1 w Q) : Calls Tryz.prog 53 #[.pointer (some aa0), .int .i64 xa1] w Q := by
  rw [wp_eq] at h
  refine calls_of_codeW (c := body) (rs := [.tmp 4]) Tryz.func53 ?_ ?_ ?_ ?_ ?_ (tab_snd (by
    intro x hx
    simp only [tb, List.not_mem_nil] at hx
    )) ?_ h <;> kernel_rfl
end f_euler_Forest_DelV
namespace f_euler_Forest_Link
noncomputable def body : Code := (Tryz.f41.body).getD .skip
def od5 : OD := ⟨[0, 2, 3], [3, 5, 9, 11], fun i => ([⟨false, [], [], fun ps vs => match ps, vs with | [.pointer (some ap0), .int _ xp2, .int _ xp3], [] => .pointer (some ap0) | _, _ => undef⟩,
  ⟨false, [], [0], fun ps vs => match ps, vs with | [.pointer (some ap0), .int _ xp2, .int _ xp3], [] => .pointer (some ap0) | _, _ => undef⟩,
  ⟨false, [], [1], fun ps vs => match ps, vs with | [.pointer (some ap0), .int _ xp2, .int _ xp3], [] => .pointer (some (ap0.add 1)) | _, _ => undef⟩,
  ⟨true, [], [2], fun _ _ => undef⟩,
  ⟨false, [], [], fun ps vs => match ps, vs with | [.pointer (some ap0), .int _ xp2, .int _ xp3], [] => .int .i64 xp2 | _, _ => undef⟩,
  ⟨true, [3], [3, 4], fun _ _ => undef⟩,
  ⟨false, [], [], fun ps vs => match ps, vs with | [.pointer (some ap0), .int _ xp2, .int _ xp3], [] => .pointer (some ap0) | _, _ => undef⟩,
  ⟨false, [], [6], fun ps vs => match ps, vs with | [.pointer (some ap0), .int _ xp2, .int _ xp3], [] => .pointer (some ap0) | _, _ => undef⟩,
  ⟨false, [], [7], fun ps vs => match ps, vs with | [.pointer (some ap0), .int _ xp2, .int _ xp3], [] => .pointer (some (ap0.add 1)) | _, _ => undef⟩,
  ⟨true, [], [8], fun _ _ => undef⟩,
  ⟨false, [], [], fun ps vs => match ps, vs with | [.pointer (some ap0), .int _ xp2, .int _ xp3], [] => .int .i64 xp3 | _, _ => undef⟩,
  ⟨true, [9], [9, 10], fun _ _ => undef⟩,
  ⟨false, [3, 5], [5], fun ps vs => match ps, vs with | [.pointer (some ap0), .int _ xp2, .int _ xp3], [.map me3, .int _ xe5] => .int .i64 xe5 | _, _ => undef⟩,
  ⟨false, [3, 5, 9, 11], [11], fun ps vs => match ps, vs with | [.pointer (some ap0), .int _ xp2, .int _ xp3], [.map me3, .int _ xe5, .map me9, .int _ xe11] => .int .i64 xe11 | _, _ => undef⟩] : List OI).getD i ⟨true, [], [], fun _ _ => undef⟩, fun i => ([.one (.sc .any), .one (.sc .any), .one (.sc .any), (.one (.sc .map)), .one (.sc .any), (.one (.sc (.int .i64))), .one (.sc .any), .one (.sc .any), .one (.sc .any), (.one (.sc .map)), .one (.sc .any), (.one (.sc (.int .i64))), .one (.sc .any), .one (.sc .any)] : List OS).getD i (.one (.sc .any))⟩
def h5 (ap0 : Addr) (xp2 xp3 : Int) : Prop := (∀ (_ : Fr) (w : World), w = w ∧ (.pointer (some ap0) : Value) = (.pointer (some ap0))) ∧ (∀ (_ : Fr) (w : World), w = w ∧ (.pointer (some ap0) : Value) = (.pointer (some ap0))) ∧ (∀ (_ : Fr) (w : World), w = w ∧ (.pointer (some (ap0.add 1)) : Value) = (.pointer (some (ap0.add 1)))) ∧ (∀ (_ : Fr) (w : World), w = w ∧ (.int .i64 xp2 : Value) = (.int .i64 xp2)) ∧ (∀ (_ : Fr) (w : World), w = w ∧ (.pointer (some ap0) : Value) = (.pointer (some ap0))) ∧ (∀ (_ : Fr) (w : World), w = w ∧ (.pointer (some ap0) : Value) = (.pointer (some ap0))) ∧ (∀ (_ : Fr) (w : World), w = w ∧ (.pointer (some (ap0.add 1)) : Value) = (.pointer (some (ap0.add 1)))) ∧ (∀ (_ : Fr) (w : World), w = w ∧ (.int .i64 xp3 : Value) = (.int .i64 xp3)) ∧ (∀ (_ : Fr) (w : World), ∀ (me3 : Option Nat), ∀ (xe5 : Int), w = w ∧ (.int .i64 xe5 : Value) = (.int .i64 xe5)) ∧ (∀ (_ : Fr) (w : World), ∀ (me3 : Option Nat), ∀ (xe5 : Int), ∀ (me9 : Option Nat), ∀ (xe11 : Int), w = w ∧ (.int .i64 xe11 : Value) = (.int .i64 xe11)) ∧ True
theorem h5_ok (ap0 : Addr) (xp2 xp3 : Int) : h5 ap0 xp2 xp3 := ⟨fun _ w => ⟨rfl, rfl⟩, fun _ w => ⟨rfl, rfl⟩, fun _ w => ⟨rfl, rfl⟩, fun _ w => ⟨rfl, rfl⟩, fun _ w => ⟨rfl, rfl⟩, fun _ w => ⟨rfl, rfl⟩, fun _ w => ⟨rfl, rfl⟩, fun _ w => ⟨rfl, rfl⟩, fun _ w _ _ => ⟨rfl, rfl⟩, fun _ w _ _ _ _ => ⟨rfl, rfl⟩, trivial⟩
def j0 (at0 : Addr) (xt9 xt10 xt13 xt14 : Int) (w : World) (Kr : Int → World → Prop) : Prop := Calls Tryz.prog 63 #[.pointer (some at0), .int .i64 xt9] w fun e37 w38 => e37 = .returned (.tuple #[]) ∧ (Calls Tryz.prog 63 #[.pointer (some at0), .int .i64 xt10] w38 fun e39 w40 => e39 = .returned (.tuple #[]) ∧ (ldP w40 at0 fun p41 => Calls Tryz.prog 64 #[.pointer p41, .int .i64 xt9, .int .i64 xt13] w40 fun e42 w43 => ∃ x44, e42 = .returned (.int .i64 x44) ∧ (ldP w43 at0 fun p45 => Calls Tryz.prog 64 #[.pointer p45, .int .i64 xt13, .int .i64 xt10] w43 fun e46 w47 => ∃ x48, e46 = .returned (.int .i64 x48) ∧ (ldP w47 at0 fun p49 => Calls Tryz.prog 64 #[.pointer p49, .int .i64 xt10, .int .i64 xt14] w47 fun e50 w51 => ∃ x52, e50 = .returned (.int .i64 x52) ∧ (Kr 0 w51)))))
def wp (aa0 : Addr) (xa1 xa2 xa3 : Int) (w : World) (Q : Ending → World → Prop) : Prop := alW w (.cells #[.int .i64 xa1, .int .i64 xa2, .int .i64 xa3] 3) fun B1 w2 => Calls Tryz.prog 60 #[.slice (some ⟨B1, 0, none⟩) 3 3] w2 fun e3 w4 => ∃ b5, e3 = .returned (.bool b5) ∧ (sel b5 (Q (.returned (.int .i64 1)) w4) (Calls Tryz.prog 61 #[.pointer (some aa0), .int .i64 xa1] w4 fun e6 w7 => ∃ b8, e6 = .returned (.bool b8) ∧ (sel b8 (Q (.returned (.int .i64 50)) w7) (drW w7 fun w9 => h5 aa0 xa2 xa3 ∧ ∃ (G10 : World → World → Prop) (Φ11 : Nat → Value → World → Prop), (∀ w, G10 w w) ∧ (∀ a b c, G10 a b → G10 b c → G10 a c) ∧ (∀ i v a b, G10 w9 a → G10 a b → Φ11 i v a → Φ11 i v b) ∧ ((∀ (_ : Fr) (w12 : World), G10 w9 w12 → (ldM w12 (aa0.add 1) fun m13 => G10 w12 w12 ∧ Φ11 3 (.map m13) w12)) ∧ (∀ (_ : Fr) (w14 : World), G10 w9 w14 → ∀ (me3 : Option Nat), Φ11 3 (.map me3) w14 → (Runs Tryz.prog (Instr.lookup 64 (.map me3) (.int .i64 xa2) false) w14 fun v16 w15 => ∃ x17, v16 = (.int .i64 x17) ∧ (G10 w14 w15 ∧ Φ11 5 (.int .i64 x17) w15))) ∧ (∀ (_ : Fr) (w18 : World), G10 w9 w18 → (ldM w18 (aa0.add 1) fun m19 => G10 w18 w18 ∧ Φ11 9 (.map m19) w18)) ∧ (∀ (_ : Fr) (w20 : World), G10 w9 w20 → ∀ (me9 : Option Nat), Φ11 9 (.map me9) w20 → (Runs Tryz.prog (Instr.lookup 64 (.map me9) (.int .i64 xa3) false) w20 fun v22 w21 => ∃ x23, v22 = (.int .i64 x23) ∧ (G10 w20 w21 ∧ Φ11 11 (.int .i64 x23) w21))) ∧ True) ∧ ∀ w24, G10 w9 w24 → ∀ (me3 : Option Nat), Φ11 3 (.map me3) w24 → ∀ (xe5 : Int), Φ11 5 (.int .i64 xe5) w24 → ∀ (me9 : Option Nat), Φ11 9 (.map me9) w24 → ∀ (xe11 : Int), Φ11 11 (.int .i64 xe11) w24 → (sel (xe5 == 0) (Q (.returned (.int .i64 51)) w24) (sel (xe11 == 0) (Q (.returned (.int .i64 51)) w24) (ldP w24 aa0 fun p25 => Calls Tryz.prog 56 #[.pointer p25, .int .i64 xe5, .int .i64 xe11] w24 fun e26 w27 => ∃ b28_0 x28_1, e26 = .returned (.tuple #[.bool b28_0, .int .i64 x28_1]) ∧ (sel b28_0 (Q (.returned (.int .i64 151)) w27) (Calls Tryz.prog 62 #[.pointer (some aa0), .agg #[.bool true, .int .i64 xa1], .agg #[.int .i64 0, .int .i64 0, .int .i64 0]] w27 fun e29 w30 => ∃ x31, e29 = .returned (.int .i64 x31) ∧ (Calls Tryz.prog 62 #[.pointer (some aa0), .agg #[.bool true, .int .i64 xa1], .agg #[.int .i64 0, .int .i64 0, .int .i64 0]] w30 fun e32 w33 => ∃ x34, e32 = .returned (.int .i64 x34) ∧ (ldM w33 (aa0.add 2) fun m35 => Runs Tryz.prog (Instr.mapUpdate 105 (.map m35) (.int .i64 xa1) (.agg #[.int .i64 x31, .int .i64 x34])) w33 fun _ w36 => j0 aa0 xe5 xe11 x31 x34 w36 (fun x53 w54 => ∀ _ : Fr, Q (.returned (.int .i64 x53)) w54))))))))))))
def D : Nat → Option DH := dtab [(5, .opn od5)]
def j0LO : LO := ⟨[], [8], [], []⟩
def j0T : Spec := fun Q σ w => gAd (σ 0) fun at0 => gInt .i64 (σ 9) fun xt9 => gInt .i64 (σ 10) fun xt10 => gInt .i64 (σ 13) fun xt13 => gInt .i64 (σ 14) fun xt14 => j0 at0 xt9 xt10 xt13 xt14 w (fun xq8 w => ∀ d : Fr, Q .ret (ov d [(8, .int .i64 xq8)]) w)
def j0tb : List (List Nat × Spec) := []
noncomputable def j0b : Code := (subC [1, 1, 1, 1, 1, 1, 1, 1] body).getD .skip
theorem j0_eq (at0 : Addr) (xt9 xt10 xt13 xt14 : Int) (Q : PQ) (σ : Fr) (w : World) : j0 at0 xt9 xt10 xt13 xt14 w (fun xq8 w => ∀ d : Fr, Q .ret (ov d [(8, .int .i64 xq8)]) w) = codeW Tryz.prog hT 97 D (tab j0tb) [1, 1, 1, 1, 1, 1, 1, 1] j0b (widen j0LO Q) (ov σ [(0, .pointer (some at0)), (9, .int .i64 xt9), (10, .int .i64 xt10), (13, .int .i64 xt13), (14, .int .i64 xt14)]) w := by kernel_rfl
theorem j0_snd : ∀ c, subC [1, 1, 1, 1, 1, 1, 1, 1] body = some c → Snd Tryz.prog 97 c j0T := by
  refine cut_of (hT := hT) (D := D) (l := j0tb) (b := j0b) (lo := j0LO) (by kernel_rfl) (by
    intro x hx
    simp only [j0tb, List.not_mem_nil] at hx
    ) (by kernel_rfl) (by kernel_rfl) ?_
  intro Q σ w h
  unfold j0T at h
  obtain ⟨at0, h0, h⟩ := gAd_elim h
  obtain ⟨xt9, h9, h⟩ := gInt_elim h
  obtain ⟨xt10, h10, h⟩ := gInt_elim h
  obtain ⟨xt13, h13, h⟩ := gInt_elim h
  obtain ⟨xt14, h14, h⟩ := gInt_elim h
  rw [j0_eq (σ := σ)] at h
  have e : (ov σ [(0, .pointer (some at0)), (9, .int .i64 xt9), (10, .int .i64 xt10), (13, .int .i64 xt13), (14, .int .i64 xt14)]) = σ := ov_self (by simp [h0, h9, h10, h13, h14])
  rw [e] at h
  exact h
def tb : List (List Nat × Spec) := [([1, 1, 1, 1, 1, 1, 1, 1], j0T)]
variable (aa0 : Addr) (xa1 xa2 xa3 : Int) (w : World) (Q : Ending → World → Prop)
theorem wp_eq : wp aa0 xa1 xa2 xa3 w Q = codeW Tryz.prog hT 97 D (tab tb) [] body (topQ Tryz.prog hT 97 [.tmp 8] Q) (argsF [.pointer (some aa0), .int .i64 xa1, .int .i64 xa2, .int .i64 xa3]) w := by kernel_rfl
theorem ok (h : wp aa0 xa1 xa2 xa3 w Q) : Calls Tryz.prog 41 #[.pointer (some aa0), .int .i64 xa1, .int .i64 xa2, .int .i64 xa3] w Q := by
  rw [wp_eq] at h
  refine calls_of_codeW (c := body) (rs := [.tmp 8]) Tryz.func41 ?_ ?_ ?_ ?_ ?_ (tab_snd (by
    intro x hx
    simp only [tb, List.mem_cons, List.not_mem_nil, or_false] at hx
    subst hx
    exact j0_snd)) ?_ h <;> kernel_rfl
end f_euler_Forest_Link
namespace f_euler_Forest_Cut
noncomputable def body : Code := (Tryz.f44.body).getD .skip
def wp (aa0 : Addr) (xa1 : Int) (w : World) (Q : Ending → World → Prop) : Prop := alW w (.cells #[.int .i64 xa1] 3) fun B1 w2 => Calls Tryz.prog 60 #[.slice (some ⟨B1, 0, none⟩) 1 1] w2 fun e3 w4 => ∃ b5, e3 = .returned (.bool b5) ∧ (sel b5 (Q (.returned (.int .i64 1)) w4) (ldM w4 (aa0.add 2) fun m6 => Runs Tryz.prog (Instr.lookup 105 (.map m6) (.int .i64 xa1) true) w4 fun v8 w7 => ∃ x9_0_0 x9_0_1 b9_1, v8 = (.tuple #[.agg #[.int .i64 x9_0_0, .int .i64 x9_0_1], .bool b9_1]) ∧ (alW w7 (.cells #[.int .i64 0, .int .i64 0] 118) fun B10 w11 => stW w11 ⟨B10, 0, none⟩ (.int .i64 x9_0_0) fun w12 => stW w12 (.add ⟨B10, 0, none⟩ 1) (.int .i64 x9_0_1) fun w13 => sel (!b9_1) (Q (.returned (.int .i64 152)) w13) (drW w13 fun w14 => ldI w14 ((⟨B10, 0, none⟩ : Addr).add ((0 : Int).toNat * 1)) .i64 fun x16 => ldI w14 ((⟨B10, 0, none⟩ : Addr).add ((1 : Int).toNat * 1)) .i64 fun x17 => Calls Tryz.prog 63 #[.pointer (some aa0), .int .i64 x16] w14 fun e18 w19 => e18 = .returned (.tuple #[]) ∧ (ldP w19 aa0 fun p20 => Calls Tryz.prog 68 #[.pointer p20, .int .i64 x17] w19 fun e21 w22 => ∃ x23, e21 = .returned (.int .i64 x23) ∧ (Calls Tryz.prog 69 #[.pointer (some aa0), .int .i64 x16] w22 fun e24 w25 => e24 = .returned (.tuple #[]) ∧ (Calls Tryz.prog 69 #[.pointer (some aa0), .int .i64 x17] w25 fun e26 w27 => e26 = .returned (.tuple #[]) ∧ (Calls Tryz.prog 70 #[.pointer (some aa0), .int .i64 x16] w27 fun e28 w29 => e28 = .returned (.tuple #[]) ∧ (Calls Tryz.prog 70 #[.pointer (some aa0), .int .i64 x17] w29 fun e30 w31 => e30 = .returned (.tuple #[]) ∧ (ldM w31 (aa0.add 2) fun m32 => Runs Tryz.prog (Builtin.delete_ #[105, 3] 0 #[.map m32, .int .i64 xa1]) w31 fun v34 w33 => v34 = (.tuple #[]) ∧ (Q (.returned (.int .i64 0)) w33)))))))))))
def D : Nat → Option DH := dtab [(6, .simple [.fst 0, .fst 1, .fst 2, .fst 3, .fst 4] [.fst 5])]
def tb : List (List Nat × Spec) := []
variable (aa0 : Addr) (xa1 : Int) (w : World) (Q : Ending → World → Prop)
theorem wp_eq : wp aa0 xa1 w Q = codeW Tryz.prog hT 53 D (tab tb) [] body (topQ Tryz.prog hT 53 [.tmp 4] Q) (argsF [.pointer (some aa0), .int .i64 xa1]) w := by kernel_rfl
theorem ok (h : wp aa0 xa1 w Q) : Calls Tryz.prog 44 #[.pointer (some aa0), .int .i64 xa1] w Q := by
  rw [wp_eq] at h
  refine calls_of_codeW (c := body) (rs := [.tmp 4]) Tryz.func44 ?_ ?_ ?_ ?_ ?_ (tab_snd (by
    intro x hx
    simp only [tb, List.not_mem_nil] at hx
    )) ?_ h <;> kernel_rfl
end f_euler_Forest_Cut
namespace f_euler_Forest_Joined
noncomputable def body : Code := (Tryz.f37.body).getD .skip
def od1 : OD := ⟨[0, 1, 2], [3, 5, 9, 11], fun i => ([⟨false, [], [], fun ps vs => match ps, vs with | [.pointer (some ap0), .int _ xp1, .int _ xp2], [] => .pointer (some ap0) | _, _ => undef⟩,
  ⟨false, [], [0], fun ps vs => match ps, vs with | [.pointer (some ap0), .int _ xp1, .int _ xp2], [] => .pointer (some ap0) | _, _ => undef⟩,
  ⟨false, [], [1], fun ps vs => match ps, vs with | [.pointer (some ap0), .int _ xp1, .int _ xp2], [] => .pointer (some (ap0.add 1)) | _, _ => undef⟩,
  ⟨true, [], [2], fun _ _ => undef⟩,
  ⟨false, [], [], fun ps vs => match ps, vs with | [.pointer (some ap0), .int _ xp1, .int _ xp2], [] => .int .i64 xp1 | _, _ => undef⟩,
  ⟨true, [3], [3, 4], fun _ _ => undef⟩,
  ⟨false, [], [], fun ps vs => match ps, vs with | [.pointer (some ap0), .int _ xp1, .int _ xp2], [] => .pointer (some ap0) | _, _ => undef⟩,
  ⟨false, [], [6], fun ps vs => match ps, vs with | [.pointer (some ap0), .int _ xp1, .int _ xp2], [] => .pointer (some ap0) | _, _ => undef⟩,
  ⟨false, [], [7], fun ps vs => match ps, vs with | [.pointer (some ap0), .int _ xp1, .int _ xp2], [] => .pointer (some (ap0.add 1)) | _, _ => undef⟩,
  ⟨true, [], [8], fun _ _ => undef⟩,
  ⟨false, [], [], fun ps vs => match ps, vs with | [.pointer (some ap0), .int _ xp1, .int _ xp2], [] => .int .i64 xp2 | _, _ => undef⟩,
  ⟨true, [9], [9, 10], fun _ _ => undef⟩,
  ⟨false, [3, 5], [5], fun ps vs => match ps, vs with | [.pointer (some ap0), .int _ xp1, .int _ xp2], [.map me3, .int _ xe5] => .int .i64 xe5 | _, _ => undef⟩,
  ⟨false, [3, 5, 9, 11], [11], fun ps vs => match ps, vs with | [.pointer (some ap0), .int _ xp1, .int _ xp2], [.map me3, .int _ xe5, .map me9, .int _ xe11] => .int .i64 xe11 | _, _ => undef⟩] : List OI).getD i ⟨true, [], [], fun _ _ => undef⟩, fun i => ([.one (.sc .any), .one (.sc .any), .one (.sc .any), (.one (.sc .map)), .one (.sc .any), (.one (.sc (.int .i64))), .one (.sc .any), .one (.sc .any), .one (.sc .any), (.one (.sc .map)), .one (.sc .any), (.one (.sc (.int .i64))), .one (.sc .any), .one (.sc .any)] : List OS).getD i (.one (.sc .any))⟩
def h1 (ap0 : Addr) (xp1 xp2 : Int) : Prop := (∀ (_ : Fr) (w : World), w = w ∧ (.pointer (some ap0) : Value) = (.pointer (some ap0))) ∧ (∀ (_ : Fr) (w : World), w = w ∧ (.pointer (some ap0) : Value) = (.pointer (some ap0))) ∧ (∀ (_ : Fr) (w : World), w = w ∧ (.pointer (some (ap0.add 1)) : Value) = (.pointer (some (ap0.add 1)))) ∧ (∀ (_ : Fr) (w : World), w = w ∧ (.int .i64 xp1 : Value) = (.int .i64 xp1)) ∧ (∀ (_ : Fr) (w : World), w = w ∧ (.pointer (some ap0) : Value) = (.pointer (some ap0))) ∧ (∀ (_ : Fr) (w : World), w = w ∧ (.pointer (some ap0) : Value) = (.pointer (some ap0))) ∧ (∀ (_ : Fr) (w : World), w = w ∧ (.pointer (some (ap0.add 1)) : Value) = (.pointer (some (ap0.add 1)))) ∧ (∀ (_ : Fr) (w : World), w = w ∧ (.int .i64 xp2 : Value) = (.int .i64 xp2)) ∧ (∀ (_ : Fr) (w : World), ∀ (me3 : Option Nat), ∀ (xe5 : Int), w = w ∧ (.int .i64 xe5 : Value) = (.int .i64 xe5)) ∧ (∀ (_ : Fr) (w : World), ∀ (me3 : Option Nat), ∀ (xe5 : Int), ∀ (me9 : Option Nat), ∀ (xe11 : Int), w = w ∧ (.int .i64 xe11 : Value) = (.int .i64 xe11)) ∧ True
theorem h1_ok (ap0 : Addr) (xp1 xp2 : Int) : h1 ap0 xp1 xp2 := ⟨fun _ w => ⟨rfl, rfl⟩, fun _ w => ⟨rfl, rfl⟩, fun _ w => ⟨rfl, rfl⟩, fun _ w => ⟨rfl, rfl⟩, fun _ w => ⟨rfl, rfl⟩, fun _ w => ⟨rfl, rfl⟩, fun _ w => ⟨rfl, rfl⟩, fun _ w => ⟨rfl, rfl⟩, fun _ w _ _ => ⟨rfl, rfl⟩, fun _ w _ _ _ _ => ⟨rfl, rfl⟩, trivial⟩
def wp (aa0 : Addr) (xa1 xa2 : Int) (w : World) (Q : Ending → World → Prop) : Prop := drW w fun w1 => h1 aa0 xa1 xa2 ∧ ∃ (G2 : World → World → Prop) (Φ3 : Nat → Value → World → Prop), (∀ w, G2 w w) ∧ (∀ a b c, G2 a b → G2 b c → G2 a c) ∧ (∀ i v a b, G2 w1 a → G2 a b → Φ3 i v a → Φ3 i v b) ∧ ((∀ (_ : Fr) (w4 : World), G2 w1 w4 → (ldM w4 (aa0.add 1) fun m5 => G2 w4 w4 ∧ Φ3 3 (.map m5) w4)) ∧ (∀ (_ : Fr) (w6 : World), G2 w1 w6 → ∀ (me3 : Option Nat), Φ3 3 (.map me3) w6 → (Runs Tryz.prog (Instr.lookup 64 (.map me3) (.int .i64 xa1) false) w6 fun v8 w7 => ∃ x9, v8 = (.int .i64 x9) ∧ (G2 w6 w7 ∧ Φ3 5 (.int .i64 x9) w7))) ∧ (∀ (_ : Fr) (w10 : World), G2 w1 w10 → (ldM w10 (aa0.add 1) fun m11 => G2 w10 w10 ∧ Φ3 9 (.map m11) w10)) ∧ (∀ (_ : Fr) (w12 : World), G2 w1 w12 → ∀ (me9 : Option Nat), Φ3 9 (.map me9) w12 → (Runs Tryz.prog (Instr.lookup 64 (.map me9) (.int .i64 xa2) false) w12 fun v14 w13 => ∃ x15, v14 = (.int .i64 x15) ∧ (G2 w12 w13 ∧ Φ3 11 (.int .i64 x15) w13))) ∧ True) ∧ ∀ w16, G2 w1 w16 → ∀ (me3 : Option Nat), Φ3 3 (.map me3) w16 → ∀ (xe5 : Int), Φ3 5 (.int .i64 xe5) w16 → ∀ (me9 : Option Nat), Φ3 9 (.map me9) w16 → ∀ (xe11 : Int), Φ3 11 (.int .i64 xe11) w16 → (sel (xe5 == 0) (Q (.returned (.tuple #[.bool false, .int .i64 51])) w16) (sel (xe11 == 0) (Q (.returned (.tuple #[.bool false, .int .i64 51])) w16) (ldP w16 aa0 fun p17 => Calls Tryz.prog 56 #[.pointer p17, .int .i64 xe5, .int .i64 xe11] w16 fun e18 w19 => ∃ b20_0 x20_1, e18 = .returned (.tuple #[.bool b20_0, .int .i64 x20_1]) ∧ (Q (.returned (.tuple #[.bool b20_0, .int .i64 x20_1])) w19))))
def D : Nat → Option DH := dtab [(1, .opn od1)]
def tb : List (List Nat × Spec) := []
variable (aa0 : Addr) (xa1 xa2 : Int) (w : World) (Q : Ending → World → Prop)
theorem wp_eq : wp aa0 xa1 xa2 w Q = codeW Tryz.prog hT 37 D (tab tb) [] body (topQ Tryz.prog hT 37 [.tmp 6, .tmp 7] Q) (argsF [.pointer (some aa0), .int .i64 xa1, .int .i64 xa2]) w := by kernel_rfl
theorem ok (h : wp aa0 xa1 xa2 w Q) : Calls Tryz.prog 37 #[.pointer (some aa0), .int .i64 xa1, .int .i64 xa2] w Q := by
  rw [wp_eq] at h
  refine calls_of_codeW (c := body) (rs := [.tmp 6, .tmp 7]) Tryz.func37 ?_ ?_ ?_ ?_ ?_ (tab_snd (by
    intro x hx
    simp only [tb, List.not_mem_nil] at hx
    )) ?_ h <;> kernel_rfl
end f_euler_Forest_Joined
namespace f_euler_Forest_Size
noncomputable def body : Code := (Tryz.f48.body).getD .skip
def od1 : OD := ⟨[0, 1], [3, 7, 9, 10, 14, 15], fun i => ([⟨false, [], [], fun ps vs => match ps, vs with | [.pointer (some ap0), .int _ xp1], [] => .pointer (some ap0) | _, _ => undef⟩,
  ⟨false, [], [0], fun ps vs => match ps, vs with | [.pointer (some ap0), .int _ xp1], [] => .pointer (some ap0) | _, _ => undef⟩,
  ⟨false, [], [1], fun ps vs => match ps, vs with | [.pointer (some ap0), .int _ xp1], [] => .pointer (some ap0) | _, _ => undef⟩,
  ⟨true, [], [2], fun _ _ => undef⟩,
  ⟨false, [], [], fun ps vs => match ps, vs with | [.pointer (some ap0), .int _ xp1], [] => .pointer (some ap0) | _, _ => undef⟩,
  ⟨false, [], [4], fun ps vs => match ps, vs with | [.pointer (some ap0), .int _ xp1], [] => .pointer (some ap0) | _, _ => undef⟩,
  ⟨false, [], [5], fun ps vs => match ps, vs with | [.pointer (some ap0), .int _ xp1], [] => .pointer (some (ap0.add 1)) | _, _ => undef⟩,
  ⟨true, [], [6], fun _ _ => undef⟩,
  ⟨false, [], [], fun ps vs => match ps, vs with | [.pointer (some ap0), .int _ xp1], [] => .int .i64 xp1 | _, _ => undef⟩,
  ⟨true, [7], [7, 8], fun _ _ => undef⟩,
  ⟨true, [3, 7, 9], [3, 9], fun _ _ => undef⟩,
  ⟨false, [3, 7, 9, 10], [10], fun ps vs => match ps, vs with | [.pointer (some ap0), .int _ xp1], [.pointer pe3, .map me7, .int _ xe9, .tuple ⟨[.agg ⟨[.int _ xe10_0_0, .int _ xe10_0_1, .int _ xe10_0_2]⟩, .int _ xe10_1]⟩] => .tuple #[.agg #[.int .i64 xe10_0_0, .int .i64 xe10_0_1, .int .i64 xe10_0_2], .int .i64 xe10_1] | _, _ => undef⟩,
  ⟨false, [3, 7, 9, 10], [11], fun ps vs => match ps, vs with | [.pointer (some ap0), .int _ xp1], [.pointer pe3, .map me7, .int _ xe9, .tuple ⟨[.agg ⟨[.int _ xe10_0_0, .int _ xe10_0_1, .int _ xe10_0_2]⟩, .int _ xe10_1]⟩] => .agg #[.int .i64 xe10_0_0, .int .i64 xe10_0_1, .int .i64 xe10_0_2] | _, _ => undef⟩,
  ⟨false, [3, 7, 9, 10], [11], fun ps vs => match ps, vs with | [.pointer (some ap0), .int _ xp1], [.pointer pe3, .map me7, .int _ xe9, .tuple ⟨[.agg ⟨[.int _ xe10_0_0, .int _ xe10_0_1, .int _ xe10_0_2]⟩, .int _ xe10_1]⟩] => .int .i64 xe10_1 | _, _ => undef⟩,
  ⟨true, [], [], fun _ _ => undef⟩,
  ⟨true, [3, 7, 9, 10, 14], [12, 14], fun _ _ => undef⟩,
  ⟨false, [3, 7, 9, 10, 14, 15], [13], fun ps vs => match ps, vs with | [.pointer (some ap0), .int _ xp1], [.pointer pe3, .map me7, .int _ xe9, .tuple ⟨[.agg ⟨[.int _ xe10_0_0, .int _ xe10_0_1, .int _ xe10_0_2]⟩, .int _ xe10_1]⟩, .pointer (some ae14), .tuple ⟨[]⟩] => .int .i64 xe10_1 | _, _ => undef⟩] : List OI).getD i ⟨true, [], [], fun _ _ => undef⟩, fun i => ([.one (.sc .any), .one (.sc .any), .one (.sc .any), (.one (.sc .ptr)), .one (.sc .any), .one (.sc .any), .one (.sc .any), (.one (.sc .map)), .one (.sc .any), (.one (.sc (.int .i64))), (.tup [(.agg [(.int .i64), (.int .i64), (.int .i64)]), (.sc (.int .i64))]), .one (.sc .any), .one (.sc .any), .one (.sc .any), (.one (.sc .ad)), (.tup []), .one (.sc .any)] : List OS).getD i (.one (.sc .any))⟩
def h1 (ap0 : Addr) (xp1 : Int) : Prop := (∀ (_ : Fr) (w : World), w = w ∧ (.pointer (some ap0) : Value) = (.pointer (some ap0))) ∧ (∀ (_ : Fr) (w : World), w = w ∧ (.pointer (some ap0) : Value) = (.pointer (some ap0))) ∧ (∀ (_ : Fr) (w : World), w = w ∧ (.pointer (some ap0) : Value) = (.pointer (some ap0))) ∧ (∀ (_ : Fr) (w : World), w = w ∧ (.pointer (some ap0) : Value) = (.pointer (some ap0))) ∧ (∀ (_ : Fr) (w : World), w = w ∧ (.pointer (some ap0) : Value) = (.pointer (some ap0))) ∧ (∀ (_ : Fr) (w : World), w = w ∧ (.pointer (some (ap0.add 1)) : Value) = (.pointer (some (ap0.add 1)))) ∧ (∀ (_ : Fr) (w : World), w = w ∧ (.int .i64 xp1 : Value) = (.int .i64 xp1)) ∧ (∀ (_ : Fr) (w : World), ∀ (pe3 : Option Addr), ∀ (me7 : Option Nat), ∀ (xe9 : Int), ∀ (xe10_0_0 xe10_0_1 xe10_0_2 xe10_1 : Int), w = w ∧ (.tuple #[.agg #[.int .i64 xe10_0_0, .int .i64 xe10_0_1, .int .i64 xe10_0_2], .int .i64 xe10_1] : Value) = (.tuple #[.agg #[.int .i64 xe10_0_0, .int .i64 xe10_0_1, .int .i64 xe10_0_2], .int .i64 xe10_1])) ∧ (∀ (_ : Fr) (w : World), ∀ (pe3 : Option Addr), ∀ (me7 : Option Nat), ∀ (xe9 : Int), ∀ (xe10_0_0 xe10_0_1 xe10_0_2 xe10_1 : Int), w = w ∧ (.agg #[.int .i64 xe10_0_0, .int .i64 xe10_0_1, .int .i64 xe10_0_2] : Value) = (.agg #[.int .i64 xe10_0_0, .int .i64 xe10_0_1, .int .i64 xe10_0_2])) ∧ (∀ (_ : Fr) (w : World), ∀ (pe3 : Option Addr), ∀ (me7 : Option Nat), ∀ (xe9 : Int), ∀ (xe10_0_0 xe10_0_1 xe10_0_2 xe10_1 : Int), w = w ∧ (.int .i64 xe10_1 : Value) = (.int .i64 xe10_1)) ∧ (∀ (_ : Fr) (w : World), ∀ (pe3 : Option Addr), ∀ (me7 : Option Nat), ∀ (xe9 : Int), ∀ (xe10_0_0 xe10_0_1 xe10_0_2 xe10_1 : Int), ∀ (ae14 : Addr), w = w ∧ (.int .i64 xe10_1 : Value) = (.int .i64 xe10_1)) ∧ True
theorem h1_ok (ap0 : Addr) (xp1 : Int) : h1 ap0 xp1 := ⟨fun _ w => ⟨rfl, rfl⟩, fun _ w => ⟨rfl, rfl⟩, fun _ w => ⟨rfl, rfl⟩, fun _ w => ⟨rfl, rfl⟩, fun _ w => ⟨rfl, rfl⟩, fun _ w => ⟨rfl, rfl⟩, fun _ w => ⟨rfl, rfl⟩, fun _ w _ _ _ _ _ _ _ => ⟨rfl, rfl⟩, fun _ w _ _ _ _ _ _ _ => ⟨rfl, rfl⟩, fun _ w _ _ _ _ _ _ _ => ⟨rfl, rfl⟩, fun _ w _ _ _ _ _ _ _ _ => ⟨rfl, rfl⟩, trivial⟩
def wp (aa0 : Addr) (xa1 : Int) (w : World) (Q : Ending → World → Prop) : Prop := drW w fun w1 => h1 aa0 xa1 ∧ ∃ (I2 : (Nat → Bool) → (Nat → Value) → World → Prop), I2 (fun _ => false) (fun _ => undef) w1 ∧ ((∀ (_ : Fr) (ls : Nat → Bool) (vv : Nat → Value) (w23 : World), ls 3 = false → I2 ls vv w23 → (ldP w23 aa0 fun p24 => I2 (upB ls 3) (upV vv 3 (.pointer p24)) w23)) ∧ (∀ (_ : Fr) (ls : Nat → Bool) (vv : Nat → Value) (w25 : World), ls 7 = false → I2 ls vv w25 → (ldM w25 (aa0.add 1) fun m26 => I2 (upB ls 7) (upV vv 7 (.map m26)) w25)) ∧ (∀ (_ : Fr) (ls : Nat → Bool) (vv : Nat → Value) (w27 : World), ls 9 = false → I2 ls vv w27 → ∀ (me7 : Option Nat), (ls 7 = true ∧ vv 7 = .map me7) → (Runs Tryz.prog (Instr.lookup 64 (.map me7) (.int .i64 xa1) false) w27 fun v29 w28 => ∃ x30, v29 = (.int .i64 x30) ∧ (I2 (upB ls 9) (upV vv 9 (.int .i64 x30)) w28))) ∧ (∀ (_ : Fr) (ls : Nat → Bool) (vv : Nat → Value) (w31 : World), ls 10 = false → I2 ls vv w31 → ∀ (pe3 : Option Addr), (ls 3 = true ∧ vv 3 = .pointer pe3) → ∀ (me7 : Option Nat), (ls 7 = true ∧ vv 7 = .map me7) → ∀ (xe9 : Int), (ls 9 = true ∧ vv 9 = .int .i64 xe9) → (Calls Tryz.prog 77 #[.pointer pe3, .int .i64 xe9] w31 fun e32 w33 => ∃ x34_0_0 x34_0_1 x34_0_2 x34_1, e32 = .returned (.tuple #[.agg #[.int .i64 x34_0_0, .int .i64 x34_0_1, .int .i64 x34_0_2], .int .i64 x34_1]) ∧ (I2 (upB ls 10) (upV vv 10 (.tuple #[.agg #[.int .i64 x34_0_0, .int .i64 x34_0_1, .int .i64 x34_0_2], .int .i64 x34_1])) w33))) ∧ (∀ (_ : Fr) (ls : Nat → Bool) (vv : Nat → Value) (w35 : World), ls 14 = false → I2 ls vv w35 → (alW w35 (.cells #[.int .i64 0, .int .i64 0, .int .i64 0] 110) fun B36 w37 => I2 (upB ls 14) (upV vv 14 (.pointer (some ⟨B36, 0, none⟩))) w37)) ∧ (∀ (_ : Fr) (ls : Nat → Bool) (vv : Nat → Value) (w38 : World), ls 15 = false → I2 ls vv w38 → ∀ (pe3 : Option Addr), (ls 3 = true ∧ vv 3 = .pointer pe3) → ∀ (me7 : Option Nat), (ls 7 = true ∧ vv 7 = .map me7) → ∀ (xe9 : Int), (ls 9 = true ∧ vv 9 = .int .i64 xe9) → ∀ (xe10_0_0 xe10_0_1 xe10_0_2 xe10_1 : Int), (ls 10 = true ∧ vv 10 = .tuple #[.agg #[.int .i64 xe10_0_0, .int .i64 xe10_0_1, .int .i64 xe10_0_2], .int .i64 xe10_1]) → ∀ (ae14 : Addr), (ls 14 = true ∧ vv 14 = .pointer (some ae14)) → (stW w38 ae14 (.int .i64 xe10_0_0) fun w39 => stW w39 (ae14.add 1) (.int .i64 xe10_0_1) fun w40 => stW w40 (ae14.add 2) (.int .i64 xe10_0_2) fun w41 => I2 (upB ls 15) (upV vv 15 (.tuple #[])) w41)) ∧ True) ∧ ∀ (ls : Nat → Bool) (vv : Nat → Value) (w42 : World), I2 ls vv w42 → ∀ (pe3 : Option Addr), (ls 3 = true ∧ vv 3 = .pointer pe3) → ∀ (me7 : Option Nat), (ls 7 = true ∧ vv 7 = .map me7) → ∀ (xe9 : Int), (ls 9 = true ∧ vv 9 = .int .i64 xe9) → ∀ (xe10_0_0 xe10_0_1 xe10_0_2 xe10_1 : Int), (ls 10 = true ∧ vv 10 = .tuple #[.agg #[.int .i64 xe10_0_0, .int .i64 xe10_0_1, .int .i64 xe10_0_2], .int .i64 xe10_1]) → ∀ (ae14 : Addr), (ls 14 = true ∧ vv 14 = .pointer (some ae14)) → (ls 15 = true ∧ vv 15 = .tuple #[]) → (sel (xe10_1 != 0) (Q (.returned (.tuple #[.int .i64 0, .int .i64 51])) w42) (ldI w42 ae14 .i64 fun x43 => Q (.returned (.tuple #[.int .i64 x43, .int .i64 0])) w42))
def D : Nat → Option DH := dtab [(1, .opi od1)]
def tb : List (List Nat × Spec) := []
variable (aa0 : Addr) (xa1 : Int) (w : World) (Q : Ending → World → Prop)
theorem wp_eq : wp aa0 xa1 w Q = codeW Tryz.prog hT 26 D (tab tb) [] body (topQ Tryz.prog hT 26 [.tmp 4, .tmp 5] Q) (argsF [.pointer (some aa0), .int .i64 xa1]) w := by kernel_rfl
theorem ok (h : wp aa0 xa1 w Q) : Calls Tryz.prog 48 #[.pointer (some aa0), .int .i64 xa1] w Q := by
  rw [wp_eq] at h
  refine calls_of_codeW (c := body) (rs := [.tmp 4, .tmp 5]) Tryz.func48 ?_ ?_ ?_ ?_ ?_ (tab_snd (by
    intro x hx
    simp only [tb, List.not_mem_nil] at hx
    )) ?_ h <;> kernel_rfl
end f_euler_Forest_Size
namespace f_euler_Forest_Verts
noncomputable def body : Code := (Tryz.f38.body).getD .skip
def wp (aa0 : Addr) (xa1 : Int) (w : World) (Q : Ending → World → Prop) : Prop := Calls Tryz.prog 57 #[.pointer (some aa0), .int .i64 xa1, .bool false] w fun e1 w2 => ∃ A3_0 n3_0 c3_0 x3_1, e1 = .returned (.tuple #[.slice A3_0 n3_0 c3_0, .int .i64 x3_1]) ∧ (Q (.returned (.tuple #[.slice A3_0 n3_0 c3_0, .int .i64 x3_1])) w2)
def D : Nat → Option DH := dtab []
def tb : List (List Nat × Spec) := []
variable (aa0 : Addr) (xa1 : Int) (w : World) (Q : Ending → World → Prop)
theorem wp_eq : wp aa0 xa1 w Q = codeW Tryz.prog hT 11 D (tab tb) [] body (topQ Tryz.prog hT 11 [.tmp 4, .tmp 5] Q) (argsF [.pointer (some aa0), .int .i64 xa1]) w := by kernel_rfl
theorem ok (h : wp aa0 xa1 w Q) : Calls Tryz.prog 38 #[.pointer (some aa0), .int .i64 xa1] w Q := by
  rw [wp_eq] at h
  refine calls_of_codeW (c := body) (rs := [.tmp 4, .tmp 5]) Tryz.func38 ?_ ?_ ?_ ?_ ?_ (tab_snd (by
    intro x hx
    simp only [tb, List.not_mem_nil] at hx
    )) ?_ h <;> kernel_rfl
end f_euler_Forest_Verts
namespace f_euler_Forest_MarkE
noncomputable def body : Code := (Tryz.f42.body).getD .skip
def wp (aa0 : Addr) (xa1 : Int) (ba2 : Bool) (w : World) (Q : Ending → World → Prop) : Prop := ldM w (aa0.add 2) fun m1 => Runs Tryz.prog (Instr.lookup 105 (.map m1) (.int .i64 xa1) true) w fun v3 w2 => ∃ x4_0_0 x4_0_1 b4_1, v3 = (.tuple #[.agg #[.int .i64 x4_0_0, .int .i64 x4_0_1], .bool b4_1]) ∧ (alW w2 (.cells #[.int .i64 0, .int .i64 0] 118) fun B5 w6 => stW w6 ⟨B5, 0, none⟩ (.int .i64 x4_0_0) fun w7 => stW w7 (.add ⟨B5, 0, none⟩ 1) (.int .i64 x4_0_1) fun w8 => sel (!b4_1) (Q (.returned (.int .i64 152)) w8) (drW w8 fun w9 => ∃ S10 : World → Prop, S10 w9 ∧ (hdP S10 aa0 fun p11 => hdI S10 ((⟨B5, 0, none⟩ : Addr).add ((0 : Int).toNat * 1)) .i64 fun x12 => Calls Tryz.prog 66 #[.bool ba2] w9 fun e13 w14 => ∃ x15, e13 = .returned (.int .i64 x15) ∧ (S10 w14 ∧ (Calls Tryz.prog 65 #[.pointer p11, .int .i64 x12, .agg #[.int .i64 0, .int .i64 0, .int .i64 x15]] w14 fun e16 w17 => ∃ x18, e16 = .returned (.int .i64 x18) ∧ (Q (.returned (.int .i64 x18)) w17))))))
def D : Nat → Option DH := dtab [(4, .held [.fst 0, .fst 1, .fst 2, .fst 3, .fst 4, .fst 5, .fst 6, .eff 7, .fst 8] [.eff 9, .fst 10])]
def tb : List (List Nat × Spec) := []
variable (aa0 : Addr) (xa1 : Int) (ba2 : Bool) (w : World) (Q : Ending → World → Prop)
theorem wp_eq : wp aa0 xa1 ba2 w Q = codeW Tryz.prog hT 30 D (tab tb) [] body (topQ Tryz.prog hT 30 [.tmp 6] Q) (argsF [.pointer (some aa0), .int .i64 xa1, .bool ba2]) w := by cases ba2 <;> kernel_rfl
theorem ok (h : wp aa0 xa1 ba2 w Q) : Calls Tryz.prog 42 #[.pointer (some aa0), .int .i64 xa1, .bool ba2] w Q := by
  rw [wp_eq] at h
  refine calls_of_codeW (c := body) (rs := [.tmp 6]) Tryz.func42 ?_ ?_ ?_ ?_ ?_ (tab_snd (by
    intro x hx
    simp only [tb, List.not_mem_nil] at hx
    )) ?_ h <;> kernel_rfl
end f_euler_Forest_MarkE
namespace f_euler_Forest_MarkV
noncomputable def body : Code := (Tryz.f67.body).getD .skip
def wp (aa0 : Addr) (xa1 : Int) (ba2 : Bool) (w : World) (Q : Ending → World → Prop) : Prop := ldM w (aa0.add 1) fun m1 => Runs Tryz.prog (Instr.lookup 64 (.map m1) (.int .i64 xa1) false) w fun v3 w2 => ∃ x4, v3 = (.int .i64 x4) ∧ (sel (x4 == 0) (Q (.returned (.int .i64 51)) w2) (drW w2 fun w5 => ∃ S6 : World → Prop, S6 w5 ∧ (hdP S6 aa0 fun p7 => Calls Tryz.prog 66 #[.bool ba2] w5 fun e8 w9 => ∃ x10, e8 = .returned (.int .i64 x10) ∧ (S6 w9 ∧ (Calls Tryz.prog 65 #[.pointer p7, .int .i64 x4, .agg #[.int .i64 1, .int .i64 x10, .int .i64 0]] w9 fun e11 w12 => ∃ x13, e11 = .returned (.int .i64 x13) ∧ (Q (.returned (.int .i64 x13)) w12))))))
def D : Nat → Option DH := dtab [(4, .held [.fst 0, .fst 1, .fst 2, .fst 3, .fst 4, .fst 5, .eff 6, .fst 7] [.eff 8, .fst 9])]
def tb : List (List Nat × Spec) := []
variable (aa0 : Addr) (xa1 : Int) (ba2 : Bool) (w : World) (Q : Ending → World → Prop)
theorem wp_eq : wp aa0 xa1 ba2 w Q = codeW Tryz.prog hT 25 D (tab tb) [] body (topQ Tryz.prog hT 25 [.tmp 6] Q) (argsF [.pointer (some aa0), .int .i64 xa1, .bool ba2]) w := by cases ba2 <;> kernel_rfl
theorem ok (h : wp aa0 xa1 ba2 w Q) : Calls Tryz.prog 67 #[.pointer (some aa0), .int .i64 xa1, .bool ba2] w Q := by
  rw [wp_eq] at h
  refine calls_of_codeW (c := body) (rs := [.tmp 6]) Tryz.func67 ?_ ?_ ?_ ?_ ?_ (tab_snd (by
    intro x hx
    simp only [tb, List.not_mem_nil] at hx
    )) ?_ h <;> kernel_rfl
end f_euler_Forest_MarkV
namespace f_euler_Forest_SomeE
noncomputable def body : Code := (Tryz.f71.body).getD .skip
def wp (aa0 : Addr) (xa1 : Int) (w : World) (Q : Ending → World → Prop) : Prop := Calls Tryz.prog 96 #[.pointer (some aa0), .int .i64 xa1, .func (.func 97) #[] #[]] w fun e1 w2 => ∃ x3_0 x3_1, e1 = .returned (.tuple #[.int .i64 x3_0, .int .i64 x3_1]) ∧ (Q (.returned (.tuple #[.int .i64 x3_0, .int .i64 x3_1])) w2)
def D : Nat → Option DH := dtab []
def tb : List (List Nat × Spec) := []
variable (aa0 : Addr) (xa1 : Int) (w : World) (Q : Ending → World → Prop)
theorem wp_eq : wp aa0 xa1 w Q = codeW Tryz.prog hT 11 D (tab tb) [] body (topQ Tryz.prog hT 11 [.tmp 4, .tmp 5] Q) (argsF [.pointer (some aa0), .int .i64 xa1]) w := by kernel_rfl
theorem ok (h : wp aa0 xa1 w Q) : Calls Tryz.prog 71 #[.pointer (some aa0), .int .i64 xa1] w Q := by
  rw [wp_eq] at h
  refine calls_of_codeW (c := body) (rs := [.tmp 4, .tmp 5]) Tryz.func71 ?_ ?_ ?_ ?_ ?_ (tab_snd (by
    intro x hx
    simp only [tb, List.not_mem_nil] at hx
    )) ?_ h <;> kernel_rfl
end f_euler_Forest_SomeE
namespace f_euler_Forest_SomeV
noncomputable def body : Code := (Tryz.f73.body).getD .skip
def wp (aa0 : Addr) (xa1 : Int) (w : World) (Q : Ending → World → Prop) : Prop := Calls Tryz.prog 96 #[.pointer (some aa0), .int .i64 xa1, .func (.func 98) #[] #[]] w fun e1 w2 => ∃ x3_0 x3_1, e1 = .returned (.tuple #[.int .i64 x3_0, .int .i64 x3_1]) ∧ (Q (.returned (.tuple #[.int .i64 x3_0, .int .i64 x3_1])) w2)
def D : Nat → Option DH := dtab []
def tb : List (List Nat × Spec) := []
variable (aa0 : Addr) (xa1 : Int) (w : World) (Q : Ending → World → Prop)
theorem wp_eq : wp aa0 xa1 w Q = codeW Tryz.prog hT 11 D (tab tb) [] body (topQ Tryz.prog hT 11 [.tmp 4, .tmp 5] Q) (argsF [.pointer (some aa0), .int .i64 xa1]) w := by kernel_rfl
theorem ok (h : wp aa0 xa1 w Q) : Calls Tryz.prog 73 #[.pointer (some aa0), .int .i64 xa1] w Q := by
  rw [wp_eq] at h
  refine calls_of_codeW (c := body) (rs := [.tmp 4, .tmp 5]) Tryz.func73 ?_ ?_ ?_ ?_ ?_ (tab_snd (by
    intro x hx
    simp only [tb, List.not_mem_nil] at hx
    )) ?_ h <;> kernel_rfl
end f_euler_Forest_SomeV
namespace f_euler_Forest_some_E
noncomputable def body : Code := (Tryz.f96.body).getD .skip
def wp (aa0 : Addr) (xa1 : Int) (w : World) (Q : Ending → World → Prop) : Prop := drW w fun w1 => ∃ S2 : World → Prop, S2 w1 ∧ (hdP S2 aa0 fun p3 => hdM S2 (aa0.add 1) fun m4 => Runs Tryz.prog (Instr.lookup 64 (.map m4) (.int .i64 xa1) false) w1 fun v6 w5 => ∃ x7, v6 = (.int .i64 x7) ∧ (S2 w5 ∧ (Calls Tryz.prog 108 #[.pointer p3, .int .i64 x7, .func (.func 97) #[] #[]] w5 fun e8 w9 => ∃ x10_0 x10_1, e8 = .returned (.tuple #[.int .i64 x10_0, .int .i64 x10_1]) ∧ (sel (x10_1 != 0) (Q (.returned (.tuple #[.int .i64 0, .int .i64 51])) w9) (ldM w9 (aa0.add 3) fun m11 => Runs Tryz.prog (Instr.lookup 106 (.map m11) (.int .i64 x10_0) false) w9 fun v13 w12 => ∃ b14_0 x14_1, v13 = (.agg #[.bool b14_0, .int .i64 x14_1]) ∧ (Q (.returned (.tuple #[.int .i64 x14_1, .int .i64 0])) w12))))))
def D : Nat → Option DH := dtab [(1, .held [.fst 0, .fst 1, .fst 2, .fst 3, .fst 4, .fst 5, .fst 6, .fst 7, .fst 8, .fst 10, .eff 9] [.eff 11, .fst 12, .fst 13, .fst 14, .fst 15, .fst 16])]
def tb : List (List Nat × Spec) := []
variable (aa0 : Addr) (xa1 : Int) (w : World) (Q : Ending → World → Prop)
theorem wp_eq : wp aa0 xa1 w Q = codeW Tryz.prog hT 34 D (tab tb) [] body (topQ Tryz.prog hT 34 [.tmp 6, .tmp 7] Q) (argsF [.pointer (some aa0), .int .i64 xa1, .func (.func 97) #[] #[]]) w := by kernel_rfl
theorem ok (h : wp aa0 xa1 w Q) : Calls Tryz.prog 96 #[.pointer (some aa0), .int .i64 xa1, .func (.func 97) #[] #[]] w Q := by
  rw [wp_eq] at h
  refine calls_of_codeW (c := body) (rs := [.tmp 6, .tmp 7]) Tryz.func96 ?_ ?_ ?_ ?_ ?_ (tab_snd (by
    intro x hx
    simp only [tb, List.not_mem_nil] at hx
    )) ?_ h <;> kernel_rfl
end f_euler_Forest_some_E
namespace f_euler_Forest_some_V
noncomputable def body : Code := (Tryz.f96.body).getD .skip
def wp (aa0 : Addr) (xa1 : Int) (w : World) (Q : Ending → World → Prop) : Prop := drW w fun w1 => ∃ S2 : World → Prop, S2 w1 ∧ (hdP S2 aa0 fun p3 => hdM S2 (aa0.add 1) fun m4 => Runs Tryz.prog (Instr.lookup 64 (.map m4) (.int .i64 xa1) false) w1 fun v6 w5 => ∃ x7, v6 = (.int .i64 x7) ∧ (S2 w5 ∧ (Calls Tryz.prog 108 #[.pointer p3, .int .i64 x7, .func (.func 98) #[] #[]] w5 fun e8 w9 => ∃ x10_0 x10_1, e8 = .returned (.tuple #[.int .i64 x10_0, .int .i64 x10_1]) ∧ (sel (x10_1 != 0) (Q (.returned (.tuple #[.int .i64 0, .int .i64 51])) w9) (ldM w9 (aa0.add 3) fun m11 => Runs Tryz.prog (Instr.lookup 106 (.map m11) (.int .i64 x10_0) false) w9 fun v13 w12 => ∃ b14_0 x14_1, v13 = (.agg #[.bool b14_0, .int .i64 x14_1]) ∧ (Q (.returned (.tuple #[.int .i64 x14_1, .int .i64 0])) w12))))))
def D : Nat → Option DH := dtab [(1, .held [.fst 0, .fst 1, .fst 2, .fst 3, .fst 4, .fst 5, .fst 6, .fst 7, .fst 8, .fst 10, .eff 9] [.eff 11, .fst 12, .fst 13, .fst 14, .fst 15, .fst 16])]
def tb : List (List Nat × Spec) := []
variable (aa0 : Addr) (xa1 : Int) (w : World) (Q : Ending → World → Prop)
theorem wp_eq : wp aa0 xa1 w Q = codeW Tryz.prog hT 34 D (tab tb) [] body (topQ Tryz.prog hT 34 [.tmp 6, .tmp 7] Q) (argsF [.pointer (some aa0), .int .i64 xa1, .func (.func 98) #[] #[]]) w := by kernel_rfl
theorem ok (h : wp aa0 xa1 w Q) : Calls Tryz.prog 96 #[.pointer (some aa0), .int .i64 xa1, .func (.func 98) #[] #[]] w Q := by
  rw [wp_eq] at h
  refine calls_of_codeW (c := body) (rs := [.tmp 6, .tmp 7]) Tryz.func96 ?_ ?_ ?_ ?_ ?_ (tab_snd (by
    intro x hx
    simp only [tb, List.not_mem_nil] at hx
    )) ?_ h <;> kernel_rfl
end f_euler_Forest_some_V
namespace f_euler_Forest_list
noncomputable def body : Code := (Tryz.f57.body).getD .skip
def l0 : Nat → Addr → Bool → Option Addr → Nat → Nat → Option Addr → Nat → Nat → Int → Int → World → ((Option Addr) → Nat → Nat → World → Prop) → Prop | 0, _, _, _, _, _, _, _, _, _, _, _, _ => False | k + 1, at0, bt2, At10, nt10, ct10, At30, nt30, ct30, xt31, xt32, w, K0 => sel (decide (xt32 < xt31)) (optB At30 fun a11 => req (decide (0 ≤ xt32 ∧ xt32 < (nt30 : Int))) <| ldI w (a11.add (xt32.toNat * 1)) .i64 fun x12 => ldM w (at0.add 3) fun m13 => Runs Tryz.prog (Instr.lookup 106 (.map m13) (.int .i64 x12) false) w fun v15 w14 => ∃ b16_0 x16_1, v15 = (.agg #[.bool b16_0, .int .i64 x16_1]) ∧ (alW w14 (.cells #[.bool false, .int .i64 0] 116) fun B17 w18 => stW w18 ⟨B17, 0, none⟩ (.bool b16_0) fun w19 => stW w19 (.add ⟨B17, 0, none⟩ 1) (.int .i64 x16_1) fun w20 => ldB w20 ⟨B17, 0, none⟩ fun b21 => sel (b21 == bt2) (ldI w20 (.add ⟨B17, 0, none⟩ 1) .i64 fun x22 => alW w20 (.cells #[.int .i64 x22] 3) fun B23 w24 => Runs Tryz.prog (Builtin.append_ #[22, 22] 22 #[.slice At10 nt10 ct10, .slice (some ⟨B23, 0, none⟩) 1 1]) w24 fun v26 w25 => ∃ A27 n27 c27, v26 = (.slice A27 n27 c27) ∧ (l0 k at0 bt2 A27 n27 c27 At30 nt30 ct30 xt31 (IntKind.i64.wrap (xt32 + 1)) w25 K0)) (l0 k at0 bt2 At10 nt10 ct10 At30 nt30 ct30 xt31 (IntKind.i64.wrap (xt32 + 1)) w20 K0))) (K0 At10 nt10 ct10 w)
def wp (aa0 : Addr) (xa1 : Int) (ba2 : Bool) (w : World) (Q : Ending → World → Prop) : Prop := drW w fun w1 => ∃ S2 : World → Prop, S2 w1 ∧ (hdP S2 aa0 fun p3 => hdM S2 (aa0.add 1) fun m4 => Runs Tryz.prog (Instr.lookup 64 (.map m4) (.int .i64 xa1) false) w1 fun v6 w5 => ∃ x7, v6 = (.int .i64 x7) ∧ (S2 w5 ∧ (Calls Tryz.prog 84 #[.pointer p3, .int .i64 x7] w5 fun e8 w9 => ∃ A10_0 n10_0 c10_0 x10_1, e8 = .returned (.tuple #[.slice A10_0 n10_0 c10_0, .int .i64 x10_1]) ∧ (sel (x10_1 != 0) (Q (.returned (.tuple #[.slice none 0 0, .int .i64 51])) w9) (∃ k35, l0 k35 aa0 ba2 none 0 0 A10_0 n10_0 c10_0 (n10_0 : Int) 0 w9 (fun A28 n28 c28 w29 => ∀ _ : Fr, Calls Tryz.prog 85 #[.slice A28 n28 c28] w29 fun e30 w31 => e30 = .returned (.tuple #[]) ∧ (Calls Tryz.prog 86 #[.slice A28 n28 c28] w31 fun e32 w33 => ∃ A34 n34 c34, e32 = .returned (.slice A34 n34 c34) ∧ (Q (.returned (.tuple #[.slice A34 n34 c34, .int .i64 0])) w33))))))))
def D : Nat → Option DH := dtab [(1, .held [.fst 0, .fst 1, .fst 2, .fst 3, .fst 4, .fst 5, .fst 6, .fst 7, .fst 8, .eff 9] [.eff 10, .fst 11, .fst 12, .fst 13, .fst 14, .fst 15])]
def l0LO : LO := ⟨[], [], [(0, [10])], []⟩
def l0Tk (k : Nat) : Spec := fun Q σ w => gAd (σ 0) fun at0 => gBool (σ 2) fun bt2 => gSlice (σ 10) fun At10 nt10 ct10 => gSlice (σ 30) fun At30 nt30 ct30 => gInt .i64 (σ 31) fun xt31 => gInt .i64 (σ 32) fun xt32 => l0 k at0 bt2 At10 nt10 ct10 At30 nt30 ct30 xt31 xt32 w (fun Aq10 nq10 cq10 w => ∀ d : Fr, Q (.exit 0) (ov d [(10, .slice Aq10 nq10 cq10)]) w)
def l0T : Spec := fun Q σ w => ∃ k, l0Tk k Q σ w
def l0tb : List (List Nat × Spec) := []
noncomputable def l0b : Code := (subC [0, 0, 1, 0, 1, 1, 1, 1] body).getD .skip
theorem l0_eq (k : Nat) (at0 : Addr) (bt2 : Bool) (At10 : Option Addr) (nt10 ct10 : Nat) (At30 : Option Addr) (nt30 ct30 : Nat) (xt31 xt32 : Int) (Q : PQ) (σ : Fr) (w : World) : l0 (k + 1) at0 bt2 At10 nt10 ct10 At30 nt30 ct30 xt31 xt32 w (fun Aq10 nq10 cq10 w => ∀ d : Fr, Q (.exit 0) (ov d [(10, .slice Aq10 nq10 cq10)]) w) = codeW Tryz.prog hT 56 D (tab l0tb) [0, 0, 1, 0, 1, 1, 1, 1] l0b (thenQ (l0Tk k Q) (widen l0LO Q)) (ov σ [(0, .pointer (some at0)), (2, .bool bt2), (10, .slice At10 nt10 ct10), (30, .slice At30 nt30 ct30), (31, .int .i64 xt31), (32, .int .i64 xt32)]) w := by cases bt2 <;> kernel_rfl
theorem l0_snd : ∀ c, subC [0, 1, 0, 1, 1, 1, 1] body = some c → Snd Tryz.prog 56 c l0T := by
  refine loop_of (hT := hT) (D := D) (l := l0tb) (b := l0b) (lo := l0LO) (by kernel_rfl) (by
    intro x hx
    simp only [l0tb, List.not_mem_nil] at hx
    ) (by kernel_rfl) (by kernel_rfl) ?_ ?_
  · intro Q σ w h
    unfold l0Tk at h
    obtain ⟨_, _, h⟩ := gAd_elim h
    obtain ⟨_, _, h⟩ := gBool_elim h
    obtain ⟨_, _, _, _, h⟩ := gSlice_elim h
    obtain ⟨_, _, _, _, h⟩ := gSlice_elim h
    obtain ⟨_, _, h⟩ := gInt_elim h
    obtain ⟨_, _, h⟩ := gInt_elim h
    exact h
  · intro k Q σ w h
    unfold l0Tk at h
    obtain ⟨at0, h0, h⟩ := gAd_elim h
    obtain ⟨bt2, h2, h⟩ := gBool_elim h
    obtain ⟨At10, nt10, ct10, h10, h⟩ := gSlice_elim h
    obtain ⟨At30, nt30, ct30, h30, h⟩ := gSlice_elim h
    obtain ⟨xt31, h31, h⟩ := gInt_elim h
    obtain ⟨xt32, h32, h⟩ := gInt_elim h
    rw [l0_eq (σ := σ)] at h
    have e : (ov σ [(0, .pointer (some at0)), (2, .bool bt2), (10, .slice At10 nt10 ct10), (30, .slice At30 nt30 ct30), (31, .int .i64 xt31), (32, .int .i64 xt32)]) = σ := ov_self (by simp [h0, h2, h10, h30, h31, h32])
    rw [e] at h
    exact h
def tb : List (List Nat × Spec) := [([0, 1, 0, 1, 1, 1, 1], l0T)]
variable (aa0 : Addr) (xa1 : Int) (ba2 : Bool) (w : World) (Q : Ending → World → Prop)
theorem wp_eq : wp aa0 xa1 ba2 w Q = codeW Tryz.prog hT 56 D (tab tb) [] body (topQ Tryz.prog hT 56 [.tmp 6, .tmp 7] Q) (argsF [.pointer (some aa0), .int .i64 xa1, .bool ba2]) w := by cases ba2 <;> kernel_rfl
theorem ok (h : wp aa0 xa1 ba2 w Q) : Calls Tryz.prog 57 #[.pointer (some aa0), .int .i64 xa1, .bool ba2] w Q := by
  rw [wp_eq] at h
  refine calls_of_codeW (c := body) (rs := [.tmp 6, .tmp 7]) Tryz.func57 ?_ ?_ ?_ ?_ ?_ (tab_snd (by
    intro x hx
    simp only [tb, List.mem_cons, List.not_mem_nil, or_false] at hx
    subst hx
    exact l0_snd)) ?_ h <;> kernel_rfl
end f_euler_Forest_list
namespace f_euler_badId
noncomputable def body : Code := (Tryz.f60.body).getD .skip
def wp (Aa0 : Option Addr) (na0 ca0 : Nat) (w : World) (Q : Ending → World → Prop) : Prop := Calls Tryz.prog 58 #[.slice Aa0 na0 ca0, .func (.func 88) #[] #[]] w fun e1 w2 => ∃ b3, e1 = .returned (.bool b3) ∧ (Q (.returned (.bool b3)) w2)
def D : Nat → Option DH := dtab []
def tb : List (List Nat × Spec) := []
variable (Aa0 : Option Addr) (na0 ca0 : Nat) (w : World) (Q : Ending → World → Prop)
theorem wp_eq : wp Aa0 na0 ca0 w Q = codeW Tryz.prog hT 5 D (tab tb) [] body (topQ Tryz.prog hT 5 [.tmp 2] Q) (argsF [.slice Aa0 na0 ca0]) w := by kernel_rfl
theorem ok (h : wp Aa0 na0 ca0 w Q) : Calls Tryz.prog 60 #[.slice Aa0 na0 ca0] w Q := by
  rw [wp_eq] at h
  refine calls_of_codeW (c := body) (rs := [.tmp 2]) Tryz.func60 ?_ ?_ ?_ ?_ ?_ (tab_snd (by
    intro x hx
    simp only [tb, List.not_mem_nil] at hx
    )) ?_ h <;> kernel_rfl
end f_euler_badId
namespace f_euler_Forest_Has
noncomputable def body : Code := (Tryz.f61.body).getD .skip
def wp (aa0 : Addr) (xa1 : Int) (w : World) (Q : Ending → World → Prop) : Prop := ldM w (aa0.add 2) fun m1 => Runs Tryz.prog (Instr.lookup 105 (.map m1) (.int .i64 xa1) true) w fun v3 w2 => ∃ x4_0_0 x4_0_1 b4_1, v3 = (.tuple #[.agg #[.int .i64 x4_0_0, .int .i64 x4_0_1], .bool b4_1]) ∧ (alW w2 (.cells #[.int .i64 0, .int .i64 0] 118) fun B5 w6 => stW w6 ⟨B5, 0, none⟩ (.int .i64 x4_0_0) fun w7 => stW w7 (.add ⟨B5, 0, none⟩ 1) (.int .i64 x4_0_1) fun w8 => Q (.returned (.bool b4_1)) w8)
def D : Nat → Option DH := dtab []
def tb : List (List Nat × Spec) := []
variable (aa0 : Addr) (xa1 : Int) (w : World) (Q : Ending → World → Prop)
theorem wp_eq : wp aa0 xa1 w Q = codeW Tryz.prog hT 17 D (tab tb) [] body (topQ Tryz.prog hT 17 [.tmp 4] Q) (argsF [.pointer (some aa0), .int .i64 xa1]) w := by kernel_rfl
theorem ok (h : wp aa0 xa1 w Q) : Calls Tryz.prog 61 #[.pointer (some aa0), .int .i64 xa1] w Q := by
  rw [wp_eq] at h
  refine calls_of_codeW (c := body) (rs := [.tmp 4]) Tryz.func61 ?_ ?_ ?_ ?_ ?_ (tab_snd (by
    intro x hx
    simp only [tb, List.not_mem_nil] at hx
    )) ?_ h <;> kernel_rfl
end f_euler_Forest_Has
namespace f_euler_Forest_make
noncomputable def body : Code := (Tryz.f62.body).getD .skip
def j0 (at0 at4 : Addr) (xt7 : Int) (w : World) (Kr : Int → World → Prop) : Prop := drW w fun w22 => ldM w22 (at0.add 3) fun m24 => ldB w22 at4 fun b25 => ldI w22 (at4.add 1) .i64 fun x26 => Runs Tryz.prog (Instr.mapUpdate 106 (.map m24) (.int .i64 xt7) (.agg #[.bool b25, .int .i64 x26])) w22 fun _ w27 => Kr xt7 w27
def wp (aa0 : Addr) (ba1_0 : Bool) (xa1_1 xa2_0 xa2_1 xa2_2 : Int) (w : World) (Q : Ending → World → Prop) : Prop := alW w (.cells #[.bool ba1_0, .int .i64 xa1_1] 116) fun B1 w2 => alW w2 (.cells #[.int .i64 xa2_0, .int .i64 xa2_1, .int .i64 xa2_2] 110) fun B3 w4 => ldS w4 (aa0.add 4) fun A5 n5 c5 => sel (decide ((n5 : Int) > 0)) (drW w4 fun w6 => ldS w6 (aa0.add 4) fun A8 n8 c8 => optB A8 fun a9 => req (decide (0 ≤ (IntKind.i64.wrap ((n5 : Int) - 1)) ∧ (IntKind.i64.wrap ((n5 : Int) - 1)) < (n8 : Int))) <| ldI w6 (a9.add ((IntKind.i64.wrap ((n5 : Int) - 1)).toNat * 1)) .i64 fun x10 => ldS w6 (aa0.add 4) fun A11 n11 c11 => req (decide (0 ≤ (IntKind.i64.wrap ((n5 : Int) - 1)) ∧ (IntKind.i64.wrap ((n5 : Int) - 1)) ≤ (c11 : Int))) <| stW w6 (aa0.add 4) (.slice (slA A11 0 c11 1) ((IntKind.i64.wrap ((n5 : Int) - 1)).toNat - 0) (c11 - 0)) fun w12 => drW w12 fun w13 => ldP w13 aa0 fun p15 => ldI w13 ⟨B3, 0, none⟩ .i64 fun x16 => ldI w13 (.add ⟨B3, 0, none⟩ 1) .i64 fun x17 => ldI w13 (.add ⟨B3, 0, none⟩ 2) .i64 fun x18 => Calls Tryz.prog 65 #[.pointer p15, .int .i64 x10, .agg #[.int .i64 x16, .int .i64 x17, .int .i64 x18]] w13 fun e19 w20 => ∃ x21, e19 = .returned (.int .i64 x21) ∧ (j0 aa0 ⟨B1, 0, none⟩ x10 w20 (fun x28 w29 => ∀ _ : Fr, Q (.returned (.int .i64 x28)) w29))) (drW w4 fun w30 => ldP w30 aa0 fun p32 => ldI w30 ⟨B3, 0, none⟩ .i64 fun x33 => ldI w30 (.add ⟨B3, 0, none⟩ 1) .i64 fun x34 => ldI w30 (.add ⟨B3, 0, none⟩ 2) .i64 fun x35 => Calls Tryz.prog 89 #[.pointer p32, .agg #[.int .i64 x33, .int .i64 x34, .int .i64 x35]] w30 fun e36 w37 => ∃ x38_0 x38_1, e36 = .returned (.tuple #[.int .i64 x38_0, .int .i64 x38_1]) ∧ (j0 aa0 ⟨B1, 0, none⟩ x38_0 w37 (fun x39 w40 => ∀ _ : Fr, Q (.returned (.int .i64 x39)) w40)))
def D : Nat → Option DH := dtab [(4, .simple [.fst 0, .fst 1, .fst 2, .fst 3, .fst 4, .fst 5, .fst 6, .fst 7, .fst 8, .fst 9, .fst 10, .fst 11, .fst 12, .fst 13, .fst 14, .fst 15, .fst 16] [.fst 17, .fst 18, .eff 19]), (5, .simple [.fst 0, .fst 1, .fst 2, .fst 3, .fst 4, .fst 5] [.eff 6]), (6, .simple [.fst 0, .fst 1, .fst 2, .fst 3, .fst 4] [.eff 5, .fst 6, .fst 7, .fst 8, .fst 9]), (7, .simple [.fst 0, .fst 1, .fst 2, .fst 3, .fst 4, .fst 5] [.eff 6])]
def j0LO : LO := ⟨[], [6], [], []⟩
def j0T : Spec := fun Q σ w => gAd (σ 0) fun at0 => gAd (σ 4) fun at4 => gInt .i64 (σ 7) fun xt7 => j0 at0 at4 xt7 w (fun xq6 w => ∀ d : Fr, Q .ret (ov d [(6, .int .i64 xq6)]) w)
def j0tb : List (List Nat × Spec) := []
noncomputable def j0b : Code := (subC [1, 1, 1] body).getD .skip
theorem j0_eq (at0 at4 : Addr) (xt7 : Int) (Q : PQ) (σ : Fr) (w : World) : j0 at0 at4 xt7 w (fun xq6 w => ∀ d : Fr, Q .ret (ov d [(6, .int .i64 xq6)]) w) = codeW Tryz.prog hT 57 D (tab j0tb) [1, 1, 1] j0b (widen j0LO Q) (ov σ [(0, .pointer (some at0)), (4, .pointer (some at4)), (7, .int .i64 xt7)]) w := by kernel_rfl
theorem j0_snd : ∀ c, subC [1, 1, 1] body = some c → Snd Tryz.prog 57 c j0T := by
  refine cut_of (hT := hT) (D := D) (l := j0tb) (b := j0b) (lo := j0LO) (by kernel_rfl) (by
    intro x hx
    simp only [j0tb, List.not_mem_nil] at hx
    ) (by kernel_rfl) (by kernel_rfl) ?_
  intro Q σ w h
  unfold j0T at h
  obtain ⟨at0, h0, h⟩ := gAd_elim h
  obtain ⟨at4, h4, h⟩ := gAd_elim h
  obtain ⟨xt7, h7, h⟩ := gInt_elim h
  rw [j0_eq (σ := σ)] at h
  have e : (ov σ [(0, .pointer (some at0)), (4, .pointer (some at4)), (7, .int .i64 xt7)]) = σ := ov_self (by simp [h0, h4, h7])
  rw [e] at h
  exact h
def tb : List (List Nat × Spec) := [([1, 1, 1], j0T)]
variable (aa0 : Addr) (ba1_0 : Bool) (xa1_1 xa2_0 xa2_1 xa2_2 : Int) (w : World) (Q : Ending → World → Prop)
theorem wp_eq : wp aa0 ba1_0 xa1_1 xa2_0 xa2_1 xa2_2 w Q = codeW Tryz.prog hT 57 D (tab tb) [] body (topQ Tryz.prog hT 57 [.tmp 6] Q) (argsF [.pointer (some aa0), .agg #[.bool ba1_0, .int .i64 xa1_1], .agg #[.int .i64 xa2_0, .int .i64 xa2_1, .int .i64 xa2_2]]) w := by cases ba1_0 <;> kernel_rfl
theorem ok (h : wp aa0 ba1_0 xa1_1 xa2_0 xa2_1 xa2_2 w Q) : Calls Tryz.prog 62 #[.pointer (some aa0), .agg #[.bool ba1_0, .int .i64 xa1_1], .agg #[.int .i64 xa2_0, .int .i64 xa2_1, .int .i64 xa2_2]] w Q := by
  rw [wp_eq] at h
  refine calls_of_codeW (c := body) (rs := [.tmp 6]) Tryz.func62 ?_ ?_ ?_ ?_ ?_ (tab_snd (by
    intro x hx
    simp only [tb, List.mem_cons, List.not_mem_nil, or_false] at hx
    subst hx
    exact j0_snd)) ?_ h <;> kernel_rfl
end f_euler_Forest_make
namespace f_euler_Forest_turn
noncomputable def body : Code := (Tryz.f63.body).getD .skip
def wp (aa0 : Addr) (xa1 : Int) (w : World) (Q : Ending → World → Prop) : Prop := ldP w aa0 fun p1 => Calls Tryz.prog 90 #[.pointer p1, .int .i64 xa1, .int .i64 0] w fun e2 w3 => ∃ x4_0 x4_1, e2 = .returned (.tuple #[.int .i64 x4_0, .int .i64 x4_1]) ∧ (sel (x4_0 == xa1) (Q (.returned (.tuple #[])) w3) (ldP w3 aa0 fun p5 => Calls Tryz.prog 68 #[.pointer p5, .int .i64 xa1] w3 fun e6 w7 => ∃ x8, e6 = .returned (.int .i64 x8) ∧ (ldP w7 aa0 fun p9 => Calls Tryz.prog 64 #[.pointer p9, .int .i64 xa1, .int .i64 x4_0] w7 fun e10 w11 => ∃ x12, e10 = .returned (.int .i64 x12) ∧ (Q (.returned (.tuple #[])) w11))))
def D : Nat → Option DH := dtab []
def tb : List (List Nat × Spec) := []
variable (aa0 : Addr) (xa1 : Int) (w : World) (Q : Ending → World → Prop)
theorem wp_eq : wp aa0 xa1 w Q = codeW Tryz.prog hT 31 D (tab tb) [] body (topQ Tryz.prog hT 31 [] Q) (argsF [.pointer (some aa0), .int .i64 xa1]) w := by kernel_rfl
theorem ok (h : wp aa0 xa1 w Q) : Calls Tryz.prog 63 #[.pointer (some aa0), .int .i64 xa1] w Q := by
  rw [wp_eq] at h
  refine calls_of_codeW (c := body) (rs := []) Tryz.func63 ?_ ?_ ?_ ?_ ?_ (tab_snd (by
    intro x hx
    simp only [tb, List.not_mem_nil] at hx
    )) ?_ h <;> kernel_rfl
end f_euler_Forest_turn
namespace f_euler_bit
noncomputable def body : Code := (Tryz.f66.body).getD .skip
def wp (ba0 : Bool) (w : World) (Q : Ending → World → Prop) : Prop := sel ba0 (Q (.returned (.int .i64 1)) w) (Q (.returned (.int .i64 0)) w)
def D : Nat → Option DH := dtab []
def tb : List (List Nat × Spec) := []
variable (ba0 : Bool) (w : World) (Q : Ending → World → Prop)
theorem wp_eq : wp ba0 w Q = codeW Tryz.prog hT 4 D (tab tb) [] body (topQ Tryz.prog hT 4 [.tmp 2] Q) (argsF [.bool ba0]) w := by cases ba0 <;> kernel_rfl
theorem ok (h : wp ba0 w Q) : Calls Tryz.prog 66 #[.bool ba0] w Q := by
  rw [wp_eq] at h
  refine calls_of_codeW (c := body) (rs := [.tmp 2]) Tryz.func66 ?_ ?_ ?_ ?_ ?_ (tab_snd (by
    intro x hx
    simp only [tb, List.not_mem_nil] at hx
    )) ?_ h <;> kernel_rfl
end f_euler_bit
namespace f_euler_Forest_alone
noncomputable def body : Code := (Tryz.f69.body).getD .skip
def wp (aa0 : Addr) (xa1 : Int) (w : World) (Q : Ending → World → Prop) : Prop := ldP w aa0 fun p1 => Calls Tryz.prog 90 #[.pointer p1, .int .i64 xa1, .int .i64 1] w fun e2 w3 => ∃ x4_0 x4_1, e2 = .returned (.tuple #[.int .i64 x4_0, .int .i64 x4_1]) ∧ (sel (x4_1 == 0) (ldP w3 aa0 fun p5 => Calls Tryz.prog 68 #[.pointer p5, .int .i64 x4_0] w3 fun e6 w7 => ∃ x8, e6 = .returned (.int .i64 x8) ∧ (Q (.returned (.tuple #[])) w7)) (Q (.returned (.tuple #[])) w3))
def D : Nat → Option DH := dtab []
def tb : List (List Nat × Spec) := []
variable (aa0 : Addr) (xa1 : Int) (w : World) (Q : Ending → World → Prop)
theorem wp_eq : wp aa0 xa1 w Q = codeW Tryz.prog hT 23 D (tab tb) [] body (topQ Tryz.prog hT 23 [] Q) (argsF [.pointer (some aa0), .int .i64 xa1]) w := by kernel_rfl
theorem ok (h : wp aa0 xa1 w Q) : Calls Tryz.prog 69 #[.pointer (some aa0), .int .i64 xa1] w Q := by
  rw [wp_eq] at h
  refine calls_of_codeW (c := body) (rs := []) Tryz.func69 ?_ ?_ ?_ ?_ ?_ (tab_snd (by
    intro x hx
    simp only [tb, List.not_mem_nil] at hx
    )) ?_ h <;> kernel_rfl
end f_euler_Forest_alone
namespace f_euler_Forest_drop
noncomputable def body : Code := (Tryz.f70.body).getD .skip
def wp (aa0 : Addr) (xa1 : Int) (w : World) (Q : Ending → World → Prop) : Prop := ldM w (aa0.add 3) fun m1 => Runs Tryz.prog (Builtin.delete_ #[106, 3] 0 #[.map m1, .int .i64 xa1]) w fun v3 w2 => v3 = (.tuple #[]) ∧ (ldS w2 (aa0.add 4) fun A4 n4 c4 => alW w2 (.cells #[.int .i64 xa1] 3) fun B5 w6 => Runs Tryz.prog (Builtin.append_ #[22, 22] 22 #[.slice A4 n4 c4, .slice (some ⟨B5, 0, none⟩) 1 1]) w6 fun v8 w7 => ∃ A9 n9 c9, v8 = (.slice A9 n9 c9) ∧ (stW w7 (aa0.add 4) (.slice A9 n9 c9) fun w10 => Q (.returned (.tuple #[])) w10))
def D : Nat → Option DH := dtab []
def tb : List (List Nat × Spec) := []
variable (aa0 : Addr) (xa1 : Int) (w : World) (Q : Ending → World → Prop)
theorem wp_eq : wp aa0 xa1 w Q = codeW Tryz.prog hT 19 D (tab tb) [] body (topQ Tryz.prog hT 19 [] Q) (argsF [.pointer (some aa0), .int .i64 xa1]) w := by kernel_rfl
theorem ok (h : wp aa0 xa1 w Q) : Calls Tryz.prog 70 #[.pointer (some aa0), .int .i64 xa1] w Q := by
  rw [wp_eq] at h
  refine calls_of_codeW (c := body) (rs := []) Tryz.func70 ?_ ?_ ?_ ?_ ?_ (tab_snd (by
    intro x hx
    simp only [tb, List.not_mem_nil] at hx
    )) ?_ h <;> kernel_rfl
end f_euler_Forest_drop
namespace f_ref01_Has
noncomputable def body : Code := (Tryz.f21.body).getD .skip
def l0 : Nat → Option Addr → Nat → Nat → Int → Int → World → (World → Prop) → (Bool → World → Prop) → Prop | 0, _, _, _, _, _, _, _, _ => False | k + 1, At0, nt0, ct0, xt1, xt5, w, K0, Kr => sel (decide (xt5 < (nt0 : Int))) (optB At0 fun a1 => req (decide (0 ≤ xt5 ∧ xt5 < (nt0 : Int))) <| ldI w (a1.add (xt5.toNat * 1)) .i64 fun x2 => sel (x2 == xt1) (Kr true w) (l0 k At0 nt0 ct0 xt1 (IntKind.i64.wrap (xt5 + 1)) w K0 Kr)) (K0 w)
def wp (Aa0 : Option Addr) (na0 ca0 : Nat) (xa1 : Int) (w : World) (Q : Ending → World → Prop) : Prop := ∃ k6, l0 k6 Aa0 na0 ca0 xa1 0 w (fun w3 => ∀ _ : Fr, Q (.returned (.bool false)) w3) (fun b4 w5 => ∀ _ : Fr, Q (.returned (.bool b4)) w5)
def D : Nat → Option DH := dtab []
def l0LO : LO := ⟨[], [4], [(0, [])], []⟩
def l0Tk (k : Nat) : Spec := fun Q σ w => gSlice (σ 0) fun At0 nt0 ct0 => gInt .i64 (σ 1) fun xt1 => gInt .i64 (σ 5) fun xt5 => l0 k At0 nt0 ct0 xt1 xt5 w (fun w => ∀ d : Fr, Q (.exit 0) (ov d []) w) (fun bq4 w => ∀ d : Fr, Q .ret (ov d [(4, .bool bq4)]) w)
def l0T : Spec := fun Q σ w => ∃ k, l0Tk k Q σ w
def l0tb : List (List Nat × Spec) := []
noncomputable def l0b : Code := (subC [0, 0, 1, 0, 1] body).getD .skip
theorem l0_eq (k : Nat) (At0 : Option Addr) (nt0 ct0 : Nat) (xt1 xt5 : Int) (Q : PQ) (σ : Fr) (w : World) : l0 (k + 1) At0 nt0 ct0 xt1 xt5 w (fun w => ∀ d : Fr, Q (.exit 0) (ov d []) w) (fun bq4 w => ∀ d : Fr, Q .ret (ov d [(4, .bool bq4)]) w) = codeW Tryz.prog hT 18 D (tab l0tb) [0, 0, 1, 0, 1] l0b (thenQ (l0Tk k Q) (widen l0LO Q)) (ov σ [(0, .slice At0 nt0 ct0), (1, .int .i64 xt1), (5, .int .i64 xt5)]) w := by kernel_rfl
theorem l0_snd : ∀ c, subC [0, 1, 0, 1] body = some c → Snd Tryz.prog 18 c l0T := by
  refine loop_of (hT := hT) (D := D) (l := l0tb) (b := l0b) (lo := l0LO) (by kernel_rfl) (by
    intro x hx
    simp only [l0tb, List.not_mem_nil] at hx
    ) (by kernel_rfl) (by kernel_rfl) ?_ ?_
  · intro Q σ w h
    unfold l0Tk at h
    obtain ⟨_, _, _, _, h⟩ := gSlice_elim h
    obtain ⟨_, _, h⟩ := gInt_elim h
    obtain ⟨_, _, h⟩ := gInt_elim h
    exact h
  · intro k Q σ w h
    unfold l0Tk at h
    obtain ⟨At0, nt0, ct0, h0, h⟩ := gSlice_elim h
    obtain ⟨xt1, h1, h⟩ := gInt_elim h
    obtain ⟨xt5, h5, h⟩ := gInt_elim h
    rw [l0_eq (σ := σ)] at h
    have e : (ov σ [(0, .slice At0 nt0 ct0), (1, .int .i64 xt1), (5, .int .i64 xt5)]) = σ := ov_self (by simp [h0, h1, h5])
    rw [e] at h
    exact h
def tb : List (List Nat × Spec) := [([0, 1, 0, 1], l0T)]
variable (Aa0 : Option Addr) (na0 ca0 : Nat) (xa1 : Int) (w : World) (Q : Ending → World → Prop)
theorem wp_eq : wp Aa0 na0 ca0 xa1 w Q = codeW Tryz.prog hT 18 D (tab tb) [] body (topQ Tryz.prog hT 18 [.tmp 4] Q) (argsF [.slice Aa0 na0 ca0, .int .i64 xa1]) w := by kernel_rfl
theorem ok (h : wp Aa0 na0 ca0 xa1 w Q) : Calls Tryz.prog 21 #[.slice Aa0 na0 ca0, .int .i64 xa1] w Q := by
  rw [wp_eq] at h
  refine calls_of_codeW (c := body) (rs := [.tmp 4]) Tryz.func21 ?_ ?_ ?_ ?_ ?_ (tab_snd (by
    intro x hx
    simp only [tb, List.mem_cons, List.not_mem_nil, or_false] at hx
    subst hx
    exact l0_snd)) ?_ h <;> kernel_rfl
end f_ref01_Has
namespace f_ref05_Without
noncomputable def body : Code := (Tryz.f112.body).getD .skip
def l0 : Nat → Option Addr → Nat → Nat → Int → Option Addr → Nat → Nat → Int → World → ((Option Addr) → Nat → Nat → World → Prop) → Prop | 0, _, _, _, _, _, _, _, _, _, _ => False | k + 1, At0, nt0, ct0, xt1, At5, nt5, ct5, xt6, w, K0 => sel (decide (xt6 < (nt0 : Int))) (optB At0 fun a3 => req (decide (0 ≤ xt6 ∧ xt6 < (nt0 : Int))) <| ldI w (a3.add (xt6.toNat * 1)) .i64 fun x4 => sel (x4 != xt1) (optB At0 fun a5 => req (decide (0 ≤ xt6 ∧ xt6 < (nt0 : Int))) <| ldI w (a5.add (xt6.toNat * 1)) .i64 fun x6 => alW w (.cells #[.int .i64 x6] 3) fun B7 w8 => Runs Tryz.prog (Builtin.append_ #[22, 22] 22 #[.slice At5 nt5 ct5, .slice (some ⟨B7, 0, none⟩) 1 1]) w8 fun v10 w9 => ∃ A11 n11 c11, v10 = (.slice A11 n11 c11) ∧ (l0 k At0 nt0 ct0 xt1 A11 n11 c11 (IntKind.i64.wrap (xt6 + 1)) w9 K0)) (l0 k At0 nt0 ct0 xt1 At5 nt5 ct5 (IntKind.i64.wrap (xt6 + 1)) w K0)) (K0 At5 nt5 ct5 w)
def wp (Aa0 : Option Addr) (na0 ca0 : Nat) (xa1 : Int) (w : World) (Q : Ending → World → Prop) : Prop := alW w (.cells #[] 3) fun B1 w2 => ∃ k14, l0 k14 Aa0 na0 ca0 xa1 (some ⟨B1, 0, none⟩) 0 0 0 w2 (fun A12 n12 c12 w13 => ∀ _ : Fr, Q (.returned (.slice A12 n12 c12)) w13)
def D : Nat → Option DH := dtab []
def l0LO : LO := ⟨[], [], [(0, [5])], []⟩
def l0Tk (k : Nat) : Spec := fun Q σ w => gSlice (σ 0) fun At0 nt0 ct0 => gInt .i64 (σ 1) fun xt1 => gSlice (σ 5) fun At5 nt5 ct5 => gInt .i64 (σ 6) fun xt6 => l0 k At0 nt0 ct0 xt1 At5 nt5 ct5 xt6 w (fun Aq5 nq5 cq5 w => ∀ d : Fr, Q (.exit 0) (ov d [(5, .slice Aq5 nq5 cq5)]) w)
def l0T : Spec := fun Q σ w => ∃ k, l0Tk k Q σ w
def l0tb : List (List Nat × Spec) := []
noncomputable def l0b : Code := (subC [0, 0, 1, 0, 1, 1] body).getD .skip
theorem l0_eq (k : Nat) (At0 : Option Addr) (nt0 ct0 : Nat) (xt1 : Int) (At5 : Option Addr) (nt5 ct5 : Nat) (xt6 : Int) (Q : PQ) (σ : Fr) (w : World) : l0 (k + 1) At0 nt0 ct0 xt1 At5 nt5 ct5 xt6 w (fun Aq5 nq5 cq5 w => ∀ d : Fr, Q (.exit 0) (ov d [(5, .slice Aq5 nq5 cq5)]) w) = codeW Tryz.prog hT 28 D (tab l0tb) [0, 0, 1, 0, 1, 1] l0b (thenQ (l0Tk k Q) (widen l0LO Q)) (ov σ [(0, .slice At0 nt0 ct0), (1, .int .i64 xt1), (5, .slice At5 nt5 ct5), (6, .int .i64 xt6)]) w := by kernel_rfl
theorem l0_snd : ∀ c, subC [0, 1, 0, 1, 1] body = some c → Snd Tryz.prog 28 c l0T := by
  refine loop_of (hT := hT) (D := D) (l := l0tb) (b := l0b) (lo := l0LO) (by kernel_rfl) (by
    intro x hx
    simp only [l0tb, List.not_mem_nil] at hx
    ) (by kernel_rfl) (by kernel_rfl) ?_ ?_
  · intro Q σ w h
    unfold l0Tk at h
    obtain ⟨_, _, _, _, h⟩ := gSlice_elim h
    obtain ⟨_, _, h⟩ := gInt_elim h
    obtain ⟨_, _, _, _, h⟩ := gSlice_elim h
    obtain ⟨_, _, h⟩ := gInt_elim h
    exact h
  · intro k Q σ w h
    unfold l0Tk at h
    obtain ⟨At0, nt0, ct0, h0, h⟩ := gSlice_elim h
    obtain ⟨xt1, h1, h⟩ := gInt_elim h
    obtain ⟨At5, nt5, ct5, h5, h⟩ := gSlice_elim h
    obtain ⟨xt6, h6, h⟩ := gInt_elim h
    rw [l0_eq (σ := σ)] at h
    have e : (ov σ [(0, .slice At0 nt0 ct0), (1, .int .i64 xt1), (5, .slice At5 nt5 ct5), (6, .int .i64 xt6)]) = σ := ov_self (by simp [h0, h1, h5, h6])
    rw [e] at h
    exact h
def tb : List (List Nat × Spec) := [([0, 1, 0, 1, 1], l0T)]
variable (Aa0 : Option Addr) (na0 ca0 : Nat) (xa1 : Int) (w : World) (Q : Ending → World → Prop)
theorem wp_eq : wp Aa0 na0 ca0 xa1 w Q = codeW Tryz.prog hT 28 D (tab tb) [] body (topQ Tryz.prog hT 28 [.tmp 4] Q) (argsF [.slice Aa0 na0 ca0, .int .i64 xa1]) w := by kernel_rfl
theorem ok (h : wp Aa0 na0 ca0 xa1 w Q) : Calls Tryz.prog 112 #[.slice Aa0 na0 ca0, .int .i64 xa1] w Q := by
  rw [wp_eq] at h
  refine calls_of_codeW (c := body) (rs := [.tmp 4]) Tryz.func112 ?_ ?_ ?_ ?_ ?_ (tab_snd (by
    intro x hx
    simp only [tb, List.mem_cons, List.not_mem_nil, or_false] at hx
    subst hx
    exact l0_snd)) ?_ h <;> kernel_rfl
end f_ref05_Without
namespace f_ref05_With
noncomputable def body : Code := (Tryz.f22.body).getD .skip
def j1 (At0 : Option Addr) (nt0 ct0 : Nat) (At5 : Option Addr) (nt5 ct5 : Nat) (xt7 : Int) (w : World) (Kn : (Option Addr) → Nat → Nat → World → Prop) : Prop := optB At0 fun a10 => req (decide (0 ≤ xt7 ∧ xt7 < (nt0 : Int))) <| ldI w (a10.add (xt7.toNat * 1)) .i64 fun x11 => alW w (.cells #[.int .i64 x11] 3) fun B12 w13 => Runs Tryz.prog (Builtin.append_ #[22, 22] 22 #[.slice At5 nt5 ct5, .slice (some ⟨B12, 0, none⟩) 1 1]) w13 fun v15 w14 => ∃ A16 n16 c16, v15 = (.slice A16 n16 c16) ∧ (Kn A16 n16 c16 w14)
def l0 : Nat → Option Addr → Nat → Nat → Int → Option Addr → Nat → Nat → Bool → Int → World → ((Option Addr) → Nat → Nat → Bool → World → Prop) → Prop | 0, _, _, _, _, _, _, _, _, _, _, _ => False | k + 1, At0, nt0, ct0, xt1, At5, nt5, ct5, bt6, xt7, w, K0 => sel (decide (xt7 < (nt0 : Int))) (sel (!bt6) (optB At0 fun a3 => req (decide (0 ≤ xt7 ∧ xt7 < (nt0 : Int))) <| ldI w (a3.add (xt7.toNat * 1)) .i64 fun x4 => sel (decide (xt1 < x4)) (alW w (.cells #[.int .i64 xt1] 3) fun B5 w6 => Runs Tryz.prog (Builtin.append_ #[22, 22] 22 #[.slice At5 nt5 ct5, .slice (some ⟨B5, 0, none⟩) 1 1]) w6 fun v8 w7 => ∃ A9 n9 c9, v8 = (.slice A9 n9 c9) ∧ (j1 At0 nt0 ct0 A9 n9 c9 xt7 w7 (fun A17 n17 c17 w18 => ∀ _ : Fr, l0 k At0 nt0 ct0 xt1 A17 n17 c17 true (IntKind.i64.wrap (xt7 + 1)) w18 K0))) (j1 At0 nt0 ct0 At5 nt5 ct5 xt7 w (fun A19 n19 c19 w20 => ∀ _ : Fr, l0 k At0 nt0 ct0 xt1 A19 n19 c19 bt6 (IntKind.i64.wrap (xt7 + 1)) w20 K0))) (j1 At0 nt0 ct0 At5 nt5 ct5 xt7 w (fun A21 n21 c21 w22 => ∀ _ : Fr, l0 k At0 nt0 ct0 xt1 A21 n21 c21 bt6 (IntKind.i64.wrap (xt7 + 1)) w22 K0))) (K0 At5 nt5 ct5 bt6 w)
def wp (Aa0 : Option Addr) (na0 ca0 : Nat) (xa1 : Int) (w : World) (Q : Ending → World → Prop) : Prop := alW w (.cells #[] 3) fun B1 w2 => ∃ k31, l0 k31 Aa0 na0 ca0 xa1 (some ⟨B1, 0, none⟩) 0 0 false 0 w2 (fun A23 n23 c23 b24 w25 => ∀ _ : Fr, sel (!b24) (alW w25 (.cells #[.int .i64 xa1] 3) fun B26 w27 => Runs Tryz.prog (Builtin.append_ #[22, 22] 22 #[.slice A23 n23 c23, .slice (some ⟨B26, 0, none⟩) 1 1]) w27 fun v29 w28 => ∃ A30 n30 c30, v29 = (.slice A30 n30 c30) ∧ (Q (.returned (.slice A30 n30 c30)) w28)) (Q (.returned (.slice A23 n23 c23)) w25))
def D : Nat → Option DH := dtab []
def j1LO : LO := ⟨[0, 1, 5, 6, 7], [], [], []⟩
def j1T : Spec := fun Q σ w => gSlice (σ 0) fun At0 nt0 ct0 => gSlice (σ 5) fun At5 nt5 ct5 => gInt .i64 (σ 7) fun xt7 => j1 At0 nt0 ct0 At5 nt5 ct5 xt7 w (fun Aq5 nq5 cq5 w => ∀ d : Fr, Q .normal (ov d [(0, .slice At0 nt0 ct0), (1, σ 1), (5, .slice Aq5 nq5 cq5), (6, σ 6), (7, .int .i64 xt7)]) w)
def j1tb : List (List Nat × Spec) := []
noncomputable def j1b : Code := (subC [1, 0, 0, 1, 0, 0, 1, 0, 1, 1, 1] body).getD .skip
theorem j1_eq (At0 : Option Addr) (nt0 ct0 : Nat) (At5 : Option Addr) (nt5 ct5 : Nat) (xt7 : Int) (Q : PQ) (σ : Fr) (w : World) : j1 At0 nt0 ct0 At5 nt5 ct5 xt7 w (fun Aq5 nq5 cq5 w => ∀ d : Fr, Q .normal (ov d [(0, .slice At0 nt0 ct0), (1, σ 1), (5, .slice Aq5 nq5 cq5), (6, σ 6), (7, .int .i64 xt7)]) w) = codeW Tryz.prog hT 43 D (tab j1tb) [1, 0, 0, 1, 0, 0, 1, 0, 1, 1, 1] j1b (widen j1LO Q) (ov σ [(0, .slice At0 nt0 ct0), (5, .slice At5 nt5 ct5), (7, .int .i64 xt7)]) w := by kernel_rfl
theorem j1_snd : ∀ c, subC [1, 0, 0, 1, 0, 0, 1, 0, 1, 1, 1] body = some c → Snd Tryz.prog 43 c j1T := by
  refine cut_of (hT := hT) (D := D) (l := j1tb) (b := j1b) (lo := j1LO) (by kernel_rfl) (by
    intro x hx
    simp only [j1tb, List.not_mem_nil] at hx
    ) (by kernel_rfl) (by kernel_rfl) ?_
  intro Q σ w h
  unfold j1T at h
  obtain ⟨At0, nt0, ct0, h0, h⟩ := gSlice_elim h
  obtain ⟨At5, nt5, ct5, h5, h⟩ := gSlice_elim h
  obtain ⟨xt7, h7, h⟩ := gInt_elim h
  rw [j1_eq (σ := σ)] at h
  have e : (ov σ [(0, .slice At0 nt0 ct0), (5, .slice At5 nt5 ct5), (7, .int .i64 xt7)]) = σ := ov_self (by simp [h0, h5, h7])
  rw [e] at h
  exact h
def l0LO : LO := ⟨[], [], [(0, [1, 5, 6])], []⟩
def l0Tk (k : Nat) : Spec := fun Q σ w => gSlice (σ 0) fun At0 nt0 ct0 => gInt .i64 (σ 1) fun xt1 => gSlice (σ 5) fun At5 nt5 ct5 => gBool (σ 6) fun bt6 => gInt .i64 (σ 7) fun xt7 => l0 k At0 nt0 ct0 xt1 At5 nt5 ct5 bt6 xt7 w (fun Aq5 nq5 cq5 bq6 w => ∀ d : Fr, Q (.exit 0) (ov d [(1, .int .i64 xt1), (5, .slice Aq5 nq5 cq5), (6, .bool bq6)]) w)
def l0T : Spec := fun Q σ w => ∃ k, l0Tk k Q σ w
def l0tb : List (List Nat × Spec) := [([1, 0, 0, 1, 0, 0, 1, 0, 1, 1, 1], j1T)]
noncomputable def l0b : Code := (subC [0, 0, 1, 0, 1, 1, 1] body).getD .skip
theorem l0_eq (k : Nat) (At0 : Option Addr) (nt0 ct0 : Nat) (xt1 : Int) (At5 : Option Addr) (nt5 ct5 : Nat) (bt6 : Bool) (xt7 : Int) (Q : PQ) (σ : Fr) (w : World) : l0 (k + 1) At0 nt0 ct0 xt1 At5 nt5 ct5 bt6 xt7 w (fun Aq5 nq5 cq5 bq6 w => ∀ d : Fr, Q (.exit 0) (ov d [(1, .int .i64 xt1), (5, .slice Aq5 nq5 cq5), (6, .bool bq6)]) w) = codeW Tryz.prog hT 43 D (tab l0tb) [0, 0, 1, 0, 1, 1, 1] l0b (thenQ (l0Tk k Q) (widen l0LO Q)) (ov σ [(0, .slice At0 nt0 ct0), (1, .int .i64 xt1), (5, .slice At5 nt5 ct5), (6, .bool bt6), (7, .int .i64 xt7)]) w := by cases bt6 <;> kernel_rfl
theorem l0_snd : ∀ c, subC [0, 1, 0, 1, 1, 1] body = some c → Snd Tryz.prog 43 c l0T := by
  refine loop_of (hT := hT) (D := D) (l := l0tb) (b := l0b) (lo := l0LO) (by kernel_rfl) (by
    intro x hx
    simp only [l0tb, List.mem_cons, List.not_mem_nil, or_false] at hx
    subst hx
    exact j1_snd) (by kernel_rfl) (by kernel_rfl) ?_ ?_
  · intro Q σ w h
    unfold l0Tk at h
    obtain ⟨_, _, _, _, h⟩ := gSlice_elim h
    obtain ⟨_, _, h⟩ := gInt_elim h
    obtain ⟨_, _, _, _, h⟩ := gSlice_elim h
    obtain ⟨_, _, h⟩ := gBool_elim h
    obtain ⟨_, _, h⟩ := gInt_elim h
    exact h
  · intro k Q σ w h
    unfold l0Tk at h
    obtain ⟨At0, nt0, ct0, h0, h⟩ := gSlice_elim h
    obtain ⟨xt1, h1, h⟩ := gInt_elim h
    obtain ⟨At5, nt5, ct5, h5, h⟩ := gSlice_elim h
    obtain ⟨bt6, h6, h⟩ := gBool_elim h
    obtain ⟨xt7, h7, h⟩ := gInt_elim h
    rw [l0_eq (σ := σ)] at h
    have e : (ov σ [(0, .slice At0 nt0 ct0), (1, .int .i64 xt1), (5, .slice At5 nt5 ct5), (6, .bool bt6), (7, .int .i64 xt7)]) = σ := ov_self (by simp [h0, h1, h5, h6, h7])
    rw [e] at h
    exact h
def tb : List (List Nat × Spec) := [([1, 0, 0, 1, 0, 0, 1, 0, 1, 1, 1], j1T), ([0, 1, 0, 1, 1, 1], l0T)]
variable (Aa0 : Option Addr) (na0 ca0 : Nat) (xa1 : Int) (w : World) (Q : Ending → World → Prop)
theorem wp_eq : wp Aa0 na0 ca0 xa1 w Q = codeW Tryz.prog hT 43 D (tab tb) [] body (topQ Tryz.prog hT 43 [.tmp 4] Q) (argsF [.slice Aa0 na0 ca0, .int .i64 xa1]) w := by kernel_rfl
theorem ok (h : wp Aa0 na0 ca0 xa1 w Q) : Calls Tryz.prog 22 #[.slice Aa0 na0 ca0, .int .i64 xa1] w Q := by
  rw [wp_eq] at h
  refine calls_of_codeW (c := body) (rs := [.tmp 4]) Tryz.func22 ?_ ?_ ?_ ?_ ?_ (tab_snd (by
    intro x hx
    simp only [tb, List.mem_cons, List.not_mem_nil, or_false] at hx
    rcases hx with rfl | rfl
    · exact j1_snd
    · exact l0_snd)) ?_ h <;> kernel_rfl
end f_ref05_With
namespace f_ref05_BadId
noncomputable def body : Code := (Tryz.f109.body).getD .skip
def wp (xa0 : Int) (w : World) (Q : Ending → World → Prop) : Prop := sel (decide (xa0 < 1)) (Q (.returned (.bool true)) w) (Q (.returned (.bool (decide (xa0 > 2147483647)))) w)
def D : Nat → Option DH := dtab []
def tb : List (List Nat × Spec) := []
variable (xa0 : Int) (w : World) (Q : Ending → World → Prop)
theorem wp_eq : wp xa0 w Q = codeW Tryz.prog hT 9 D (tab tb) [] body (topQ Tryz.prog hT 9 [.tmp 2] Q) (argsF [.int .i64 xa0]) w := by kernel_rfl
theorem ok (h : wp xa0 w Q) : Calls Tryz.prog 109 #[.int .i64 xa0] w Q := by
  rw [wp_eq] at h
  refine calls_of_codeW (c := body) (rs := [.tmp 2]) Tryz.func109 ?_ ?_ ?_ ?_ ?_ (tab_snd (by
    intro x hx
    simp only [tb, List.not_mem_nil] at hx
    )) ?_ h <;> kernel_rfl
end f_ref05_BadId
namespace f_ref05_HasV
noncomputable def body : Code := (Tryz.f110.body).getD .skip
def wp (Aa0_0 : Option Addr) (na0_0 ca0_0 : Nat) (Aa0_1 : Option Addr) (na0_1 ca0_1 : Nat) (Aa0_2 : Option Addr) (na0_2 ca0_2 : Nat) (xa1 : Int) (w : World) (Q : Ending → World → Prop) : Prop := alW w (.cells #[.slice Aa0_0 na0_0 ca0_0, .slice Aa0_1 na0_1 ca0_1, .slice Aa0_2 na0_2 ca0_2] 128) fun B1 w2 => ldS w2 ⟨B1, 0, none⟩ fun A3 n3 c3 => Calls Tryz.prog 21 #[.slice A3 n3 c3, .int .i64 xa1] w2 fun e4 w5 => ∃ b6, e4 = .returned (.bool b6) ∧ (Q (.returned (.bool b6)) w5)
def D : Nat → Option DH := dtab []
def tb : List (List Nat × Spec) := []
variable (Aa0_0 : Option Addr) (na0_0 ca0_0 : Nat) (Aa0_1 : Option Addr) (na0_1 ca0_1 : Nat) (Aa0_2 : Option Addr) (na0_2 ca0_2 : Nat) (xa1 : Int) (w : World) (Q : Ending → World → Prop)
theorem wp_eq : wp Aa0_0 na0_0 ca0_0 Aa0_1 na0_1 ca0_1 Aa0_2 na0_2 ca0_2 xa1 w Q = codeW Tryz.prog hT 9 D (tab tb) [] body (topQ Tryz.prog hT 9 [.tmp 4] Q) (argsF [.agg #[.slice Aa0_0 na0_0 ca0_0, .slice Aa0_1 na0_1 ca0_1, .slice Aa0_2 na0_2 ca0_2], .int .i64 xa1]) w := by kernel_rfl
theorem ok (h : wp Aa0_0 na0_0 ca0_0 Aa0_1 na0_1 ca0_1 Aa0_2 na0_2 ca0_2 xa1 w Q) : Calls Tryz.prog 110 #[.agg #[.slice Aa0_0 na0_0 ca0_0, .slice Aa0_1 na0_1 ca0_1, .slice Aa0_2 na0_2 ca0_2], .int .i64 xa1] w Q := by
  rw [wp_eq] at h
  refine calls_of_codeW (c := body) (rs := [.tmp 4]) Tryz.func110 ?_ ?_ ?_ ?_ ?_ (tab_snd (by
    intro x hx
    simp only [tb, List.not_mem_nil] at hx
    )) ?_ h <;> kernel_rfl
end f_ref05_HasV
namespace f_ref05_used
noncomputable def body : Code := (Tryz.f111.body).getD .skip
def l0 : Nat → Int → Addr → Int → World → (World → Prop) → (Bool → World → Prop) → Prop | 0, _, _, _, _, _, _ => False | k + 1, xt1, at2, xt5, w, K0, Kr => ldS w (at2.add 1) fun A3 n3 c3 => sel (decide (xt5 < (n3 : Int))) (ldS w (at2.add 1) fun A4 n4 c4 => optB A4 fun a5 => req (decide (0 ≤ xt5 ∧ xt5 < (n4 : Int))) <| ldI w ((a5.add (xt5.toNat * 4)).add 1) .i64 fun x6 => sel (x6 == xt1) (Kr true w) (ldS w (at2.add 1) fun A7 n7 c7 => optB A7 fun a8 => req (decide (0 ≤ xt5 ∧ xt5 < (n7 : Int))) <| ldI w ((a8.add (xt5.toNat * 4)).add 2) .i64 fun x9 => sel (x9 == xt1) (Kr true w) (l0 k xt1 at2 (IntKind.i64.wrap (xt5 + 1)) w K0 Kr))) (K0 w)
def wp (Aa0_0 : Option Addr) (na0_0 ca0_0 : Nat) (Aa0_1 : Option Addr) (na0_1 ca0_1 : Nat) (Aa0_2 : Option Addr) (na0_2 ca0_2 : Nat) (xa1 : Int) (w : World) (Q : Ending → World → Prop) : Prop := alW w (.cells #[.slice Aa0_0 na0_0 ca0_0, .slice Aa0_1 na0_1 ca0_1, .slice Aa0_2 na0_2 ca0_2] 128) fun B1 w2 => ∃ k13, l0 k13 xa1 ⟨B1, 0, none⟩ 0 w2 (fun w10 => ∀ _ : Fr, Q (.returned (.bool false)) w10) (fun b11 w12 => ∀ _ : Fr, Q (.returned (.bool b11)) w12)
def D : Nat → Option DH := dtab []
def l0LO : LO := ⟨[], [4], [(0, [])], []⟩
def l0Tk (k : Nat) : Spec := fun Q σ w => gInt .i64 (σ 1) fun xt1 => gAd (σ 2) fun at2 => gInt .i64 (σ 5) fun xt5 => l0 k xt1 at2 xt5 w (fun w => ∀ d : Fr, Q (.exit 0) (ov d []) w) (fun bq4 w => ∀ d : Fr, Q .ret (ov d [(4, .bool bq4)]) w)
def l0T : Spec := fun Q σ w => ∃ k, l0Tk k Q σ w
def l0tb : List (List Nat × Spec) := []
noncomputable def l0b : Code := (subC [0, 0, 1, 0, 1] body).getD .skip
theorem l0_eq (k : Nat) (xt1 : Int) (at2 : Addr) (xt5 : Int) (Q : PQ) (σ : Fr) (w : World) : l0 (k + 1) xt1 at2 xt5 w (fun w => ∀ d : Fr, Q (.exit 0) (ov d []) w) (fun bq4 w => ∀ d : Fr, Q .ret (ov d [(4, .bool bq4)]) w) = codeW Tryz.prog hT 31 D (tab l0tb) [0, 0, 1, 0, 1] l0b (thenQ (l0Tk k Q) (widen l0LO Q)) (ov σ [(1, .int .i64 xt1), (2, .pointer (some at2)), (5, .int .i64 xt5)]) w := by kernel_rfl
theorem l0_snd : ∀ c, subC [0, 1, 0, 1] body = some c → Snd Tryz.prog 31 c l0T := by
  refine loop_of (hT := hT) (D := D) (l := l0tb) (b := l0b) (lo := l0LO) (by kernel_rfl) (by
    intro x hx
    simp only [l0tb, List.not_mem_nil] at hx
    ) (by kernel_rfl) (by kernel_rfl) ?_ ?_
  · intro Q σ w h
    unfold l0Tk at h
    obtain ⟨_, _, h⟩ := gInt_elim h
    obtain ⟨_, _, h⟩ := gAd_elim h
    obtain ⟨_, _, h⟩ := gInt_elim h
    exact h
  · intro k Q σ w h
    unfold l0Tk at h
    obtain ⟨xt1, h1, h⟩ := gInt_elim h
    obtain ⟨at2, h2, h⟩ := gAd_elim h
    obtain ⟨xt5, h5, h⟩ := gInt_elim h
    rw [l0_eq (σ := σ)] at h
    have e : (ov σ [(1, .int .i64 xt1), (2, .pointer (some at2)), (5, .int .i64 xt5)]) = σ := ov_self (by simp [h1, h2, h5])
    rw [e] at h
    exact h
def tb : List (List Nat × Spec) := [([0, 1, 0, 1], l0T)]
variable (Aa0_0 : Option Addr) (na0_0 ca0_0 : Nat) (Aa0_1 : Option Addr) (na0_1 ca0_1 : Nat) (Aa0_2 : Option Addr) (na0_2 ca0_2 : Nat) (xa1 : Int) (w : World) (Q : Ending → World → Prop)
theorem wp_eq : wp Aa0_0 na0_0 ca0_0 Aa0_1 na0_1 ca0_1 Aa0_2 na0_2 ca0_2 xa1 w Q = codeW Tryz.prog hT 31 D (tab tb) [] body (topQ Tryz.prog hT 31 [.tmp 4] Q) (argsF [.agg #[.slice Aa0_0 na0_0 ca0_0, .slice Aa0_1 na0_1 ca0_1, .slice Aa0_2 na0_2 ca0_2], .int .i64 xa1]) w := by kernel_rfl
theorem ok (h : wp Aa0_0 na0_0 ca0_0 Aa0_1 na0_1 ca0_1 Aa0_2 na0_2 ca0_2 xa1 w Q) : Calls Tryz.prog 111 #[.agg #[.slice Aa0_0 na0_0 ca0_0, .slice Aa0_1 na0_1 ca0_1, .slice Aa0_2 na0_2 ca0_2], .int .i64 xa1] w Q := by
  rw [wp_eq] at h
  refine calls_of_codeW (c := body) (rs := [.tmp 4]) Tryz.func111 ?_ ?_ ?_ ?_ ?_ (tab_snd (by
    intro x hx
    simp only [tb, List.mem_cons, List.not_mem_nil, or_false] at hx
    subst hx
    exact l0_snd)) ?_ h <;> kernel_rfl
end f_ref05_used
namespace f_ref05_strip
noncomputable def body : Code := (Tryz.f113.body).getD .skip
def l0 : Nat → Option Addr → Nat → Nat → Addr → Option Addr → Nat → Nat → Int → World → ((Option Addr) → Nat → Nat → World → Prop) → Prop | 0, _, _, _, _, _, _, _, _, _, _ => False | k + 1, At0, nt0, ct0, at3, At5, nt5, ct5, xt6, w, K0 => sel (decide (xt6 < (nt0 : Int))) (drW w fun w5 => optB At0 fun a7 => req (decide (0 ≤ xt6 ∧ xt6 < (nt0 : Int))) <| ldB w5 (a7.add (xt6.toNat * 7)) fun b8 => ldI w5 ((a7.add (xt6.toNat * 7)).add 1) .i64 fun x9 => ldB w5 at3 fun b10 => ldI w5 (at3.add 1) .i64 fun x11 => sel (!((b8 == b10) && ((x9 == x11) && true))) (optB At0 fun a12 => req (decide (0 ≤ xt6 ∧ xt6 < (nt0 : Int))) <| ldB w5 (a12.add (xt6.toNat * 7)) fun b13 => ldI w5 ((a12.add (xt6.toNat * 7)).add 1) .i64 fun x14 => ldT w5 ((a12.add (xt6.toNat * 7)).add 2) fun s15 => ldI w5 ((a12.add (xt6.toNat * 7)).add 3) .i64 fun x16 => ldI w5 ((a12.add (xt6.toNat * 7)).add 4) .i64 fun x17 => ldC w5 ((a12.add (xt6.toNat * 7)).add 5) .f64 fun r18 i18 => ldS w5 ((a12.add (xt6.toNat * 7)).add 6) fun A19 n19 c19 => alW w5 (.cells #[.bool b13, .int .i64 x14, .string s15, .int .i64 x16, .int .i64 x17, .complex .f64 r18 i18, .slice A19 n19 c19] 173) fun B20 w21 => Runs Tryz.prog (Builtin.append_ #[126, 126] 126 #[.slice At5 nt5 ct5, .slice (some ⟨B20, 0, none⟩) 1 1]) w21 fun v23 w22 => ∃ A24 n24 c24, v23 = (.slice A24 n24 c24) ∧ (l0 k At0 nt0 ct0 at3 A24 n24 c24 (IntKind.i64.wrap (xt6 + 1)) w22 K0)) (l0 k At0 nt0 ct0 at3 At5 nt5 ct5 (IntKind.i64.wrap (xt6 + 1)) w5 K0)) (K0 At5 nt5 ct5 w)
def wp (Aa0 : Option Addr) (na0 ca0 : Nat) (ba1_0 : Bool) (xa1_1 : Int) (w : World) (Q : Ending → World → Prop) : Prop := alW w (.cells #[.bool ba1_0, .int .i64 xa1_1] 88) fun B1 w2 => alW w2 (.cells #[] 173) fun B3 w4 => ∃ k27, l0 k27 Aa0 na0 ca0 ⟨B1, 0, none⟩ (some ⟨B3, 0, none⟩) 0 0 0 w4 (fun A25 n25 c25 w26 => ∀ _ : Fr, Q (.returned (.slice A25 n25 c25)) w26)
def D : Nat → Option DH := dtab [(5, .simple [.fst 0, .fst 1, .fst 2, .fst 3, .fst 4, .fst 5] [.fst 6])]
def l0LO : LO := ⟨[], [], [(0, [5])], []⟩
def l0Tk (k : Nat) : Spec := fun Q σ w => gSlice (σ 0) fun At0 nt0 ct0 => gAd (σ 3) fun at3 => gSlice (σ 5) fun At5 nt5 ct5 => gInt .i64 (σ 6) fun xt6 => l0 k At0 nt0 ct0 at3 At5 nt5 ct5 xt6 w (fun Aq5 nq5 cq5 w => ∀ d : Fr, Q (.exit 0) (ov d [(5, .slice Aq5 nq5 cq5)]) w)
def l0T : Spec := fun Q σ w => ∃ k, l0Tk k Q σ w
def l0tb : List (List Nat × Spec) := []
noncomputable def l0b : Code := (subC [0, 0, 1, 0, 1, 1] body).getD .skip
theorem l0_eq (k : Nat) (At0 : Option Addr) (nt0 ct0 : Nat) (at3 : Addr) (At5 : Option Addr) (nt5 ct5 : Nat) (xt6 : Int) (Q : PQ) (σ : Fr) (w : World) : l0 (k + 1) At0 nt0 ct0 at3 At5 nt5 ct5 xt6 w (fun Aq5 nq5 cq5 w => ∀ d : Fr, Q (.exit 0) (ov d [(5, .slice Aq5 nq5 cq5)]) w) = codeW Tryz.prog hT 29 D (tab l0tb) [0, 0, 1, 0, 1, 1] l0b (thenQ (l0Tk k Q) (widen l0LO Q)) (ov σ [(0, .slice At0 nt0 ct0), (3, .pointer (some at3)), (5, .slice At5 nt5 ct5), (6, .int .i64 xt6)]) w := by kernel_rfl
theorem l0_snd : ∀ c, subC [0, 1, 0, 1, 1] body = some c → Snd Tryz.prog 29 c l0T := by
  refine loop_of (hT := hT) (D := D) (l := l0tb) (b := l0b) (lo := l0LO) (by kernel_rfl) (by
    intro x hx
    simp only [l0tb, List.not_mem_nil] at hx
    ) (by kernel_rfl) (by kernel_rfl) ?_ ?_
  · intro Q σ w h
    unfold l0Tk at h
    obtain ⟨_, _, _, _, h⟩ := gSlice_elim h
    obtain ⟨_, _, h⟩ := gAd_elim h
    obtain ⟨_, _, _, _, h⟩ := gSlice_elim h
    obtain ⟨_, _, h⟩ := gInt_elim h
    exact h
  · intro k Q σ w h
    unfold l0Tk at h
    obtain ⟨At0, nt0, ct0, h0, h⟩ := gSlice_elim h
    obtain ⟨at3, h3, h⟩ := gAd_elim h
    obtain ⟨At5, nt5, ct5, h5, h⟩ := gSlice_elim h
    obtain ⟨xt6, h6, h⟩ := gInt_elim h
    rw [l0_eq (σ := σ)] at h
    have e : (ov σ [(0, .slice At0 nt0 ct0), (3, .pointer (some at3)), (5, .slice At5 nt5 ct5), (6, .int .i64 xt6)]) = σ := ov_self (by simp [h0, h3, h5, h6])
    rw [e] at h
    exact h
def tb : List (List Nat × Spec) := [([0, 1, 0, 1, 1], l0T)]
variable (Aa0 : Option Addr) (na0 ca0 : Nat) (ba1_0 : Bool) (xa1_1 : Int) (w : World) (Q : Ending → World → Prop)
theorem wp_eq : wp Aa0 na0 ca0 ba1_0 xa1_1 w Q = codeW Tryz.prog hT 29 D (tab tb) [] body (topQ Tryz.prog hT 29 [.tmp 4] Q) (argsF [.slice Aa0 na0 ca0, .agg #[.bool ba1_0, .int .i64 xa1_1]]) w := by cases ba1_0 <;> kernel_rfl
theorem ok (h : wp Aa0 na0 ca0 ba1_0 xa1_1 w Q) : Calls Tryz.prog 113 #[.slice Aa0 na0 ca0, .agg #[.bool ba1_0, .int .i64 xa1_1]] w Q := by
  rw [wp_eq] at h
  refine calls_of_codeW (c := body) (rs := [.tmp 4]) Tryz.func113 ?_ ?_ ?_ ?_ ?_ (tab_snd (by
    intro x hx
    simp only [tb, List.mem_cons, List.not_mem_nil, or_false] at hx
    subst hx
    exact l0_snd)) ?_ h <;> kernel_rfl
end f_ref05_strip
namespace f_ref05_Edge
noncomputable def body : Code := (Tryz.f114.body).getD .skip
def l0 : Nat → Int → Addr → Addr → Int → World → (World → Prop) → (Bool → World → Prop) → Prop | 0, _, _, _, _, _, _, _ => False | k + 1, xt1, at2, at4, xt6, w, K0, Kr => ldS w (at2.add 1) fun A5 n5 c5 => sel (decide (xt6 < (n5 : Int))) (ldS w (at2.add 1) fun A6 n6 c6 => optB A6 fun a7 => req (decide (0 ≤ xt6 ∧ xt6 < (n6 : Int))) <| ldI w (a7.add (xt6.toNat * 4)) .i64 fun x8 => sel (x8 == xt1) (ldS w (at2.add 1) fun A9 n9 c9 => optB A9 fun a10 => req (decide (0 ≤ xt6 ∧ xt6 < (n9 : Int))) <| ldI w (a10.add (xt6.toNat * 4)) .i64 fun x11 => ldI w ((a10.add (xt6.toNat * 4)).add 1) .i64 fun x12 => ldI w ((a10.add (xt6.toNat * 4)).add 2) .i64 fun x13 => ldI w ((a10.add (xt6.toNat * 4)).add 3) .i64 fun x14 => stW w at4 (.int .i64 x11) fun w15 => stW w15 (at4.add 1) (.int .i64 x12) fun w16 => stW w16 (at4.add 2) (.int .i64 x13) fun w17 => stW w17 (at4.add 3) (.int .i64 x14) fun w18 => Kr true w18) (l0 k xt1 at2 at4 (IntKind.i64.wrap (xt6 + 1)) w K0 Kr)) (K0 w)
def wp (Aa0_0 : Option Addr) (na0_0 ca0_0 : Nat) (Aa0_1 : Option Addr) (na0_1 ca0_1 : Nat) (Aa0_2 : Option Addr) (na0_2 ca0_2 : Nat) (xa1 : Int) (w : World) (Q : Ending → World → Prop) : Prop := alW w (.cells #[.slice Aa0_0 na0_0 ca0_0, .slice Aa0_1 na0_1 ca0_1, .slice Aa0_2 na0_2 ca0_2] 128) fun B1 w2 => alW w2 (.cells #[.int .i64 0, .int .i64 0, .int .i64 0, .int .i64 0] 31) fun B3 w4 => ∃ k34, l0 k34 xa1 ⟨B1, 0, none⟩ ⟨B3, 0, none⟩ 0 w4 (fun w19 => ∀ _ : Fr, stW w19 ⟨B3, 0, none⟩ (.int .i64 0) fun w20 => stW w20 (.add ⟨B3, 0, none⟩ 1) (.int .i64 0) fun w21 => stW w21 (.add ⟨B3, 0, none⟩ 2) (.int .i64 0) fun w22 => stW w22 (.add ⟨B3, 0, none⟩ 3) (.int .i64 0) fun w23 => ldI w23 ⟨B3, 0, none⟩ .i64 fun x24 => ldI w23 (.add ⟨B3, 0, none⟩ 1) .i64 fun x25 => ldI w23 (.add ⟨B3, 0, none⟩ 2) .i64 fun x26 => ldI w23 (.add ⟨B3, 0, none⟩ 3) .i64 fun x27 => Q (.returned (.tuple #[.agg #[.int .i64 x24, .int .i64 x25, .int .i64 x26, .int .i64 x27], .bool false])) w23) (fun b28 w29 => ∀ _ : Fr, ldI w29 ⟨B3, 0, none⟩ .i64 fun x30 => ldI w29 (.add ⟨B3, 0, none⟩ 1) .i64 fun x31 => ldI w29 (.add ⟨B3, 0, none⟩ 2) .i64 fun x32 => ldI w29 (.add ⟨B3, 0, none⟩ 3) .i64 fun x33 => Q (.returned (.tuple #[.agg #[.int .i64 x30, .int .i64 x31, .int .i64 x32, .int .i64 x33], .bool b28])) w29)
def D : Nat → Option DH := dtab []
def l0LO : LO := ⟨[], [4, 5], [(0, [4])], []⟩
def l0Tk (k : Nat) : Spec := fun Q σ w => gInt .i64 (σ 1) fun xt1 => gAd (σ 2) fun at2 => gAd (σ 4) fun at4 => gInt .i64 (σ 6) fun xt6 => l0 k xt1 at2 at4 xt6 w (fun w => ∀ d : Fr, Q (.exit 0) (ov d [(4, .pointer (some at4))]) w) (fun bq5 w => ∀ d : Fr, Q .ret (ov d [(4, .pointer (some at4)), (5, .bool bq5)]) w)
def l0T : Spec := fun Q σ w => ∃ k, l0Tk k Q σ w
def l0tb : List (List Nat × Spec) := []
noncomputable def l0b : Code := (subC [0, 0, 1, 0, 1] body).getD .skip
theorem l0_eq (k : Nat) (xt1 : Int) (at2 at4 : Addr) (xt6 : Int) (Q : PQ) (σ : Fr) (w : World) : l0 (k + 1) xt1 at2 at4 xt6 w (fun w => ∀ d : Fr, Q (.exit 0) (ov d [(4, .pointer (some at4))]) w) (fun bq5 w => ∀ d : Fr, Q .ret (ov d [(4, .pointer (some at4)), (5, .bool bq5)]) w) = codeW Tryz.prog hT 28 D (tab l0tb) [0, 0, 1, 0, 1] l0b (thenQ (l0Tk k Q) (widen l0LO Q)) (ov σ [(1, .int .i64 xt1), (2, .pointer (some at2)), (4, .pointer (some at4)), (6, .int .i64 xt6)]) w := by kernel_rfl
theorem l0_snd : ∀ c, subC [0, 1, 0, 1] body = some c → Snd Tryz.prog 28 c l0T := by
  refine loop_of (hT := hT) (D := D) (l := l0tb) (b := l0b) (lo := l0LO) (by kernel_rfl) (by
    intro x hx
    simp only [l0tb, List.not_mem_nil] at hx
    ) (by kernel_rfl) (by kernel_rfl) ?_ ?_
  · intro Q σ w h
    unfold l0Tk at h
    obtain ⟨_, _, h⟩ := gInt_elim h
    obtain ⟨_, _, h⟩ := gAd_elim h
    obtain ⟨_, _, h⟩ := gAd_elim h
    obtain ⟨_, _, h⟩ := gInt_elim h
    exact h
  · intro k Q σ w h
    unfold l0Tk at h
    obtain ⟨xt1, h1, h⟩ := gInt_elim h
    obtain ⟨at2, h2, h⟩ := gAd_elim h
    obtain ⟨at4, h4, h⟩ := gAd_elim h
    obtain ⟨xt6, h6, h⟩ := gInt_elim h
    rw [l0_eq (σ := σ)] at h
    have e : (ov σ [(1, .int .i64 xt1), (2, .pointer (some at2)), (4, .pointer (some at4)), (6, .int .i64 xt6)]) = σ := ov_self (by simp [h1, h2, h4, h6])
    rw [e] at h
    exact h
def tb : List (List Nat × Spec) := [([0, 1, 0, 1], l0T)]
variable (Aa0_0 : Option Addr) (na0_0 ca0_0 : Nat) (Aa0_1 : Option Addr) (na0_1 ca0_1 : Nat) (Aa0_2 : Option Addr) (na0_2 ca0_2 : Nat) (xa1 : Int) (w : World) (Q : Ending → World → Prop)
theorem wp_eq : wp Aa0_0 na0_0 ca0_0 Aa0_1 na0_1 ca0_1 Aa0_2 na0_2 ca0_2 xa1 w Q = codeW Tryz.prog hT 28 D (tab tb) [] body (topQ Tryz.prog hT 28 [.cell 4 31, .tmp 5] Q) (argsF [.agg #[.slice Aa0_0 na0_0 ca0_0, .slice Aa0_1 na0_1 ca0_1, .slice Aa0_2 na0_2 ca0_2], .int .i64 xa1]) w := by kernel_rfl
theorem ok (h : wp Aa0_0 na0_0 ca0_0 Aa0_1 na0_1 ca0_1 Aa0_2 na0_2 ca0_2 xa1 w Q) : Calls Tryz.prog 114 #[.agg #[.slice Aa0_0 na0_0 ca0_0, .slice Aa0_1 na0_1 ca0_1, .slice Aa0_2 na0_2 ca0_2], .int .i64 xa1] w Q := by
  rw [wp_eq] at h
  refine calls_of_codeW (c := body) (rs := [.cell 4 31, .tmp 5]) Tryz.func114 ?_ ?_ ?_ ?_ ?_ (tab_snd (by
    intro x hx
    simp only [tb, List.mem_cons, List.not_mem_nil, or_false] at hx
    subst hx
    exact l0_snd)) ?_ h <;> kernel_rfl
end f_ref05_Edge
namespace f_ref05_withoutEdge
noncomputable def body : Code := (Tryz.f115.body).getD .skip
def l0 : Nat → Option Addr → Nat → Nat → Int → Option Addr → Nat → Nat → Int → World → ((Option Addr) → Nat → Nat → World → Prop) → Prop | 0, _, _, _, _, _, _, _, _, _, _ => False | k + 1, At0, nt0, ct0, xt1, At5, nt5, ct5, xt6, w, K0 => sel (decide (xt6 < (nt0 : Int))) (optB At0 fun a3 => req (decide (0 ≤ xt6 ∧ xt6 < (nt0 : Int))) <| ldI w (a3.add (xt6.toNat * 4)) .i64 fun x4 => sel (x4 != xt1) (optB At0 fun a5 => req (decide (0 ≤ xt6 ∧ xt6 < (nt0 : Int))) <| ldI w (a5.add (xt6.toNat * 4)) .i64 fun x6 => ldI w ((a5.add (xt6.toNat * 4)).add 1) .i64 fun x7 => ldI w ((a5.add (xt6.toNat * 4)).add 2) .i64 fun x8 => ldI w ((a5.add (xt6.toNat * 4)).add 3) .i64 fun x9 => alW w (.cells #[.int .i64 x6, .int .i64 x7, .int .i64 x8, .int .i64 x9] 31) fun B10 w11 => Runs Tryz.prog (Builtin.append_ #[27, 27] 27 #[.slice At5 nt5 ct5, .slice (some ⟨B10, 0, none⟩) 1 1]) w11 fun v13 w12 => ∃ A14 n14 c14, v13 = (.slice A14 n14 c14) ∧ (l0 k At0 nt0 ct0 xt1 A14 n14 c14 (IntKind.i64.wrap (xt6 + 1)) w12 K0)) (l0 k At0 nt0 ct0 xt1 At5 nt5 ct5 (IntKind.i64.wrap (xt6 + 1)) w K0)) (K0 At5 nt5 ct5 w)
def wp (Aa0 : Option Addr) (na0 ca0 : Nat) (xa1 : Int) (w : World) (Q : Ending → World → Prop) : Prop := alW w (.cells #[] 31) fun B1 w2 => ∃ k17, l0 k17 Aa0 na0 ca0 xa1 (some ⟨B1, 0, none⟩) 0 0 0 w2 (fun A15 n15 c15 w16 => ∀ _ : Fr, Q (.returned (.slice A15 n15 c15)) w16)
def D : Nat → Option DH := dtab []
def l0LO : LO := ⟨[], [], [(0, [5])], []⟩
def l0Tk (k : Nat) : Spec := fun Q σ w => gSlice (σ 0) fun At0 nt0 ct0 => gInt .i64 (σ 1) fun xt1 => gSlice (σ 5) fun At5 nt5 ct5 => gInt .i64 (σ 6) fun xt6 => l0 k At0 nt0 ct0 xt1 At5 nt5 ct5 xt6 w (fun Aq5 nq5 cq5 w => ∀ d : Fr, Q (.exit 0) (ov d [(5, .slice Aq5 nq5 cq5)]) w)
def l0T : Spec := fun Q σ w => ∃ k, l0Tk k Q σ w
def l0tb : List (List Nat × Spec) := []
noncomputable def l0b : Code := (subC [0, 0, 1, 0, 1, 1] body).getD .skip
theorem l0_eq (k : Nat) (At0 : Option Addr) (nt0 ct0 : Nat) (xt1 : Int) (At5 : Option Addr) (nt5 ct5 : Nat) (xt6 : Int) (Q : PQ) (σ : Fr) (w : World) : l0 (k + 1) At0 nt0 ct0 xt1 At5 nt5 ct5 xt6 w (fun Aq5 nq5 cq5 w => ∀ d : Fr, Q (.exit 0) (ov d [(5, .slice Aq5 nq5 cq5)]) w) = codeW Tryz.prog hT 29 D (tab l0tb) [0, 0, 1, 0, 1, 1] l0b (thenQ (l0Tk k Q) (widen l0LO Q)) (ov σ [(0, .slice At0 nt0 ct0), (1, .int .i64 xt1), (5, .slice At5 nt5 ct5), (6, .int .i64 xt6)]) w := by kernel_rfl
theorem l0_snd : ∀ c, subC [0, 1, 0, 1, 1] body = some c → Snd Tryz.prog 29 c l0T := by
  refine loop_of (hT := hT) (D := D) (l := l0tb) (b := l0b) (lo := l0LO) (by kernel_rfl) (by
    intro x hx
    simp only [l0tb, List.not_mem_nil] at hx
    ) (by kernel_rfl) (by kernel_rfl) ?_ ?_
  · intro Q σ w h
    unfold l0Tk at h
    obtain ⟨_, _, _, _, h⟩ := gSlice_elim h
    obtain ⟨_, _, h⟩ := gInt_elim h
    obtain ⟨_, _, _, _, h⟩ := gSlice_elim h
    obtain ⟨_, _, h⟩ := gInt_elim h
    exact h
  · intro k Q σ w h
    unfold l0Tk at h
    obtain ⟨At0, nt0, ct0, h0, h⟩ := gSlice_elim h
    obtain ⟨xt1, h1, h⟩ := gInt_elim h
    obtain ⟨At5, nt5, ct5, h5, h⟩ := gSlice_elim h
    obtain ⟨xt6, h6, h⟩ := gInt_elim h
    rw [l0_eq (σ := σ)] at h
    have e : (ov σ [(0, .slice At0 nt0 ct0), (1, .int .i64 xt1), (5, .slice At5 nt5 ct5), (6, .int .i64 xt6)]) = σ := ov_self (by simp [h0, h1, h5, h6])
    rw [e] at h
    exact h
def tb : List (List Nat × Spec) := [([0, 1, 0, 1, 1], l0T)]
variable (Aa0 : Option Addr) (na0 ca0 : Nat) (xa1 : Int) (w : World) (Q : Ending → World → Prop)
theorem wp_eq : wp Aa0 na0 ca0 xa1 w Q = codeW Tryz.prog hT 29 D (tab tb) [] body (topQ Tryz.prog hT 29 [.tmp 4] Q) (argsF [.slice Aa0 na0 ca0, .int .i64 xa1]) w := by kernel_rfl
theorem ok (h : wp Aa0 na0 ca0 xa1 w Q) : Calls Tryz.prog 115 #[.slice Aa0 na0 ca0, .int .i64 xa1] w Q := by
  rw [wp_eq] at h
  refine calls_of_codeW (c := body) (rs := [.tmp 4]) Tryz.func115 ?_ ?_ ?_ ?_ ?_ (tab_snd (by
    intro x hx
    simp only [tb, List.mem_cons, List.not_mem_nil, or_false] at hx
    subst hx
    exact l0_snd)) ?_ h <;> kernel_rfl
end f_ref05_withoutEdge
namespace f_ref05_withEdge
noncomputable def body : Code := (Tryz.f116.body).getD .skip
def j1 (At0 : Option Addr) (nt0 ct0 : Nat) (At5 : Option Addr) (nt5 ct5 : Nat) (xt7 : Int) (w : World) (Kn : (Option Addr) → Nat → Nat → World → Prop) : Prop := optB At0 fun a19 => req (decide (0 ≤ xt7 ∧ xt7 < (nt0 : Int))) <| ldI w (a19.add (xt7.toNat * 4)) .i64 fun x20 => ldI w ((a19.add (xt7.toNat * 4)).add 1) .i64 fun x21 => ldI w ((a19.add (xt7.toNat * 4)).add 2) .i64 fun x22 => ldI w ((a19.add (xt7.toNat * 4)).add 3) .i64 fun x23 => alW w (.cells #[.int .i64 x20, .int .i64 x21, .int .i64 x22, .int .i64 x23] 31) fun B24 w25 => Runs Tryz.prog (Builtin.append_ #[27, 27] 27 #[.slice At5 nt5 ct5, .slice (some ⟨B24, 0, none⟩) 1 1]) w25 fun v27 w26 => ∃ A28 n28 c28, v27 = (.slice A28 n28 c28) ∧ (Kn A28 n28 c28 w26)
def l0 : Nat → Option Addr → Nat → Nat → Addr → Option Addr → Nat → Nat → Bool → Int → World → ((Option Addr) → Nat → Nat → Bool → World → Prop) → Prop | 0, _, _, _, _, _, _, _, _, _, _, _ => False | k + 1, At0, nt0, ct0, at3, At5, nt5, ct5, bt6, xt7, w, K0 => sel (decide (xt7 < (nt0 : Int))) (drW w fun w5 => sel (!bt6) (ldI w5 at3 .i64 fun x7 => optB At0 fun a8 => req (decide (0 ≤ xt7 ∧ xt7 < (nt0 : Int))) <| ldI w5 (a8.add (xt7.toNat * 4)) .i64 fun x9 => sel (decide (x7 < x9)) (ldI w5 at3 .i64 fun x10 => ldI w5 (at3.add 1) .i64 fun x11 => ldI w5 (at3.add 2) .i64 fun x12 => ldI w5 (at3.add 3) .i64 fun x13 => alW w5 (.cells #[.int .i64 x10, .int .i64 x11, .int .i64 x12, .int .i64 x13] 31) fun B14 w15 => Runs Tryz.prog (Builtin.append_ #[27, 27] 27 #[.slice At5 nt5 ct5, .slice (some ⟨B14, 0, none⟩) 1 1]) w15 fun v17 w16 => ∃ A18 n18 c18, v17 = (.slice A18 n18 c18) ∧ (j1 At0 nt0 ct0 A18 n18 c18 xt7 w16 (fun A29 n29 c29 w30 => ∀ _ : Fr, l0 k At0 nt0 ct0 at3 A29 n29 c29 true (IntKind.i64.wrap (xt7 + 1)) w30 K0))) (j1 At0 nt0 ct0 At5 nt5 ct5 xt7 w5 (fun A31 n31 c31 w32 => ∀ _ : Fr, l0 k At0 nt0 ct0 at3 A31 n31 c31 bt6 (IntKind.i64.wrap (xt7 + 1)) w32 K0))) (j1 At0 nt0 ct0 At5 nt5 ct5 xt7 w5 (fun A33 n33 c33 w34 => ∀ _ : Fr, l0 k At0 nt0 ct0 at3 A33 n33 c33 bt6 (IntKind.i64.wrap (xt7 + 1)) w34 K0))) (K0 At5 nt5 ct5 bt6 w)
def wp (Aa0 : Option Addr) (na0 ca0 : Nat) (xa1_0 xa1_1 xa1_2 xa1_3 : Int) (w : World) (Q : Ending → World → Prop) : Prop := alW w (.cells #[.int .i64 xa1_0, .int .i64 xa1_1, .int .i64 xa1_2, .int .i64 xa1_3] 31) fun B1 w2 => alW w2 (.cells #[] 31) fun B3 w4 => ∃ k47, l0 k47 Aa0 na0 ca0 ⟨B1, 0, none⟩ (some ⟨B3, 0, none⟩) 0 0 false 0 w4 (fun A35 n35 c35 b36 w37 => ∀ _ : Fr, sel (!b36) (ldI w37 ⟨B1, 0, none⟩ .i64 fun x38 => ldI w37 (.add ⟨B1, 0, none⟩ 1) .i64 fun x39 => ldI w37 (.add ⟨B1, 0, none⟩ 2) .i64 fun x40 => ldI w37 (.add ⟨B1, 0, none⟩ 3) .i64 fun x41 => alW w37 (.cells #[.int .i64 x38, .int .i64 x39, .int .i64 x40, .int .i64 x41] 31) fun B42 w43 => Runs Tryz.prog (Builtin.append_ #[27, 27] 27 #[.slice A35 n35 c35, .slice (some ⟨B42, 0, none⟩) 1 1]) w43 fun v45 w44 => ∃ A46 n46 c46, v45 = (.slice A46 n46 c46) ∧ (Q (.returned (.slice A46 n46 c46)) w44)) (Q (.returned (.slice A35 n35 c35)) w37))
def D : Nat → Option DH := dtab [(6, .simple [.fst 0, .fst 1, .fst 2, .fst 3, .fst 4, .fst 5, .fst 6, .fst 7, .fst 8, .fst 9] [.fst 10, .fst 11])]
def j1LO : LO := ⟨[0, 3, 5, 6, 7], [], [], []⟩
def j1T : Spec := fun Q σ w => gSlice (σ 0) fun At0 nt0 ct0 => gSlice (σ 5) fun At5 nt5 ct5 => gInt .i64 (σ 7) fun xt7 => j1 At0 nt0 ct0 At5 nt5 ct5 xt7 w (fun Aq5 nq5 cq5 w => ∀ d : Fr, Q .normal (ov d [(0, .slice At0 nt0 ct0), (3, σ 3), (5, .slice Aq5 nq5 cq5), (6, σ 6), (7, .int .i64 xt7)]) w)
def j1tb : List (List Nat × Spec) := []
noncomputable def j1b : Code := (subC [1, 0, 0, 1, 0, 0, 1, 0, 1, 1, 1] body).getD .skip
theorem j1_eq (At0 : Option Addr) (nt0 ct0 : Nat) (At5 : Option Addr) (nt5 ct5 : Nat) (xt7 : Int) (Q : PQ) (σ : Fr) (w : World) : j1 At0 nt0 ct0 At5 nt5 ct5 xt7 w (fun Aq5 nq5 cq5 w => ∀ d : Fr, Q .normal (ov d [(0, .slice At0 nt0 ct0), (3, σ 3), (5, .slice Aq5 nq5 cq5), (6, σ 6), (7, .int .i64 xt7)]) w) = codeW Tryz.prog hT 45 D (tab j1tb) [1, 0, 0, 1, 0, 0, 1, 0, 1, 1, 1] j1b (widen j1LO Q) (ov σ [(0, .slice At0 nt0 ct0), (5, .slice At5 nt5 ct5), (7, .int .i64 xt7)]) w := by kernel_rfl
theorem j1_snd : ∀ c, subC [1, 0, 0, 1, 0, 0, 1, 0, 1, 1, 1] body = some c → Snd Tryz.prog 45 c j1T := by
  refine cut_of (hT := hT) (D := D) (l := j1tb) (b := j1b) (lo := j1LO) (by kernel_rfl) (by
    intro x hx
    simp only [j1tb, List.not_mem_nil] at hx
    ) (by kernel_rfl) (by kernel_rfl) ?_
  intro Q σ w h
  unfold j1T at h
  obtain ⟨At0, nt0, ct0, h0, h⟩ := gSlice_elim h
  obtain ⟨At5, nt5, ct5, h5, h⟩ := gSlice_elim h
  obtain ⟨xt7, h7, h⟩ := gInt_elim h
  rw [j1_eq (σ := σ)] at h
  have e : (ov σ [(0, .slice At0 nt0 ct0), (5, .slice At5 nt5 ct5), (7, .int .i64 xt7)]) = σ := ov_self (by simp [h0, h5, h7])
  rw [e] at h
  exact h
def l0LO : LO := ⟨[], [], [(0, [3, 5, 6])], []⟩
def l0Tk (k : Nat) : Spec := fun Q σ w => gSlice (σ 0) fun At0 nt0 ct0 => gAd (σ 3) fun at3 => gSlice (σ 5) fun At5 nt5 ct5 => gBool (σ 6) fun bt6 => gInt .i64 (σ 7) fun xt7 => l0 k At0 nt0 ct0 at3 At5 nt5 ct5 bt6 xt7 w (fun Aq5 nq5 cq5 bq6 w => ∀ d : Fr, Q (.exit 0) (ov d [(3, .pointer (some at3)), (5, .slice Aq5 nq5 cq5), (6, .bool bq6)]) w)
def l0T : Spec := fun Q σ w => ∃ k, l0Tk k Q σ w
def l0tb : List (List Nat × Spec) := [([1, 0, 0, 1, 0, 0, 1, 0, 1, 1, 1], j1T)]
noncomputable def l0b : Code := (subC [0, 0, 1, 0, 1, 1, 1] body).getD .skip
theorem l0_eq (k : Nat) (At0 : Option Addr) (nt0 ct0 : Nat) (at3 : Addr) (At5 : Option Addr) (nt5 ct5 : Nat) (bt6 : Bool) (xt7 : Int) (Q : PQ) (σ : Fr) (w : World) : l0 (k + 1) At0 nt0 ct0 at3 At5 nt5 ct5 bt6 xt7 w (fun Aq5 nq5 cq5 bq6 w => ∀ d : Fr, Q (.exit 0) (ov d [(3, .pointer (some at3)), (5, .slice Aq5 nq5 cq5), (6, .bool bq6)]) w) = codeW Tryz.prog hT 45 D (tab l0tb) [0, 0, 1, 0, 1, 1, 1] l0b (thenQ (l0Tk k Q) (widen l0LO Q)) (ov σ [(0, .slice At0 nt0 ct0), (3, .pointer (some at3)), (5, .slice At5 nt5 ct5), (6, .bool bt6), (7, .int .i64 xt7)]) w := by cases bt6 <;> kernel_rfl
theorem l0_snd : ∀ c, subC [0, 1, 0, 1, 1, 1] body = some c → Snd Tryz.prog 45 c l0T := by
  refine loop_of (hT := hT) (D := D) (l := l0tb) (b := l0b) (lo := l0LO) (by kernel_rfl) (by
    intro x hx
    simp only [l0tb, List.mem_cons, List.not_mem_nil, or_false] at hx
    subst hx
    exact j1_snd) (by kernel_rfl) (by kernel_rfl) ?_ ?_
  · intro Q σ w h
    unfold l0Tk at h
    obtain ⟨_, _, _, _, h⟩ := gSlice_elim h
    obtain ⟨_, _, h⟩ := gAd_elim h
    obtain ⟨_, _, _, _, h⟩ := gSlice_elim h
    obtain ⟨_, _, h⟩ := gBool_elim h
    obtain ⟨_, _, h⟩ := gInt_elim h
    exact h
  · intro k Q σ w h
    unfold l0Tk at h
    obtain ⟨At0, nt0, ct0, h0, h⟩ := gSlice_elim h
    obtain ⟨at3, h3, h⟩ := gAd_elim h
    obtain ⟨At5, nt5, ct5, h5, h⟩ := gSlice_elim h
    obtain ⟨bt6, h6, h⟩ := gBool_elim h
    obtain ⟨xt7, h7, h⟩ := gInt_elim h
    rw [l0_eq (σ := σ)] at h
    have e : (ov σ [(0, .slice At0 nt0 ct0), (3, .pointer (some at3)), (5, .slice At5 nt5 ct5), (6, .bool bt6), (7, .int .i64 xt7)]) = σ := ov_self (by simp [h0, h3, h5, h6, h7])
    rw [e] at h
    exact h
def tb : List (List Nat × Spec) := [([1, 0, 0, 1, 0, 0, 1, 0, 1, 1, 1], j1T), ([0, 1, 0, 1, 1, 1], l0T)]
variable (Aa0 : Option Addr) (na0 ca0 : Nat) (xa1_0 xa1_1 xa1_2 xa1_3 : Int) (w : World) (Q : Ending → World → Prop)
theorem wp_eq : wp Aa0 na0 ca0 xa1_0 xa1_1 xa1_2 xa1_3 w Q = codeW Tryz.prog hT 45 D (tab tb) [] body (topQ Tryz.prog hT 45 [.tmp 4] Q) (argsF [.slice Aa0 na0 ca0, .agg #[.int .i64 xa1_0, .int .i64 xa1_1, .int .i64 xa1_2, .int .i64 xa1_3]]) w := by kernel_rfl
theorem ok (h : wp Aa0 na0 ca0 xa1_0 xa1_1 xa1_2 xa1_3 w Q) : Calls Tryz.prog 116 #[.slice Aa0 na0 ca0, .agg #[.int .i64 xa1_0, .int .i64 xa1_1, .int .i64 xa1_2, .int .i64 xa1_3]] w Q := by
  rw [wp_eq] at h
  refine calls_of_codeW (c := body) (rs := [.tmp 4]) Tryz.func116 ?_ ?_ ?_ ?_ ?_ (tab_snd (by
    intro x hx
    simp only [tb, List.mem_cons, List.not_mem_nil, or_false] at hx
    rcases hx with rfl | rfl
    · exact j1_snd
    · exact l0_snd)) ?_ h <;> kernel_rfl
end f_ref05_withEdge
namespace f_ref05_vertex
noncomputable def body : Code := (Tryz.f99.body).getD .skip
def wp (Aa0_0 : Option Addr) (na0_0 ca0_0 : Nat) (Aa0_1 : Option Addr) (na0_1 ca0_1 : Nat) (Aa0_2 : Option Addr) (na0_2 ca0_2 : Nat) (xa1_0 xa1_1 xa1_2 xa1_3 xa1_4 : Int) (ba1_5 : Bool) (xa1_6 : Int) (sa1_7 : ByteArray) (xa1_8 xa1_9 : Int) (ra1_10 ia1_10 : Nat) (Aa1_11 : Option Addr) (na1_11 ca1_11 : Nat) (w : World) (Q : Ending → World → Prop) : Prop := alW w (.cells #[.slice Aa0_0 na0_0 ca0_0, .slice Aa0_1 na0_1 ca0_1, .slice Aa0_2 na0_2 ca0_2] 128) fun B1 w2 => alW w2 (.cells #[.int .i64 xa1_0, .int .i64 xa1_1, .int .i64 xa1_2, .int .i64 xa1_3, .int .i64 xa1_4, .bool ba1_5, .int .i64 xa1_6, .string sa1_7, .int .i64 xa1_8, .int .i64 xa1_9, .complex .f64 ra1_10 ia1_10, .slice Aa1_11 na1_11 ca1_11] 94) fun B3 w4 => alW w4 (.cells #[.slice none 0 0, .slice none 0 0, .slice none 0 0] 128) fun B5 w6 => ldI w6 (.add ⟨B3, 0, none⟩ 1) .i64 fun x7 => Calls Tryz.prog 109 #[.int .i64 x7] w6 fun e8 w9 => ∃ b10, e8 = .returned (.bool b10) ∧ (sel b10 (ldS w9 ⟨B1, 0, none⟩ fun A11 n11 c11 => ldS w9 (.add ⟨B1, 0, none⟩ 1) fun A12 n12 c12 => ldS w9 (.add ⟨B1, 0, none⟩ 2) fun A13 n13 c13 => stW w9 ⟨B5, 0, none⟩ (.slice A11 n11 c11) fun w14 => stW w14 (.add ⟨B5, 0, none⟩ 1) (.slice A12 n12 c12) fun w15 => stW w15 (.add ⟨B5, 0, none⟩ 2) (.slice A13 n13 c13) fun w16 => ldS w16 ⟨B5, 0, none⟩ fun A17 n17 c17 => ldS w16 (.add ⟨B5, 0, none⟩ 1) fun A18 n18 c18 => ldS w16 (.add ⟨B5, 0, none⟩ 2) fun A19 n19 c19 => Q (.returned (.tuple #[.agg #[.slice A17 n17 c17, .slice A18 n18 c18, .slice A19 n19 c19], .int .i64 1])) w16) (ldS w9 ⟨B1, 0, none⟩ fun A20 n20 c20 => ldS w9 (.add ⟨B1, 0, none⟩ 1) fun A21 n21 c21 => ldS w9 (.add ⟨B1, 0, none⟩ 2) fun A22 n22 c22 => ldI w9 (.add ⟨B3, 0, none⟩ 1) .i64 fun x23 => Calls Tryz.prog 110 #[.agg #[.slice A20 n20 c20, .slice A21 n21 c21, .slice A22 n22 c22], .int .i64 x23] w9 fun e24 w25 => ∃ b26, e24 = .returned (.bool b26) ∧ (ldI w25 ⟨B3, 0, none⟩ .i64 fun x27 => sel (x27 == 1) (sel b26 (ldS w25 ⟨B1, 0, none⟩ fun A28 n28 c28 => ldS w25 (.add ⟨B1, 0, none⟩ 1) fun A29 n29 c29 => ldS w25 (.add ⟨B1, 0, none⟩ 2) fun A30 n30 c30 => stW w25 ⟨B5, 0, none⟩ (.slice A28 n28 c28) fun w31 => stW w31 (.add ⟨B5, 0, none⟩ 1) (.slice A29 n29 c29) fun w32 => stW w32 (.add ⟨B5, 0, none⟩ 2) (.slice A30 n30 c30) fun w33 => ldS w33 ⟨B5, 0, none⟩ fun A34 n34 c34 => ldS w33 (.add ⟨B5, 0, none⟩ 1) fun A35 n35 c35 => ldS w33 (.add ⟨B5, 0, none⟩ 2) fun A36 n36 c36 => Q (.returned (.tuple #[.agg #[.slice A34 n34 c34, .slice A35 n35 c35, .slice A36 n36 c36], .int .i64 50])) w33) (ldS w25 ⟨B1, 0, none⟩ fun A37 n37 c37 => sel (decide ((n37 : Int) ≥ 2048)) (ldS w25 ⟨B1, 0, none⟩ fun A38 n38 c38 => ldS w25 (.add ⟨B1, 0, none⟩ 1) fun A39 n39 c39 => ldS w25 (.add ⟨B1, 0, none⟩ 2) fun A40 n40 c40 => stW w25 ⟨B5, 0, none⟩ (.slice A38 n38 c38) fun w41 => stW w41 (.add ⟨B5, 0, none⟩ 1) (.slice A39 n39 c39) fun w42 => stW w42 (.add ⟨B5, 0, none⟩ 2) (.slice A40 n40 c40) fun w43 => ldS w43 ⟨B5, 0, none⟩ fun A44 n44 c44 => ldS w43 (.add ⟨B5, 0, none⟩ 1) fun A45 n45 c45 => ldS w43 (.add ⟨B5, 0, none⟩ 2) fun A46 n46 c46 => Q (.returned (.tuple #[.agg #[.slice A44 n44 c44, .slice A45 n45 c45, .slice A46 n46 c46], .int .i64 55])) w43) (ldS w25 ⟨B1, 0, none⟩ fun A47 n47 c47 => ldI w25 (.add ⟨B3, 0, none⟩ 1) .i64 fun x48 => Calls Tryz.prog 22 #[.slice A47 n47 c47, .int .i64 x48] w25 fun e49 w50 => ∃ A51 n51 c51, e49 = .returned (.slice A51 n51 c51) ∧ (stW w50 ⟨B1, 0, none⟩ (.slice A51 n51 c51) fun w52 => ldS w52 ⟨B1, 0, none⟩ fun A53 n53 c53 => ldS w52 (.add ⟨B1, 0, none⟩ 1) fun A54 n54 c54 => ldS w52 (.add ⟨B1, 0, none⟩ 2) fun A55 n55 c55 => stW w52 ⟨B5, 0, none⟩ (.slice A53 n53 c53) fun w56 => stW w56 (.add ⟨B5, 0, none⟩ 1) (.slice A54 n54 c54) fun w57 => stW w57 (.add ⟨B5, 0, none⟩ 2) (.slice A55 n55 c55) fun w58 => ldS w58 ⟨B5, 0, none⟩ fun A59 n59 c59 => ldS w58 (.add ⟨B5, 0, none⟩ 1) fun A60 n60 c60 => ldS w58 (.add ⟨B5, 0, none⟩ 2) fun A61 n61 c61 => Q (.returned (.tuple #[.agg #[.slice A59 n59 c59, .slice A60 n60 c60, .slice A61 n61 c61], .int .i64 0])) w58)))) (sel (!b26) (ldS w25 ⟨B1, 0, none⟩ fun A62 n62 c62 => ldS w25 (.add ⟨B1, 0, none⟩ 1) fun A63 n63 c63 => ldS w25 (.add ⟨B1, 0, none⟩ 2) fun A64 n64 c64 => stW w25 ⟨B5, 0, none⟩ (.slice A62 n62 c62) fun w65 => stW w65 (.add ⟨B5, 0, none⟩ 1) (.slice A63 n63 c63) fun w66 => stW w66 (.add ⟨B5, 0, none⟩ 2) (.slice A64 n64 c64) fun w67 => ldS w67 ⟨B5, 0, none⟩ fun A68 n68 c68 => ldS w67 (.add ⟨B5, 0, none⟩ 1) fun A69 n69 c69 => ldS w67 (.add ⟨B5, 0, none⟩ 2) fun A70 n70 c70 => Q (.returned (.tuple #[.agg #[.slice A68 n68 c68, .slice A69 n69 c69, .slice A70 n70 c70], .int .i64 51])) w67) (ldS w25 ⟨B1, 0, none⟩ fun A71 n71 c71 => ldS w25 (.add ⟨B1, 0, none⟩ 1) fun A72 n72 c72 => ldS w25 (.add ⟨B1, 0, none⟩ 2) fun A73 n73 c73 => ldI w25 (.add ⟨B3, 0, none⟩ 1) .i64 fun x74 => Calls Tryz.prog 111 #[.agg #[.slice A71 n71 c71, .slice A72 n72 c72, .slice A73 n73 c73], .int .i64 x74] w25 fun e75 w76 => ∃ b77, e75 = .returned (.bool b77) ∧ (sel b77 (ldS w76 ⟨B1, 0, none⟩ fun A78 n78 c78 => ldS w76 (.add ⟨B1, 0, none⟩ 1) fun A79 n79 c79 => ldS w76 (.add ⟨B1, 0, none⟩ 2) fun A80 n80 c80 => stW w76 ⟨B5, 0, none⟩ (.slice A78 n78 c78) fun w81 => stW w81 (.add ⟨B5, 0, none⟩ 1) (.slice A79 n79 c79) fun w82 => stW w82 (.add ⟨B5, 0, none⟩ 2) (.slice A80 n80 c80) fun w83 => ldS w83 ⟨B5, 0, none⟩ fun A84 n84 c84 => ldS w83 (.add ⟨B5, 0, none⟩ 1) fun A85 n85 c85 => ldS w83 (.add ⟨B5, 0, none⟩ 2) fun A86 n86 c86 => Q (.returned (.tuple #[.agg #[.slice A84 n84 c84, .slice A85 n85 c85, .slice A86 n86 c86], .int .i64 52])) w83) (ldS w76 ⟨B1, 0, none⟩ fun A87 n87 c87 => ldI w76 (.add ⟨B3, 0, none⟩ 1) .i64 fun x88 => Calls Tryz.prog 112 #[.slice A87 n87 c87, .int .i64 x88] w76 fun e89 w90 => ∃ A91 n91 c91, e89 = .returned (.slice A91 n91 c91) ∧ (stW w90 ⟨B1, 0, none⟩ (.slice A91 n91 c91) fun w92 => ldS w92 (.add ⟨B1, 0, none⟩ 2) fun A93 n93 c93 => ldI w92 (.add ⟨B3, 0, none⟩ 1) .i64 fun x94 => Calls Tryz.prog 113 #[.slice A93 n93 c93, .agg #[.bool false, .int .i64 x94]] w92 fun e95 w96 => ∃ A97 n97 c97, e95 = .returned (.slice A97 n97 c97) ∧ (stW w96 (.add ⟨B1, 0, none⟩ 2) (.slice A97 n97 c97) fun w98 => ldS w98 ⟨B1, 0, none⟩ fun A99 n99 c99 => ldS w98 (.add ⟨B1, 0, none⟩ 1) fun A100 n100 c100 => ldS w98 (.add ⟨B1, 0, none⟩ 2) fun A101 n101 c101 => stW w98 ⟨B5, 0, none⟩ (.slice A99 n99 c99) fun w102 => stW w102 (.add ⟨B5, 0, none⟩ 1) (.slice A100 n100 c100) fun w103 => stW w103 (.add ⟨B5, 0, none⟩ 2) (.slice A101 n101 c101) fun w104 => ldS w104 ⟨B5, 0, none⟩ fun A105 n105 c105 => ldS w104 (.add ⟨B5, 0, none⟩ 1) fun A106 n106 c106 => ldS w104 (.add ⟨B5, 0, none⟩ 2) fun A107 n107 c107 => Q (.returned (.tuple #[.agg #[.slice A105 n105 c105, .slice A106 n106 c106, .slice A107 n107 c107], .int .i64 0])) w104)))))))))
def D : Nat → Option DH := dtab []
def tb : List (List Nat × Spec) := []
variable (Aa0_0 : Option Addr) (na0_0 ca0_0 : Nat) (Aa0_1 : Option Addr) (na0_1 ca0_1 : Nat) (Aa0_2 : Option Addr) (na0_2 ca0_2 : Nat) (xa1_0 xa1_1 xa1_2 xa1_3 xa1_4 : Int) (ba1_5 : Bool) (xa1_6 : Int) (sa1_7 : ByteArray) (xa1_8 xa1_9 : Int) (ra1_10 ia1_10 : Nat) (Aa1_11 : Option Addr) (na1_11 ca1_11 : Nat) (w : World) (Q : Ending → World → Prop)
theorem wp_eq : wp Aa0_0 na0_0 ca0_0 Aa0_1 na0_1 ca0_1 Aa0_2 na0_2 ca0_2 xa1_0 xa1_1 xa1_2 xa1_3 xa1_4 ba1_5 xa1_6 sa1_7 xa1_8 xa1_9 ra1_10 ia1_10 Aa1_11 na1_11 ca1_11 w Q = codeW Tryz.prog hT 54 D (tab tb) [] body (topQ Tryz.prog hT 54 [.cell 4 128, .tmp 5] Q) (argsF [.agg #[.slice Aa0_0 na0_0 ca0_0, .slice Aa0_1 na0_1 ca0_1, .slice Aa0_2 na0_2 ca0_2], .agg #[.int .i64 xa1_0, .int .i64 xa1_1, .int .i64 xa1_2, .int .i64 xa1_3, .int .i64 xa1_4, .bool ba1_5, .int .i64 xa1_6, .string sa1_7, .int .i64 xa1_8, .int .i64 xa1_9, .complex .f64 ra1_10 ia1_10, .slice Aa1_11 na1_11 ca1_11]]) w := by cases ba1_5 <;> kernel_rfl
theorem ok (h : wp Aa0_0 na0_0 ca0_0 Aa0_1 na0_1 ca0_1 Aa0_2 na0_2 ca0_2 xa1_0 xa1_1 xa1_2 xa1_3 xa1_4 ba1_5 xa1_6 sa1_7 xa1_8 xa1_9 ra1_10 ia1_10 Aa1_11 na1_11 ca1_11 w Q) : Calls Tryz.prog 99 #[.agg #[.slice Aa0_0 na0_0 ca0_0, .slice Aa0_1 na0_1 ca0_1, .slice Aa0_2 na0_2 ca0_2], .agg #[.int .i64 xa1_0, .int .i64 xa1_1, .int .i64 xa1_2, .int .i64 xa1_3, .int .i64 xa1_4, .bool ba1_5, .int .i64 xa1_6, .string sa1_7, .int .i64 xa1_8, .int .i64 xa1_9, .complex .f64 ra1_10 ia1_10, .slice Aa1_11 na1_11 ca1_11]] w Q := by
  rw [wp_eq] at h
  refine calls_of_codeW (c := body) (rs := [.cell 4 128, .tmp 5]) Tryz.func99 ?_ ?_ ?_ ?_ ?_ (tab_snd (by
    intro x hx
    simp only [tb, List.not_mem_nil] at hx
    )) ?_ h <;> kernel_rfl
end f_ref05_vertex
namespace f_hdt_New
noncomputable def body : Code := (Tryz.f8.body).getD .skip
def wp (Aa0 : Option Addr) (na0 ca0 : Nat) (w : World) (Q : Ending → World → Prop) : Prop := Calls Tryz.prog 31 #[.slice Aa0 na0 ca0] w fun e1 w2 => ∃ A3 n3 c3, e1 = .returned (.slice A3 n3 c3) ∧ (alW w2 (.map #[] 0) fun B4 w5 => alW w5 (.map #[] 0) fun B6 w7 => alW w7 (.cells #[.slice A3 n3 c3, .slice none 0 0, .map (some B4), .map (some B6)] 68) fun B8 w9 => Calls Tryz.prog 32 #[.pointer (some ⟨B8, 0, none⟩), .int .i64 0] w9 fun e10 w11 => ∃ p12, e10 = .returned (.pointer p12) ∧ (Q (.returned (.pointer (some ⟨B8, 0, none⟩))) w11))
def D : Nat → Option DH := dtab []
def tb : List (List Nat × Spec) := []
variable (Aa0 : Option Addr) (na0 ca0 : Nat) (w : World) (Q : Ending → World → Prop)
theorem wp_eq : wp Aa0 na0 ca0 w Q = codeW Tryz.prog hT 13 D (tab tb) [] body (topQ Tryz.prog hT 13 [.tmp 2] Q) (argsF [.slice Aa0 na0 ca0]) w := by kernel_rfl
theorem ok (h : wp Aa0 na0 ca0 w Q) : Calls Tryz.prog 8 #[.slice Aa0 na0 ca0] w Q := by
  rw [wp_eq] at h
  refine calls_of_codeW (c := body) (rs := [.tmp 2]) Tryz.func8 ?_ ?_ ?_ ?_ ?_ (tab_snd (by
    intro x hx
    simp only [tb, List.not_mem_nil] at hx
    )) ?_ h <;> kernel_rfl
end f_hdt_New
namespace f_hdt_Graph_Len
noncomputable def body : Code := (Tryz.f11.body).getD .skip
def wp (aa0 : Addr) (w : World) (Q : Ending → World → Prop) : Prop := drW w fun w1 => ∃ S2 : World → Prop, S2 w1 ∧ (hdM S2 (aa0.add 2) fun m3 => hdM S2 (aa0.add 3) fun m4 => Runs Tryz.prog (Builtin.len_ #[64] 3 #[.map m3]) w1 fun v6 w5 => ∃ x7, v6 = (.int .i64 x7) ∧ (S2 w5 ∧ (Runs Tryz.prog (Builtin.len_ #[65] 3 #[.map m4]) w5 fun v9 w8 => ∃ x10, v9 = (.int .i64 x10) ∧ (Q (.returned (.tuple #[.int .i64 x7, .int .i64 x10])) w8))))
def D : Nat → Option DH := dtab [(1, .held [.fst 0, .fst 1, .fst 2, .fst 3, .fst 5, .fst 6, .fst 7, .fst 8, .eff 4] [.eff 9, .fst 10, .fst 11])]
def tb : List (List Nat × Spec) := []
variable (aa0 : Addr) (w : World) (Q : Ending → World → Prop)
theorem wp_eq : wp aa0 w Q = codeW Tryz.prog hT 14 D (tab tb) [] body (topQ Tryz.prog hT 14 [.tmp 2, .tmp 3] Q) (argsF [.pointer (some aa0)]) w := by kernel_rfl
theorem ok (h : wp aa0 w Q) : Calls Tryz.prog 11 #[.pointer (some aa0)] w Q := by
  rw [wp_eq] at h
  refine calls_of_codeW (c := body) (rs := [.tmp 2, .tmp 3]) Tryz.func11 ?_ ?_ ?_ ?_ ?_ (tab_snd (by
    intro x hx
    simp only [tb, List.not_mem_nil] at hx
    )) ?_ h <;> kernel_rfl
end f_hdt_Graph_Len
namespace f_hdt_Graph_Trees
noncomputable def body : Code := (Tryz.f12.body).getD .skip
def l0 : Nat → Int → Option Addr → World → (Int → World → Prop) → Prop | 0, _, _, _, _ => False | k + 1, xt3, pt15, w, K0 => Runs Tryz.prog (Instr.next (.pointer pt15) false 0) w fun v10 w9 => ∃ b11 r11, v10 = (.tuple ⟨.bool b11 :: r11⟩) ∧ (sel b11 (Runs Tryz.prog (Instr.entry (.pointer pt15)) w9 fun v13 w12 => ∃ x14_0 p14_1, v13 = (.tuple #[.int .i64 x14_0, .pointer p14_1]) ∧ (optB p14_1 fun a15 => ldB w12 (a15.add 3) fun b16 => sel b16 (l0 k (IntKind.i64.wrap (xt3 - 1)) pt15 w12 K0) (l0 k xt3 pt15 w12 K0))) (K0 xt3 w9))
def wp (aa0 : Addr) (w : World) (Q : Ending → World → Prop) : Prop := ldM w (aa0.add 2) fun m1 => Runs Tryz.prog (Builtin.len_ #[64] 3 #[.map m1]) w fun v3 w2 => ∃ x4, v3 = (.int .i64 x4) ∧ (ldM w2 (aa0.add 3) fun m5 => Runs Tryz.prog (Instr.range 65 (.map m5)) w2 fun v7 w6 => ∃ p8, v7 = (.pointer p8) ∧ (∃ k19, l0 k19 x4 p8 w6 (fun x17 w18 => ∀ _ : Fr, Q (.returned (.int .i64 x17)) w18)))
def D : Nat → Option DH := dtab []
def hTe : Hint := fun t => bif Nat.beq t 1000018 then .tup [(.sc (.int .i64)), (.sc .ptr)] else hT t
def l0LO : LO := ⟨[], [], [(0, [3])], []⟩
def l0Tk (k : Nat) : Spec := fun Q σ w => gInt .i64 (σ 3) fun xt3 => gPtr (σ 15) fun pt15 => l0 k xt3 pt15 w (fun xq3 w => ∀ d : Fr, Q (.exit 0) (ov d [(3, .int .i64 xq3)]) w)
def l0T : Spec := fun Q σ w => ∃ k, l0Tk k Q σ w
def l0tb : List (List Nat × Spec) := []
noncomputable def l0b : Code := (subC [0, 0, 1, 0, 1, 1] body).getD .skip
theorem l0_eq (k : Nat) (xt3 : Int) (pt15 : Option Addr) (Q : PQ) (σ : Fr) (w : World) : l0 (k + 1) xt3 pt15 w (fun xq3 w => ∀ d : Fr, Q (.exit 0) (ov d [(3, .int .i64 xq3)]) w) = codeW Tryz.prog hTe 27 D (tab l0tb) [0, 0, 1, 0, 1, 1] l0b (thenQ (l0Tk k Q) (widen l0LO Q)) (ov σ [(3, .int .i64 xt3), (15, .pointer pt15)]) w := by kernel_rfl
theorem l0_snd : ∀ c, subC [0, 1, 0, 1, 1] body = some c → Snd Tryz.prog 27 c l0T := by
  refine loop_of (hT := hTe) (D := D) (l := l0tb) (b := l0b) (lo := l0LO) (by kernel_rfl) (by
    intro x hx
    simp only [l0tb, List.not_mem_nil] at hx
    ) (by kernel_rfl) (by kernel_rfl) ?_ ?_
  · intro Q σ w h
    unfold l0Tk at h
    obtain ⟨_, _, h⟩ := gInt_elim h
    obtain ⟨_, _, h⟩ := gPtr_elim h
    exact h
  · intro k Q σ w h
    unfold l0Tk at h
    obtain ⟨xt3, h3, h⟩ := gInt_elim h
    obtain ⟨pt15, h15, h⟩ := gPtr_elim h
    rw [l0_eq (σ := σ)] at h
    have e : (ov σ [(3, .int .i64 xt3), (15, .pointer pt15)]) = σ := ov_self (by simp [h3, h15])
    rw [e] at h
    exact h
def tb : List (List Nat × Spec) := [([0, 1, 0, 1, 1], l0T)]
variable (aa0 : Addr) (w : World) (Q : Ending → World → Prop)
theorem wp_eq : wp aa0 w Q = codeW Tryz.prog hTe 27 D (tab tb) [] body (topQ Tryz.prog hTe 27 [.tmp 2] Q) (argsF [.pointer (some aa0)]) w := by kernel_rfl
theorem ok (h : wp aa0 w Q) : Calls Tryz.prog 12 #[.pointer (some aa0)] w Q := by
  rw [wp_eq] at h
  refine calls_of_codeW (c := body) (rs := [.tmp 2]) Tryz.func12 ?_ ?_ ?_ ?_ ?_ (tab_snd (by
    intro x hx
    simp only [tb, List.mem_cons, List.not_mem_nil, or_false] at hx
    subst hx
    exact l0_snd)) ?_ h <;> kernel_rfl
end f_hdt_Graph_Trees
namespace f_hdt_Graph_Joined
noncomputable def body : Code := (Tryz.f16.body).getD .skip
def wp (aa0 : Addr) (xa1 xa2 : Int) (w : World) (Q : Ending → World → Prop) : Prop := Calls Tryz.prog 32 #[.pointer (some aa0), .int .i64 0] w fun e1 w2 => ∃ p3, e1 = .returned (.pointer p3) ∧ (optB p3 fun a4 => ldP w2 a4 fun p5 => Calls Tryz.prog 37 #[.pointer p5, .int .i64 xa1, .int .i64 xa2] w2 fun e6 w7 => ∃ b8_0 x8_1, e6 = .returned (.tuple #[.bool b8_0, .int .i64 x8_1]) ∧ (Q (.returned (.tuple #[.bool b8_0, .int .i64 x8_1])) w7))
def D : Nat → Option DH := dtab []
def tb : List (List Nat × Spec) := []
variable (aa0 : Addr) (xa1 xa2 : Int) (w : World) (Q : Ending → World → Prop)
theorem wp_eq : wp aa0 xa1 xa2 w Q = codeW Tryz.prog hT 18 D (tab tb) [] body (topQ Tryz.prog hT 18 [.tmp 6, .tmp 7] Q) (argsF [.pointer (some aa0), .int .i64 xa1, .int .i64 xa2]) w := by kernel_rfl
theorem ok (h : wp aa0 xa1 xa2 w Q) : Calls Tryz.prog 16 #[.pointer (some aa0), .int .i64 xa1, .int .i64 xa2] w Q := by
  rw [wp_eq] at h
  refine calls_of_codeW (c := body) (rs := [.tmp 6, .tmp 7]) Tryz.func16 ?_ ?_ ?_ ?_ ?_ (tab_snd (by
    intro x hx
    simp only [tb, List.not_mem_nil] at hx
    )) ?_ h <;> kernel_rfl
end f_hdt_Graph_Joined
namespace f_hdt_Graph_Verts
noncomputable def body : Code := (Tryz.f17.body).getD .skip
def wp (aa0 : Addr) (xa1 : Int) (w : World) (Q : Ending → World → Prop) : Prop := Calls Tryz.prog 32 #[.pointer (some aa0), .int .i64 0] w fun e1 w2 => ∃ p3, e1 = .returned (.pointer p3) ∧ (optB p3 fun a4 => ldP w2 a4 fun p5 => Calls Tryz.prog 38 #[.pointer p5, .int .i64 xa1] w2 fun e6 w7 => ∃ A8_0 n8_0 c8_0 x8_1, e6 = .returned (.tuple #[.slice A8_0 n8_0 c8_0, .int .i64 x8_1]) ∧ (Q (.returned (.tuple #[.slice A8_0 n8_0 c8_0, .int .i64 x8_1])) w7))
def D : Nat → Option DH := dtab []
def tb : List (List Nat × Spec) := []
variable (aa0 : Addr) (xa1 : Int) (w : World) (Q : Ending → World → Prop)
theorem wp_eq : wp aa0 xa1 w Q = codeW Tryz.prog hT 15 D (tab tb) [] body (topQ Tryz.prog hT 15 [.tmp 4, .tmp 5] Q) (argsF [.pointer (some aa0), .int .i64 xa1]) w := by kernel_rfl
theorem ok (h : wp aa0 xa1 w Q) : Calls Tryz.prog 17 #[.pointer (some aa0), .int .i64 xa1] w Q := by
  rw [wp_eq] at h
  refine calls_of_codeW (c := body) (rs := [.tmp 4, .tmp 5]) Tryz.func17 ?_ ?_ ?_ ?_ ?_ (tab_snd (by
    intro x hx
    simp only [tb, List.not_mem_nil] at hx
    )) ?_ h <;> kernel_rfl
end f_hdt_Graph_Verts
namespace f_hdt_Graph_AddE
noncomputable def body : Code := (Tryz.f18.body).getD .skip
def j0 (at0 : Addr) (xt1 xt2 xt3 : Int) (at9 : Addr) (w : World) (Kr : Int → World → Prop) : Prop := sel (xt2 == xt3) (Kr 0 w) (Calls Tryz.prog 32 #[.pointer (some at0), .int .i64 0] w fun e34 w35 => ∃ p36, e34 = .returned (.pointer p36) ∧ (optB p36 fun a37 => ldP w35 a37 fun p38 => Calls Tryz.prog 41 #[.pointer p38, .int .i64 xt1, .int .i64 xt2, .int .i64 xt3] w35 fun e39 w40 => ∃ x41, e39 = .returned (.int .i64 x41) ∧ (sel (x41 == 0) (stW w40 (at9.add 3) (.bool true) fun w42 => optB p36 fun a43 => ldP w42 a43 fun p44 => Calls Tryz.prog 42 #[.pointer p44, .int .i64 xt1, .bool true] w42 fun e45 w46 => ∃ x47, e45 = .returned (.int .i64 x47) ∧ (Kr 0 w46)) (Calls Tryz.prog 43 #[.pointer p36, .int .i64 xt1, .pointer (some at9), .bool true] w40 fun e48 w49 => e48 = .returned (.tuple #[]) ∧ (Kr 0 w49)))))
def wp (aa0 : Addr) (xa1 xa2 xa3 : Int) (w : World) (Q : Ending → World → Prop) : Prop := alW w (.cells #[.int .i64 xa1, .int .i64 xa2, .int .i64 xa3] 3) fun B1 w2 => Calls Tryz.prog 39 #[.slice (some ⟨B1, 0, none⟩) 3 3] w2 fun e3 w4 => ∃ b5, e3 = .returned (.bool b5) ∧ (sel b5 (Q (.returned (.int .i64 1)) w4) (ldM w4 (aa0.add 3) fun m6 => Runs Tryz.prog (Instr.lookup 65 (.map m6) (.int .i64 xa1) false) w4 fun v8 w7 => ∃ p9, v8 = (.pointer p9) ∧ (sel (!p9.isNone) (Q (.returned (.int .i64 50)) w7) (Calls Tryz.prog 40 #[.pointer (some aa0), .int .i64 xa2] w7 fun e10 w11 => ∃ b12, e10 = .returned (.bool b12) ∧ (sel (!b12) (Q (.returned (.int .i64 51)) w11) (Calls Tryz.prog 40 #[.pointer (some aa0), .int .i64 xa3] w11 fun e13 w14 => ∃ b15, e13 = .returned (.bool b15) ∧ (sel (!b15) (Q (.returned (.int .i64 51)) w14) (ldM w14 (aa0.add 3) fun m16 => Runs Tryz.prog (Builtin.len_ #[65] 3 #[.map m16]) w14 fun v18 w17 => ∃ x19, v18 = (.int .i64 x19) ∧ (sel (decide (x19 ≥ 2048)) (Q (.returned (.int .i64 55)) w17) (alW w17 (.cells #[.int .i64 xa2, .int .i64 xa3, .int .i64 0, .bool false] 73) fun B20 w21 => ldM w21 (aa0.add 3) fun m22 => Runs Tryz.prog (Instr.mapUpdate 65 (.map m22) (.int .i64 xa1) (.pointer (some ⟨B20, 0, none⟩))) w21 fun _ w23 => ldM w23 (aa0.add 2) fun m24 => Runs Tryz.prog (Instr.lookup 64 (.map m24) (.int .i64 xa2) false) w23 fun v26 w25 => ∃ x27, v26 = (.int .i64 x27) ∧ (Runs Tryz.prog (Instr.mapUpdate 64 (.map m24) (.int .i64 xa2) (.int .i64 (IntKind.i64.wrap (x27 + 1)))) w25 fun _ w28 => ldM w28 (aa0.add 2) fun m29 => Runs Tryz.prog (Instr.lookup 64 (.map m29) (.int .i64 xa3) false) w28 fun v31 w30 => ∃ x32, v31 = (.int .i64 x32) ∧ (Runs Tryz.prog (Instr.mapUpdate 64 (.map m29) (.int .i64 xa3) (.int .i64 (IntKind.i64.wrap (x32 + 1)))) w30 fun _ w33 => j0 aa0 xa1 xa2 xa3 ⟨B20, 0, none⟩ w33 (fun x50 w51 => ∀ _ : Fr, Q (.returned (.int .i64 x50)) w51)))))))))))))
def D : Nat → Option DH := dtab []
def j0LO : LO := ⟨[], [8], [], []⟩
def j0T : Spec := fun Q σ w => gAd (σ 0) fun at0 => gInt .i64 (σ 1) fun xt1 => gInt .i64 (σ 2) fun xt2 => gInt .i64 (σ 3) fun xt3 => gAd (σ 9) fun at9 => j0 at0 xt1 xt2 xt3 at9 w (fun xq8 w => ∀ d : Fr, Q .ret (ov d [(8, .int .i64 xq8)]) w)
def j0tb : List (List Nat × Spec) := []
noncomputable def j0b : Code := (subC [1, 1, 1, 1, 1, 1] body).getD .skip
theorem j0_eq (at0 : Addr) (xt1 xt2 xt3 : Int) (at9 : Addr) (Q : PQ) (σ : Fr) (w : World) : j0 at0 xt1 xt2 xt3 at9 w (fun xq8 w => ∀ d : Fr, Q .ret (ov d [(8, .int .i64 xq8)]) w) = codeW Tryz.prog hT 94 D (tab j0tb) [1, 1, 1, 1, 1, 1] j0b (widen j0LO Q) (ov σ [(0, .pointer (some at0)), (1, .int .i64 xt1), (2, .int .i64 xt2), (3, .int .i64 xt3), (9, .pointer (some at9))]) w := by kernel_rfl
theorem j0_snd : ∀ c, subC [1, 1, 1, 1, 1, 1] body = some c → Snd Tryz.prog 94 c j0T := by
  refine cut_of (hT := hT) (D := D) (l := j0tb) (b := j0b) (lo := j0LO) (by kernel_rfl) (by
    intro x hx
    simp only [j0tb, List.not_mem_nil] at hx
    ) (by kernel_rfl) (by kernel_rfl) ?_
  intro Q σ w h
  unfold j0T at h
  obtain ⟨at0, h0, h⟩ := gAd_elim h
  obtain ⟨xt1, h1, h⟩ := gInt_elim h
  obtain ⟨xt2, h2, h⟩ := gInt_elim h
  obtain ⟨xt3, h3, h⟩ := gInt_elim h
  obtain ⟨at9, h9, h⟩ := gAd_elim h
  rw [j0_eq (σ := σ)] at h
  have e : (ov σ [(0, .pointer (some at0)), (1, .int .i64 xt1), (2, .int .i64 xt2), (3, .int .i64 xt3), (9, .pointer (some at9))]) = σ := ov_self (by simp [h0, h1, h2, h3, h9])
  rw [e] at h
  exact h
def tb : List (List Nat × Spec) := [([1, 1, 1, 1, 1, 1], j0T)]
variable (aa0 : Addr) (xa1 xa2 xa3 : Int) (w : World) (Q : Ending → World → Prop)
theorem wp_eq : wp aa0 xa1 xa2 xa3 w Q = codeW Tryz.prog hT 94 D (tab tb) [] body (topQ Tryz.prog hT 94 [.tmp 8] Q) (argsF [.pointer (some aa0), .int .i64 xa1, .int .i64 xa2, .int .i64 xa3]) w := by kernel_rfl
theorem ok (h : wp aa0 xa1 xa2 xa3 w Q) : Calls Tryz.prog 18 #[.pointer (some aa0), .int .i64 xa1, .int .i64 xa2, .int .i64 xa3] w Q := by
  rw [wp_eq] at h
  refine calls_of_codeW (c := body) (rs := [.tmp 8]) Tryz.func18 ?_ ?_ ?_ ?_ ?_ (tab_snd (by
    intro x hx
    simp only [tb, List.mem_cons, List.not_mem_nil, or_false] at hx
    subst hx
    exact j0_snd)) ?_ h <;> kernel_rfl
end f_hdt_Graph_AddE
namespace f_hdt_Graph_DelE
noncomputable def body : Code := (Tryz.f23.body).getD .skip
def l1 : Nat → Addr → Int → Int → World → (World → Prop) → Prop | 0, _, _, _, _, _ => False | k + 1, at0, xt1, xt6, w, K2 => sel (decide (xt6 ≥ 0)) (Calls Tryz.prog 32 #[.pointer (some at0), .int .i64 xt6] w fun e48 w49 => ∃ p50, e48 = .returned (.pointer p50) ∧ (optB p50 fun a51 => ldP w49 a51 fun p52 => Calls Tryz.prog 44 #[.pointer p52, .int .i64 xt1] w49 fun e53 w54 => ∃ x55, e53 = .returned (.int .i64 x55) ∧ (l1 k at0 xt1 (IntKind.i64.wrap (xt6 - 1)) w54 K2))) (K2 w)
def j0 (at0 : Addr) (xt1 xt6 : Int) (w : World) (Kn : World → Prop) : Prop := ∃ k57, l1 k57 at0 xt1 xt6 w (fun w56 => ∀ _ : Fr, Kn w56)
def l2 : Nat → Addr → Option Addr → Int → World → (World → Prop) → Prop | 0, _, _, _, _, _ => False | k + 1, at0, pt5, xt7, w, K4 => drW w fun w61 => sel (decide (xt7 ≥ 0)) (optB pt5 fun a63 => ldI w61 a63 .i64 fun x64 => optB pt5 fun a65 => ldI w61 (a65.add 1) .i64 fun x66 => Calls Tryz.prog 45 #[.pointer (some at0), .int .i64 x64, .int .i64 x66, .int .i64 xt7] w61 fun e67 w68 => ∃ b69, e67 = .returned (.bool b69) ∧ (sel (!b69) (l2 k at0 pt5 (IntKind.i64.wrap (xt7 - 1)) w68 K4) (K4 w68))) (K4 w61)
def wp (aa0 : Addr) (xa1 : Int) (w : World) (Q : Ending → World → Prop) : Prop := ldM w (aa0.add 3) fun m1 => Runs Tryz.prog (Instr.lookup 65 (.map m1) (.int .i64 xa1) false) w fun v3 w2 => ∃ p4, v3 = (.pointer p4) ∧ (alW w2 (.cells #[.int .i64 xa1] 3) fun B5 w6 => Calls Tryz.prog 39 #[.slice (some ⟨B5, 0, none⟩) 1 1] w6 fun e7 w8 => ∃ b9, e7 = .returned (.bool b9) ∧ (sel b9 (Q (.returned (.int .i64 1)) w8) (sel p4.isNone (Q (.returned (.int .i64 152)) w8) (ldM w8 (aa0.add 3) fun m10 => Runs Tryz.prog (Builtin.delete_ #[65, 3] 0 #[.map m10, .int .i64 xa1]) w8 fun v12 w11 => v12 = (.tuple #[]) ∧ (drW w11 fun w13 => ldM w13 (aa0.add 2) fun m15 => optB p4 fun a16 => ldI w13 a16 .i64 fun x17 => Runs Tryz.prog (Instr.lookup 64 (.map m15) (.int .i64 x17) false) w13 fun v19 w18 => ∃ x20, v19 = (.int .i64 x20) ∧ (Runs Tryz.prog (Instr.mapUpdate 64 (.map m15) (.int .i64 x17) (.int .i64 (IntKind.i64.wrap (x20 - 1)))) w18 fun _ w21 => drW w21 fun w22 => ldM w22 (aa0.add 2) fun m24 => optB p4 fun a25 => ldI w22 (a25.add 1) .i64 fun x26 => Runs Tryz.prog (Instr.lookup 64 (.map m24) (.int .i64 x26) false) w22 fun v28 w27 => ∃ x29, v28 = (.int .i64 x29) ∧ (Runs Tryz.prog (Instr.mapUpdate 64 (.map m24) (.int .i64 x26) (.int .i64 (IntKind.i64.wrap (x29 - 1)))) w27 fun _ w30 => drW w30 fun w31 => optB p4 fun a33 => ldI w31 a33 .i64 fun x34 => optB p4 fun a35 => ldI w31 (a35.add 1) .i64 fun x36 => sel (x34 == x36) (Q (.returned (.int .i64 0)) w31) (optB p4 fun a37 => ldB w31 (a37.add 3) fun b38 => sel (!b38) (optB p4 fun a39 => ldI w31 (a39.add 2) .i64 fun x40 => Calls Tryz.prog 32 #[.pointer (some aa0), .int .i64 x40] w31 fun e41 w42 => ∃ p43, e41 = .returned (.pointer p43) ∧ (Calls Tryz.prog 43 #[.pointer p43, .int .i64 xa1, .pointer p4, .bool false] w42 fun e44 w45 => e44 = .returned (.tuple #[]) ∧ (Q (.returned (.int .i64 0)) w45))) (optB p4 fun a46 => ldI w31 (a46.add 2) .i64 fun x47 => j0 aa0 xa1 x47 w31 (fun w58 => ∀ _ : Fr, optB p4 fun a59 => ldI w58 (a59.add 2) .i64 fun x60 => ∃ k71, l2 k71 aa0 p4 x60 w58 (fun w70 => ∀ _ : Fr, Q (.returned (.int .i64 0)) w70)))))))))))
def D : Nat → Option DH := dtab [(7, .simple [.fst 0, .fst 1, .fst 2, .fst 3, .fst 4, .fst 5, .fst 6, .fst 7] [.eff 8, .fst 9, .eff 10]), (8, .simple [.fst 0, .fst 1, .fst 2, .fst 3, .fst 4, .fst 5, .fst 6, .fst 7] [.eff 8, .fst 9, .eff 10]), (14, .simple [.fst 0, .fst 1, .fst 2, .fst 3, .fst 4, .fst 5, .fst 6, .fst 7, .fst 8, .fst 9, .fst 10, .fst 11, .fst 12] [.eff 13, .fst 14, .fst 15]), (16, .simple [.fst 0, .fst 1, .fst 2, .fst 3, .fst 4, .fst 5, .fst 6, .fst 7] [.fst 8, .fst 9])]
def l1LO : LO := ⟨[], [], [(2, [0, 5])], []⟩
def l1Tk (k : Nat) : Spec := fun Q σ w => gAd (σ 0) fun at0 => gInt .i64 (σ 1) fun xt1 => gInt .i64 (σ 6) fun xt6 => l1 k at0 xt1 xt6 w (fun w => ∀ d : Fr, Q (.exit 2) (ov d [(0, .pointer (some at0)), (5, σ 5)]) w)
def l1T : Spec := fun Q σ w => ∃ k, l1Tk k Q σ w
def l1tb : List (List Nat × Spec) := []
noncomputable def l1b : Code := (subC [0, 0, 1, 0, 1, 1, 1, 1, 0, 0, 1, 1, 1, 1, 1, 1] body).getD .skip
theorem l1_eq (k : Nat) (at0 : Addr) (xt1 xt6 : Int) (Q : PQ) (σ : Fr) (w : World) : l1 (k + 1) at0 xt1 xt6 w (fun w => ∀ d : Fr, Q (.exit 2) (ov d [(0, .pointer (some at0)), (5, σ 5)]) w) = codeW Tryz.prog hT 109 D (tab l1tb) [0, 0, 1, 0, 1, 1, 1, 1, 0, 0, 1, 1, 1, 1, 1, 1] l1b (thenQ (l1Tk k Q) (widen l1LO Q)) (ov σ [(0, .pointer (some at0)), (1, .int .i64 xt1), (6, .int .i64 xt6)]) w := by kernel_rfl
theorem l1_snd : ∀ c, subC [0, 1, 0, 1, 1, 1, 1, 0, 0, 1, 1, 1, 1, 1, 1] body = some c → Snd Tryz.prog 109 c l1T := by
  refine loop_of (hT := hT) (D := D) (l := l1tb) (b := l1b) (lo := l1LO) (by kernel_rfl) (by
    intro x hx
    simp only [l1tb, List.not_mem_nil] at hx
    ) (by kernel_rfl) (by kernel_rfl) ?_ ?_
  · intro Q σ w h
    unfold l1Tk at h
    obtain ⟨_, _, h⟩ := gAd_elim h
    obtain ⟨_, _, h⟩ := gInt_elim h
    obtain ⟨_, _, h⟩ := gInt_elim h
    exact h
  · intro k Q σ w h
    unfold l1Tk at h
    obtain ⟨at0, h0, h⟩ := gAd_elim h
    obtain ⟨xt1, h1, h⟩ := gInt_elim h
    obtain ⟨xt6, h6, h⟩ := gInt_elim h
    rw [l1_eq (σ := σ)] at h
    have e : (ov σ [(0, .pointer (some at0)), (1, .int .i64 xt1), (6, .int .i64 xt6)]) = σ := ov_self (by simp [h0, h1, h6])
    rw [e] at h
    exact h
def j0LO : LO := ⟨[0, 5], [], [], []⟩
def j0T : Spec := fun Q σ w => gAd (σ 0) fun at0 => gInt .i64 (σ 1) fun xt1 => gInt .i64 (σ 6) fun xt6 => j0 at0 xt1 xt6 w (fun w => ∀ d : Fr, Q .normal (ov d [(0, .pointer (some at0)), (5, σ 5)]) w)
def j0tb : List (List Nat × Spec) := [([0, 1, 0, 1, 1, 1, 1, 0, 0, 1, 1, 1, 1, 1, 1], l1T)]
noncomputable def j0b : Code := (subC [1, 0, 1, 1, 1, 1, 0, 0, 1, 1, 1, 1, 1, 1] body).getD .skip
theorem j0_eq (at0 : Addr) (xt1 xt6 : Int) (Q : PQ) (σ : Fr) (w : World) : j0 at0 xt1 xt6 w (fun w => ∀ d : Fr, Q .normal (ov d [(0, .pointer (some at0)), (5, σ 5)]) w) = codeW Tryz.prog hT 109 D (tab j0tb) [1, 0, 1, 1, 1, 1, 0, 0, 1, 1, 1, 1, 1, 1] j0b (widen j0LO Q) (ov σ [(0, .pointer (some at0)), (1, .int .i64 xt1), (6, .int .i64 xt6)]) w := by kernel_rfl
theorem j0_snd : ∀ c, subC [1, 0, 1, 1, 1, 1, 0, 0, 1, 1, 1, 1, 1, 1] body = some c → Snd Tryz.prog 109 c j0T := by
  refine cut_of (hT := hT) (D := D) (l := j0tb) (b := j0b) (lo := j0LO) (by kernel_rfl) (by
    intro x hx
    simp only [j0tb, List.mem_cons, List.not_mem_nil, or_false] at hx
    subst hx
    exact l1_snd) (by kernel_rfl) (by kernel_rfl) ?_
  intro Q σ w h
  unfold j0T at h
  obtain ⟨at0, h0, h⟩ := gAd_elim h
  obtain ⟨xt1, h1, h⟩ := gInt_elim h
  obtain ⟨xt6, h6, h⟩ := gInt_elim h
  rw [j0_eq (σ := σ)] at h
  have e : (ov σ [(0, .pointer (some at0)), (1, .int .i64 xt1), (6, .int .i64 xt6)]) = σ := ov_self (by simp [h0, h1, h6])
  rw [e] at h
  exact h
def l2LO : LO := ⟨[], [], [(4, [])], []⟩
def l2Tk (k : Nat) : Spec := fun Q σ w => gAd (σ 0) fun at0 => gPtr (σ 5) fun pt5 => gInt .i64 (σ 7) fun xt7 => l2 k at0 pt5 xt7 w (fun w => ∀ d : Fr, Q (.exit 4) (ov d []) w)
def l2T : Spec := fun Q σ w => ∃ k, l2Tk k Q σ w
def l2tb : List (List Nat × Spec) := []
noncomputable def l2b : Code := (subC [0, 0, 1, 1, 1, 1, 1, 1, 0, 0, 1, 1, 1, 1, 1, 1] body).getD .skip
theorem l2_eq (k : Nat) (at0 : Addr) (pt5 : Option Addr) (xt7 : Int) (Q : PQ) (σ : Fr) (w : World) : l2 (k + 1) at0 pt5 xt7 w (fun w => ∀ d : Fr, Q (.exit 4) (ov d []) w) = codeW Tryz.prog hT 109 D (tab l2tb) [0, 0, 1, 1, 1, 1, 1, 1, 0, 0, 1, 1, 1, 1, 1, 1] l2b (thenQ (l2Tk k Q) (widen l2LO Q)) (ov σ [(0, .pointer (some at0)), (5, .pointer pt5), (7, .int .i64 xt7)]) w := by kernel_rfl
theorem l2_snd : ∀ c, subC [0, 1, 1, 1, 1, 1, 1, 0, 0, 1, 1, 1, 1, 1, 1] body = some c → Snd Tryz.prog 109 c l2T := by
  refine loop_of (hT := hT) (D := D) (l := l2tb) (b := l2b) (lo := l2LO) (by kernel_rfl) (by
    intro x hx
    simp only [l2tb, List.not_mem_nil] at hx
    ) (by kernel_rfl) (by kernel_rfl) ?_ ?_
  · intro Q σ w h
    unfold l2Tk at h
    obtain ⟨_, _, h⟩ := gAd_elim h
    obtain ⟨_, _, h⟩ := gPtr_elim h
    obtain ⟨_, _, h⟩ := gInt_elim h
    exact h
  · intro k Q σ w h
    unfold l2Tk at h
    obtain ⟨at0, h0, h⟩ := gAd_elim h
    obtain ⟨pt5, h5, h⟩ := gPtr_elim h
    obtain ⟨xt7, h7, h⟩ := gInt_elim h
    rw [l2_eq (σ := σ)] at h
    have e : (ov σ [(0, .pointer (some at0)), (5, .pointer pt5), (7, .int .i64 xt7)]) = σ := ov_self (by simp [h0, h5, h7])
    rw [e] at h
    exact h
def tb : List (List Nat × Spec) := [([0, 1, 0, 1, 1, 1, 1, 0, 0, 1, 1, 1, 1, 1, 1], l1T), ([1, 0, 1, 1, 1, 1, 0, 0, 1, 1, 1, 1, 1, 1], j0T), ([0, 1, 1, 1, 1, 1, 1, 0, 0, 1, 1, 1, 1, 1, 1], l2T)]
variable (aa0 : Addr) (xa1 : Int) (w : World) (Q : Ending → World → Prop)
theorem wp_eq : wp aa0 xa1 w Q = codeW Tryz.prog hT 109 D (tab tb) [] body (topQ Tryz.prog hT 109 [.tmp 4] Q) (argsF [.pointer (some aa0), .int .i64 xa1]) w := by kernel_rfl
theorem ok (h : wp aa0 xa1 w Q) : Calls Tryz.prog 23 #[.pointer (some aa0), .int .i64 xa1] w Q := by
  rw [wp_eq] at h
  refine calls_of_codeW (c := body) (rs := [.tmp 4]) Tryz.func23 ?_ ?_ ?_ ?_ ?_ (tab_snd (by
    intro x hx
    simp only [tb, List.mem_cons, List.not_mem_nil, or_false] at hx
    rcases hx with rfl | rfl | rfl
    · exact l1_snd
    · exact j0_snd
    · exact l2_snd)) ?_ h <;> kernel_rfl
end f_hdt_Graph_DelE
namespace f_hdt_Graph_AddV
noncomputable def body : Code := (Tryz.f28.body).getD .skip
def l0 : Nat → Int → Option Addr → Nat → Nat → Int → Int → World → (World → Prop) → Prop | 0, _, _, _, _, _, _, _, _ => False | k + 1, xt1, At30, nt30, ct30, xt31, xt32, w, K1 => sel (decide (xt32 < xt31)) (optB At30 fun a16 => req (decide (0 ≤ xt32 ∧ xt32 < (nt30 : Int))) <| ldP w (a16.add (xt32.toNat * 1)) fun p17 => optB p17 fun a18 => ldP w a18 fun p19 => Calls Tryz.prog 47 #[.pointer p19, .int .i64 xt1] w fun e20 w21 => ∃ x22, e20 = .returned (.int .i64 x22) ∧ (l0 k xt1 At30 nt30 ct30 xt31 (IntKind.i64.wrap (xt32 + 1)) w21 K1)) (K1 w)
def wp (aa0 : Addr) (xa1 : Int) (w : World) (Q : Ending → World → Prop) : Prop := alW w (.cells #[.int .i64 xa1] 3) fun B1 w2 => Calls Tryz.prog 39 #[.slice (some ⟨B1, 0, none⟩) 1 1] w2 fun e3 w4 => ∃ b5, e3 = .returned (.bool b5) ∧ (sel b5 (Q (.returned (.int .i64 1)) w4) (Calls Tryz.prog 40 #[.pointer (some aa0), .int .i64 xa1] w4 fun e6 w7 => ∃ b8, e6 = .returned (.bool b8) ∧ (sel b8 (Q (.returned (.int .i64 50)) w7) (ldM w7 (aa0.add 2) fun m9 => Runs Tryz.prog (Builtin.len_ #[64] 3 #[.map m9]) w7 fun v11 w10 => ∃ x12, v11 = (.int .i64 x12) ∧ (sel (decide (x12 ≥ 2048)) (Q (.returned (.int .i64 55)) w10) (ldM w10 (aa0.add 2) fun m13 => Runs Tryz.prog (Instr.mapUpdate 64 (.map m13) (.int .i64 xa1) (.int .i64 0)) w10 fun _ w14 => ldS w14 (aa0.add 1) fun A15 n15 c15 => ∃ k24, l0 k24 xa1 A15 n15 c15 (n15 : Int) 0 w14 (fun w23 => ∀ _ : Fr, Q (.returned (.int .i64 0)) w23)))))))
def D : Nat → Option DH := dtab []
def l0LO : LO := ⟨[], [], [(1, [])], []⟩
def l0Tk (k : Nat) : Spec := fun Q σ w => gInt .i64 (σ 1) fun xt1 => gSlice (σ 30) fun At30 nt30 ct30 => gInt .i64 (σ 31) fun xt31 => gInt .i64 (σ 32) fun xt32 => l0 k xt1 At30 nt30 ct30 xt31 xt32 w (fun w => ∀ d : Fr, Q (.exit 1) (ov d []) w)
def l0T : Spec := fun Q σ w => ∃ k, l0Tk k Q σ w
def l0tb : List (List Nat × Spec) := []
noncomputable def l0b : Code := (subC [0, 0, 1, 0, 1, 1, 1] body).getD .skip
theorem l0_eq (k : Nat) (xt1 : Int) (At30 : Option Addr) (nt30 ct30 : Nat) (xt31 xt32 : Int) (Q : PQ) (σ : Fr) (w : World) : l0 (k + 1) xt1 At30 nt30 ct30 xt31 xt32 w (fun w => ∀ d : Fr, Q (.exit 1) (ov d []) w) = codeW Tryz.prog hT 43 D (tab l0tb) [0, 0, 1, 0, 1, 1, 1] l0b (thenQ (l0Tk k Q) (widen l0LO Q)) (ov σ [(1, .int .i64 xt1), (30, .slice At30 nt30 ct30), (31, .int .i64 xt31), (32, .int .i64 xt32)]) w := by kernel_rfl
theorem l0_snd : ∀ c, subC [0, 1, 0, 1, 1, 1] body = some c → Snd Tryz.prog 43 c l0T := by
  refine loop_of (hT := hT) (D := D) (l := l0tb) (b := l0b) (lo := l0LO) (by kernel_rfl) (by
    intro x hx
    simp only [l0tb, List.not_mem_nil] at hx
    ) (by kernel_rfl) (by kernel_rfl) ?_ ?_
  · intro Q σ w h
    unfold l0Tk at h
    obtain ⟨_, _, h⟩ := gInt_elim h
    obtain ⟨_, _, _, _, h⟩ := gSlice_elim h
    obtain ⟨_, _, h⟩ := gInt_elim h
    obtain ⟨_, _, h⟩ := gInt_elim h
    exact h
  · intro k Q σ w h
    unfold l0Tk at h
    obtain ⟨xt1, h1, h⟩ := gInt_elim h
    obtain ⟨At30, nt30, ct30, h30, h⟩ := gSlice_elim h
    obtain ⟨xt31, h31, h⟩ := gInt_elim h
    obtain ⟨xt32, h32, h⟩ := gInt_elim h
    rw [l0_eq (σ := σ)] at h
    have e : (ov σ [(1, .int .i64 xt1), (30, .slice At30 nt30 ct30), (31, .int .i64 xt31), (32, .int .i64 xt32)]) = σ := ov_self (by simp [h1, h30, h31, h32])
    rw [e] at h
    exact h
def tb : List (List Nat × Spec) := [([0, 1, 0, 1, 1, 1], l0T)]
variable (aa0 : Addr) (xa1 : Int) (w : World) (Q : Ending → World → Prop)
theorem wp_eq : wp aa0 xa1 w Q = codeW Tryz.prog hT 43 D (tab tb) [] body (topQ Tryz.prog hT 43 [.tmp 4] Q) (argsF [.pointer (some aa0), .int .i64 xa1]) w := by kernel_rfl
theorem ok (h : wp aa0 xa1 w Q) : Calls Tryz.prog 28 #[.pointer (some aa0), .int .i64 xa1] w Q := by
  rw [wp_eq] at h
  refine calls_of_codeW (c := body) (rs := [.tmp 4]) Tryz.func28 ?_ ?_ ?_ ?_ ?_ (tab_snd (by
    intro x hx
    simp only [tb, List.mem_cons, List.not_mem_nil, or_false] at hx
    subst hx
    exact l0_snd)) ?_ h <;> kernel_rfl
end f_hdt_Graph_AddV
namespace f_hdt_Graph_Size
noncomputable def body : Code := (Tryz.f29.body).getD .skip
def wp (aa0 : Addr) (xa1 : Int) (w : World) (Q : Ending → World → Prop) : Prop := Calls Tryz.prog 32 #[.pointer (some aa0), .int .i64 0] w fun e1 w2 => ∃ p3, e1 = .returned (.pointer p3) ∧ (optB p3 fun a4 => ldP w2 a4 fun p5 => Calls Tryz.prog 48 #[.pointer p5, .int .i64 xa1] w2 fun e6 w7 => ∃ x8_0 x8_1, e6 = .returned (.tuple #[.int .i64 x8_0, .int .i64 x8_1]) ∧ (Q (.returned (.tuple #[.int .i64 x8_0, .int .i64 x8_1])) w7))
def D : Nat → Option DH := dtab []
def tb : List (List Nat × Spec) := []
variable (aa0 : Addr) (xa1 : Int) (w : World) (Q : Ending → World → Prop)
theorem wp_eq : wp aa0 xa1 w Q = codeW Tryz.prog hT 15 D (tab tb) [] body (topQ Tryz.prog hT 15 [.tmp 4, .tmp 5] Q) (argsF [.pointer (some aa0), .int .i64 xa1]) w := by kernel_rfl
theorem ok (h : wp aa0 xa1 w Q) : Calls Tryz.prog 29 #[.pointer (some aa0), .int .i64 xa1] w Q := by
  rw [wp_eq] at h
  refine calls_of_codeW (c := body) (rs := [.tmp 4, .tmp 5]) Tryz.func29 ?_ ?_ ?_ ?_ ?_ (tab_snd (by
    intro x hx
    simp only [tb, List.not_mem_nil] at hx
    )) ?_ h <;> kernel_rfl
end f_hdt_Graph_Size
namespace f_slices_Clone_int_int
noncomputable def body : Code := (Tryz.f31.body).getD .skip
def wp (Aa0 : Option Addr) (na0 ca0 : Nat) (w : World) (Q : Ending → World → Prop) : Prop := sel Aa0.isNone (Q (.returned (.slice none 0 0)) w) (alW w (.cells #[] 3) fun B1 w2 => Runs Tryz.prog (Builtin.append_ #[22, 22] 22 #[.slice (some ⟨B1, 0, none⟩) 0 0, .slice Aa0 na0 ca0]) w2 fun v4 w3 => ∃ A5 n5 c5, v4 = (.slice A5 n5 c5) ∧ (Q (.returned (.slice A5 n5 c5)) w3))
def D : Nat → Option DH := dtab []
def tb : List (List Nat × Spec) := []
variable (Aa0 : Option Addr) (na0 ca0 : Nat) (w : World) (Q : Ending → World → Prop)
theorem wp_eq : wp Aa0 na0 ca0 w Q = codeW Tryz.prog hT 8 D (tab tb) [] body (topQ Tryz.prog hT 8 [.tmp 2] Q) (argsF [.slice Aa0 na0 ca0]) w := by kernel_rfl
theorem ok (h : wp Aa0 na0 ca0 w Q) : Calls Tryz.prog 31 #[.slice Aa0 na0 ca0] w Q := by
  rw [wp_eq] at h
  refine calls_of_codeW (c := body) (rs := [.tmp 2]) Tryz.func31 ?_ ?_ ?_ ?_ ?_ (tab_snd (by
    intro x hx
    simp only [tb, List.not_mem_nil] at hx
    )) ?_ h <;> kernel_rfl
end f_slices_Clone_int_int
namespace f_hdt_Graph_at
noncomputable def body : Code := (Tryz.f32.body).getD .skip
def l1 : Nat → Addr → Option Addr → World → (World → Prop) → Prop | 0, _, _, _, _ => False | k + 1, at5, pt26, w, K2 => Runs Tryz.prog (Instr.next (.pointer pt26) false 0) w fun v15 w14 => ∃ b16 r16, v15 = (.tuple ⟨.bool b16 :: r16⟩) ∧ (sel b16 (Runs Tryz.prog (Instr.entry (.pointer pt26)) w14 fun v18 w17 => ∃ x19_0 x19_1, v18 = (.tuple #[.int .i64 x19_0, .int .i64 x19_1]) ∧ (ldP w17 at5 fun p20 => Calls Tryz.prog 47 #[.pointer p20, .int .i64 x19_0] w17 fun e21 w22 => ∃ x23, e21 = .returned (.int .i64 x23) ∧ (l1 k at5 pt26 w22 K2))) (K2 w14))
def l0 : Nat → Addr → Int → World → (World → Prop) → Prop | 0, _, _, _, _ => False | k + 1, at0, xt1, w, K0 => ldS w (at0.add 1) fun A1 n1 c1 => sel (decide ((n1 : Int) ≤ xt1)) (ldS w at0 fun A2 n2 c2 => Calls Tryz.prog 52 #[.slice A2 n2 c2] w fun e3 w4 => ∃ p5, e3 = .returned (.pointer p5) ∧ (alW w4 (.map #[] 0) fun B6 w7 => alW w7 (.cells #[.pointer p5, .map (some B6)] 80) fun B8 w9 => ldM w9 (at0.add 2) fun m10 => Runs Tryz.prog (Instr.range 64 (.map m10)) w9 fun v12 w11 => ∃ p13, v12 = (.pointer p13) ∧ (∃ k32, l1 k32 ⟨B8, 0, none⟩ p13 w11 (fun w24 => ∀ _ : Fr, ldS w24 (at0.add 1) fun A25 n25 c25 => alW w24 (.cells #[.pointer (some ⟨B8, 0, none⟩)] 69) fun B26 w27 => Runs Tryz.prog (Builtin.append_ #[66, 66] 66 #[.slice A25 n25 c25, .slice (some ⟨B26, 0, none⟩) 1 1]) w27 fun v29 w28 => ∃ A30 n30 c30, v29 = (.slice A30 n30 c30) ∧ (stW w28 (at0.add 1) (.slice A30 n30 c30) fun w31 => l0 k at0 xt1 w31 K0))))) (K0 w)
def wp (aa0 : Addr) (xa1 : Int) (w : World) (Q : Ending → World → Prop) : Prop := ∃ k37, l0 k37 aa0 xa1 w (fun w33 => ∀ _ : Fr, ldS w33 (aa0.add 1) fun A34 n34 c34 => optB A34 fun a35 => req (decide (0 ≤ xa1 ∧ xa1 < (n34 : Int))) <| ldP w33 (a35.add (xa1.toNat * 1)) fun p36 => Q (.returned (.pointer p36)) w33)
def D : Nat → Option DH := dtab []
def hTe : Hint := fun t => bif Nat.beq t 1000029 then .tup [(.sc (.int .i64)), (.sc (.int .i64))] else hT t
def l1LO : LO := ⟨[], [], [(2, [0, 1, 5])], []⟩
def l1Tk (k : Nat) : Spec := fun Q σ w => gAd (σ 5) fun at5 => gPtr (σ 26) fun pt26 => l1 k at5 pt26 w (fun w => ∀ d : Fr, Q (.exit 2) (ov d [(0, σ 0), (1, σ 1), (5, .pointer (some at5))]) w)
def l1T : Spec := fun Q σ w => ∃ k, l1Tk k Q σ w
def l1tb : List (List Nat × Spec) := []
noncomputable def l1b : Code := (subC [0, 0, 1, 0, 1, 0, 1, 0, 0, 0, 1] body).getD .skip
theorem l1_eq (k : Nat) (at5 : Addr) (pt26 : Option Addr) (Q : PQ) (σ : Fr) (w : World) : l1 (k + 1) at5 pt26 w (fun w => ∀ d : Fr, Q (.exit 2) (ov d [(0, σ 0), (1, σ 1), (5, .pointer (some at5))]) w) = codeW Tryz.prog hTe 54 D (tab l1tb) [0, 0, 1, 0, 1, 0, 1, 0, 0, 0, 1] l1b (thenQ (l1Tk k Q) (widen l1LO Q)) (ov σ [(5, .pointer (some at5)), (26, .pointer pt26)]) w := by kernel_rfl
theorem l1_snd : ∀ c, subC [0, 1, 0, 1, 0, 1, 0, 0, 0, 1] body = some c → Snd Tryz.prog 54 c l1T := by
  refine loop_of (hT := hTe) (D := D) (l := l1tb) (b := l1b) (lo := l1LO) (by kernel_rfl) (by
    intro x hx
    simp only [l1tb, List.not_mem_nil] at hx
    ) (by kernel_rfl) (by kernel_rfl) ?_ ?_
  · intro Q σ w h
    unfold l1Tk at h
    obtain ⟨_, _, h⟩ := gAd_elim h
    obtain ⟨_, _, h⟩ := gPtr_elim h
    exact h
  · intro k Q σ w h
    unfold l1Tk at h
    obtain ⟨at5, h5, h⟩ := gAd_elim h
    obtain ⟨pt26, h26, h⟩ := gPtr_elim h
    rw [l1_eq (σ := σ)] at h
    have e : (ov σ [(5, .pointer (some at5)), (26, .pointer pt26)]) = σ := ov_self (by simp [h5, h26])
    rw [e] at h
    exact h
def l0LO : LO := ⟨[], [], [(0, [0, 1])], []⟩
def l0Tk (k : Nat) : Spec := fun Q σ w => gAd (σ 0) fun at0 => gInt .i64 (σ 1) fun xt1 => l0 k at0 xt1 w (fun w => ∀ d : Fr, Q (.exit 0) (ov d [(0, .pointer (some at0)), (1, .int .i64 xt1)]) w)
def l0T : Spec := fun Q σ w => ∃ k, l0Tk k Q σ w
def l0tb : List (List Nat × Spec) := [([0, 1, 0, 1, 0, 1, 0, 0, 0, 1], l1T)]
noncomputable def l0b : Code := (subC [0, 0, 0, 1] body).getD .skip
theorem l0_eq (k : Nat) (at0 : Addr) (xt1 : Int) (Q : PQ) (σ : Fr) (w : World) : l0 (k + 1) at0 xt1 w (fun w => ∀ d : Fr, Q (.exit 0) (ov d [(0, .pointer (some at0)), (1, .int .i64 xt1)]) w) = codeW Tryz.prog hTe 54 D (tab l0tb) [0, 0, 0, 1] l0b (thenQ (l0Tk k Q) (widen l0LO Q)) (ov σ [(0, .pointer (some at0)), (1, .int .i64 xt1)]) w := by kernel_rfl
theorem l0_snd : ∀ c, subC [0, 0, 1] body = some c → Snd Tryz.prog 54 c l0T := by
  refine loop_of (hT := hTe) (D := D) (l := l0tb) (b := l0b) (lo := l0LO) (by kernel_rfl) (by
    intro x hx
    simp only [l0tb, List.mem_cons, List.not_mem_nil, or_false] at hx
    subst hx
    exact l1_snd) (by kernel_rfl) (by kernel_rfl) ?_ ?_
  · intro Q σ w h
    unfold l0Tk at h
    obtain ⟨_, _, h⟩ := gAd_elim h
    obtain ⟨_, _, h⟩ := gInt_elim h
    exact h
  · intro k Q σ w h
    unfold l0Tk at h
    obtain ⟨at0, h0, h⟩ := gAd_elim h
    obtain ⟨xt1, h1, h⟩ := gInt_elim h
    rw [l0_eq (σ := σ)] at h
    have e : (ov σ [(0, .pointer (some at0)), (1, .int .i64 xt1)]) = σ := ov_self (by simp [h0, h1])
    rw [e] at h
    exact h
def tb : List (List Nat × Spec) := [([0, 1, 0, 1, 0, 1, 0, 0, 0, 1], l1T), ([0, 0, 1], l0T)]
variable (aa0 : Addr) (xa1 : Int) (w : World) (Q : Ending → World → Prop)
theorem wp_eq : wp aa0 xa1 w Q = codeW Tryz.prog hTe 54 D (tab tb) [] body (topQ Tryz.prog hTe 54 [.tmp 4] Q) (argsF [.pointer (some aa0), .int .i64 xa1]) w := by kernel_rfl
theorem ok (h : wp aa0 xa1 w Q) : Calls Tryz.prog 32 #[.pointer (some aa0), .int .i64 xa1] w Q := by
  rw [wp_eq] at h
  refine calls_of_codeW (c := body) (rs := [.tmp 4]) Tryz.func32 ?_ ?_ ?_ ?_ ?_ (tab_snd (by
    intro x hx
    simp only [tb, List.mem_cons, List.not_mem_nil, or_false] at hx
    rcases hx with rfl | rfl
    · exact l1_snd
    · exact l0_snd)) ?_ h <;> kernel_rfl
end f_hdt_Graph_at
namespace f_hdt_Graph_DelV
noncomputable def body : Code := (Tryz.f33.body).getD .skip
def l0 : Nat → Int → Option Addr → Nat → Nat → Int → Int → World → (World → Prop) → Prop | 0, _, _, _, _, _, _, _, _ => False | k + 1, xt1, At32, nt32, ct32, xt33, xt34, w, K1 => sel (decide (xt34 < xt33)) (optB At32 fun a17 => req (decide (0 ≤ xt34 ∧ xt34 < (nt32 : Int))) <| ldP w (a17.add (xt34.toNat * 1)) fun p18 => optB p18 fun a19 => ldP w a19 fun p20 => Calls Tryz.prog 53 #[.pointer p20, .int .i64 xt1] w fun e21 w22 => ∃ x23, e21 = .returned (.int .i64 x23) ∧ (optB p18 fun a24 => ldM w22 (a24.add 1) fun m25 => Runs Tryz.prog (Builtin.delete_ #[78, 3] 0 #[.map m25, .int .i64 xt1]) w22 fun v27 w26 => v27 = (.tuple #[]) ∧ (l0 k xt1 At32 nt32 ct32 xt33 (IntKind.i64.wrap (xt34 + 1)) w26 K1))) (K1 w)
def wp (aa0 : Addr) (xa1 : Int) (w : World) (Q : Ending → World → Prop) : Prop := alW w (.cells #[.int .i64 xa1] 3) fun B1 w2 => Calls Tryz.prog 39 #[.slice (some ⟨B1, 0, none⟩) 1 1] w2 fun e3 w4 => ∃ b5, e3 = .returned (.bool b5) ∧ (sel b5 (Q (.returned (.int .i64 1)) w4) (Calls Tryz.prog 40 #[.pointer (some aa0), .int .i64 xa1] w4 fun e6 w7 => ∃ b8, e6 = .returned (.bool b8) ∧ (sel (!b8) (Q (.returned (.int .i64 51)) w7) (ldM w7 (aa0.add 2) fun m9 => Runs Tryz.prog (Instr.lookup 64 (.map m9) (.int .i64 xa1) false) w7 fun v11 w10 => ∃ x12, v11 = (.int .i64 x12) ∧ (sel (decide (x12 > 0)) (Q (.returned (.int .i64 52)) w10) (ldM w10 (aa0.add 2) fun m13 => Runs Tryz.prog (Builtin.delete_ #[64, 3] 0 #[.map m13, .int .i64 xa1]) w10 fun v15 w14 => v15 = (.tuple #[]) ∧ (ldS w14 (aa0.add 1) fun A16 n16 c16 => ∃ k29, l0 k29 xa1 A16 n16 c16 (n16 : Int) 0 w14 (fun w28 => ∀ _ : Fr, Q (.returned (.int .i64 0)) w28))))))))
def D : Nat → Option DH := dtab []
def l0LO : LO := ⟨[], [], [(1, [])], []⟩
def l0Tk (k : Nat) : Spec := fun Q σ w => gInt .i64 (σ 1) fun xt1 => gSlice (σ 32) fun At32 nt32 ct32 => gInt .i64 (σ 33) fun xt33 => gInt .i64 (σ 34) fun xt34 => l0 k xt1 At32 nt32 ct32 xt33 xt34 w (fun w => ∀ d : Fr, Q (.exit 1) (ov d []) w)
def l0T : Spec := fun Q σ w => ∃ k, l0Tk k Q σ w
def l0tb : List (List Nat × Spec) := []
noncomputable def l0b : Code := (subC [0, 0, 1, 0, 1, 1, 1] body).getD .skip
theorem l0_eq (k : Nat) (xt1 : Int) (At32 : Option Addr) (nt32 ct32 : Nat) (xt33 xt34 : Int) (Q : PQ) (σ : Fr) (w : World) : l0 (k + 1) xt1 At32 nt32 ct32 xt33 xt34 w (fun w => ∀ d : Fr, Q (.exit 1) (ov d []) w) = codeW Tryz.prog hT 50 D (tab l0tb) [0, 0, 1, 0, 1, 1, 1] l0b (thenQ (l0Tk k Q) (widen l0LO Q)) (ov σ [(1, .int .i64 xt1), (32, .slice At32 nt32 ct32), (33, .int .i64 xt33), (34, .int .i64 xt34)]) w := by kernel_rfl
theorem l0_snd : ∀ c, subC [0, 1, 0, 1, 1, 1] body = some c → Snd Tryz.prog 50 c l0T := by
  refine loop_of (hT := hT) (D := D) (l := l0tb) (b := l0b) (lo := l0LO) (by kernel_rfl) (by
    intro x hx
    simp only [l0tb, List.not_mem_nil] at hx
    ) (by kernel_rfl) (by kernel_rfl) ?_ ?_
  · intro Q σ w h
    unfold l0Tk at h
    obtain ⟨_, _, h⟩ := gInt_elim h
    obtain ⟨_, _, _, _, h⟩ := gSlice_elim h
    obtain ⟨_, _, h⟩ := gInt_elim h
    obtain ⟨_, _, h⟩ := gInt_elim h
    exact h
  · intro k Q σ w h
    unfold l0Tk at h
    obtain ⟨xt1, h1, h⟩ := gInt_elim h
    obtain ⟨At32, nt32, ct32, h32, h⟩ := gSlice_elim h
    obtain ⟨xt33, h33, h⟩ := gInt_elim h
    obtain ⟨xt34, h34, h⟩ := gInt_elim h
    rw [l0_eq (σ := σ)] at h
    have e : (ov σ [(1, .int .i64 xt1), (32, .slice At32 nt32 ct32), (33, .int .i64 xt33), (34, .int .i64 xt34)]) = σ := ov_self (by simp [h1, h32, h33, h34])
    rw [e] at h
    exact h
def tb : List (List Nat × Spec) := [([0, 1, 0, 1, 1, 1], l0T)]
variable (aa0 : Addr) (xa1 : Int) (w : World) (Q : Ending → World → Prop)
theorem wp_eq : wp aa0 xa1 w Q = codeW Tryz.prog hT 50 D (tab tb) [] body (topQ Tryz.prog hT 50 [.tmp 4] Q) (argsF [.pointer (some aa0), .int .i64 xa1]) w := by kernel_rfl
theorem ok (h : wp aa0 xa1 w Q) : Calls Tryz.prog 33 #[.pointer (some aa0), .int .i64 xa1] w Q := by
  rw [wp_eq] at h
  refine calls_of_codeW (c := body) (rs := [.tmp 4]) Tryz.func33 ?_ ?_ ?_ ?_ ?_ (tab_snd (by
    intro x hx
    simp only [tb, List.mem_cons, List.not_mem_nil, or_false] at hx
    subst hx
    exact l0_snd)) ?_ h <;> kernel_rfl
end f_hdt_Graph_DelV
namespace f_hdt_badId
noncomputable def body : Code := (Tryz.f39.body).getD .skip
def wp (Aa0 : Option Addr) (na0 ca0 : Nat) (w : World) (Q : Ending → World → Prop) : Prop := Calls Tryz.prog 58 #[.slice Aa0 na0 ca0, .func (.func 59) #[] #[]] w fun e1 w2 => ∃ b3, e1 = .returned (.bool b3) ∧ (Q (.returned (.bool b3)) w2)
def D : Nat → Option DH := dtab []
def tb : List (List Nat × Spec) := []
variable (Aa0 : Option Addr) (na0 ca0 : Nat) (w : World) (Q : Ending → World → Prop)
theorem wp_eq : wp Aa0 na0 ca0 w Q = codeW Tryz.prog hT 5 D (tab tb) [] body (topQ Tryz.prog hT 5 [.tmp 2] Q) (argsF [.slice Aa0 na0 ca0]) w := by kernel_rfl
theorem ok (h : wp Aa0 na0 ca0 w Q) : Calls Tryz.prog 39 #[.slice Aa0 na0 ca0] w Q := by
  rw [wp_eq] at h
  refine calls_of_codeW (c := body) (rs := [.tmp 2]) Tryz.func39 ?_ ?_ ?_ ?_ ?_ (tab_snd (by
    intro x hx
    simp only [tb, List.not_mem_nil] at hx
    )) ?_ h <;> kernel_rfl
end f_hdt_badId
namespace f_hdt_Graph_has
noncomputable def body : Code := (Tryz.f40.body).getD .skip
def wp (aa0 : Addr) (xa1 : Int) (w : World) (Q : Ending → World → Prop) : Prop := ldM w (aa0.add 2) fun m1 => Runs Tryz.prog (Instr.lookup 64 (.map m1) (.int .i64 xa1) true) w fun v3 w2 => ∃ x4_0 b4_1, v3 = (.tuple #[.int .i64 x4_0, .bool b4_1]) ∧ (Q (.returned (.bool b4_1)) w2)
def D : Nat → Option DH := dtab []
def tb : List (List Nat × Spec) := []
variable (aa0 : Addr) (xa1 : Int) (w : World) (Q : Ending → World → Prop)
theorem wp_eq : wp aa0 xa1 w Q = codeW Tryz.prog hT 17 D (tab tb) [] body (topQ Tryz.prog hT 17 [.tmp 4] Q) (argsF [.pointer (some aa0), .int .i64 xa1]) w := by kernel_rfl
theorem ok (h : wp aa0 xa1 w Q) : Calls Tryz.prog 40 #[.pointer (some aa0), .int .i64 xa1] w Q := by
  rw [wp_eq] at h
  refine calls_of_codeW (c := body) (rs := [.tmp 4]) Tryz.func40 ?_ ?_ ?_ ?_ ?_ (tab_snd (by
    intro x hx
    simp only [tb, List.not_mem_nil] at hx
    )) ?_ h <;> kernel_rfl
end f_hdt_Graph_has
namespace f_hdt_level_hang
noncomputable def body : Code := (Tryz.f43.body).getD .skip
def j2 (at0 : Addr) (xt9 : Int) (w : World) (Kn : World → Prop) : Prop := drW w fun w24 => ∃ S25 : World → Prop, S25 w24 ∧ (hdP S25 at0 fun p26 => hdM S25 (at0.add 1) fun m27 => Runs Tryz.prog (Instr.lookup 78 (.map m27) (.int .i64 xt9) false) w24 fun v29 w28 => ∃ m30, v29 = (.map m30) ∧ (S25 w28 ∧ (Runs Tryz.prog (Builtin.len_ #[124] 3 #[.map m30]) w28 fun v32 w31 => ∃ x33, v32 = (.int .i64 x33) ∧ (S25 w31 ∧ (Calls Tryz.prog 67 #[.pointer p26, .int .i64 xt9, .bool (decide (x33 > 0))] w31 fun e34 w35 => ∃ x36, e34 = .returned (.int .i64 x36) ∧ (Kn w35))))))
def j1 (at0 : Addr) (xt1 : Int) (bt3 : Bool) (xt9 : Int) (w : World) (Kn : World → Prop) : Prop := sel bt3 (ldM w (at0.add 1) fun m19 => Runs Tryz.prog (Instr.lookup 78 (.map m19) (.int .i64 xt9) false) w fun v21 w20 => ∃ m22, v21 = (.map m22) ∧ (Runs Tryz.prog (Instr.mapUpdate 124 (.map m22) (.int .i64 xt1) (.bool true)) w20 fun _ w23 => j2 at0 xt9 w23 (fun w37 => ∀ _ : Fr, Kn w37))) (ldM w (at0.add 1) fun m38 => Runs Tryz.prog (Instr.lookup 78 (.map m38) (.int .i64 xt9) false) w fun v40 w39 => ∃ m41, v40 = (.map m41) ∧ (Runs Tryz.prog (Builtin.delete_ #[124, 3] 0 #[.map m41, .int .i64 xt1]) w39 fun v43 w42 => v43 = (.tuple #[]) ∧ (j2 at0 xt9 w42 (fun w44 => ∀ _ : Fr, Kn w44))))
def l0 : Nat → Addr → Int → Bool → Option Addr → Nat → Nat → Int → Int → World → (World → Prop) → Prop | 0, _, _, _, _, _, _, _, _, _, _ => False | k + 1, at0, xt1, bt3, At18, nt18, ct18, xt19, xt20, w, K0 => sel (decide (xt20 < xt19)) (optB At18 fun a9 => req (decide (0 ≤ xt20 ∧ xt20 < (nt18 : Int))) <| ldI w (a9.add (xt20.toNat * 1)) .i64 fun x10 => ldM w (at0.add 1) fun m11 => Runs Tryz.prog (Instr.lookup 78 (.map m11) (.int .i64 x10) false) w fun v13 w12 => ∃ m14, v13 = (.map m14) ∧ (sel m14.isNone (ldM w12 (at0.add 1) fun m15 => alW w12 (.map #[] 0) fun B16 w17 => Runs Tryz.prog (Instr.mapUpdate 78 (.map m15) (.int .i64 x10) (.map (some B16))) w17 fun _ w18 => j1 at0 xt1 bt3 x10 w18 (fun w45 => ∀ _ : Fr, l0 k at0 xt1 bt3 At18 nt18 ct18 xt19 (IntKind.i64.wrap (xt20 + 1)) w45 K0)) (j1 at0 xt1 bt3 x10 w12 (fun w46 => ∀ _ : Fr, l0 k at0 xt1 bt3 At18 nt18 ct18 xt19 (IntKind.i64.wrap (xt20 + 1)) w46 K0)))) (K0 w)
def wp (aa0 : Addr) (xa1 : Int) (pa2 : Option Addr) (ba3 : Bool) (w : World) (Q : Ending → World → Prop) : Prop := drW w fun w1 => ∃ S2 : World → Prop, S2 w1 ∧ (optB pa2 fun a3 => hdI S2 a3 .i64 fun x4 => optB pa2 fun a5 => hdI S2 (a5.add 1) .i64 fun x6 => alW w1 (.cells #[.int .i64 x4, .int .i64 x6] 3) fun B7 w8 => S2 w8 ∧ (∃ k48, l0 k48 aa0 xa1 ba3 (some ⟨B7, 0, none⟩) 2 2 ((2 : Nat) : Int) 0 w8 (fun w47 => ∀ _ : Fr, Q (.returned (.tuple #[])) w47)))
def D : Nat → Option DH := dtab [(0, .held [.fst 0, .fst 1, .fst 2, .fst 3, .fst 4, .fst 5, .fst 6, .fst 7, .fst 10, .eff 8, .fst 9] []), (8, .held [.fst 0, .fst 1, .fst 2, .fst 3, .fst 4, .fst 5, .fst 6, .fst 7, .fst 8, .fst 9, .eff 10, .eff 11, .fst 12] [.eff 13])]
def j2LO : LO := ⟨[0, 1, 3, 18, 19, 20], [], [], []⟩
def j2T : Spec := fun Q σ w => gAd (σ 0) fun at0 => gInt .i64 (σ 9) fun xt9 => j2 at0 xt9 w (fun w => ∀ d : Fr, Q .normal (ov d [(0, .pointer (some at0)), (1, σ 1), (3, σ 3), (18, σ 18), (19, σ 19), (20, σ 20)]) w)
def j2tb : List (List Nat × Spec) := []
noncomputable def j2b : Code := (subC [1, 1, 1, 0, 0, 1, 1, 0, 0, 1] body).getD .skip
theorem j2_eq (at0 : Addr) (xt9 : Int) (Q : PQ) (σ : Fr) (w : World) : j2 at0 xt9 w (fun w => ∀ d : Fr, Q .normal (ov d [(0, .pointer (some at0)), (1, σ 1), (3, σ 3), (18, σ 18), (19, σ 19), (20, σ 20)]) w) = codeW Tryz.prog hT 67 D (tab j2tb) [1, 1, 1, 0, 0, 1, 1, 0, 0, 1] j2b (widen j2LO Q) (ov σ [(0, .pointer (some at0)), (9, .int .i64 xt9)]) w := by kernel_rfl
theorem j2_snd : ∀ c, subC [1, 1, 1, 0, 0, 1, 1, 0, 0, 1] body = some c → Snd Tryz.prog 67 c j2T := by
  refine cut_of (hT := hT) (D := D) (l := j2tb) (b := j2b) (lo := j2LO) (by kernel_rfl) (by
    intro x hx
    simp only [j2tb, List.not_mem_nil] at hx
    ) (by kernel_rfl) (by kernel_rfl) ?_
  intro Q σ w h
  unfold j2T at h
  obtain ⟨at0, h0, h⟩ := gAd_elim h
  obtain ⟨xt9, h9, h⟩ := gInt_elim h
  rw [j2_eq (σ := σ)] at h
  have e : (ov σ [(0, .pointer (some at0)), (9, .int .i64 xt9)]) = σ := ov_self (by simp [h0, h9])
  rw [e] at h
  exact h
def j1LO : LO := ⟨[0, 1, 3, 18, 19, 20], [], [], []⟩
def j1T : Spec := fun Q σ w => gAd (σ 0) fun at0 => gInt .i64 (σ 1) fun xt1 => gBool (σ 3) fun bt3 => gInt .i64 (σ 9) fun xt9 => j1 at0 xt1 bt3 xt9 w (fun w => ∀ d : Fr, Q .normal (ov d [(0, .pointer (some at0)), (1, .int .i64 xt1), (3, .bool bt3), (18, σ 18), (19, σ 19), (20, σ 20)]) w)
def j1tb : List (List Nat × Spec) := [([1, 1, 1, 0, 0, 1, 1, 0, 0, 1], j2T)]
noncomputable def j1b : Code := (subC [1, 1, 0, 0, 1, 1, 0, 0, 1] body).getD .skip
theorem j1_eq (at0 : Addr) (xt1 : Int) (bt3 : Bool) (xt9 : Int) (Q : PQ) (σ : Fr) (w : World) : j1 at0 xt1 bt3 xt9 w (fun w => ∀ d : Fr, Q .normal (ov d [(0, .pointer (some at0)), (1, .int .i64 xt1), (3, .bool bt3), (18, σ 18), (19, σ 19), (20, σ 20)]) w) = codeW Tryz.prog hT 67 D (tab j1tb) [1, 1, 0, 0, 1, 1, 0, 0, 1] j1b (widen j1LO Q) (ov σ [(0, .pointer (some at0)), (1, .int .i64 xt1), (3, .bool bt3), (9, .int .i64 xt9)]) w := by cases bt3 <;> kernel_rfl
theorem j1_snd : ∀ c, subC [1, 1, 0, 0, 1, 1, 0, 0, 1] body = some c → Snd Tryz.prog 67 c j1T := by
  refine cut_of (hT := hT) (D := D) (l := j1tb) (b := j1b) (lo := j1LO) (by kernel_rfl) (by
    intro x hx
    simp only [j1tb, List.mem_cons, List.not_mem_nil, or_false] at hx
    subst hx
    exact j2_snd) (by kernel_rfl) (by kernel_rfl) ?_
  intro Q σ w h
  unfold j1T at h
  obtain ⟨at0, h0, h⟩ := gAd_elim h
  obtain ⟨xt1, h1, h⟩ := gInt_elim h
  obtain ⟨bt3, h3, h⟩ := gBool_elim h
  obtain ⟨xt9, h9, h⟩ := gInt_elim h
  rw [j1_eq (σ := σ)] at h
  have e : (ov σ [(0, .pointer (some at0)), (1, .int .i64 xt1), (3, .bool bt3), (9, .int .i64 xt9)]) = σ := ov_self (by simp [h0, h1, h3, h9])
  rw [e] at h
  exact h
def l0LO : LO := ⟨[], [], [(0, [])], []⟩
def l0Tk (k : Nat) : Spec := fun Q σ w => gAd (σ 0) fun at0 => gInt .i64 (σ 1) fun xt1 => gBool (σ 3) fun bt3 => gSlice (σ 18) fun At18 nt18 ct18 => gInt .i64 (σ 19) fun xt19 => gInt .i64 (σ 20) fun xt20 => l0 k at0 xt1 bt3 At18 nt18 ct18 xt19 xt20 w (fun w => ∀ d : Fr, Q (.exit 0) (ov d []) w)
def l0T : Spec := fun Q σ w => ∃ k, l0Tk k Q σ w
def l0tb : List (List Nat × Spec) := [([1, 1, 1, 0, 0, 1, 1, 0, 0, 1], j2T), ([1, 1, 0, 0, 1, 1, 0, 0, 1], j1T)]
noncomputable def l0b : Code := (subC [0, 0, 1] body).getD .skip
theorem l0_eq (k : Nat) (at0 : Addr) (xt1 : Int) (bt3 : Bool) (At18 : Option Addr) (nt18 ct18 : Nat) (xt19 xt20 : Int) (Q : PQ) (σ : Fr) (w : World) : l0 (k + 1) at0 xt1 bt3 At18 nt18 ct18 xt19 xt20 w (fun w => ∀ d : Fr, Q (.exit 0) (ov d []) w) = codeW Tryz.prog hT 67 D (tab l0tb) [0, 0, 1] l0b (thenQ (l0Tk k Q) (widen l0LO Q)) (ov σ [(0, .pointer (some at0)), (1, .int .i64 xt1), (3, .bool bt3), (18, .slice At18 nt18 ct18), (19, .int .i64 xt19), (20, .int .i64 xt20)]) w := by cases bt3 <;> kernel_rfl
theorem l0_snd : ∀ c, subC [0, 1] body = some c → Snd Tryz.prog 67 c l0T := by
  refine loop_of (hT := hT) (D := D) (l := l0tb) (b := l0b) (lo := l0LO) (by kernel_rfl) (by
    intro x hx
    simp only [l0tb, List.mem_cons, List.not_mem_nil, or_false] at hx
    rcases hx with rfl | rfl
    · exact j2_snd
    · exact j1_snd) (by kernel_rfl) (by kernel_rfl) ?_ ?_
  · intro Q σ w h
    unfold l0Tk at h
    obtain ⟨_, _, h⟩ := gAd_elim h
    obtain ⟨_, _, h⟩ := gInt_elim h
    obtain ⟨_, _, h⟩ := gBool_elim h
    obtain ⟨_, _, _, _, h⟩ := gSlice_elim h
    obtain ⟨_, _, h⟩ := gInt_elim h
    obtain ⟨_, _, h⟩ := gInt_elim h
    exact h
  · intro k Q σ w h
    unfold l0Tk at h
    obtain ⟨at0, h0, h⟩ := gAd_elim h
    obtain ⟨xt1, h1, h⟩ := gInt_elim h
    obtain ⟨bt3, h3, h⟩ := gBool_elim h
    obtain ⟨At18, nt18, ct18, h18, h⟩ := gSlice_elim h
    obtain ⟨xt19, h19, h⟩ := gInt_elim h
    obtain ⟨xt20, h20, h⟩ := gInt_elim h
    rw [l0_eq (σ := σ)] at h
    have e : (ov σ [(0, .pointer (some at0)), (1, .int .i64 xt1), (3, .bool bt3), (18, .slice At18 nt18 ct18), (19, .int .i64 xt19), (20, .int .i64 xt20)]) = σ := ov_self (by simp [h0, h1, h3, h18, h19, h20])
    rw [e] at h
    exact h
def tb : List (List Nat × Spec) := [([1, 1, 1, 0, 0, 1, 1, 0, 0, 1], j2T), ([1, 1, 0, 0, 1, 1, 0, 0, 1], j1T), ([0, 1], l0T)]
variable (aa0 : Addr) (xa1 : Int) (pa2 : Option Addr) (ba3 : Bool) (w : World) (Q : Ending → World → Prop)
theorem wp_eq : wp aa0 xa1 pa2 ba3 w Q = codeW Tryz.prog hT 67 D (tab tb) [] body (topQ Tryz.prog hT 67 [] Q) (argsF [.pointer (some aa0), .int .i64 xa1, .pointer pa2, .bool ba3]) w := by cases ba3 <;> kernel_rfl
theorem ok (h : wp aa0 xa1 pa2 ba3 w Q) : Calls Tryz.prog 43 #[.pointer (some aa0), .int .i64 xa1, .pointer pa2, .bool ba3] w Q := by
  rw [wp_eq] at h
  refine calls_of_codeW (c := body) (rs := []) Tryz.func43 ?_ ?_ ?_ ?_ ?_ (tab_snd (by
    intro x hx
    simp only [tb, List.mem_cons, List.not_mem_nil, or_false] at hx
    rcases hx with rfl | rfl | rfl
    · exact j2_snd
    · exact j1_snd
    · exact l0_snd)) ?_ h <;> kernel_rfl
end f_hdt_level_hang
namespace f_hdt_Graph_replace
noncomputable def body : Code := (Tryz.f45.body).getD .skip
def l1 : Nat → Addr → Int → Int → Option Addr → Int → World → (World → Prop) → Prop | 0, _, _, _, _, _, _, _ => False | k + 1, at0, xt1, xt3, pt9, xt14, w, K0 => sel (decide (xt14 > 0)) (Calls Tryz.prog 72 #[.pointer (some at0), .int .i64 xt14, .int .i64 xt3] w fun e19 w20 => e19 = .returned (.tuple #[]) ∧ (optB pt9 fun a21 => ldP w20 a21 fun p22 => Calls Tryz.prog 71 #[.pointer p22, .int .i64 xt1] w20 fun e23 w24 => ∃ x25_0 x25_1, e23 = .returned (.tuple #[.int .i64 x25_0, .int .i64 x25_1]) ∧ (l1 k at0 xt1 xt3 pt9 x25_0 w24 K0))) (K0 w)
def l3 : Nat → Addr → Int → Option Addr → World → (World → Prop) → (Bool → World → Prop) → Prop | 0, _, _, _, _, _, _ => False | k + 1, at0, xt3, pt94, w, K4, Kr => Runs Tryz.prog (Instr.next (.pointer pt94) false 0) w fun v41 w40 => ∃ b42 r42, v41 = (.tuple ⟨.bool b42 :: r42⟩) ∧ (sel b42 (Runs Tryz.prog (Instr.entry (.pointer pt94)) w40 fun v44 w43 => ∃ x45_0 b45_1, v44 = (.tuple #[.int .i64 x45_0, .bool b45_1]) ∧ (Calls Tryz.prog 74 #[.pointer (some at0), .int .i64 x45_0, .int .i64 xt3] w43 fun e46 w47 => ∃ b48, e46 = .returned (.bool b48) ∧ (sel b48 (Kr true w47) (l3 k at0 xt3 pt94 w47 K4 Kr)))) (K4 w40))
def l2 : Nat → Addr → Int → Int → Option Addr → Int → World → (World → Prop) → (Bool → World → Prop) → Prop | 0, _, _, _, _, _, _, _, _ => False | k + 1, at0, xt1, xt3, pt9, xt16, w, K2, Kr => sel (decide (xt16 > 0)) (optB pt9 fun a32 => ldM w (a32.add 1) fun m33 => Runs Tryz.prog (Instr.lookup 78 (.map m33) (.int .i64 xt16) false) w fun v35 w34 => ∃ m36, v35 = (.map m36) ∧ (Runs Tryz.prog (Instr.range 124 (.map m36)) w34 fun v38 w37 => ∃ p39, v38 = (.pointer p39) ∧ (∃ k57, l3 k57 at0 xt3 p39 w37 (fun w49 => ∀ _ : Fr, optB pt9 fun a50 => ldP w49 a50 fun p51 => Calls Tryz.prog 73 #[.pointer p51, .int .i64 xt1] w49 fun e52 w53 => ∃ x54_0 x54_1, e52 = .returned (.tuple #[.int .i64 x54_0, .int .i64 x54_1]) ∧ (l2 k at0 xt1 xt3 pt9 x54_0 w53 K2 Kr)) (fun b55 w56 => ∀ _ : Fr, Kr b55 w56)))) (K2 w)
def j0 (at0 : Addr) (xt1 xt3 : Int) (pt9 : Option Addr) (w : World) (Kr : Bool → World → Prop) : Prop := optB pt9 fun a14 => ldP w a14 fun p15 => Calls Tryz.prog 71 #[.pointer p15, .int .i64 xt1] w fun e16 w17 => ∃ x18_0 x18_1, e16 = .returned (.tuple #[.int .i64 x18_0, .int .i64 x18_1]) ∧ (∃ k62, l1 k62 at0 xt1 xt3 pt9 x18_0 w17 (fun w26 => ∀ _ : Fr, optB pt9 fun a27 => ldP w26 a27 fun p28 => Calls Tryz.prog 73 #[.pointer p28, .int .i64 xt1] w26 fun e29 w30 => ∃ x31_0 x31_1, e29 = .returned (.tuple #[.int .i64 x31_0, .int .i64 x31_1]) ∧ (∃ k61, l2 k61 at0 xt1 xt3 pt9 x31_0 w30 (fun w58 => ∀ _ : Fr, Kr false w58) (fun b59 w60 => ∀ _ : Fr, Kr b59 w60))))
def wp (aa0 : Addr) (xa1 xa2 xa3 : Int) (w : World) (Q : Ending → World → Prop) : Prop := Calls Tryz.prog 32 #[.pointer (some aa0), .int .i64 xa3] w fun e1 w2 => ∃ p3, e1 = .returned (.pointer p3) ∧ (optB p3 fun a4 => ldP w2 a4 fun p5 => Calls Tryz.prog 48 #[.pointer p5, .int .i64 xa1] w2 fun e6 w7 => ∃ x8_0 x8_1, e6 = .returned (.tuple #[.int .i64 x8_0, .int .i64 x8_1]) ∧ (optB p3 fun a9 => ldP w7 a9 fun p10 => Calls Tryz.prog 48 #[.pointer p10, .int .i64 xa2] w7 fun e11 w12 => ∃ x13_0 x13_1, e11 = .returned (.tuple #[.int .i64 x13_0, .int .i64 x13_1]) ∧ (sel (decide (x13_0 < x8_0)) (j0 aa0 xa2 xa3 p3 w12 (fun b63 w64 => ∀ _ : Fr, Q (.returned (.bool b63)) w64)) (j0 aa0 xa1 xa3 p3 w12 (fun b65 w66 => ∀ _ : Fr, Q (.returned (.bool b65)) w66)))))
def D : Nat → Option DH := dtab []
def hTe : Hint := fun t => bif Nat.beq t 1000097 then .tup [(.sc (.int .i64)), (.sc .bool)] else hT t
def l1LO : LO := ⟨[], [], [(0, [0, 1, 3, 9])], []⟩
def l1Tk (k : Nat) : Spec := fun Q σ w => gAd (σ 0) fun at0 => gInt .i64 (σ 1) fun xt1 => gInt .i64 (σ 3) fun xt3 => gPtr (σ 9) fun pt9 => gInt .i64 (σ 14) fun xt14 => l1 k at0 xt1 xt3 pt9 xt14 w (fun w => ∀ d : Fr, Q (.exit 0) (ov d [(0, .pointer (some at0)), (1, .int .i64 xt1), (3, .int .i64 xt3), (9, .pointer pt9)]) w)
def l1T : Spec := fun Q σ w => ∃ k, l1Tk k Q σ w
def l1tb : List (List Nat × Spec) := []
noncomputable def l1b : Code := (subC [0, 0, 1, 0, 1, 1, 1, 1, 1] body).getD .skip
theorem l1_eq (k : Nat) (at0 : Addr) (xt1 xt3 : Int) (pt9 : Option Addr) (xt14 : Int) (Q : PQ) (σ : Fr) (w : World) : l1 (k + 1) at0 xt1 xt3 pt9 xt14 w (fun w => ∀ d : Fr, Q (.exit 0) (ov d [(0, .pointer (some at0)), (1, .int .i64 xt1), (3, .int .i64 xt3), (9, .pointer pt9)]) w) = codeW Tryz.prog hTe 103 D (tab l1tb) [0, 0, 1, 0, 1, 1, 1, 1, 1] l1b (thenQ (l1Tk k Q) (widen l1LO Q)) (ov σ [(0, .pointer (some at0)), (1, .int .i64 xt1), (3, .int .i64 xt3), (9, .pointer pt9), (14, .int .i64 xt14)]) w := by kernel_rfl
theorem l1_snd : ∀ c, subC [0, 1, 0, 1, 1, 1, 1, 1] body = some c → Snd Tryz.prog 103 c l1T := by
  refine loop_of (hT := hTe) (D := D) (l := l1tb) (b := l1b) (lo := l1LO) (by kernel_rfl) (by
    intro x hx
    simp only [l1tb, List.not_mem_nil] at hx
    ) (by kernel_rfl) (by kernel_rfl) ?_ ?_
  · intro Q σ w h
    unfold l1Tk at h
    obtain ⟨_, _, h⟩ := gAd_elim h
    obtain ⟨_, _, h⟩ := gInt_elim h
    obtain ⟨_, _, h⟩ := gInt_elim h
    obtain ⟨_, _, h⟩ := gPtr_elim h
    obtain ⟨_, _, h⟩ := gInt_elim h
    exact h
  · intro k Q σ w h
    unfold l1Tk at h
    obtain ⟨at0, h0, h⟩ := gAd_elim h
    obtain ⟨xt1, h1, h⟩ := gInt_elim h
    obtain ⟨xt3, h3, h⟩ := gInt_elim h
    obtain ⟨pt9, h9, h⟩ := gPtr_elim h
    obtain ⟨xt14, h14, h⟩ := gInt_elim h
    rw [l1_eq (σ := σ)] at h
    have e : (ov σ [(0, .pointer (some at0)), (1, .int .i64 xt1), (3, .int .i64 xt3), (9, .pointer pt9), (14, .int .i64 xt14)]) = σ := ov_self (by simp [h0, h1, h3, h9, h14])
    rw [e] at h
    exact h
def l3LO : LO := ⟨[], [8], [(4, [0, 1, 3, 9])], []⟩
def l3Tk (k : Nat) : Spec := fun Q σ w => gAd (σ 0) fun at0 => gInt .i64 (σ 3) fun xt3 => gPtr (σ 94) fun pt94 => l3 k at0 xt3 pt94 w (fun w => ∀ d : Fr, Q (.exit 4) (ov d [(0, .pointer (some at0)), (1, σ 1), (3, .int .i64 xt3), (9, σ 9)]) w) (fun bq8 w => ∀ d : Fr, Q .ret (ov d [(8, .bool bq8)]) w)
def l3T : Spec := fun Q σ w => ∃ k, l3Tk k Q σ w
def l3tb : List (List Nat × Spec) := []
noncomputable def l3b : Code := (subC [0, 0, 1, 0, 0, 1, 0, 0, 1, 0, 1, 1, 1, 1, 1, 1] body).getD .skip
theorem l3_eq (k : Nat) (at0 : Addr) (xt3 : Int) (pt94 : Option Addr) (Q : PQ) (σ : Fr) (w : World) : l3 (k + 1) at0 xt3 pt94 w (fun w => ∀ d : Fr, Q (.exit 4) (ov d [(0, .pointer (some at0)), (1, σ 1), (3, .int .i64 xt3), (9, σ 9)]) w) (fun bq8 w => ∀ d : Fr, Q .ret (ov d [(8, .bool bq8)]) w) = codeW Tryz.prog hTe 103 D (tab l3tb) [0, 0, 1, 0, 0, 1, 0, 0, 1, 0, 1, 1, 1, 1, 1, 1] l3b (thenQ (l3Tk k Q) (widen l3LO Q)) (ov σ [(0, .pointer (some at0)), (3, .int .i64 xt3), (94, .pointer pt94)]) w := by kernel_rfl
theorem l3_snd : ∀ c, subC [0, 1, 0, 0, 1, 0, 0, 1, 0, 1, 1, 1, 1, 1, 1] body = some c → Snd Tryz.prog 103 c l3T := by
  refine loop_of (hT := hTe) (D := D) (l := l3tb) (b := l3b) (lo := l3LO) (by kernel_rfl) (by
    intro x hx
    simp only [l3tb, List.not_mem_nil] at hx
    ) (by kernel_rfl) (by kernel_rfl) ?_ ?_
  · intro Q σ w h
    unfold l3Tk at h
    obtain ⟨_, _, h⟩ := gAd_elim h
    obtain ⟨_, _, h⟩ := gInt_elim h
    obtain ⟨_, _, h⟩ := gPtr_elim h
    exact h
  · intro k Q σ w h
    unfold l3Tk at h
    obtain ⟨at0, h0, h⟩ := gAd_elim h
    obtain ⟨xt3, h3, h⟩ := gInt_elim h
    obtain ⟨pt94, h94, h⟩ := gPtr_elim h
    rw [l3_eq (σ := σ)] at h
    have e : (ov σ [(0, .pointer (some at0)), (3, .int .i64 xt3), (94, .pointer pt94)]) = σ := ov_self (by simp [h0, h3, h94])
    rw [e] at h
    exact h
def l2LO : LO := ⟨[], [8], [(2, [])], []⟩
def l2Tk (k : Nat) : Spec := fun Q σ w => gAd (σ 0) fun at0 => gInt .i64 (σ 1) fun xt1 => gInt .i64 (σ 3) fun xt3 => gPtr (σ 9) fun pt9 => gInt .i64 (σ 16) fun xt16 => l2 k at0 xt1 xt3 pt9 xt16 w (fun w => ∀ d : Fr, Q (.exit 2) (ov d []) w) (fun bq8 w => ∀ d : Fr, Q .ret (ov d [(8, .bool bq8)]) w)
def l2T : Spec := fun Q σ w => ∃ k, l2Tk k Q σ w
def l2tb : List (List Nat × Spec) := [([0, 1, 0, 0, 1, 0, 0, 1, 0, 1, 1, 1, 1, 1, 1], l3T)]
noncomputable def l2b : Code := (subC [0, 0, 1, 0, 1, 1, 1, 1, 1, 1] body).getD .skip
theorem l2_eq (k : Nat) (at0 : Addr) (xt1 xt3 : Int) (pt9 : Option Addr) (xt16 : Int) (Q : PQ) (σ : Fr) (w : World) : l2 (k + 1) at0 xt1 xt3 pt9 xt16 w (fun w => ∀ d : Fr, Q (.exit 2) (ov d []) w) (fun bq8 w => ∀ d : Fr, Q .ret (ov d [(8, .bool bq8)]) w) = codeW Tryz.prog hTe 103 D (tab l2tb) [0, 0, 1, 0, 1, 1, 1, 1, 1, 1] l2b (thenQ (l2Tk k Q) (widen l2LO Q)) (ov σ [(0, .pointer (some at0)), (1, .int .i64 xt1), (3, .int .i64 xt3), (9, .pointer pt9), (16, .int .i64 xt16)]) w := by kernel_rfl
theorem l2_snd : ∀ c, subC [0, 1, 0, 1, 1, 1, 1, 1, 1] body = some c → Snd Tryz.prog 103 c l2T := by
  refine loop_of (hT := hTe) (D := D) (l := l2tb) (b := l2b) (lo := l2LO) (by kernel_rfl) (by
    intro x hx
    simp only [l2tb, List.mem_cons, List.not_mem_nil, or_false] at hx
    subst hx
    exact l3_snd) (by kernel_rfl) (by kernel_rfl) ?_ ?_
  · intro Q σ w h
    unfold l2Tk at h
    obtain ⟨_, _, h⟩ := gAd_elim h
    obtain ⟨_, _, h⟩ := gInt_elim h
    obtain ⟨_, _, h⟩ := gInt_elim h
    obtain ⟨_, _, h⟩ := gPtr_elim h
    obtain ⟨_, _, h⟩ := gInt_elim h
    exact h
  · intro k Q σ w h
    unfold l2Tk at h
    obtain ⟨at0, h0, h⟩ := gAd_elim h
    obtain ⟨xt1, h1, h⟩ := gInt_elim h
    obtain ⟨xt3, h3, h⟩ := gInt_elim h
    obtain ⟨pt9, h9, h⟩ := gPtr_elim h
    obtain ⟨xt16, h16, h⟩ := gInt_elim h
    rw [l2_eq (σ := σ)] at h
    have e : (ov σ [(0, .pointer (some at0)), (1, .int .i64 xt1), (3, .int .i64 xt3), (9, .pointer pt9), (16, .int .i64 xt16)]) = σ := ov_self (by simp [h0, h1, h3, h9, h16])
    rw [e] at h
    exact h
def j0LO : LO := ⟨[], [8], [], []⟩
def j0T : Spec := fun Q σ w => gAd (σ 0) fun at0 => gInt .i64 (σ 1) fun xt1 => gInt .i64 (σ 3) fun xt3 => gPtr (σ 9) fun pt9 => j0 at0 xt1 xt3 pt9 w (fun bq8 w => ∀ d : Fr, Q .ret (ov d [(8, .bool bq8)]) w)
def j0tb : List (List Nat × Spec) := [([0, 1, 0, 1, 1, 1, 1, 1], l1T), ([0, 1, 0, 0, 1, 0, 0, 1, 0, 1, 1, 1, 1, 1, 1], l3T), ([0, 1, 0, 1, 1, 1, 1, 1, 1], l2T)]
noncomputable def j0b : Code := (subC [1, 1, 1, 1, 1] body).getD .skip
theorem j0_eq (at0 : Addr) (xt1 xt3 : Int) (pt9 : Option Addr) (Q : PQ) (σ : Fr) (w : World) : j0 at0 xt1 xt3 pt9 w (fun bq8 w => ∀ d : Fr, Q .ret (ov d [(8, .bool bq8)]) w) = codeW Tryz.prog hTe 103 D (tab j0tb) [1, 1, 1, 1, 1] j0b (widen j0LO Q) (ov σ [(0, .pointer (some at0)), (1, .int .i64 xt1), (3, .int .i64 xt3), (9, .pointer pt9)]) w := by kernel_rfl
theorem j0_snd : ∀ c, subC [1, 1, 1, 1, 1] body = some c → Snd Tryz.prog 103 c j0T := by
  refine cut_of (hT := hTe) (D := D) (l := j0tb) (b := j0b) (lo := j0LO) (by kernel_rfl) (by
    intro x hx
    simp only [j0tb, List.mem_cons, List.not_mem_nil, or_false] at hx
    rcases hx with rfl | rfl | rfl
    · exact l1_snd
    · exact l3_snd
    · exact l2_snd) (by kernel_rfl) (by kernel_rfl) ?_
  intro Q σ w h
  unfold j0T at h
  obtain ⟨at0, h0, h⟩ := gAd_elim h
  obtain ⟨xt1, h1, h⟩ := gInt_elim h
  obtain ⟨xt3, h3, h⟩ := gInt_elim h
  obtain ⟨pt9, h9, h⟩ := gPtr_elim h
  rw [j0_eq (σ := σ)] at h
  have e : (ov σ [(0, .pointer (some at0)), (1, .int .i64 xt1), (3, .int .i64 xt3), (9, .pointer pt9)]) = σ := ov_self (by simp [h0, h1, h3, h9])
  rw [e] at h
  exact h
def tb : List (List Nat × Spec) := [([0, 1, 0, 1, 1, 1, 1, 1], l1T), ([0, 1, 0, 0, 1, 0, 0, 1, 0, 1, 1, 1, 1, 1, 1], l3T), ([0, 1, 0, 1, 1, 1, 1, 1, 1], l2T), ([1, 1, 1, 1, 1], j0T)]
variable (aa0 : Addr) (xa1 xa2 xa3 : Int) (w : World) (Q : Ending → World → Prop)
theorem wp_eq : wp aa0 xa1 xa2 xa3 w Q = codeW Tryz.prog hTe 103 D (tab tb) [] body (topQ Tryz.prog hTe 103 [.tmp 8] Q) (argsF [.pointer (some aa0), .int .i64 xa1, .int .i64 xa2, .int .i64 xa3]) w := by kernel_rfl
theorem ok (h : wp aa0 xa1 xa2 xa3 w Q) : Calls Tryz.prog 45 #[.pointer (some aa0), .int .i64 xa1, .int .i64 xa2, .int .i64 xa3] w Q := by
  rw [wp_eq] at h
  refine calls_of_codeW (c := body) (rs := [.tmp 8]) Tryz.func45 ?_ ?_ ?_ ?_ ?_ (tab_snd (by
    intro x hx
    simp only [tb, List.mem_cons, List.not_mem_nil, or_false] at hx
    rcases hx with rfl | rfl | rfl | rfl
    · exact l1_snd
    · exact l3_snd
    · exact l2_snd
    · exact j0_snd)) ?_ h <;> kernel_rfl
end f_hdt_Graph_replace
namespace f_hdt_Graph_raise
noncomputable def body : Code := (Tryz.f72.body).getD .skip
def od0 : OD := ⟨[0, 1, 2], [3, 5, 9], fun i => ([⟨false, [], [], fun ps vs => match ps, vs with | [.pointer (some ap0), .int _ xp1, .int _ xp2], [] => .pointer (some ap0) | _, _ => undef⟩,
  ⟨false, [], [0], fun ps vs => match ps, vs with | [.pointer (some ap0), .int _ xp1, .int _ xp2], [] => .pointer (some ap0) | _, _ => undef⟩,
  ⟨false, [], [1], fun ps vs => match ps, vs with | [.pointer (some ap0), .int _ xp1, .int _ xp2], [] => .pointer (some (ap0.add 3)) | _, _ => undef⟩,
  ⟨true, [], [2], fun _ _ => undef⟩,
  ⟨false, [], [], fun ps vs => match ps, vs with | [.pointer (some ap0), .int _ xp1, .int _ xp2], [] => .int .i64 xp1 | _, _ => undef⟩,
  ⟨true, [3], [3, 4], fun _ _ => undef⟩,
  ⟨false, [], [], fun ps vs => match ps, vs with | [.pointer (some ap0), .int _ xp1, .int _ xp2], [] => .pointer (some ap0) | _, _ => undef⟩,
  ⟨false, [], [], fun ps vs => match ps, vs with | [.pointer (some ap0), .int _ xp1, .int _ xp2], [] => .int .i64 xp2 | _, _ => undef⟩,
  ⟨false, [], [7], fun ps vs => match ps, vs with | [.pointer (some ap0), .int _ xp1, .int _ xp2], [] => .int .i64 (IntKind.i64.wrap (xp2 + 1)) | _, _ => undef⟩,
  ⟨true, [], [6, 8], fun _ _ => undef⟩,
  ⟨false, [3, 5, 9], [5], fun ps vs => match ps, vs with | [.pointer (some ap0), .int _ xp1, .int _ xp2], [.map me3, .pointer pe5, .pointer pe9] => .pointer pe5 | _, _ => undef⟩,
  ⟨false, [3, 5, 9], [9], fun ps vs => match ps, vs with | [.pointer (some ap0), .int _ xp1, .int _ xp2], [.map me3, .pointer pe5, .pointer pe9] => .pointer pe9 | _, _ => undef⟩] : List OI).getD i ⟨true, [], [], fun _ _ => undef⟩, fun i => ([.one (.sc .any), .one (.sc .any), .one (.sc .any), (.one (.sc .map)), .one (.sc .any), (.one (.sc .ptr)), .one (.sc .any), .one (.sc .any), .one (.sc .any), (.one (.sc .ptr)), .one (.sc .any), .one (.sc .any)] : List OS).getD i (.one (.sc .any))⟩
def h0 (ap0 : Addr) (xp1 xp2 : Int) : Prop := (∀ (_ : Fr) (w : World), w = w ∧ (.pointer (some ap0) : Value) = (.pointer (some ap0))) ∧ (∀ (_ : Fr) (w : World), w = w ∧ (.pointer (some ap0) : Value) = (.pointer (some ap0))) ∧ (∀ (_ : Fr) (w : World), w = w ∧ (.pointer (some (ap0.add 3)) : Value) = (.pointer (some (ap0.add 3)))) ∧ (∀ (_ : Fr) (w : World), w = w ∧ (.int .i64 xp1 : Value) = (.int .i64 xp1)) ∧ (∀ (_ : Fr) (w : World), w = w ∧ (.pointer (some ap0) : Value) = (.pointer (some ap0))) ∧ (∀ (_ : Fr) (w : World), w = w ∧ (.int .i64 xp2 : Value) = (.int .i64 xp2)) ∧ (∀ (_ : Fr) (w : World), w = w ∧ (.int .i64 (IntKind.i64.wrap (xp2 + 1)) : Value) = (.int .i64 (IntKind.i64.wrap (xp2 + 1)))) ∧ (∀ (_ : Fr) (w : World), ∀ (me3 : Option Nat), ∀ (pe5 : Option Addr), ∀ (pe9 : Option Addr), w = w ∧ (.pointer pe5 : Value) = (.pointer pe5)) ∧ (∀ (_ : Fr) (w : World), ∀ (me3 : Option Nat), ∀ (pe5 : Option Addr), ∀ (pe9 : Option Addr), w = w ∧ (.pointer pe9 : Value) = (.pointer pe9)) ∧ True
theorem h0_ok (ap0 : Addr) (xp1 xp2 : Int) : h0 ap0 xp1 xp2 := ⟨fun _ w => ⟨rfl, rfl⟩, fun _ w => ⟨rfl, rfl⟩, fun _ w => ⟨rfl, rfl⟩, fun _ w => ⟨rfl, rfl⟩, fun _ w => ⟨rfl, rfl⟩, fun _ w => ⟨rfl, rfl⟩, fun _ w => ⟨rfl, rfl⟩, fun _ w _ _ _ => ⟨rfl, rfl⟩, fun _ w _ _ _ => ⟨rfl, rfl⟩, trivial⟩
def wp (aa0 : Addr) (xa1 xa2 : Int) (w : World) (Q : Ending → World → Prop) : Prop := drW w fun w1 => h0 aa0 xa1 xa2 ∧ ∃ (G2 : World → World → Prop) (Φ3 : Nat → Value → World → Prop), (∀ w, G2 w w) ∧ (∀ a b c, G2 a b → G2 b c → G2 a c) ∧ (∀ i v a b, G2 w1 a → G2 a b → Φ3 i v a → Φ3 i v b) ∧ ((∀ (_ : Fr) (w4 : World), G2 w1 w4 → (ldM w4 (aa0.add 3) fun m5 => G2 w4 w4 ∧ Φ3 3 (.map m5) w4)) ∧ (∀ (_ : Fr) (w6 : World), G2 w1 w6 → ∀ (me3 : Option Nat), Φ3 3 (.map me3) w6 → (Runs Tryz.prog (Instr.lookup 65 (.map me3) (.int .i64 xa1) false) w6 fun v8 w7 => ∃ p9, v8 = (.pointer p9) ∧ (G2 w6 w7 ∧ Φ3 5 (.pointer p9) w7))) ∧ (∀ (_ : Fr) (w10 : World), G2 w1 w10 → (Calls Tryz.prog 32 #[.pointer (some aa0), .int .i64 (IntKind.i64.wrap (xa2 + 1))] w10 fun e11 w12 => ∃ p13, e11 = .returned (.pointer p13) ∧ (G2 w10 w12 ∧ Φ3 9 (.pointer p13) w12))) ∧ True) ∧ ∀ w14, G2 w1 w14 → ∀ (me3 : Option Nat), Φ3 3 (.map me3) w14 → ∀ (pe5 : Option Addr), Φ3 5 (.pointer pe5) w14 → ∀ (pe9 : Option Addr), Φ3 9 (.pointer pe9) w14 → (Calls Tryz.prog 32 #[.pointer (some aa0), .int .i64 xa2] w14 fun e15 w16 => ∃ p17, e15 = .returned (.pointer p17) ∧ (optB p17 fun a18 => ldP w16 a18 fun p19 => Calls Tryz.prog 42 #[.pointer p19, .int .i64 xa1, .bool false] w16 fun e20 w21 => ∃ x22, e20 = .returned (.int .i64 x22) ∧ (optB pe5 fun a23 => ldI w21 (a23.add 2) .i64 fun x24 => optB pe5 fun a25 => stW w21 (a25.add 2) (.int .i64 (IntKind.i64.wrap (x24 + 1))) fun w26 => drW w26 fun w27 => optB pe9 fun a29 => ldP w27 a29 fun p30 => optB pe5 fun a31 => ldI w27 a31 .i64 fun x32 => optB pe5 fun a33 => ldI w27 (a33.add 1) .i64 fun x34 => Calls Tryz.prog 41 #[.pointer p30, .int .i64 xa1, .int .i64 x32, .int .i64 x34] w27 fun e35 w36 => ∃ x37, e35 = .returned (.int .i64 x37) ∧ (optB pe9 fun a38 => ldP w36 a38 fun p39 => Calls Tryz.prog 42 #[.pointer p39, .int .i64 xa1, .bool true] w36 fun e40 w41 => ∃ x42, e40 = .returned (.int .i64 x42) ∧ (Q (.returned (.tuple #[])) w41)))))
def D : Nat → Option DH := dtab [(0, .opn od0), (3, .simple [.fst 0, .fst 1, .fst 2, .fst 3, .fst 4, .fst 5, .fst 6, .fst 7, .fst 8, .fst 9, .fst 10, .fst 11, .fst 12] [.eff 13])]
def tb : List (List Nat × Spec) := []
variable (aa0 : Addr) (xa1 xa2 : Int) (w : World) (Q : Ending → World → Prop)
theorem wp_eq : wp aa0 xa1 xa2 w Q = codeW Tryz.prog hT 53 D (tab tb) [] body (topQ Tryz.prog hT 53 [] Q) (argsF [.pointer (some aa0), .int .i64 xa1, .int .i64 xa2]) w := by kernel_rfl
theorem ok (h : wp aa0 xa1 xa2 w Q) : Calls Tryz.prog 72 #[.pointer (some aa0), .int .i64 xa1, .int .i64 xa2] w Q := by
  rw [wp_eq] at h
  refine calls_of_codeW (c := body) (rs := []) Tryz.func72 ?_ ?_ ?_ ?_ ?_ (tab_snd (by
    intro x hx
    simp only [tb, List.not_mem_nil] at hx
    )) ?_ h <;> kernel_rfl
end f_hdt_Graph_raise
namespace f_hdt_Graph_joins
noncomputable def body : Code := (Tryz.f74.body).getD .skip
def od1 : OD := ⟨[0, 1, 2], [2, 6, 8], fun i => ([⟨false, [], [], fun ps vs => match ps, vs with | [.pointer (some ap0), .int _ xp1, .int _ xp2], [] => .pointer (some ap0) | _, _ => undef⟩,
  ⟨false, [], [], fun ps vs => match ps, vs with | [.pointer (some ap0), .int _ xp1, .int _ xp2], [] => .int .i64 xp2 | _, _ => undef⟩,
  ⟨true, [], [0, 1], fun _ _ => undef⟩,
  ⟨false, [], [], fun ps vs => match ps, vs with | [.pointer (some ap0), .int _ xp1, .int _ xp2], [] => .pointer (some ap0) | _, _ => undef⟩,
  ⟨false, [], [3], fun ps vs => match ps, vs with | [.pointer (some ap0), .int _ xp1, .int _ xp2], [] => .pointer (some ap0) | _, _ => undef⟩,
  ⟨false, [], [4], fun ps vs => match ps, vs with | [.pointer (some ap0), .int _ xp1, .int _ xp2], [] => .pointer (some (ap0.add 3)) | _, _ => undef⟩,
  ⟨true, [], [5], fun _ _ => undef⟩,
  ⟨false, [], [], fun ps vs => match ps, vs with | [.pointer (some ap0), .int _ xp1, .int _ xp2], [] => .int .i64 xp1 | _, _ => undef⟩,
  ⟨true, [6], [6, 7], fun _ _ => undef⟩,
  ⟨false, [2], [2], fun ps vs => match ps, vs with | [.pointer (some ap0), .int _ xp1, .int _ xp2], [.pointer pe2] => .pointer pe2 | _, _ => undef⟩,
  ⟨false, [2, 6, 8], [8], fun ps vs => match ps, vs with | [.pointer (some ap0), .int _ xp1, .int _ xp2], [.pointer pe2, .map me6, .pointer pe8] => .pointer pe8 | _, _ => undef⟩] : List OI).getD i ⟨true, [], [], fun _ _ => undef⟩, fun i => ([.one (.sc .any), .one (.sc .any), (.one (.sc .ptr)), .one (.sc .any), .one (.sc .any), .one (.sc .any), (.one (.sc .map)), .one (.sc .any), (.one (.sc .ptr)), .one (.sc .any), .one (.sc .any)] : List OS).getD i (.one (.sc .any))⟩
def h1 (ap0 : Addr) (xp1 xp2 : Int) : Prop := (∀ (_ : Fr) (w : World), w = w ∧ (.pointer (some ap0) : Value) = (.pointer (some ap0))) ∧ (∀ (_ : Fr) (w : World), w = w ∧ (.int .i64 xp2 : Value) = (.int .i64 xp2)) ∧ (∀ (_ : Fr) (w : World), w = w ∧ (.pointer (some ap0) : Value) = (.pointer (some ap0))) ∧ (∀ (_ : Fr) (w : World), w = w ∧ (.pointer (some ap0) : Value) = (.pointer (some ap0))) ∧ (∀ (_ : Fr) (w : World), w = w ∧ (.pointer (some (ap0.add 3)) : Value) = (.pointer (some (ap0.add 3)))) ∧ (∀ (_ : Fr) (w : World), w = w ∧ (.int .i64 xp1 : Value) = (.int .i64 xp1)) ∧ (∀ (_ : Fr) (w : World), ∀ (pe2 : Option Addr), w = w ∧ (.pointer pe2 : Value) = (.pointer pe2)) ∧ (∀ (_ : Fr) (w : World), ∀ (pe2 : Option Addr), ∀ (me6 : Option Nat), ∀ (pe8 : Option Addr), w = w ∧ (.pointer pe8 : Value) = (.pointer pe8)) ∧ True
theorem h1_ok (ap0 : Addr) (xp1 xp2 : Int) : h1 ap0 xp1 xp2 := ⟨fun _ w => ⟨rfl, rfl⟩, fun _ w => ⟨rfl, rfl⟩, fun _ w => ⟨rfl, rfl⟩, fun _ w => ⟨rfl, rfl⟩, fun _ w => ⟨rfl, rfl⟩, fun _ w => ⟨rfl, rfl⟩, fun _ w _ => ⟨rfl, rfl⟩, fun _ w _ _ _ => ⟨rfl, rfl⟩, trivial⟩
def l0 : Nat → Addr → Int → Int → Option Addr → Int → World → (World → Prop) → Prop | 0, _, _, _, _, _, _, _ => False | k + 1, at0, xt1, xt2, pt8, xt11, w, K0 => sel (decide (xt11 ≤ xt2)) (drW w fun w39 => ∃ S40 : World → Prop, S40 w39 ∧ (optB pt8 fun a41 => hdI S40 a41 .i64 fun x42 => optB pt8 fun a43 => hdI S40 (a43.add 1) .i64 fun x44 => Calls Tryz.prog 32 #[.pointer (some at0), .int .i64 xt11] w39 fun e45 w46 => ∃ p47, e45 = .returned (.pointer p47) ∧ (S40 w46 ∧ (optB p47 fun a48 => hdP S40 a48 fun p49 => Calls Tryz.prog 41 #[.pointer p49, .int .i64 xt1, .int .i64 x42, .int .i64 x44] w46 fun e50 w51 => ∃ x52, e50 = .returned (.int .i64 x52) ∧ (l0 k at0 xt1 xt2 pt8 (IntKind.i64.wrap (xt11 + 1)) w51 K0))))) (K0 w)
def wp (aa0 : Addr) (xa1 xa2 : Int) (w : World) (Q : Ending → World → Prop) : Prop := drW w fun w1 => h1 aa0 xa1 xa2 ∧ ∃ (G2 : World → World → Prop) (Φ3 : Nat → Value → World → Prop), (∀ w, G2 w w) ∧ (∀ a b c, G2 a b → G2 b c → G2 a c) ∧ (∀ i v a b, G2 w1 a → G2 a b → Φ3 i v a → Φ3 i v b) ∧ ((∀ (_ : Fr) (w4 : World), G2 w1 w4 → (Calls Tryz.prog 32 #[.pointer (some aa0), .int .i64 xa2] w4 fun e5 w6 => ∃ p7, e5 = .returned (.pointer p7) ∧ (G2 w4 w6 ∧ Φ3 2 (.pointer p7) w6))) ∧ (∀ (_ : Fr) (w8 : World), G2 w1 w8 → (ldM w8 (aa0.add 3) fun m9 => G2 w8 w8 ∧ Φ3 6 (.map m9) w8)) ∧ (∀ (_ : Fr) (w10 : World), G2 w1 w10 → ∀ (me6 : Option Nat), Φ3 6 (.map me6) w10 → (Runs Tryz.prog (Instr.lookup 65 (.map me6) (.int .i64 xa1) false) w10 fun v12 w11 => ∃ p13, v12 = (.pointer p13) ∧ (G2 w10 w11 ∧ Φ3 8 (.pointer p13) w11))) ∧ True) ∧ ∀ w14, G2 w1 w14 → ∀ (pe2 : Option Addr), Φ3 2 (.pointer pe2) w14 → ∀ (me6 : Option Nat), Φ3 6 (.map me6) w14 → ∀ (pe8 : Option Addr), Φ3 8 (.pointer pe8) w14 → (Calls Tryz.prog 43 #[.pointer pe2, .int .i64 xa1, .pointer pe8, .bool false] w14 fun e15 w16 => e15 = .returned (.tuple #[]) ∧ (drW w16 fun w17 => optB pe2 fun a19 => ldP w17 a19 fun p20 => optB pe8 fun a21 => ldI w17 a21 .i64 fun x22 => optB pe8 fun a23 => ldI w17 (a23.add 1) .i64 fun x24 => Calls Tryz.prog 37 #[.pointer p20, .int .i64 x22, .int .i64 x24] w17 fun e25 w26 => ∃ b27_0 x27_1, e25 = .returned (.tuple #[.bool b27_0, .int .i64 x27_1]) ∧ (sel b27_0 (optB pe8 fun a28 => ldI w26 (a28.add 2) .i64 fun x29 => optB pe8 fun a30 => stW w26 (a30.add 2) (.int .i64 (IntKind.i64.wrap (x29 + 1))) fun w31 => Calls Tryz.prog 32 #[.pointer (some aa0), .int .i64 (IntKind.i64.wrap (xa2 + 1))] w31 fun e32 w33 => ∃ p34, e32 = .returned (.pointer p34) ∧ (Calls Tryz.prog 43 #[.pointer p34, .int .i64 xa1, .pointer pe8, .bool true] w33 fun e35 w36 => e35 = .returned (.tuple #[]) ∧ (Q (.returned (.bool false)) w36))) (optB pe8 fun a37 => stW w26 (a37.add 3) (.bool true) fun w38 => ∃ k59, l0 k59 aa0 xa1 xa2 pe8 0 w38 (fun w53 => ∀ _ : Fr, optB pe2 fun a54 => ldP w53 a54 fun p55 => Calls Tryz.prog 42 #[.pointer p55, .int .i64 xa1, .bool true] w53 fun e56 w57 => ∃ x58, e56 = .returned (.int .i64 x58) ∧ (Q (.returned (.bool true)) w57))))))
def D : Nat → Option DH := dtab [(1, .opn od1), (3, .simple [.fst 0, .fst 1, .fst 2, .fst 3, .fst 4, .fst 5, .fst 6, .fst 7, .fst 8, .fst 9, .fst 10, .fst 11] [.eff 12, .fst 13, .fst 14, .fst 15, .fst 16, .fst 17]), (12, .held [.fst 0, .fst 1, .fst 6, .fst 7, .fst 8, .fst 9, .fst 10, .fst 11, .fst 12, .fst 13, .fst 14, .eff 2, .fst 3, .fst 4, .fst 5] [.eff 15])]
def l0LO : LO := ⟨[], [], [(0, [1, 7])], []⟩
def l0Tk (k : Nat) : Spec := fun Q σ w => gAd (σ 0) fun at0 => gInt .i64 (σ 1) fun xt1 => gInt .i64 (σ 2) fun xt2 => gPtr (σ 8) fun pt8 => gInt .i64 (σ 11) fun xt11 => l0 k at0 xt1 xt2 pt8 xt11 w (fun w => ∀ d : Fr, Q (.exit 0) (ov d [(1, .int .i64 xt1), (7, σ 7)]) w)
def l0T : Spec := fun Q σ w => ∃ k, l0Tk k Q σ w
def l0tb : List (List Nat × Spec) := []
noncomputable def l0b : Code := (subC [0, 0, 1, 0, 1, 1, 1, 1, 1] body).getD .skip
theorem l0_eq (k : Nat) (at0 : Addr) (xt1 xt2 : Int) (pt8 : Option Addr) (xt11 : Int) (Q : PQ) (σ : Fr) (w : World) : l0 (k + 1) at0 xt1 xt2 pt8 xt11 w (fun w => ∀ d : Fr, Q (.exit 0) (ov d [(1, .int .i64 xt1), (7, σ 7)]) w) = codeW Tryz.prog hT 86 D (tab l0tb) [0, 0, 1, 0, 1, 1, 1, 1, 1] l0b (thenQ (l0Tk k Q) (widen l0LO Q)) (ov σ [(0, .pointer (some at0)), (1, .int .i64 xt1), (2, .int .i64 xt2), (8, .pointer pt8), (11, .int .i64 xt11)]) w := by kernel_rfl
theorem l0_snd : ∀ c, subC [0, 1, 0, 1, 1, 1, 1, 1] body = some c → Snd Tryz.prog 86 c l0T := by
  refine loop_of (hT := hT) (D := D) (l := l0tb) (b := l0b) (lo := l0LO) (by kernel_rfl) (by
    intro x hx
    simp only [l0tb, List.not_mem_nil] at hx
    ) (by kernel_rfl) (by kernel_rfl) ?_ ?_
  · intro Q σ w h
    unfold l0Tk at h
    obtain ⟨_, _, h⟩ := gAd_elim h
    obtain ⟨_, _, h⟩ := gInt_elim h
    obtain ⟨_, _, h⟩ := gInt_elim h
    obtain ⟨_, _, h⟩ := gPtr_elim h
    obtain ⟨_, _, h⟩ := gInt_elim h
    exact h
  · intro k Q σ w h
    unfold l0Tk at h
    obtain ⟨at0, h0, h⟩ := gAd_elim h
    obtain ⟨xt1, h1, h⟩ := gInt_elim h
    obtain ⟨xt2, h2, h⟩ := gInt_elim h
    obtain ⟨pt8, h8, h⟩ := gPtr_elim h
    obtain ⟨xt11, h11, h⟩ := gInt_elim h
    rw [l0_eq (σ := σ)] at h
    have e : (ov σ [(0, .pointer (some at0)), (1, .int .i64 xt1), (2, .int .i64 xt2), (8, .pointer pt8), (11, .int .i64 xt11)]) = σ := ov_self (by simp [h0, h1, h2, h8, h11])
    rw [e] at h
    exact h
def tb : List (List Nat × Spec) := [([0, 1, 0, 1, 1, 1, 1, 1], l0T)]
variable (aa0 : Addr) (xa1 xa2 : Int) (w : World) (Q : Ending → World → Prop)
theorem wp_eq : wp aa0 xa1 xa2 w Q = codeW Tryz.prog hT 86 D (tab tb) [] body (topQ Tryz.prog hT 86 [.tmp 6] Q) (argsF [.pointer (some aa0), .int .i64 xa1, .int .i64 xa2]) w := by kernel_rfl
theorem ok (h : wp aa0 xa1 xa2 w Q) : Calls Tryz.prog 74 #[.pointer (some aa0), .int .i64 xa1, .int .i64 xa2] w Q := by
  rw [wp_eq] at h
  refine calls_of_codeW (c := body) (rs := [.tmp 6]) Tryz.func74 ?_ ?_ ?_ ?_ ?_ (tab_snd (by
    intro x hx
    simp only [tb, List.mem_cons, List.not_mem_nil, or_false] at hx
    subst hx
    exact l0_snd)) ?_ h <;> kernel_rfl
end f_hdt_Graph_joins
end Go.Proofs.YtbhhbnnmdekjiaaGreat.Rd
