/- Values and ends of edges, at the document's examples. Conditions: none. -/
import Derived.Test.YtakgoekfnhkgaaaDoorKeH
namespace Go.Proofs.YtakgoekfnhkgaaaDoor.Rd
open Go.Dn Go.RowKit Go.Lib
set_option linter.unusedVariables false
set_option linter.unusedSimpArgs false
set_option maxRecDepth 100000
theorem hb_ldC {w : World} {b : Nat} {cs : Array Value} {t : TypeId} (h : HB w b cs t) {j : Nat} {x y : Nat} (hj : cs[j]? = some (.complex .f64 x y)) {K : Nat → Nat → Prop} (hk : K x y) : ldC w ((⟨b, 0, none⟩ : Addr).add j) .f64 K := ⟨x, y, (h.cell j).trans hj, hk⟩
abbrev b3 : Nat := 4613937818241073152
abbrev b1 : Nat := 4607182418800017408
section
variable {w : World}
theorem whole_at {x : Nat} (hx : x = b3 ∨ x = b1) : Calls Tryd.prog 71 #[.float .f64 x] w fun e w' => e = .returned (.bool true) ∧ w' = w := by
  have habs : Calls Tryd.prog 79 #[.float .f64 x] w fun e w' => e = .returned (.float .f64 x) ∧ w' = w := by
    apply f_math_Abs.ok
    unfold f_math_Abs.wp
    refine runs_of (a := .value (.int .u64 (x : Int))) (w' := w) ?_ ⟨_, rfl, ?_⟩
    · rw [run_callFunc_extern (P := Tryd.prog) Tryd.func92 (by kernel_rfl) (by kernel_rfl) (by kernel_rfl) (e := Extern.MathFloatBits.float64bits) (by kernel_rfl)]
      rfl
    · have e : bandn .u64 (x : Int) 9223372036854775808 = (x : Int) := by rcases hx with rfl | rfl <;> rfl
      rw [e]
      refine runs_of (a := .value (.float .f64 x)) (w' := w) ?_ ⟨_, rfl, rfl, rfl⟩
      rw [run_callFunc_extern (P := Tryd.prog) Tryd.func91 (by kernel_rfl) (by kernel_rfl) (by kernel_rfl) (e := Extern.MathFloatBits.float64frombits) (by kernel_rfl)]
      rcases hx with rfl | rfl <;> rfl
  have htr : Calls Tryd.prog 80 #[.float .f64 x] w fun e w' => e = .returned (.float .f64 x) ∧ w' = w := by
    apply f_math_Trunc.ok
    unfold f_math_Trunc.wp
    refine runs_of (a := .value (.float .f64 x)) (w' := w) ?_ ⟨_, rfl, rfl, rfl⟩
    rw [run_callFunc_extern (P := Tryd.prog) Tryd.func93 (by kernel_rfl) (by kernel_rfl) (by kernel_rfl) (e := Extern.MathFloor.toIntegral "math.archTrunc" .zero) (by kernel_rfl)]
    rcases hx with rfl | rfl <;> kernel_rfl
  apply f_gauss_whole.ok
  unfold f_gauss_whole.wp
  refine habs.mono ?_
  rintro _ w ⟨rfl, rfl⟩
  refine ⟨_, rfl, runs_of (a := .bool true) (w' := w) (by rcases hx with rfl | rfl <;> kernel_rfl) ⟨true, rfl, sel_t rfl (htr.mono ?_)⟩⟩
  rintro _ w ⟨rfl, rfl⟩
  exact ⟨_, rfl, runs_of (a := .bool true) (w' := w) (by rcases hx with rfl | rfl <;> kernel_rfl) ⟨true, rfl, rfl, rfl⟩⟩
theorem Fits_at : Calls Tryd.prog 59 #[.complex .f64 b3 b1] w fun e w' => e = .returned (.bool true) ∧ w' = w := by
  apply f_gauss_Fits.ok
  unfold f_gauss_Fits.wp
  refine (whole_at (.inl rfl)).mono ?_
  rintro _ w ⟨rfl, rfl⟩
  refine ⟨_, rfl, sel_t rfl ((whole_at (.inr rfl)).mono ?_)⟩
  rintro _ w ⟨rfl, rfl⟩
  exact ⟨_, rfl, rfl, rfl⟩
theorem Parts_at : Calls Tryd.prog 68 #[.complex .f64 b3 b1] w fun e w' => e = .returned (.tuple #[.int .i64 3, .int .i64 1, .int .i64 0]) ∧ w' = w := by
  apply f_gauss_Parts.ok
  unfold f_gauss_Parts.wp
  refine Fits_at.mono ?_
  rintro _ w ⟨rfl, rfl⟩
  refine ⟨_, rfl, sel_f rfl (runs_of (a := .int .i64 3) (w' := w) (by kernel_rfl) ⟨_, rfl, runs_of (a := .int .i64 1) (w' := w) (by kernel_rfl) ⟨_, rfl, rfl, rfl⟩⟩)⟩
theorem Of_at : Calls Tryd.prog 69 #[.int .i64 3, .int .i64 1] w fun e w' => e = .returned (.tuple #[.complex .f64 b3 b1, .int .i64 0]) ∧ w' = w := by
  apply f_gauss_Of.ok
  unfold f_gauss_Of.wp
  exact sel_f (by decide) (sel_f (by decide) (runs_of (a := .float .f64 b3) (w' := w) (by kernel_rfl) ⟨_, rfl, runs_of (a := .float .f64 b1) (w' := w) (by kernel_rfl) ⟨_, rfl, rfl, rfl⟩⟩))
theorem GPut_at : Calls Tryd.prog 50 #[.complex .f64 b3 b1] w fun e w' => ∃ A c, e = .returned (.tuple #[.slice A 2 c, .int .i64 0]) ∧ OwnB w' w.heap.size TU8 A c [6, 2] ∧ Below w.heap.size w w' := by
  apply f_gauss_Put.ok
  unfold f_gauss_Put.wp
  refine Parts_at.mono ?_
  rintro _ w ⟨rfl, rfl⟩
  refine ⟨_, _, _, rfl, sel_f rfl ((PutS_ok 3 (by decide)).mono ?_)⟩
  rintro _ w1 ⟨A1, c1, rfl, o1, g1⟩
  refine ⟨_, _, _, rfl, (PutS_ok 1 (by decide)).mono ?_⟩
  rintro _ w2 ⟨A2, c2, rfl, o2, g2⟩
  have s1 := g1.size
  have s2 := g2.size
  have p1 : putL (fold 3) = [6] := by decide
  have p2 : putL (fold 1) = [2] := by decide
  rw [p1] at o1
  rw [p2] at o2
  rw [p1, p2]
  refine ⟨_, _, _, rfl, app_runs TBy (o1.keep g2) rfl o2.reads rfl (fun h => ?_) (by omega) (by simp) fun A' c' w' o' g' _ _ => ⟨_, _, _, rfl, _, _, rfl, o', ?_⟩⟩
  · obtain ⟨a, ha, _⟩ := o2.reads 0 (by simp)
    rw [h] at ha; cases ha
  · exact (g1.trans (g2.mono s1)).trans g'
theorem GGet_at {A : Option Addr} {c : Nat} (hr : Go.Dn.RB w A [2, 6, 2]) : Calls Tryd.prog 53 #[.slice A 3 c, .int .i64 1] w fun e w' => e = .returned (.tuple #[.complex .f64 b3 b1, .int .i64 3, .int .i64 0]) ∧ w' = w := by
  apply f_gauss_Get.ok
  unfold f_gauss_Get.wp
  refine (GetS_ok (a := 1) hr rfl (by simp)).mono ?_
  rintro _ w ⟨rfl, rfl⟩
  have e1 : getL [2, 6, 2] 1 = (6, 2, 0) := by decide
  rw [e1]
  refine ⟨_, _, _, rfl, sel_f rfl ((GetS_ok (a := 2) hr rfl (by simp)).mono ?_)⟩
  rintro _ w ⟨rfl, rfl⟩
  have e2 : getL [2, 6, 2] 2 = (2, 3, 0) := by decide
  rw [e2]
  refine ⟨_, _, _, rfl, sel_f rfl (Of_at.mono ?_)⟩
  rintro _ w ⟨rfl, rfl⟩
  exact ⟨_, _, _, rfl, sel_f rfl ⟨rfl, rfl⟩⟩
abbrev TVal : TypeId := 54
abbrev vC : Array Value := #[.int .i64 2, .int .i64 0, .complex .f64 b3 b1, .slice none 0 0]
theorem hb_st1 {w : World} {b : Nat} {cs cs' : Array Value} {t : TypeId} (h : HB w b cs t) {j : Nat} (hj : j < cs.size) {v : Value} {K : World → Prop} (he : cs.setIfInBounds j v = cs') (hk : ∀ w', HB w' b cs' t → Keeps (fun k => k = b) w w' → K w') : stW w ((⟨b, 0, none⟩ : Addr).add j) v K :=
  hb_st h hj fun w' h' k' => hk w' (he ▸ h') k'
/-- a block overwritten from its first cell on -/
theorem blank_at : Calls Tryd.prog 58 #[.agg vC] w fun e w' => e = .returned (.agg vC) ∧ Below w.heap.size w w' := by
  apply f_keys_blank.ok
  unfold f_keys_blank.wp
  refine al_new fun w1 B1 e1 z1 h1 g1 => al_new fun w2 B2 e2 z2 h2 g2 => hb_ldI0 (h1.below g2) rfl (al_new fun w3 B3 e3 z3 h3 g3 => ?_)
  have n13 : ¬ (B1 = B3) := by omega
  have n23 : ¬ (B2 = B3) := by omega
  have h13 := (h1.below g2).below g3
  have h23 := h2.below g3
  refine hb_st0 h3 (by decide) fun w4 h4 k4 => hb_st (j := 1) h4 (by decide) fun w5 h5 k5 => hb_st (j := 2) h5 (by decide) fun w6 h6 k6 => hb_st (j := 3) h6 (by decide) fun w7 h7 k7 => ?_
  have k37 := ((k4.trans k5).trans k6).trans k7
  have h17 := h13.keeps k37 n13
  refine hb_ldI0 h17 rfl (sel_f rfl (sel_t rfl (hb_ldC (j := 2) h17 rfl (hb_st (j := 2) h7 (by decide) fun w8 h8 k8 => ?_))))
  have k38 := k37.trans k8
  have h28 := h23.keeps k38 n23
  refine hb_ldI0 h8 rfl (hb_ldI (j := 1) h8 rfl (hb_ldC (j := 2) h8 rfl (hb_ldS (j := 3) h8 rfl ?_)))
  refine hb_st0 h28 (by decide) fun w9 h9 k9 => hb_st (j := 1) h9 (by decide) fun w10 h10 k10 => hb_st (j := 2) h10 (by decide) fun w11 h11 k11 => hb_st (j := 3) h11 (by decide) fun w12 h12 k12 => ?_
  refine hb_ldI0 h12 rfl (hb_ldI (j := 1) h12 rfl (hb_ldC (j := 2) h12 rfl (hb_ldS (j := 3) h12 rfl ⟨rfl, ?_⟩)))
  have b3' := k38.below (B := w.heap.size) (by omega) fun k hk e => by omega
  have b9 := (((k9.trans k10).trans k11).trans k12).below (B := w.heap.size) (by have := b3'.size; have := k38.size; omega) fun k hk e => by omega
  exact (((g1.trans (g2.mono (by omega))).trans (g3.mono (by omega))).trans b3').trans b9
theorem Right_at : Calls Tryd.prog 30 #[.agg vC] w fun e w' => e = .returned (.bool true) ∧ Below w.heap.size w w' := by
  apply f_keys_Right.ok
  unfold f_keys_Right.wp
  refine al_new fun w1 B1 e1 z1 h1 g1 => hb_ldI0 h1 rfl (hb_ldI (j := 1) h1 rfl (hb_ldC (j := 2) h1 rfl (hb_ldS (j := 3) h1 rfl (blank_at.mono ?_))))
  rintro _ w2 ⟨rfl, g2⟩
  have s2 := g2.size
  refine ⟨_, _, _, _, _, _, _, rfl, al_new fun w3 B3 e3 z3 h3 g3 => ?_⟩
  have h13 := (h1.below g2).below g3
  have n13 : ¬ (B1 = B3) := by omega
  refine hb_st0 h3 (by decide) fun w4 h4 k4 => hb_st (j := 1) h4 (by decide) fun w5 h5 k5 => hb_st (j := 2) h5 (by decide) fun w6 h6 k6 => hb_st (j := 3) h6 (by decide) fun w7 h7 k7 => ?_
  have k37 := ((k4.trans k5).trans k6).trans k7
  have h17 := h13.keeps k37 n13
  refine hb_ldI0 h17 rfl (sel_f rfl (hb_ldI0 h17 rfl (sel_f rfl (hb_ldI (j := 1) h17 rfl (hb_ldI (j := 1) h7 rfl (sel_f rfl (hb_ldC (j := 2) h17 rfl (hb_ldC (j := 2) h7 rfl (runs_of (a := .bool false) (w' := w7) (by kernel_rfl) ⟨false, rfl, sel_f rfl (hb_ldS (j := 3) h17 rfl (hb_ldS (j := 3) h7 rfl (sel_f rfl (hb_ldC (j := 2) h17 rfl (Fits_at.mono ?_)))))⟩)))))))))
  rintro _ w8 ⟨rfl, rfl⟩
  have b3' := k37.below (B := w.heap.size) (by omega) fun k hk e => by omega
  exact ⟨_, rfl, sel_t rfl (hb_ldS (j := 3) h17 rfl ⟨rfl, ((g1.trans (g2.mono (by omega))).trans (g3.mono (by omega))).trans b3'⟩)⟩
theorem PutValue_at : Calls Tryd.prog 26 #[.agg vC] w fun e w' => ∃ A c, e = .returned (.tuple #[.slice A 3 c, .int .i64 0]) ∧ OwnB w' w.heap.size TU8 A c [2, 6, 2] ∧ Below w.heap.size w w' := by
  apply f_keys_PutValue.ok
  unfold f_keys_PutValue.wp
  refine al_new fun w1 B1 e1 z1 h1 g1 => hb_ldI0 h1 rfl (hb_ldI (j := 1) h1 rfl (hb_ldC (j := 2) h1 rfl (hb_ldS (j := 3) h1 rfl (Right_at.mono ?_))))
  rintro _ w2 ⟨rfl, g2⟩
  have s2 := g2.size
  have h2 := h1.below g2
  refine ⟨_, rfl, sel_f rfl (hb_ldI0 h2 rfl ?_)⟩
  rw [show IntKind.u8.wrap 2 = (((2 : UInt8)).toNat : Int) from rfl]
  refine lit_ok (l := [2]) rfl (by simp) fun b w3 eb o3 g3 => ?_
  have s3 := g3.size
  have h3 := h2.below g3
  refine hb_ldI0 h3 rfl (sel_f rfl (sel_t rfl (hb_ldC (j := 2) h3 rfl (GPut_at.mono ?_))))
  rintro _ w4 ⟨A4, c4, rfl, o4, g4⟩
  have s4 := g4.size
  refine ⟨_, _, _, _, rfl, app_runs TBy (OwnB.mono (o3.keep g4) (B' := w.heap.size) (by omega)) rfl o4.reads rfl (fun h => ?_) (by omega) (by simp) fun A' c' w' o' g' _ _ => ⟨_, _, _, rfl, _, _, rfl, o', ?_⟩⟩
  · obtain ⟨a, ha, _⟩ := o4.reads 0 (by simp)
    rw [h] at ha; cases ha
  · exact (((g1.trans (g2.mono (by omega))).trans (g3.mono (by omega))).trans (g4.mono (by omega))).trans g'
theorem GetValue_at {A : Option Addr} {c : Nat} (hr : Go.Dn.RB w A [2, 6, 2]) : Calls Tryd.prog 27 #[.slice A 3 c] w fun e w' => e = .returned (.tuple #[.agg vC, .int .i64 0]) ∧ Below w.heap.size w w' := by
  apply f_keys_GetValue.ok
  unfold f_keys_GetValue.wp
  refine al_new fun w1 B1 e1 z1 h1 g1 => sel_f rfl (rb_ld (i := 0) (hr.below g1 (Nat.le_refl _)) (by simp) rfl rfl (al_new fun w3 B3 e3 z3 h3 g3 => ?_))
  have s3 := g3.size
  have h13 := h1.below g3
  have n13 : ¬ (B1 = B3) := by omega
  have r3 := (hr.below g1 (Nat.le_refl _)).below g3 (Nat.le_refl _)
  have rlt : ∀ a, A = some a → a.block < w.heap.size := fun a ha => rb_lt hr (by simp) a ha
  refine hb_st0 h3 (by decide) fun w4 h4 k4 => hb_st (j := 1) h4 (by decide) fun w5 h5 k5 => hb_st (j := 2) h5 (by decide) fun w6 h6 k6 => hb_st (j := 3) h6 (by decide) fun w7 h7 k7 => ?_
  have k37 := ((k4.trans k5).trans k6).trans k7
  have h17 := h13.keeps k37 n13
  refine hb_ldI0 h7 rfl (sel_f rfl (sel_t rfl ((GGet_at (RBk r3 k37 fun a ha e => by have := rlt a ha; omega)).mono ?_)))
  rintro _ w8 ⟨rfl, rfl⟩
  refine ⟨_, _, _, _, rfl, hb_st (j := 2) h7 (by decide) fun w9 h9 k9 => ?_⟩
  have h19 := h17.keeps k9 n13
  unfold f_keys_GetValue.j0 f_keys_GetValue.j1
  refine sel_t rfl (sel_f rfl (sel_f rfl (hb_ldI0 h9 rfl (hb_ldI (j := 1) h9 rfl (hb_ldC (j := 2) h9 rfl (hb_ldS (j := 3) h9 rfl ?_))))))
  refine hb_st0 h19 (by decide) fun w10 h10 k10 => hb_st (j := 1) h10 (by decide) fun w11 h11 k11 => hb_st (j := 2) h11 (by decide) fun w12 h12 k12 => hb_st (j := 3) h12 (by decide) fun w13 h13' k13 => ?_
  intro _ _
  refine hb_ldI0 h13' rfl (hb_ldI (j := 1) h13' rfl (hb_ldC (j := 2) h13' rfl (hb_ldS (j := 3) h13' rfl ⟨rfl, ?_⟩)))
  have b3' := (k37.trans k9).below (B := w.heap.size) (by omega) fun k hk e => by omega
  have b9 := (((k10.trans k11).trans k12).trans k13).below (B := w.heap.size) (by have := (k37.trans k9).size; omega) fun k hk e => by omega
  exact ((g1.trans (g3.mono (by omega))).trans b3').trans b9
end
end Go.Proofs.YtakgoekfnhkgaaaDoor.Rd
