/- The document's examples of keys. Conditions: a library's variable holds a number. -/
import Derived.Test.YtakgoekfnhkgaaaDoorKeJ
namespace Go.Proofs.YtakgoekfnhkgaaaDoor.Rd
open Go.Dn Go.RowKit Go.Lib
set_option linter.unusedVariables false
set_option linter.unusedSimpArgs false
set_option maxRecDepth 100000
section
variable {w w0 : World} {A : Option Addr} {c : Nat} {l : List UInt8}
abbrev eL : List UInt8 := [1, 2, 172, 2]
theorem ends_at : Calls Tryd.prog 55 #[.int .u64 1, .int .u64 2, .int .u64 300] w fun e w' => e = .returned (.int .i64 0) ∧ w' = w := by
  apply f_keys_ends.ok
  unfold f_keys_ends.wp
  exact sel_f rfl (sel_f rfl (sel_f rfl (sel_f rfl (sel_f rfl ⟨rfl, rfl⟩))))
theorem own_some {B : Nat} (o : OwnB w B TU8 A c l) (h : 0 < l.length) {n m : Nat} : A = none → n = 0 ∧ m = 0 := fun e => by
  obtain ⟨a, ha, _⟩ := o.reads 0 h
  rw [e] at ha; cases ha
theorem PutEnds_at : Calls Tryd.prog 28 #[.agg #[.int .i64 0, .int .i64 1, .int .i64 2, .int .i64 300]] w fun e w' => ∃ A c, e = .returned (.tuple #[.slice A 4 c, .int .i64 0]) ∧ OwnB w' w.heap.size TU8 A c eL ∧ Below w.heap.size w w' := by
  apply f_keys_PutEnds.ok
  unfold f_keys_PutEnds.wp
  refine al_new fun w1 B1 e1 z1 h1 g1 => drW_intro ?_
  have gd : Below w1.heap.size w1 w1.drew := (Below.refl _ _).drew
  have h2 := h1.below gd
  have g2 := g1.trans (gd.mono g1.size)
  obtain ⟨w2, hw2⟩ : ∃ w2, w1.drew = w2 := ⟨_, rfl⟩
  rw [hw2] at h2 g2 ⊢
  refine hb_ldI (j := 1) h2 rfl (hb_ldI (j := 2) h2 rfl (hb_ldI (j := 3) h2 rfl (ends_at.mono ?_)))
  rintro _ w2 ⟨rfl, rfl⟩
  refine ⟨_, rfl, sel_f rfl ((Put_ok 1 (by decide)).mono ?_)⟩
  rintro _ w3 ⟨A3, c3, rfl, o3, g3⟩
  have p1 : putL 1 = [1] := by decide
  have p2 : putL 2 = [2] := by decide
  have p3 : putL 300 = [172, 2] := by decide
  rw [p1] at o3 ⊢
  have s2 := g2.size
  have s3 := g3.size
  refine ⟨_, _, _, rfl, (Put_ok 2 (by decide)).mono ?_⟩
  rintro _ w4 ⟨A4, c4, rfl, o4, g4⟩
  rw [p2] at o4 ⊢
  have s4 := g4.size
  refine ⟨_, _, _, rfl, app_runs TBy (OwnB.mono (o3.keep g4) (B' := w.heap.size) (by omega)) rfl o4.reads rfl (own_some o4 (by simp)) (by omega) (by simp) fun A5 c5 w5 o5 g5 _ _ => ⟨_, _, _, rfl, (Put_ok 300 (by decide)).mono ?_⟩⟩
  have s5 := g5.size
  rintro _ w6 ⟨A6, c6, rfl, o6, g6⟩
  rw [p3] at o6 ⊢
  have s6 := g6.size
  refine ⟨_, _, _, rfl, app_runs TBy (o5.keep g6) rfl o6.reads rfl (own_some o6 (by simp)) (by omega) (by simp) fun A7 c7 w7 o7 g7 _ _ => ⟨_, _, _, rfl, _, _, rfl, o7, ?_⟩⟩
  exact ((((g2.trans (g3.mono (by omega))).trans (g4.mono (by omega))).trans g5).trans (g6.mono (by omega))).trans g7
theorem GetEnds_at (hr : Go.Dn.RB w A eL) : Calls Tryd.prog 29 #[.int .i64 9, .slice A 4 c] w fun e w' => e = .returned (.tuple #[.agg #[.int .i64 9, .int .i64 1, .int .i64 2, .int .i64 300], .int .i64 0]) ∧ Below w.heap.size w w' := by
  apply f_keys_GetEnds.ok
  unfold f_keys_GetEnds.wp
  refine al_new fun w1 B1 e1 z1 h1 g1 => al_new fun w2 B3 e3 z3 h3 g3 => ⟨4, ?_⟩
  have h13 := h1.below g3
  have s1 := g1.size
  have n13 : ¬ (B1 = B3) := by omega
  have hr2 := (hr.below g1 (Nat.le_refl _)).below g3 (Nat.le_refl _)
  have hlt : ∀ a, A = some a → a.block ≠ B3 := fun a ha => by have := rb_lt hr (by simp) a ha; omega
  have q1 : getL eL 0 = (1, 1, 0) := by decide
  have q2 : getL eL 1 = (2, 2, 0) := by decide
  have q3 : getL eL 2 = (300, 4, 0) := by decide
  unfold f_keys_GetEnds.l0
  refine sel_t rfl ((Get_ok hr2 rfl (by simp)).mono ?_)
  rintro _ w2 ⟨rfl, rfl⟩
  rw [q1]
  refine ⟨_, _, _, rfl, sel_f rfl (req_intro rfl (hb_st (j := 0) h3 (by decide) fun w4 h4 k4 => ?_))⟩
  have r4 := RBk hr2 k4 hlt
  unfold f_keys_GetEnds.l0
  refine sel_t rfl ((Get_ok r4 rfl (by simp)).mono ?_)
  rintro _ w4 ⟨rfl, rfl⟩
  rw [show (((1, 1, 0) : Nat × Nat × Nat).2.1 : Int) = 1 from rfl, q2]
  refine ⟨_, _, _, rfl, sel_f rfl (req_intro rfl (hb_st (j := 1) h4 (by decide) fun w5 h5 k5 => ?_))⟩
  have r5 := RBk r4 k5 hlt
  unfold f_keys_GetEnds.l0
  refine sel_t rfl ((Get_ok r5 rfl (by simp)).mono ?_)
  rintro _ w5 ⟨rfl, rfl⟩
  rw [show (((2, 2, 0) : Nat × Nat × Nat).2.1 : Int) = 2 from rfl, q3]
  refine ⟨_, _, _, rfl, sel_f rfl (req_intro rfl (hb_st (j := 2) h5 (by decide) fun w6 h6 k6 => ?_))⟩
  have k26 := (k4.trans k5).trans k6
  unfold f_keys_GetEnds.l0
  refine sel_f rfl fun _ => ?_
  refine hb_ldI (j := 0) h6 rfl (hb_ldI (j := 1) h6 rfl (hb_ldI (j := 2) h6 rfl (ends_at.mono ?_)))
  rintro _ w6 ⟨rfl, rfl⟩
  refine ⟨_, rfl, sel_t rfl (sel_f rfl ?_)⟩
  have h16 := h13.keeps k26 n13
  unfold f_keys_GetEnds.j1
  refine sel_f rfl (hb_ldI (j := 0) h6 rfl (hb_ldI (j := 1) h6 rfl (hb_ldI (j := 2) h6 rfl (hb_st0 h16 (by decide) fun w7 h7 k7 => hb_st (j := 1) h7 (by decide) fun w8 h8 k8 => hb_st (j := 2) h8 (by decide) fun w9 h9 k9 => hb_st (j := 3) h9 (by decide) fun w10 h10 k10 _ => ?_))))
  refine hb_ldI0 h10 rfl (hb_ldI (j := 1) h10 rfl (hb_ldI (j := 2) h10 rfl (hb_ldI (j := 3) h10 rfl ⟨rfl, ?_⟩)))
  have b6 := k26.below (B := w.heap.size) (by omega) fun k hk e => by omega
  have b10 := (((k7.trans k8).trans k9).trans k10).below (B := w.heap.size) (by have := k26.size; omega) fun k hk e => by omega
  exact ((g1.trans (g3.mono s1)).trans b6).trans b10
theorem strE {s : ByteArray} {l : List UInt8} (h : s = ⟨l.toArray⟩) : sL s = l := by subst h; simp [sL]
abbrev abS : ByteArray := ⟨#[97, 98]⟩
theorem alive_ok (hM : Mx w) : Calls Tryd.prog 7 #[] w fun e w' => e = .returned (.bool true) ∧ Below w.heap.size w w' := by
  apply f_law04_alive.ok
  unfold f_law04_alive.wp
  have x1 : elemL false 7 = ([1, 0, 0, 0, 7], 0) := by decide
  have x2 : propL true 1 (sL abS) = ([3, 1, 0, 0, 0, 1, 97, 98], 0) := by decide
  have x3 : versL [97] 5 = ([97, 0, 0, 127, 255, 255, 255, 255, 255, 255, 251], 0) := by decide +kernel
  have x4 : splitL [97, 0, 0, 127, 255, 255, 255, 255, 255, 255, 251] = ([97], 5, 0) := by decide +kernel
  have x5 : parseL [3, 1, 0, 0, 0, 1, 97, 98] = (true, 1, [97, 98], true) := by decide
  refine (Elem_ok (e := false) (x := 7)).mono ?_
  rintro _ w1 ⟨A1, c1, rfl, o1, g1⟩
  rw [x1] at o1 ⊢
  dsimp only at o1 ⊢
  have s1 := g1.size
  refine ⟨_, _, _, _, rfl, (Prop_ok (e := true) (x := 1) (s := abS) (by decide)).mono ?_⟩
  rintro _ w2 ⟨A2, c2, rfl, o2, g2⟩
  rw [x2] at o2 ⊢
  dsimp only at o2 ⊢
  have s2 := g2.size
  have g02 := g1.trans (g2.mono s1)
  refine ⟨_, _, _, _, rfl, lit_ok (l := [97]) rfl (by simp) fun b3 w3 e3 o3 g3 => ?_⟩
  have s3 := g3.size
  have hver := Version_ok (w := w3) (c0 := 1) (t := 5) o3.reads o3.nil0 o3.le (by simp) (by decide)
  refine hver.mono ?_
  rintro _ w4 ⟨A4, c4, rfl, o4, g4⟩
  rw [x3] at o4 ⊢
  dsimp only at o4 ⊢
  have s4 := g4.size
  have g04 := (g02.trans (g3.mono (by omega))).trans (g4.mono (by omega))
  refine ⟨_, _, _, _, rfl, (Split_ok o4.reads o4.nil0 o4.le (by simp) (hM.below g04)).mono ?_⟩
  rintro _ w5 ⟨A5, c5, rfl, o5, g5⟩
  rw [x4] at o5 ⊢
  dsimp only at o5 ⊢
  have s5 := g5.size
  refine ⟨_, _, _, _, _, rfl, PutValue_at.mono ?_⟩
  rintro _ w6 ⟨A6, c6, rfl, o6, g6⟩
  have s6 := g6.size
  have g06 := (g04.trans (g5.mono (by omega))).trans (g6.mono (by omega))
  refine ⟨_, _, _, _, rfl, lit_ok (l := [2, 6, 2]) rfl (by simp) fun b7 w7 e7 o7 g7 => (GetValue_at o7.reads).mono ?_⟩
  have s7 := g7.size
  rintro _ w8 ⟨rfl, g8⟩
  have s8 := g8.size
  refine ⟨_, _, _, _, _, _, _, _, rfl, al_new fun w9 B9 e9 z9 h9 g9 => hb_st0 h9 (by decide) fun w10 h10 k10 => hb_st (j := 1) h10 (by decide) fun w11 h11 k11 => hb_st (j := 2) h11 (by decide) fun w12 h12 k12 => hb_st (j := 3) h12 (by decide) fun w13 h13 k13 => ?_⟩
  have k9 := ((k10.trans k11).trans k12).trans k13
  have b13 : Below w8.heap.size w8 w13 := g9.trans (k9.below g9.size fun k hk e => by omega)
  have s13 := b13.size
  have r2 : Go.Dn.RB w13 A2 [3, 1, 0, 0, 0, 1, 97, 98] := (((((((o2.reads.below g3 (Nat.le_refl _)).below g4 (Nat.le_refl _)).below g5 (Nat.le_refl _)).below g6 (Nat.le_refl _)).below g7 (Nat.le_refl _)).below g8 (Nat.le_refl _)).below b13 (Nat.le_refl _))
  refine (Parse_ok (c := c2) r2 o2.le (by simp)).mono ?_
  rintro _ w14 ⟨rfl, g14⟩
  rw [x5]
  have s14 := g14.size
  refine ⟨_, _, _, _, rfl, al_new fun w15 B15 e15 z15 h15 g15 => hb_st0 h15 (by decide) fun w16 h16 k16 => hb_st (j := 1) h16 (by decide) fun w17 h17 k17 => ?_⟩
  have b17 : Below w14.heap.size w14 w17 := g15.trans ((k16.trans k17).below g15.size fun k hk e => by omega)
  have s17 := b17.size
  refine PutEnds_at.mono ?_
  rintro _ w18 ⟨A18, c18, rfl, o18, g18⟩
  have s18 := g18.size
  refine ⟨_, _, _, _, rfl, ?_⟩
  unfold f_law04_alive.j0
  refine lit_ok (l := [1, 2, 172, 2]) rfl (by simp) fun b19 w19 e19 o19 g19 => (GetEnds_at o19.reads).mono ?_
  have s19 := g19.size
  rintro _ w20 ⟨rfl, g20⟩
  have s20 := g20.size
  refine ⟨_, _, _, _, _, rfl, al_new fun w21 B21 e21 z21 h21 g21 => hb_st0 h21 (by decide) fun w22 h22 k22 => hb_st (j := 1) h22 (by decide) fun w23 h23 k23 => hb_st (j := 2) h23 (by decide) fun w24 h24 k24 => hb_st (j := 3) h24 (by decide) fun w25 h25 k25 => ?_⟩
  have k21 := ((k22.trans k23).trans k24).trans k25
  have b25 : Below w20.heap.size w20 w25 := g21.trans (k21.below g21.size fun k hk e => by omega)
  have s25 := b25.size
  -- what all of them keep
  have c8 : Below w.heap.size w w8 := (g06.trans (g7.mono (by omega))).trans (g8.mono (by omega))
  have c13 : Below w8.heap.size w8 w25 := (((((b13.trans (g14.mono (by omega))).trans (b17.mono (by omega))).trans (g18.mono (by omega))).trans (g19.mono (by omega))).trans (g20.mono (by omega))).trans (b25.mono (by omega))
  have f25 : Below w13.heap.size w13 w25 := (((((g14.trans (b17.mono (by omega))).trans (g18.mono (by omega))).trans (g19.mono (by omega))).trans (g20.mono (by omega))).trans (b25.mono (by omega)))
  have t25 : Below w17.heap.size w17 w25 := (((g18.trans (g19.mono (by omega))).trans (g20.mono (by omega))).trans (b25.mono (by omega)))
  have hv : HB w25 B9 vC TVal := HB.below (cs := vC) h13 f25
  have hp : HB w25 B15 (rfC true 1) TRf := HB.below (cs := rfC true 1) h17 t25
  have hq : HB w25 B21 #[.int .i64 9, .int .i64 1, .int .i64 2, .int .i64 300] 59 := h25
  have q1 : Go.Dn.RB w25 A1 [1, 0, 0, 0, 7] := (((((((o1.reads.below g2 (Nat.le_refl _)).below g3 (Nat.le_refl _)).below g4 (Nat.le_refl _)).below g5 (Nat.le_refl _)).below g6 (Nat.le_refl _)).below g7 (Nat.le_refl _)).below g8 (Nat.le_refl _)).below c13 (Nat.le_refl _)
  have q2 := r2.below f25 (Nat.le_refl _)
  have q4 := (((((o4.reads.below g5 (Nat.le_refl _)).below g6 (Nat.le_refl _)).below g7 (Nat.le_refl _)).below g8 (Nat.le_refl _)).below c13 (Nat.le_refl _))
  have q5 := ((((o5.reads.below g6 (Nat.le_refl _)).below g7 (Nat.le_refl _)).below g8 (Nat.le_refl _)).below c13 (Nat.le_refl _))
  have q6 := (((o6.reads.below g7 (Nat.le_refl _)).below g8 (Nat.le_refl _)).below c13 (Nat.le_refl _))
  have c25 : Below w.heap.size w w25 := c8.trans (c13.mono (by omega))
  have sz := c25.size
  refine sel_f rfl (sel_f rfl (sel_f rfl (sel_f rfl (sel_f rfl (sel_f rfl (sel_f rfl (sel_f rfl (sel_f rfl ?_))))))))
  refine hb_ldI (j := 1) hp rfl (sel_f rfl (hb_ldB0 hp rfl (sel_f rfl (sel_f ?_ ?_))))
  · show (!((⟨[97, 98].toArray⟩ : ByteArray).toList == (⟨#[97, 98]⟩ : ByteArray).toList)) = false
    rw [sL_eq]; rfl
  refine lit_ok (l := [1, 0, 0, 0, 7]) rfl (by simp) fun b26 w26 e26 o26 g26 => (Same_ok (q1.below g26 (Nat.le_refl _)) o26.reads rfl rfl (by simp)).mono ?_
  have s26 := g26.size
  rintro _ w27 ⟨rfl, g27⟩
  have s27 := g27.size
  have g527 := g26.trans (g27.mono s26)
  refine ⟨_, rfl, sel_t rfl (lit_ok (l := [3, 1, 0, 0, 0, 1, 97, 98]) rfl (by simp) fun b28 w28 e28 o28 g28 => (Same_ok ((q2.below g527 (Nat.le_refl _)).below g28 (Nat.le_refl _)) o28.reads rfl rfl (by simp)).mono ?_)⟩
  have s28 := g28.size
  rintro _ w29 ⟨rfl, g29⟩
  have s29 := g29.size
  have g529 := (g527.trans (g28.mono (by omega))).trans (g29.mono (by omega))
  refine ⟨_, rfl, sel_t rfl (sel_t rfl (rb_ld (i := 10) (q4.below g529 (Nat.le_refl _)) (by simp) rfl rfl (sel_t rfl (conv_strA (q5.below g529 (Nat.le_refl _)) rfl ⟨_, rfl, sel_t ?_ (sel_t rfl ?_)⟩))))⟩
  · show ((⟨[97].toArray⟩ : ByteArray).toList == (⟨#[97]⟩ : ByteArray).toList) = true
    rw [sL_eq]; rfl
  refine lit_ok (l := [2, 6, 2]) rfl (by simp) fun b30 w30 e30 o30 g30 => (Same_ok ((q6.below g529 (Nat.le_refl _)).below g30 (Nat.le_refl _)) o30.reads rfl rfl (by simp)).mono ?_
  have s30 := g30.size
  rintro _ w31 ⟨rfl, g31⟩
  have s31 := g31.size
  have g531 := (g529.trans (g30.mono (by omega))).trans (g31.mono (by omega))
  have hv31 := HB.below (cs := vC) hv g531
  have hq31 := HB.below hq g531
  refine ⟨_, rfl, sel_t rfl (hb_ldC (j := 2) hv31 rfl (runs_of (a := .bool true) (w' := w31) (by kernel_rfl) ⟨true, rfl, sel_t rfl (sel_t rfl ?_)⟩))⟩
  refine hb_ldI0 hq31 rfl (hb_ldI (j := 1) hq31 rfl (hb_ldI (j := 2) hq31 rfl (hb_ldI (j := 3) hq31 rfl (sel_t rfl ((Name_ok (s := abS) (by decide)).mono ?_)))))
  rintro _ w32 ⟨rfl, g32⟩
  have s32 := g32.size
  have hv32 := HB.below (cs := vC) hv31 g32
  refine ⟨_, rfl, sel_t (by decide) (hb_ldI0 hv32 rfl (hb_ldI (j := 1) hv32 rfl (hb_ldC (j := 2) hv32 rfl (hb_ldS (j := 3) hv32 rfl (Right_at.mono ?_)))))⟩
  rintro _ w33 ⟨rfl, g33⟩
  exact ⟨_, rfl, fun _ => ⟨rfl, ((c25.trans (g531.mono sz)).trans (g32.mono (by omega))).trans (g33.mono (by omega))⟩⟩
end
end Go.Proofs.YtakgoekfnhkgaaaDoor.Rd
