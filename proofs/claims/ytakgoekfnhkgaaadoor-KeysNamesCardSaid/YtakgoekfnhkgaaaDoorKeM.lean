/- KeysNames walked. Conditions: the world's shape, the sizes of the arguments. -/
import Derived.Test.YtakgoekfnhkgaaaDoorKeL
import Derived.Test.YtakgoekfnhkgaaaDoorRdL3
namespace Go.Proofs.YtakgoekfnhkgaaaDoor.Rd
open Go.Dn Go.RowKit
set_option linter.unusedVariables false
set_option linter.unusedSimpArgs false
set_option maxRecDepth 100000
section
variable {w : World} {A A1 A2 : Option Addr} {c c1 c2 B : Nat} {l l1 l2 : List UInt8}
set_option maxHeartbeats 1000000 in
theorem KeysNames_row (hS : w.ShapedOpen Tryd.prog) {e : Bool} {x : Int} (hx : (Lit.int .i64 x).wf = true) {s : ByteArray} (hs : s.size ≤ 140737488351232) (hr : Go.Dn.RB w A l) (hz : A = none → c = 0) (hc : l.length ≤ c) (hl : l.length ≤ 140737488355000) :
    Calls Tryd.prog 3 #[.agg #[.bool e, .int .i64 x], .string s, .slice A l.length c] w fun r w' => r = .returned (.bool true) ∧ Below w.heap.size w w' := by
  apply f_law04_KeysNames.ok
  unfold f_law04_KeysNames.wp
  have hM := mx_of hS
  have hsl : (sL s).length ≤ 140737488351232 := by rw [← sL_size]; exact hs
  refine al_new fun w1 B1 e1 z1 h1 g1 => (alive_ok (hM.below g1)).mono ?_
  rintro _ w2 ⟨rfl, g2⟩
  have s1 := g1.size
  have s2 := g2.size
  have h2 := h1.below g2
  have c2 : Below w.heap.size w w2 := g1.trans (g2.mono s1)
  refine ⟨_, rfl, sel_f rfl (hb_ldB0 h2 rfl (hb_ldI (j := 1) h2 rfl (Elem_ok.mono ?_)))⟩
  rintro _ w3 ⟨A3, c3, rfl, o3, g3⟩
  have s3 := g3.size
  have h3 := h2.below g3
  refine ⟨_, _, _, _, rfl, hb_ldB0 h3 rfl (hb_ldI (j := 1) h3 rfl (Elem_ok.mono ?_))⟩
  rintro _ w4 ⟨A4, c4, rfl, o4, g4⟩
  have s4 := g4.size
  have h4 := h3.below g4
  refine ⟨_, _, _, _, rfl, hb_ldB0 h4 rfl (hb_ldI (j := 1) h4 rfl (RElem_ok.mono ?_))⟩
  rintro _ w5 ⟨A5, c5, rfl, o5, g5⟩
  have s5 := g5.size
  have h5 := h4.below g5
  refine ⟨_, _, _, _, rfl, hb_ldB0 h5 rfl (hb_ldI (j := 1) h5 rfl ((Prop_ok (s := s) (by omega)).mono ?_))⟩
  rintro _ w6 ⟨A6, c6, rfl, o6, g6⟩
  have s6 := g6.size
  have h6 := h5.below g6
  refine ⟨_, _, _, _, rfl, hb_ldB0 h6 rfl (hb_ldI (j := 1) h6 rfl ((Prop_ok (s := s) (by omega)).mono ?_))⟩
  rintro _ w7 ⟨A7, c7, rfl, o7, g7⟩
  have s7 := g7.size
  have h7 := h6.below g7
  refine ⟨_, _, _, _, rfl, hb_ldB0 h7 rfl (hb_ldI (j := 1) h7 rfl ((RProp_ok (s := s) (by omega)).mono ?_))⟩
  rintro _ w8 ⟨A8, c8, rfl, o8, g8⟩
  have s8 := g8.size
  refine ⟨_, _, _, _, rfl, sel_f (by simp) (sel_f (by simp) ?_)⟩
  have el := elemL_len e x
  have pl := propL_len e x (sL s)
  have f38 : Below w3.heap.size w3 w8 := (((g4.trans (g5.mono s4)).trans (g6.mono (by omega))).trans (g7.mono (by omega))).trans (g8.mono (by omega))
  have f48 : Below w4.heap.size w4 w8 := ((g5.trans (g6.mono (by omega))).trans (g7.mono (by omega))).trans (g8.mono (by omega))
  have f58 : Below w5.heap.size w5 w8 := (g6.trans (g7.mono (by omega))).trans (g8.mono (by omega))
  have f68 : Below w6.heap.size w6 w8 := g7.trans (g8.mono (by omega))
  have c28 : Below w2.heap.size w2 w8 := g3.trans (f38.mono s3)
  have dj43 : Dj A4 A3 := Dj_of o3 o4
  have dj53 : Dj A5 A3 := fun a1 a2 q1 q2 => by have := o5.block a1 q1; have := o3.block a2 q2; omega
  refine (Apart_keeps (o3.keep f38) (o4.keep f48).reads (o5.keep f58).reads rfl rfl rfl (by omega) (by omega) dj43 dj53 (by omega)).mono ?_
  rintro _ w9 ⟨rfl, k9⟩
  have s9 := k9.size
  have nb : ∀ {k : Nat}, (Value.slice A3 (elemL e x).1.length c3).ownBlock = some k → w2.heap.size ≤ k ∧ k < w3.heap.size := fun hk => by
    obtain ⟨a, ha, hb⟩ := ownBlock_of.1 hk
    have := o3.block a ha
    omega
  have keepO : ∀ {A : Option Addr} {c B : Nat} {l : List UInt8}, OwnB w8 B TU8 A c l → w3.heap.size ≤ B → OwnB w9 B TU8 A c l := fun h hB => by
    exact Keeps.own h k9 fun k hk e => by
      obtain ⟨a, ha, hb⟩ := ownBlock_of.1 hk
      have := h.block a ha
      have := nb e
      omega
  have dj76 : Dj A7 A6 := Dj_of o6 o7
  have dj86 : Dj A8 A6 := fun a1 a2 q1 q2 => by have := o8.block a1 q1; have := o6.block a2 q2; omega
  refine ⟨_, rfl, sel_f (by simp) ?_⟩
  refine (Apart_keeps (keepO (o6.keep f68) (by omega)) (keepO (o7.keep g8) (by omega)).reads (keepO o8 (by omega)).reads rfl rfl rfl (by omega) (by omega) dj76 dj86 (by omega)).mono ?_
  rintro _ w10 ⟨rfl, k10⟩
  have s10 := k10.size
  have b89 : Below w2.heap.size w8 w9 := k9.below (by omega) fun k hk e => by have := nb e; omega
  have b90 : Below w2.heap.size w9 w10 := k10.below (by omega) fun k hk e => by
    obtain ⟨a, ha, hb⟩ := ownBlock_of.1 e
    have := o6.block a ha
    omega
  have c10 : Below w.heap.size w w10 := c2.trans (((c28.trans b89).trans b90).mono (by omega))
  refine ⟨_, rfl, sel_f (by simp) ((Name_ok (s := s) (by omega)).mono ?_)⟩
  rintro _ w11 ⟨rfl, g11⟩
  have s11 := g11.size
  refine ⟨_, rfl, (RName_ok (s := s) (by omega)).mono ?_⟩
  rintro _ w11 ⟨rfl, rfl⟩
  have c11 : Below w.heap.size w w11 := c10.trans (g11.mono (by omega))
  have s11' := c11.size
  refine ⟨_, rfl, sel_f (by simp) ?_⟩
  unfold f_law04_KeysNames.j0
  have hr11 := hr.below c11 (Nat.le_refl _)
  refine (Wide_ok hr11 hl).mono ?_
  rintro _ w12 ⟨A12, c12, rfl, o12, g12⟩
  have s12 := g12.size
  have hlm : (l ++ marks).length = l.length + 64 := by rw [List.length_append, marks_length]
  have hle := o12.le
  rw [hlm] at hle
  refine ⟨_, _, _, rfl, req_intro (by simp; omega) ?_⟩
  have rw12 : Go.Dn.RB w12 (slA A12 0 c12 1) l := by
    have := rb_sl (f := 0) (k := l.length) o12.reads o12.le
    rw [List.drop_zero, List.take_left] at this; exact this
  rw [Int.toNat_natCast]
  refine (Parse_ok (c := c12 - 0) rw12 (by omega) (by omega)).mono ?_
  rintro _ w13 ⟨rfl, g13⟩
  have s13 := g13.size
  obtain ⟨R, hR⟩ : ∃ R, parseL l = R := ⟨_, rfl⟩
  obtain ⟨re, rx, rn, ro⟩ := R
  rw [hR]
  refine ⟨_, _, _, _, rfl, al_new fun w14 B14 e14 z14 h14 g14 => hb_st0 h14 (by simp) fun w15 h15 k15 => hb_st (j := 1) h15 (by simp) fun w16 h16 k16 => ?_⟩
  have b16 : Below w13.heap.size w13 w16 := g14.trans ((k15.trans k16).below g14.size fun k hk e => by omega)
  have s16 := b16.size
  have c1116 : Below w11.heap.size w11 w16 := (g12.trans (g13.mono s12)).trans (b16.mono (by omega))
  refine (RParse_ok (c := c) (hr11.below c1116 (Nat.le_refl _)) hc (by omega)).mono ?_
  rintro _ w17 ⟨rfl, g17⟩
  have s17 := g17.size
  rw [hR]
  refine ⟨_, _, _, _, rfl, al_new fun w18 B18 e18 z18 h18 g18 => hb_st0 h18 (by simp) fun w19 h19 k19 => hb_st (j := 1) h19 (by simp) fun w20 h20 k20 => ?_⟩
  have b20 : Below w17.heap.size w17 w20 := g18.trans ((k19.trans k20).below g18.size fun k hk e => by omega)
  have s20 := b20.size
  have f1620 : Below w16.heap.size w16 w20 := g17.trans (b20.mono s17)
  have hp : HB w20 B14 (rfC re rx) TRf := HB.below (cs := rfC re rx) h16 f1620
  have hq : HB w20 B18 (rfC re rx) TRf := h20
  refine hb_ldB0 hp rfl (hb_ldI (j := 1) hp rfl (hb_ldB0 hq rfl (hb_ldI (j := 1) hq rfl (sel_t (by simp) (sel_t (by simp) (sel_t (by simp) ?_))))))
  have c12_20 : Below w12.heap.size w12 w20 := (g13.trans (b16.mono s13)).trans (f1620.mono (by omega))
  have c20 : Below w.heap.size w w20 := (c11.trans (c1116.mono s11')).trans (f1620.mono (by omega))
  refine (Intact_ok (o12.reads.below c12_20 (Nat.le_refl _)) (hr.below c20 (Nat.le_refl _)) hl rfl).mono ?_
  rintro _ w21 ⟨rfl, g21⟩
  exact ⟨_, rfl, fun _ => ⟨rfl, c20.trans (g21.mono (by omega))⟩⟩
end
end Go.Proofs.YtakgoekfnhkgaaaDoor.Rd
