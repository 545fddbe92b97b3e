/- The document's plain forest: Link. Conditions: none. -/
import Derived.Test.YtkkobfajahmfaaaEsA
namespace Go.Proofs.Ytkkobfajahmfaaa.Rd
open Go.Dn Go.RowKit
set_option linter.unusedVariables false
set_option maxRecDepth 100000
def linkEr (vr : List Int) (er : List E) (e : E) (j : Bool) : List E := if linkC vr er e j = 0 then insE er e else er
theorem RLink16_ok {w : World} {s : RS} {vr : List Int} {er : List E} {mv me : List Int} (h : RF w s vr er mv me) (g : RG vr er) (hel : er.length ≤ 4095) {e : E} (hw : ¬ (e.w < 0 ∨ 1099511627776 < e.w)) :
    Calls Try.prog 22 #[.agg (rsC s), .agg (eC e)] w fun en w' => ∃ s' j, (e.u ∈ vr → e.v ∈ vr → (j = true ↔ Jn er e.u e.v)) ∧ en = .returned (.tuple #[.agg (rsC s'), .int .i64 (linkC vr er e j)]) ∧ RF w' s' vr (linkEr vr er e j) mv me ∧ Sb w s s' ∧ Below w.heap.size w w' := by
  apply f_ref16_Link.ok
  unfold f_ref16_Link.wp
  refine al_new fun w1 b1 e1 s1 h1 g1 => al_new fun w2 b3 e3 s3 h3 g2 => al_new fun w3 b5 e5 s5 h5 g3 => ?_
  have hb := (g1.trans (g2.mono (by omega))).trans (g3.mono (by omega))
  have h1 : HB w3 b1 (rsC s) 43 := (h1.below g2).below g3
  have h3 : HB w3 b3 (eC e) 50 := h3.below g3
  have hf := h.belw hb
  have hvl := h.vl
  obtain ⟨jn, hjn⟩ : ∃ j : Bool, j = true ↔ Jn er e.u e.v := ⟨@decide (Jn er e.u e.v) (Classical.propDecidable _), by simp⟩
  have same : ∀ {w' code} (j : Bool), (e.u ∈ vr → e.v ∈ vr → (j = true ↔ Jn er e.u e.v)) → linkC vr er e j = code → code ≠ 0 → Below w.heap.size w w' → ∃ s' j, (e.u ∈ vr → e.v ∈ vr → (j = true ↔ Jn er e.u e.v)) ∧ Ending.returned (.tuple #[.agg (rsC s), .int .i64 code]) = .returned (.tuple #[.agg (rsC s'), .int .i64 (linkC vr er e j)]) ∧ RF w' s' vr (linkEr vr er e j) mv me ∧ Sb w s s' ∧ Below w.heap.size w w' := fun j hj hc h0 hk => ⟨s, j, hj, by rw [hc], by unfold linkEr; rw [hc, if_neg h0]; exact h.belw hk, .refl _ _, hk⟩
  refine hb_ldI0 h3 rfl ((RBad_ok _ _).mono ?_)
  rintro _ _ ⟨⟨b, rfl, hb1⟩, rfl⟩
  refine ⟨b, rfl, ?_⟩
  by_cases hbad1 : badI e.id
  · have ec : linkC vr er e jn = 1 := by unfold linkC; rw [if_pos (.inl hbad1)]
    exact sel_t (hb1.2 hbad1) (get4 h1 (ret4 h5 rfl s fun w4 h4 k4 => same jn (fun _ _ => hjn) ec (by decide) (HB.belK hb k4 (by omega))))
  refine sel_f (Bool.eq_false_iff.2 fun hh => hbad1 (hb1.1 hh)) (hb_ldI h3 (j := 1) rfl ((RBad_ok _ _).mono ?_))
  rintro _ _ ⟨⟨b, rfl, hb1⟩, rfl⟩
  refine ⟨b, rfl, ?_⟩
  by_cases hbad2 : badI e.u
  · have ec : linkC vr er e jn = 1 := by unfold linkC; rw [if_pos (.inr (.inl hbad2))]
    exact sel_t (hb1.2 hbad2) (get4 h1 (ret4 h5 rfl s fun w4 h4 k4 => same jn (fun _ _ => hjn) ec (by decide) (HB.belK hb k4 (by omega))))
  refine sel_f (Bool.eq_false_iff.2 fun hh => hbad2 (hb1.1 hh)) (hb_ldI h3 (j := 2) rfl ((RBad_ok _ _).mono ?_))
  rintro _ _ ⟨⟨b, rfl, hb1⟩, rfl⟩
  refine ⟨b, rfl, ?_⟩
  by_cases hbad3 : badI e.v
  · have ec : linkC vr er e jn = 1 := by unfold linkC; rw [if_pos (.inr (.inr hbad3))]
    exact sel_t (hb1.2 hbad3) (get4 h1 (ret4 h5 rfl s fun w4 h4 k4 => same jn (fun _ _ => hjn) ec (by decide) (HB.belK hb k4 (by omega))))
  have nb3 : ¬ (badI e.id ∨ badI e.u ∨ badI e.v) := by simp [hbad1, hbad2, hbad3]
  refine sel_f (Bool.eq_false_iff.2 fun hh => hbad3 (hb1.1 hh)) (get4 h1 (hb_ldI0 h3 rfl ((REdge_ok hf e.id).mono ?_)))
  rintro _ w4 ⟨rfl, g4⟩
  refine ⟨_, _, _, _, _, rfl, ?_⟩
  have hb4 := hb.trans (g4.mono hb.size)
  refine edge4 (e := edgeE er e.id) fun w5 b6 e6 h6 g5 => ?_
  have hb5 := hb4.trans (g5.mono hb4.size)
  have h15 := (h1.below g4).below g5
  have h35 := (h3.below g4).below g5
  have h55 := (h5.below g4).below g5
  have hf5 := h.belw hb5
  by_cases hid : e.id ∈ er.map E.id
  · have ec : linkC vr er e jn = 50 := by unfold linkC; rw [if_neg nb3, if_neg hw, if_pos hid]
    exact sel_t ((edgeB_iff er e.id).2 hid) (get4 h15 (ret4 h55 rfl s fun w4 h4 k4 => same jn (fun _ _ => hjn) ec (by decide) (HB.belK hb5 k4 (by omega))))
  refine sel_f (Bool.eq_false_iff.2 fun hh => hid ((edgeB_iff er e.id).1 hh)) (hb_ldS0 h15 rfl (hb_ldI h35 (j := 1) rfl ((Has_ok hf5.v h.nv (by omega) e.u).mono ?_)))
  rintro _ _ ⟨rfl, rfl⟩
  refine ⟨_, rfl, ?_⟩
  by_cases hu : ¬ e.u ∈ vr
  · have ec : linkC vr er e jn = 51 := by unfold linkC; rw [if_neg nb3, if_neg hw, if_neg hid, if_pos (fun hh => hu hh.1)]
    exact sel_t (by simpa using hu) (get4 h15 (ret4 h55 rfl s fun w4 h4 k4 => same jn (fun _ _ => hjn) ec (by decide) (HB.belK hb5 k4 (by omega))))
  refine sel_f (by simpa using hu) (hb_ldS0 h15 rfl (hb_ldI h35 (j := 2) rfl ((Has_ok hf5.v h.nv (by omega) e.v).mono ?_)))
  rintro _ _ ⟨rfl, rfl⟩
  refine ⟨_, rfl, ?_⟩
  by_cases hv : ¬ e.v ∈ vr
  · have ec : linkC vr er e jn = 51 := by unfold linkC; rw [if_neg nb3, if_neg hw, if_neg hid, if_pos (fun hh => hv hh.2)]
    exact sel_t (by simpa using hv) (get4 h15 (ret4 h55 rfl s fun w4 h4 k4 => same jn (fun _ _ => hjn) ec (by decide) (HB.belK hb5 k4 (by omega))))
  have hu : e.u ∈ vr := Classical.not_not.1 hu
  have hv : e.v ∈ vr := Classical.not_not.1 hv
  refine sel_f (by simpa using hv) (get4 h15 (hb_ldI h35 (j := 1) rfl (hb_ldI h35 (j := 2) rfl ((RJoined_ok hf5 g hu hv).mono ?_))))
  rintro _ w7 ⟨⟨j, rfl, hj⟩, g7⟩
  refine ⟨j, rfl, ?_⟩
  have hb7 := hb5.trans (g7.mono hb5.size)
  have h17 := h15.below g7
  have h37 := h35.below g7
  have h57 := h55.below g7
  cases j with
  | true =>
    have ec : linkC vr er e true = 151 := by unfold linkC; rw [if_neg nb3, if_neg hw, if_neg hid, if_neg (fun h => h ⟨hu, hv⟩), if_pos rfl]
    exact sel_t rfl (get4 h17 (ret4 h57 rfl s fun w4 h4 k4 => same true (fun _ _ => hj) ec (by decide) (HB.belK hb7 k4 (by omega))))
  | false =>
  have ec : linkC vr er e false = 0 := by unfold linkC; rw [if_neg nb3, if_neg hw, if_neg hid, if_neg (fun h => h ⟨hu, hv⟩), if_neg (by decide)]
  have ee : linkEr vr er e false = insE er e := by unfold linkEr; rw [if_pos ec]
  refine sel_f rfl (hb_ldS0 h17 rfl (al_new fun w8 b8 e8 s8 h8 g8 => ?_))
  have hb8' := hb7.trans (g8.mono hb7.size)
  have h18 := h17.below g8
  have h38 := h37.below g8
  have h58 := h57.below g8
  have l1' := h17.lt
  have l3' := h37.lt
  have l5' := h57.lt
  have b8s : w.heap.size ≤ b8 := by have := hb7.size; omega
  refine hb_st0 h8 (by simp) fun w9 h89 k9 => hb_st h89 (j := 1) (by simp) fun wS h8S kS => ?_
  have h8S : HB wS b8 (nC s.A0 s.n0 s.c0 none ([] : List E).length 0) 41 := h8S
  have h1S := (h18.keeps k9 (by omega)).keeps kS (by omega)
  have h3S := (h38.keeps k9 (by omega)).keeps kS (by omega)
  have h5S := (h58.keeps k9 (by omega)).keeps kS (by omega)
  have hbS := HB.belK hb8' (k9.trans kS) b8s
  have l1 := h1S.lt
  have l5 := h5S.lt
  have sS : w.heap.size ≤ wS.heap.size := hbS.size
  refine ⟨er.length + 1, RLink_l0 h b8s h8S.lt hbS h1S (by omega) h3S (by omega) (fun wX A c d out hX oX kX hlo hd => ?_) er.length 0 wS none 0 false [] (by omega) (by omega) h8S (OwnEd.none _ _ _) (Keeps.refl _ _) (by simp) (by simp)⟩
  intro _
  cases d with
  | true =>
    rw [if_pos rfl] at hd
    subst hd
    refine sel_f rfl ?_
    have nA : ∀ k, k < wS.heap.size → ¬ Ob A k := fun k hk ⟨a', ha', hh⟩ => by have := (oX.block a' ha').1; omega
    have h1X := h1S.keeps kX (by omega)
    have h5X := h5S.keeps kX (by omega)
    have hbX := HB.belK hbS kX b8s
    refine hb_ldS0 hX rfl (hb_ldS hX (j := 1) rfl (hb_st0 h1X (by simp [rsC]) fun wA hA kA => hb_st hA (j := 1) (by simp [rsC]) fun wB hB kB => ?_))
    have hB : HB wB b1 (rsC { s with A1 := A, n1 := (insE er e).length, c1 := c }) 43 := hB
    have h5B := (h5X.keeps kA (by omega)).keeps kB (by omega)
    have hbB := HB.belK hbX (kA.trans kB) (by omega)
    have oB := (oX.keeps kA fun a ha hh => nA b1 l1 ⟨a, ha, hh⟩).keeps kB fun a ha hh => nA b1 l1 ⟨a, ha, hh⟩
    refine get4 hB (ret4 h5B rfl { s with A1 := A, n1 := (insE er e).length, c1 := c } fun wE hE kE => ⟨{ s with A1 := A, n1 := (insE er e).length, c1 := c }, false, fun _ _ => hj, by rw [ec]; rfl, ?_, ?_, HB.belK hbB kE (by omega)⟩)
    · have oE := oB.keeps kE fun a ha hh => nA b5 l5 ⟨a, ha, hh⟩
      have hfE := h.belw (HB.belK hbB kE (by omega))
      rw [ee]
      refine ⟨hfE.v, h.nv, oE.reads, rfl, h.n2, h.n3, ?_, h.vl, by have := (insE_perm er e).length_eq; simp at this; omega, hfE.m2, hfE.m3, h.l2, h.l3⟩
      rintro k (hk | ⟨a, ha, rfl⟩ | hk)
      · exact hfE.lt k (.inl hk)
      · exact (oE.block a ha).2
      · exact hfE.lt k (.inr (.inr hk))
    · constructor
      rintro k (hk | ⟨a, ha, rfl⟩ | hk)
      · exact .inl (.inl hk)
      · exact .inr (by have := (oB.block a ha).1; omega)
      · exact .inl (.inr (.inr hk))
  | false =>
    rw [if_neg (by decide)] at hd
    have h3X := h3S.keeps kX (by omega)
    refine sel_t rfl (hb_ldS hX (j := 1) rfl (getE h3X (put_ed oX rfl (e := e) kX.size (by omega) fun A2 c2 wY oY kY fY => ?_)))
    have nA0 : ∀ k, k < wS.heap.size → ¬ Ob A k := fun k hk ⟨a', ha', hh⟩ => by have := (oX.block a' ha').1; omega
    have h8Y := hX.keeps kY (nA0 b8 h8S.lt)
    refine hb_st h8Y (j := 1) (by simp [nC]) fun wZ h8Z kZ => ?_
    rw [← hd] at oY
    have hX : HB wZ b8 (nC s.A0 s.n0 s.c0 (some A2) (insE er e).length c2) 41 := by rw [hd]; exact h8Z
    have kX : Keeps (fun k => k = b8) wS wZ := (kX.trans' kY fun k hk hh => absurd hh (nA0 k hk)).trans kZ
    have l8S := h8S.lt
    have oX : OwnEd wZ wS.heap.size TE (some A2) c2 (insE er e) := oY.keeps kZ fun a' ha' e => by have := (oY.block a' ha').1; omega
    clear nA0
    generalize (some A2 : Option Addr) = A at *
    generalize c2 = c at *
    have nA : ∀ k, k < wS.heap.size → ¬ Ob A k := fun k hk ⟨a', ha', hh⟩ => by have := (oX.block a' ha').1; omega
    have h1X := h1S.keeps kX (by omega)
    have h5X := h5S.keeps kX (by omega)
    have hbX := HB.belK hbS kX b8s
    refine hb_ldS0 hX rfl (hb_ldS hX (j := 1) rfl (hb_st0 h1X (by simp [rsC]) fun wA hA kA => hb_st hA (j := 1) (by simp [rsC]) fun wB hB kB => ?_))
    have hB : HB wB b1 (rsC { s with A1 := A, n1 := (insE er e).length, c1 := c }) 43 := hB
    have h5B := (h5X.keeps kA (by omega)).keeps kB (by omega)
    have hbB := HB.belK hbX (kA.trans kB) (by omega)
    have oB := (oX.keeps kA fun a ha hh => nA b1 l1 ⟨a, ha, hh⟩).keeps kB fun a ha hh => nA b1 l1 ⟨a, ha, hh⟩
    refine get4 hB (ret4 h5B rfl { s with A1 := A, n1 := (insE er e).length, c1 := c } fun wE hE kE => ⟨{ s with A1 := A, n1 := (insE er e).length, c1 := c }, false, fun _ _ => hj, by rw [ec]; rfl, ?_, ?_, HB.belK hbB kE (by omega)⟩)
    · have oE := oB.keeps kE fun a ha hh => nA b5 l5 ⟨a, ha, hh⟩
      have hfE := h.belw (HB.belK hbB kE (by omega))
      rw [ee]
      refine ⟨hfE.v, h.nv, oE.reads, rfl, h.n2, h.n3, ?_, h.vl, by have := (insE_perm er e).length_eq; simp at this; omega, hfE.m2, hfE.m3, h.l2, h.l3⟩
      rintro k (hk | ⟨a, ha, rfl⟩ | hk)
      · exact hfE.lt k (.inl hk)
      · exact (oE.block a ha).2
      · exact hfE.lt k (.inr (.inr hk))
    · constructor
      rintro k (hk | ⟨a, ha, rfl⟩ | hk)
      · exact .inl (.inl hk)
      · exact .inr (by have := (oB.block a ha).1; omega)
      · exact .inl (.inr (.inr hk))
end Go.Proofs.Ytkkobfajahmfaaa.Rd
