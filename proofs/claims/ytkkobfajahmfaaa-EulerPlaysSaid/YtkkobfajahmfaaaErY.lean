/- The document's plain forest: Cut. Conditions: none. -/
import Derived.Test.YtkkobfajahmfaaaErX
namespace Go.Proofs.Ytkkobfajahmfaaa.Rd
open Go.Dn Go.RowKit
set_option linter.unusedVariables false
set_option maxRecDepth 100000
def nC (A0 : Option Addr) (n0 c0 : Nat) (A1 : Option Addr) (n1 c1 : Nat) : Array Value := #[.slice A0 n0 c0, .slice A1 n1 c1]
theorem noE_take {l : List E} {i : Nat} (h : i < l.length) (x : Int) : noE (l.take (i + 1)) x = if l[i].id = x then noE (l.take i) x else noE (l.take i) x ++ [l[i]] := by
  unfold noE
  rw [List.take_succ_eq_append_getElem h, List.filter_append]
  by_cases e : l[i].id = x
  · rw [if_pos e]; simp [e]
  · rw [if_neg e]; simp [e]
theorem RCut_l0 {w0 wS : World} {s : RS} {vr : List Int} {er : List E} {mv me : List Int} (h : RF w0 s vr er mv me) {x : Int} {b1 b8 : Nat} (hb8 : w0.heap.size ≤ b8) (l8 : b8 < wS.heap.size) (hS : Below w0.heap.size w0 wS) (h1S : HB wS b1 (rsC s) 43) (hne : b1 ≠ b8) {Av : Option Addr} {nv cv : Nat} {K0 : World → Prop}
    (k0 : ∀ w A c, HB w b8 (nC Av nv cv A (noE er x).length c) 41 → OwnEd w wS.heap.size TE A c (noE er x) → Keeps (fun k => k = b8) wS w → K0 w) : ∀ (m i : Nat) (w : World) (A : Option Addr) (c : Nat), er.length - i = m → i ≤ er.length →
      HB w b8 (nC Av nv cv A (noE (er.take i) x).length c) 41 → OwnEd w wS.heap.size TE A c (noE (er.take i) x) → Keeps (fun k => k = b8) wS w → f_ref16_Cut.l0 (m + 1) x (⟨b1, 0, none⟩ : Addr) (⟨b8, 0, none⟩ : Addr) (i : Int) w K0 := by
  have hn := h.ne
  have hel := h.el
  have hsz := hS.size
  intro m
  induction m with
  | zero =>
    intro i w A c hm hi h8 ho hk
    have : i = er.length := by omega
    subst this
    rw [List.take_length] at h8 ho
    unfold f_ref16_Cut.l0
    exact hb_ldS (h1S.keeps hk hne) (j := 1) rfl (sel_f (by simp [hn]) (k0 w A c h8 ho hk))
  | succ m ih =>
    intro i w A c hm hi h8 ho hk
    have hlt : i < er.length := by omega
    have h1 := h1S.keeps hk hne
    have hb := HB.belK hS hk hb8
    have hf := h.belw hb
    obtain ⟨a, hA, q⟩ := hf.e i hlt
    have hw : IntKind.i64.wrap ((i : Int) + 1) = ((i + 1 : Nat) : Int) := by rw [w64_in (by omega)]; omega
    have htk := noE_take hlt x
    have hlen : (noE (er.take i) x).length ≤ er.length := Nat.le_trans (List.length_filter_le _ _) (by rw [List.length_take]; omega)
    unfold f_ref16_Cut.l0
    refine hb_ldS h1 (j := 1) rfl (sel_t (by simp; omega) (hb_ldS h1 (j := 1) rfl (optB_some hA (req_intro (by simp; omega) (ldI_intro (by rw [Int.toNat_natCast]; exact q.c0) ?_)))))
    by_cases e : er[i].id = x
    · refine sel_f (by simp [e]) ?_
      rw [if_pos e] at htk
      rw [hw]
      exact ih (i + 1) w A c (by omega) (by omega) (by rw [htk]; exact h8) (by rw [htk]; exact ho) hk
    · rw [if_neg e] at htk
      refine sel_t (by simp [e]) (drW_intro ?_)
      have hd8 : HB w.drew b8 (nC Av nv cv A (noE (er.take i) x).length c) 41 := h8
      have hkd := hk.drew
      have qq : ∀ w', Keeps (fun k => k = b8) wS w' → REd w' a i er[i] := fun w' hk => by
        obtain ⟨a', hA', q'⟩ := (h.belw (HB.belK hS hk hb8)).e i hlt
        rw [hA] at hA'; injection hA' with hA'; subst hA'; exact q'
      refine ⟨fun w' => HB w' b8 (nC Av nv cv A (noE (er.take i) x).length c) 41 ∧ Keeps (fun k => k = b8) wS w', ⟨hd8, hkd⟩, A, _, c, fun w' h => (h.1.cell 1).trans rfl, s.A1, s.n1, s.c1, fun w' h => ((h1S.keeps h.2 hne).cell 1).trans rfl, optB_some hA (req_intro (by simp; omega) ?_)⟩
      refine ⟨_, fun w' h => by rw [Int.toNat_natCast]; exact (qq w' h.2).c0, _, fun w' h => by rw [Int.toNat_natCast]; exact (qq w' h.2).c1, _, fun w' h => by rw [Int.toNat_natCast]; exact (qq w' h.2).c2, _, fun w' h => by rw [Int.toNat_natCast]; exact (qq w' h.2).c3, ?_⟩
      refine al_new fun w2 b e2 s2 h2 g2 => ?_
      have o2 : OwnEd w2 wS.heap.size TE A c (noE (er.take i) x) := (ho.keeps (S := fun _ => False) (w' := w.drew) (Keeps.refl _ _).drew fun _ _ => id).keeps (S := fun _ => False) (.of_below g2) fun _ _ => id
      have hk2 := hkd.trans (.of_below g2)
      refine ⟨⟨hd8.below g2, hk2⟩, app_ed o2 rfl (e := er[i]) h2 hk2.size (by omega) fun A' c' w3 o3 k3 f3 => ⟨_, _, _, rfl, ?_⟩⟩
      have nA : ∀ k, k < wS.heap.size → ¬ Ob A k := fun k hk ⟨a', ha', hh⟩ => by have := (ho.block a' ha').1; omega
      have h83 := (hd8.below g2).keeps k3 (nA b8 l8)
      refine hb_st h83 (j := 1) (by simp [nC]) fun w4 h84 k4 => ?_
      rw [hw]
      refine ih (i + 1) w4 (some A') c' (by omega) (by omega) (by rw [htk]; exact h84) (by rw [htk]; exact o3.keeps k4 fun a' ha' e => by have := (o3.block a' ha').1; omega) ?_
      exact (hk2.trans' k3 fun k hk hh => absurd hh (nA k hk)).trans k4
def cutMr (er : List E) (me : List Int) (i : Int) : List Int := if cutC er i = 0 then woI me i else me
def cutEr (er : List E) (i : Int) : List E := if cutC er i = 0 then noE er i else er
theorem edgeB_iff (es : List E) (i : Int) : edgeB es i = true ↔ i ∈ es.map E.id := by
  unfold edgeB
  rw [List.any_eq_true, List.mem_map]
  constructor
  · rintro ⟨e, he, h⟩; exact ⟨e, he, by simpa using h⟩
  · rintro ⟨e, he, h⟩; exact ⟨e, he, by simpa using h⟩
theorem RCut_ok {w : World} {s : RS} {vr : List Int} {er : List E} {mv me : List Int} (h : RF w s vr er mv me) (x : Int) :
    Calls Try.prog 23 #[.agg (rsC s), .int .i64 x] w fun e w' => ∃ s', e = .returned (.tuple #[.agg (rsC s'), .int .i64 (cutC er x)]) ∧ RF w' s' vr (cutEr er x) mv (cutMr er me x) ∧ Sb w s s' ∧ Below w.heap.size w w' := by
  apply f_ref16_Cut.ok
  unfold f_ref16_Cut.wp
  refine al_new fun w1 b1 e1 s1 h1 g1 => al_new fun w2 b2 e2 s2 h2 g2 => ?_
  have hb := g1.trans (g2.mono (by omega))
  have h1 : HB w2 b1 (rsC s) 43 := h1.below g2
  have hf := h.belw hb
  refine (RBad_ok x w2).mono ?_
  rintro _ w3 ⟨⟨b, rfl, hbad⟩, rfl⟩
  refine ⟨b, rfl, ?_⟩
  have same : ∀ {w'}, cutC er x ≠ 0 → Below w.heap.size w w' → ∃ s', Ending.returned (.tuple #[.agg (rsC s), .int .i64 (cutC er x)]) = .returned (.tuple #[.agg (rsC s'), .int .i64 (cutC er x)]) ∧ RF w' s' vr (cutEr er x) mv (cutMr er me x) ∧ Sb w s s' ∧ Below w.heap.size w w' := fun hc hk => ⟨s, rfl, by unfold cutEr cutMr; rw [if_neg hc, if_neg hc]; exact h.belw hk, .refl _ _, hk⟩
  by_cases hv : badI x
  · have ec : cutC er x = 1 := by unfold cutC; rw [if_pos hv]
    have := @same
    rw [ec] at this ⊢
    exact sel_t (hbad.2 hv) (get4 h1 (ret4 h2 rfl s fun w4 h4 k4 => this (by decide) (HB.belK hb k4 (by omega))))
  refine sel_f (Bool.eq_false_iff.2 fun hh => hv (hbad.1 hh)) (get4 h1 ((REdge_ok hf x).mono ?_))
  rintro _ w4 ⟨rfl, g4⟩
  refine ⟨_, _, _, _, _, rfl, ?_⟩
  have hb4 := hb.trans (g4.mono hb.size)
  have h14 := h1.below g4
  have h24 := h2.below g4
  refine edge4 (e := edgeE er x) fun w5 b5 e5 h5 g5 => ?_
  have hb5 := hb4.trans (g5.mono hb4.size)
  have h15 := h14.below g5
  have h25 := h24.below g5
  by_cases hm : x ∉ er.map E.id
  · have ec : cutC er x = 152 := by unfold cutC; rw [if_neg hv, if_pos hm]
    have := @same
    rw [ec] at this ⊢
    refine sel_t (by rw [Bool.not_eq_true', Bool.eq_false_iff]; exact fun hh => hm ((edgeB_iff er x).1 hh)) (get4 h15 (ret4 h25 rfl s fun w4 h4 k4 => this (by decide) (HB.belK hb5 k4 (by omega))))
  have ec : cutC er x = 0 := by unfold cutC; rw [if_neg hv, if_neg hm]
  have er' : cutEr er x = noE er x := by unfold cutEr; rw [if_pos ec]
  have em' : cutMr er me x = woI me x := by unfold cutMr; rw [if_pos ec]
  rw [ec, er', em']
  refine sel_f (by rw [(edgeB_iff er x).2 (Classical.not_not.1 hm)]; rfl) (hb_ldS0 h15 rfl ?_)
  refine al_new fun w6 b8 e8 s8 h8 g8 => ?_
  have hb6 := hb5.trans (g8.mono hb5.size)
  have h16 := h15.below g8
  have h26 := h25.below g8
  refine hb_st0 h8 (by simp) fun w7 h87 k7 => hb_st h87 (j := 1) (by simp) fun w8 h88 k8 => ?_
  have h88 : HB w8 b8 (nC s.A0 s.n0 s.c0 none (noE (er.take 0) x).length 0) 41 := h88
  have l1 := h15.lt
  have l2 := h25.lt
  have h18 := (h16.keeps k7 (by omega)).keeps k8 (by omega)
  have h28 := (h26.keeps k7 (by omega)).keeps k8 (by omega)
  have hb8 := HB.belK hb6 (k7.trans k8) (by have := hb5.size; omega)
  have b8s : w.heap.size ≤ b8 := by have := hb5.size; omega
  refine ⟨er.length + 1, RCut_l0 h b8s h88.lt hb8 h18 (by omega) (fun w9 A c h89 o9 k9 => ?_) er.length 0 w8 none 0 (by omega) (by omega) h88 (OwnEd.none _ _ _) (Keeps.refl _ _)⟩
  intro _
  have h19 := h18.keeps k9 (by omega)
  have h29 := h28.keeps k9 (by omega)
  have hb9 := HB.belK hb8 k9 b8s
  have sz8 : w.heap.size ≤ w8.heap.size := hb8.size
  have l18 := h18.lt
  have l28 := h28.lt
  have oA : ∀ {w'}, OwnEd w' w8.heap.size TE A c (noE er x) → ∀ k, k < w8.heap.size → ∀ a, A = some a → ¬ (a.block = k) := fun o k hk a ha e => by have := (o.block a ha).1; omega
  refine hb_ldS0 h89 rfl (hb_ldS h89 (j := 1) rfl (hb_st0 h19 (by simp [rsC]) fun wA hA kA => hb_st hA (j := 1) (by simp [rsC]) fun wB hB kB => ?_))
  have hB : HB wB b1 (rsC { s with A1 := A, n1 := (noE er x).length, c1 := c }) 43 := hB
  have h2B := (h29.keeps kA (by omega)).keeps kB (by omega)
  have hbB := HB.belK hb9 (kA.trans kB) (by omega)
  have oB := (o9.keeps kA fun a ha => oA o9 b1 l18 a ha).keeps kB fun a ha => oA o9 b1 l18 a ha
  refine hb_ldS hB (j := 3) rfl ((Without_ok (h.belw hbB).m3 h.n3 (by have := h.l3; omega) x).mono ?_)
  rintro _ wC ⟨A3, c3, rfl, oC, gC⟩
  have hbC := hbB.trans (gC.mono hbB.size)
  refine ⟨_, _, _, rfl, hb_st (hB.below gC) (j := 3) (by simp [rsC]) fun wD hD kD => ?_⟩
  have hD : HB wD b1 (rsC { s with A1 := A, n1 := (noE er x).length, c1 := c, A3 := A3, n3 := (woI me x).length, c3 := c3 }) 43 := hD
  have hbD := HB.belK hbC kD (by omega)
  have h2D := (h2B.below gC).keeps kD (by omega)
  have oD : OwnEd wD w8.heap.size TE A c (noE er x) := (oB.keeps (S := fun _ => False) (.of_below gC) fun _ _ => id).keeps kD fun a ha => oA oB b1 l18 a ha
  refine get4 hD (ret4 h2D rfl { s with A1 := A, n1 := (noE er x).length, c1 := c, A3 := A3, n3 := (woI me x).length, c3 := c3 } fun wE hE kE => ⟨_, rfl, ?_, ?_, HB.belK hbD kE (by omega)⟩)
  · have oE := oD.keeps kE fun a ha => oA oD b2 l28 a ha
    have hfE := h.belw (HB.belK hbD kE (by omega))
    have hl3 := h.l3
    have lw3 : (woI me x).length ≤ me.length := List.length_filter_le _ _
    have h1l := hB.lt
    have h2l := h2B.lt
    have o3E := (oC.keeps kD fun a ha e => by have := (oC.block a ha).1; omega).keeps kE fun a ha e => by have := (oC.block a ha).1; omega
    refine ⟨hfE.v, h.nv, oE.reads, rfl, h.n2, rfl, ?_, h.vl, Nat.le_trans (List.length_filter_le _ _) h.el, hfE.m2, o3E.reads, h.l2, by show (woI me x).length ≤ 4096; omega⟩
    rintro k (hk | ⟨a, ha, rfl⟩ | hk | ⟨a, ha, rfl⟩)
    · exact hfE.lt k (.inl hk)
    · exact (oE.block a ha).2
    · exact hfE.lt k (.inr (.inr (.inl hk)))
    · exact (o3E.block a ha).2
  · constructor
    have hsB := hbB.size
    rintro k (hk | ⟨a, ha, rfl⟩ | hk | ⟨a, ha, rfl⟩)
    · exact .inl (.inl hk)
    · exact .inr (by have := (oD.block a ha).1; omega)
    · exact .inl (.inr (.inr (.inl hk)))
    · exact .inr (by have := (oC.block a ha).1; omega)
end Go.Proofs.Ytkkobfajahmfaaa.Rd
