/- make, walked. Conditions: none. -/
import Derived.Test.YtfknppccgojhdaaLcK
namespace Go.Proofs.Ytfknppccgojhdaa.Rd
open Go.Dn Go.RowKit
set_option linter.unusedVariables false
set_option maxRecDepth 100000
theorem TNd_info : ∃ i, Try.prog.info? 70 = some i ∧ (∃ z, i.zero = some z ∧ z.cells.size = 13) ∧ i.size = 13 ∧ i.bytes = 112 := by
  have := TNdI
  cases hi : Try.prog.info? 70 with
  | none => rw [hi] at this; cases this
  | some i =>
    rw [hi] at this
    simp only [Option.map_some, Option.some.injEq, Prod.mk.injEq] at this
    exact ⟨i, rfl, ⟨_, this.1, rfl⟩, this.2.1, this.2.2⟩
theorem nodeC_one (d : Nd) : ∀ u ∈ (nodeC d).toList, u.oneCell' = true := by
  intro u hu
  obtain ⟨j, hj, rfl⟩ := List.getElem_of_mem hu
  have hj' : j < 13 := by simpa [nodeC] using hj
  have h1 := nodeC_get d hj'
  rw [← Array.getElem?_toList] at h1
  have h2 := (List.getElem?_eq_some_iff.1 h1).2
  rw [h2]
  clear h1 h2 hu hj
  revert j
  have : ∀ j, j < 13 → (fld d j).oneCell' = true := fld_cases ⟨rfl, rfl, rfl, rfl, rfl, rfl, rfl, rfl, rfl, rfl, rfl, rfl, rfl⟩
  intro j hj'
  exact this j hj'
theorem app_node {w : World} {r : LC} {N : Nat → Nd} (h : Lp w r N) (hn : r.n ≤ 1000000) (n0 : 0 < r.n) {b : Nat} {d : Nd} {t : TypeId} (hb : HB w b (nodeC d) t) {K : Value → World → Prop}
    (hK : ∀ w' g' c', Lp w' r N → w'.ownsRow r.B 70 13 (.slice (some ⟨g', 0, none⟩) (r.n + 1) c') (r.n + 1) (enc 13 (r.n + 1) fun i j => fld (stN N r.n d i) j) → (g' = r.g ∨ w.heap.size ≤ g') → Keeps (fun k => k = r.g) w w' → K (.slice (some ⟨g', 0, none⟩) (r.n + 1) c') w') :
    Runs Try.prog (Builtin.append_ #[62, 62] 62 #[.slice (some ⟨r.g, 0, none⟩) r.n r.c, .slice (some (⟨b, 0, none⟩ : Addr)) 1 1]) w K := by
  obtain ⟨i, hi, ⟨z, hz, hz1⟩, hs, hby⟩ := TNd_info
  have hnews : ∀ j u, (nodeC d).toList[j]? = some u → w.cell? ((⟨b, 0, none⟩ : Addr).add j) = some u := fun j u hj => by
    rw [hb.cell, ← Array.getElem?_toList]; exact hj
  have hl : (nodeC d).toList.length = 1 * 13 := by simp [nodeC]
  have hB : r.B ≤ w.heap.size := by have := h.hB; have := h.R_lt; omega
  have henc : (enc 13 r.n fun i j => fld (N i) j) ++ (nodeC d).toList = enc 13 (r.n + 1) fun i j => fld (stN N r.n d i) j :=
    enc_app _ (by simp [nodeC]) (fun i hi j _ => by rw [stN_ne _ _ (by omega)]) (fun j hj => by rw [stN_same, Array.getElem?_toList]; exact nodeC_get d hj)
  by_cases hroom : r.n + 1 ≤ r.c
  · obtain ⟨w', hrun, ho', hg⟩ := run_append_fits (P := Try.prog) w r.B _ 62 _ i 13 TNd hi hs r.g r.n r.c _ h.own ⟨b, 0, none⟩ 1 1 (nodeC d).toList hl hnews (nodeC_one d) hroom
    have hk : Keeps (fun k => k = r.g) w w' := ⟨hg.os, hg.tape, hg.output, hg.size, fun k hk hn => hg.block k hk (by simpa using hn)⟩
    have hp := own_prefix ho' (by rw [enc_len])
    rw [henc] at ho'
    exact runs_of hrun (hK w' r.g r.c ⟨(hk.block _ h.R_lt (fun e => h.gR e.symm)).trans h.obj, hp, h.hB, h.gR⟩ ho' (.inl rfl) hk)
  · have hr2 := run_append_grow (P := Try.prog) w _ 62 _ i z TNd hi hz ⟨r.g, 0, none⟩ r.n r.c (enc 13 r.n fun i j => fld (N i) j) (by rw [enc_len, hs]) (h.own.cells (g := r.g) rfl) ⟨b, 0, none⟩ 1 1 (nodeC d).toList (by rw [hs]; exact hl) hnews (by omega) (by omega)
      (by rw [hby]; exact growslice_fits (by omega) (by omega))
    obtain ⟨v', w', hrun, ho', hg, _⟩ := run_append_own (P := Try.prog) w r.B _ 62 _ i z 13 112 TNd hi hz hs hby hz1 (by decide) _ _ _ h.own ⟨b, 0, none⟩ 1 1 (nodeC d).toList hl hnews (nodeC_one d) (by unfold maxLen; omega) (by omega) hB
    rw [hr2] at hrun
    injection hrun with hv hw
    refine runs_of hr2 ?_
    have hbel : Below w.heap.size w w' := by rw [← hw]; exact (Below.refl w.heap.size w).drew.alloc (Nat.le_refl _) _
    rw [hw]
    rw [← hv] at ho'
    rw [henc] at ho'
    exact hK w' _ _ (h.below hbel) ho' (.inr (Nat.le_refl _)) (.of_below hbel)
/-- what make leaves -/
structure MkP (w w' : World) (r r' : LC) (N : Nat → Nd) (A : Option Addr) (c : Nat) (sp sp' : List Nat) (i : Nat) (e : E) : Prop where
  lp : Lp w' r' (stN N i (mkNd e))
  spr : Spr w' r' A c sp'
  R : r'.R = r.R
  B : r'.B = r.B
  mv : r'.mv = r.mv
  me : r'.me = r.me
  mn : r'.mn = r.mn
  g : r'.g = r.g ∨ w.heap.size ≤ r'.g
  kp : Keeps (fun k => k = r.R ∨ k = r.g) w w'
  it : (sp = sp' ++ [i] ∧ r'.n = r.n) ∨ (sp = [] ∧ sp' = [] ∧ i = r.n ∧ r'.n = r.n + 1)
theorem make_j0 {w : World} {r : LC} {N : Nat → Nd} (h : Lp w r N) (hn : r.n ≤ 100000) (n0 : 0 < r.n) {A : Option Addr} {c : Nat} {sp : List Nat} (hs : Spr w r A c sp) {b : Nat} {e : E} {t : TypeId} (hb : HB w b (nodeC (mkNd e)) t) (hbn : b ≠ r.R ∧ b ≠ r.g) (hbA : ∀ a, A = some a → b ≠ a.block) {Kr : Int → World → Prop}
    (hK : ∀ w' r' sp' i, MkP w w' r r' N A c sp sp' i e → Kr (i : Int) w') : f_linkcut_Forest_make.j0 ⟨r.R, 0, none⟩ (⟨b, 0, none⟩ : Addr) w Kr := by
  unfold f_linkcut_Forest_make.j0
  have c4 : w.cell? ((⟨r.R, 0, none⟩ : Addr).add 4) = some (.slice A sp.length c) := by rw [h.cellR]; show some r.sp = _; rw [hs.v]
  refine ldS_intro c4 ?_
  rcases List.eq_nil_or_concat sp with rfl | ⟨sp0, i, rfl⟩
  · refine sel_f (by simp) (drW_intro ?_)
    have hd := h.drew
    have hbd : HB w.drew b (nodeC (mkNd e)) t := hb
    refine ⟨fun w' => Lp w' r N ∧ HB w' b (nodeC (mkNd e)) t, ⟨hd, hbd⟩, _, _, _, fun w' h' => h'.1.sl0, ?_⟩
    have cellb : ∀ (w' : World), (Lp w' r N ∧ HB w' b (nodeC (mkNd e)) t) → ∀ j, j < 13 → w'.cell? ((⟨b, 0, none⟩ : Addr).add j) = some (fld (mkNd e) j) := fun w' h' j hj => by rw [h'.2.cell, nodeC_get _ hj]
    refine ⟨_, fun w' h' => cellb w' h' 0 (by omega), _, fun w' h' => cellb w' h' 1 (by omega), _, fun w' h' => cellb w' h' 2 (by omega), _, fun w' h' => cellb w' h' 3 (by omega), _, fun w' h' => cellb w' h' 4 (by omega), _, fun w' h' => cellb w' h' 5 (by omega), _, fun w' h' => cellb w' h' 6 (by omega), _, fun w' h' => cellb w' h' 7 (by omega), _, fun w' h' => cellb w' h' 8 (by omega), _, fun w' h' => cellb w' h' 9 (by omega), _, fun w' h' => cellb w' h' 10 (by omega), _, fun w' h' => cellb w' h' 11 (by omega), _, _, fun w' h' => cellb w' h' 12 (by omega), ?_⟩
    refine al_new fun w2 b2 e2 s2 h2 g2 => ?_
    have l2 := hd.below g2
    have hb2 := hbd.below g2
    have h2 : HB w2 b2 (nodeC (mkNd e)) 70 := h2
    refine ⟨⟨l2, hb2⟩, app_node l2 (by omega) n0 h2 fun w3 g' c' l3 o3 hg3 k3 => ?_⟩
    have hb3 : HB w3 b (nodeC (mkNd e)) t := hb2.keeps k3 hbn.2
    refine ⟨_, _, _, rfl, ⟨l3, hb3⟩, ?_⟩
    have kR : Keeps (fun k => k = r.R) w3 (w3.setCell (⟨r.R, 0, none⟩ : Addr) (.slice (some ⟨g', 0, none⟩) (r.n + 1) c')) := (Keeps.refl (fun k => k = r.R) w3).setCell (p := (⟨r.R, 0, none⟩ : Addr)) (.inl rfl) _
    have hs2 : w.heap.size ≤ w2.heap.size := g2.size
    have hg' : g' = r.g ∨ w.heap.size ≤ g' := hg3.imp id fun h => by omega
    have gR' : g' ≠ r.R := by
      rcases hg' with e | e
      · rw [e]; exact h.gR
      · have := h.R_lt; omega
    have hobj : (w3.setCell (⟨r.R, 0, none⟩ : Addr) (.slice (some ⟨g', 0, none⟩) (r.n + 1) c')).heap[r.R]? = some (Obj.cells #[.slice (some ⟨g', 0, none⟩) (r.n + 1) c', .map (some r.mv), .map (some r.me), .map (some r.mn), r.sp] 65) := by
      rw [heap_setCell_same w3 r.R _ _ _ _ l3.obj]; rfl
    have own' : (w3.setCell (⟨r.R, 0, none⟩ : Addr) (.slice (some ⟨g', 0, none⟩) (r.n + 1) c')).ownsRow r.B 70 13 (.slice (some ⟨g', 0, none⟩) (r.n + 1) c') (r.n + 1) (enc 13 (r.n + 1) fun i j => fld (stN N r.n (mkNd e) i) j) := Keeps.own o3 kR (fun k hk => by injection hk with hk; subst hk; exact gR')
    refine stW_intro ⟨⟨_, l3.sl0⟩, frozen_of_row _ _ _ _ _ l3.obj⟩ ?_
    have kall : Keeps (fun k => k = r.R ∨ k = r.g) w (w3.setCell (⟨r.R, 0, none⟩ : Addr) (.slice (some ⟨g', 0, none⟩) (r.n + 1) c')) :=
      (((Keeps.refl _ _).drew.trans (.of_below g2)).trans (k3.mono fun k _ hk => .inr hk)).trans (kR.mono fun k _ hk => .inl hk)
    refine ldS_intro (by rw [cell_of_row _ _ _ _ _ _ hobj]; rfl) ?_
    have hi : IntKind.i64.wrap (((r.n + 1 : Nat) : Int) - 1) = (r.n : Int) := by rw [w64_in (by omega)]; omega
    rw [hi]
    refine hK _ { r with g := g', c := c', n := r.n + 1 } [] r.n ⟨⟨hobj, own', h.hB, gR'⟩, ⟨hs.v, ?_, fun a ha => ⟨(hs.ap a ha).1, ?_⟩, by simp⟩, rfl, rfl, rfl, rfl, rfl, hg', kall, .inr ⟨rfl, rfl, rfl, rfl⟩⟩
    · exact hs.own.keeps kall fun a ha hh => by
        rcases hh with hh | hh
        · exact (hs.ap a ha).1 hh
        · exact (hs.ap a ha).2 hh
    · rcases hg' with e | e
      · show a.block ≠ g'; rw [e]; exact (hs.ap a ha).2
      · show a.block ≠ g'; have := (hs.own.block a ha).2; omega
  · have e0 : sp0.concat i = sp0 ++ [i] := List.concat_eq_append
    rw [e0] at hs c4 hK ⊢
    have hlen : (sp0 ++ [i]).length = sp0.length + 1 := by simp
    rw [hlen] at c4 ⊢
    have hsl : sp0.length + 1 ≤ 9223372036854775807 := by
      have h1 := hs.own.le
      rw [zs_len, hlen] at h1
      rcases hs.own.2 with ⟨hv, _⟩ | ⟨g, cap, cur, hv, _, _, _, hm, _⟩
      · injection hv with _ _ h3; omega
      · injection hv with _ _ h3
        unfold maxLen at hm; omega
    refine sel_t (by simp) (ldS_intro c4 ?_)
    have hw : IntKind.i64.wrap (((sp0.length + 1 : Nat) : Int) - 1) = (sp0.length : Int) := by rw [w64_in (by omega)]; omega
    rw [hw]
    obtain ⟨a, ha, hc⟩ := hs.own.reads sp0.length (by rw [zs_len, hlen]; omega)
    have hget : (zs (sp0 ++ [i]))[sp0.length]'(by rw [zs_len, hlen]; omega) = (i : Int) := by simp [zs]
    rw [hget] at hc
    refine optB_some ha (req_intro (by simp; omega) (ldI_intro (by rw [Int.toNat_natCast, Nat.mul_one]; exact hc) ?_))
    have hcap : sp0.length + 1 ≤ c := by have := hs.own.le; rw [zs_len, hlen] at this; exact this
    refine ldS_intro c4 (req_intro (by simp; omega) ?_)
    rw [slA0, Nat.sub_zero, Nat.sub_zero, Int.toNat_natCast]
    obtain ⟨wr4, l4, k4⟩ := h.setSp (.slice A sp0.length c)
    refine stW_intro wr4 (drW_intro ?_)
    generalize w.setCell _ _ = w4 at l4 k4 ⊢
    have ilt : i < r.n := hs.lt i (by simp)
    have l5 := l4.drew
    have hb4 : HB w4 b (nodeC (mkNd e)) t := hb.keeps k4 hbn.1
    have hb5 : HB w4.drew b (nodeC (mkNd e)) t := hb4
    have cellb : ∀ j, j < 13 → w4.drew.cell? ((⟨b, 0, none⟩ : Addr).add j) = some (fld (mkNd e) j) := fun j hj => by rw [hb5.cell, nodeC_get _ hj]
    refine ldS_intro l5.sl0 ⟨_, cellb 0 (by omega), _, cellb 1 (by omega), _, cellb 2 (by omega), _, cellb 3 (by omega), _, cellb 4 (by omega), _, cellb 5 (by omega), _, cellb 6 (by omega), _, cellb 7 (by omega), _, cellb 8 (by omega), _, cellb 9 (by omega), _, cellb 10 (by omega), _, cellb 11 (by omega), _, _, cellb 12 (by omega), optB_some rfl (req_intro (by simp; omega) ?_)⟩
    refine lc_stall l5 ilt (mkNd e) fun w6 l6 k6 => ?_
    have kall : Keeps (fun k => k = r.R ∨ k = r.g) w w6 := ((k4.mono fun k _ hk => .inl hk).drew).trans (k6.mono fun k _ hk => .inr hk)
    refine hK w6 { r with sp := .slice A sp0.length c } sp0 i ⟨l6, ⟨rfl, ?_, hs.ap, fun j hj => hs.lt j (by simp [hj])⟩, rfl, rfl, rfl, rfl, rfl, .inl rfl, kall, .inl ⟨rfl, rfl⟩⟩
    have := hs.own
    rw [zs_app] at this
    exact (OwnI.pop (x := (i : Int)) this).keeps kall fun a ha hh => by
      rcases hh with hh | hh
      · exact (hs.ap a ha).1 hh
      · exact (hs.ap a ha).2 hh
theorem make_ok {w : World} {r : LC} {N : Nat → Nd} (h : Lp w r N) (hn : r.n ≤ 100000) (n0 : 0 < r.n) {A : Option Addr} {c : Nat} {sp : List Nat} (hs : Spr w r A c sp) (e : E) :
    Calls Try.prog 33 #[.pointer (some ⟨r.R, 0, none⟩), .agg (eC e)] w fun en w' => ∃ r' sp' i, en = .returned (.int .i64 ((i : Nat) : Int)) ∧ MkP w w' r r' N A c sp sp' i e := by
  apply f_linkcut_Forest_make.ok
  unfold f_linkcut_Forest_make.wp
  refine al_new fun w1 b1 e1 s1 h1 g1 => ?_
  have h1 : HB w1 b1 (eC e) 33 := h1
  refine hb_ldI0 h1 rfl (hb_ldI h1 (j := 1) rfl (hb_ldI h1 (j := 2) rfl (hb_ldI h1 (j := 3) rfl ?_)))
  refine al_new fun w2 b2 e2 s2 h2 g2 => ?_
  have h2 : HB w2 b2 (nodeC zNd) 70 := by
    have : nodeC zNd = #[.int .i64 (0 : Int), .int .i64 (0 : Int), .int .i64 (0 : Int), .bool false, .int .i64 (0 : Int), .int .i64 (0 : Int), .int .i64 (0 : Int), .int .i64 (0 : Int), .int .i64 (0 : Int), .int .i64 (0 : Int), .int .i64 (0 : Int), .int .i64 (0 : Int), .complex .f64 0 0] := by
      simp only [nodeC, fld, zNd, zE, fb_zero]; rfl
    rw [this]; exact h2
  have hz : ∀ (d : Nd), d.sr = 0 → d.si = 0 → fld d 12 = .complex .f64 0 0 := fun d h h' => by show Value.complex .f64 (fb d.sr) (fb d.si) = _; rw [h, h', fb_zero]
  show stW w2 ((⟨b2, 0, none⟩ : Addr).add 0) _ _
  refine nb_same h2 (by omega) rfl fun w3 h3 k3 => nb_same h3 (by omega) rfl fun w4 h4 k4 => nb_same h4 (by omega) rfl fun w5 h5 k5 => nb_same h5 (by omega) rfl fun w6 h6 k6 => ?_
  refine nb_sto h6 e fun w7 h7 k7 => ?_
  refine nb_same h7 (by omega) rfl fun w8 h8 k8 => nb_same h8 (by omega) rfl fun w9 h9 k9 => nb_same h9 (by omega) rfl fun w10 h10 k10 => nb_same h10 (by omega) rfl fun w11 h11 k11 => nb_same h11 (by omega) (hz _ rfl rfl) fun w12 h12 k12 => ?_
  have kb : Keeps (fun k => k = b2) w2 w12 := ((((((((k3.trans k4).trans k5).trans k6).trans k7).trans k8).trans k9).trans k10).trans k11).trans k12
  have l2 := (h.below g1).below g2
  have b2g : w.heap.size ≤ b2 := by have := g1.size; omega
  have b1n : w.heap.size ≤ b1 := by omega
  have nb2 : b2 ≠ r.R ∧ b2 ≠ r.g := by have := h.R_lt; have := h.g_lt.2; omega
  have hb12 : b1 ≠ b2 := by omega
  have h1' : HB w12 b1 (eC e) 33 := (h1.below g2).keeps kb hb12
  have fin : ∀ w13, HB w13 b2 (nodeC (mkNd e)) 70 → Keeps (fun k => k = b2) w2 w13 → f_linkcut_Forest_make.j0 ⟨r.R, 0, none⟩ (⟨b2, 0, none⟩ : Addr) w13 (fun (x95 : Int) (w96 : World) => ∀ _ : Fr, (fun (en : Ending) (w' : World) => ∃ r' sp' i, en = .returned (.int .i64 ((i : Nat) : Int)) ∧ MkP w w' r r' N A c sp sp' i e) (.returned (.int .i64 x95)) w96) := by
    intro w13 h13 k13
    have l13 := l2.nb nb2 k13
    have kw : Keeps (fun _ => False) w w13 := ((Keeps.of_below g1).trans (.of_below g2)).trans' k13 (fun k hk e => by omega)
    have hs13 : Spr w13 r A c sp := ⟨hs.v, hs.own.keeps kw (fun _ _ => id), hs.ap, hs.lt⟩
    refine make_j0 l13 hn n0 hs13 h13 nb2 (fun a ha e => by have := (hs.own.block a ha).2; omega) fun w' r' sp' i m => ?_
    exact fun _ => ⟨r', sp', i, rfl, ⟨m.lp, m.spr, m.R, m.B, m.mv, m.me, m.mn, m.g.imp id fun h => Nat.le_trans kw.size h, (kw.mono fun _ _ h => h.elim).trans m.kp, m.it⟩⟩
  refine hb_ldI0 h1' rfl ?_
  by_cases i0 : 0 < e.id
  · refine sel_t (by simpa using i0) (hb_ldI0 h1' rfl (hb_ldI h1' (j := 1) rfl (hb_ldI h1' (j := 2) rfl (hb_ldI h1' (j := 3) rfl (hb_ldI h1' (j := 3) rfl ?_)))))
    refine runs_of (run_convert_int_float _ _ _ .i64 .f64 _ (by rfl) (by rfl)) ⟨_, rfl, ?_⟩
    rw [add_add _ 8 1, add_add _ 8 2, add_add _ 8 3, add_add _ 8 4]
    refine nb_stm h12 e fun w13 h13 k13 => ?_
    have f1 : fb 1 = 4607182418800017408 := by decide
    refine nb_st h13 (by omega) (mkNd e) ?_ fun w14 h14 k14 => fin w14 h14 ((kb.trans k13).trans k14)
    rw [← f1]
    unfold mkNd
    simp only [if_pos i0]
    exact fld_cases ⟨rfl, rfl, rfl, rfl, rfl, rfl, rfl, rfl, rfl, rfl, rfl, rfl, rfl⟩
  · refine sel_f (by simpa using i0) (fin w12 ?_ kb)
    have : mkNd e = { zNd with o := e } := by unfold mkNd; simp only [if_neg i0]; rfl
    rw [this]; exact h12
end Go.Proofs.Ytfknppccgojhdaa.Rd
