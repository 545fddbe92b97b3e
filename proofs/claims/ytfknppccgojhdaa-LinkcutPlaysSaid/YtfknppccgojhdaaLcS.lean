/- Cut and New, walked. Conditions: none. -/
import Derived.Test.YtfknppccgojhdaaLcR
namespace Go.Proofs.Ytfknppccgojhdaa.Rd
open Go.Dn Go.RowKit
set_option linter.unusedVariables false
set_option maxRecDepth 100000
/-- what Cut answers -/
def cutC (es : List E) (i : Int) : Int := if badI i then 1 else if i ∉ es.map E.id then 152 else 0
def cutE (es : List E) (i : Int) : List E := if cutC es i = 0 then noE es i else es
theorem Cut_ok {w : World} {F : Nat → Prop} {R : Nat} {vs : List Int} {es : List E} (h : Rep w F R vs es) {j : Int} (hj : W64 j) :
    Calls Try.prog 18 #[.pointer (some ⟨R, 0, none⟩), .int .i64 j] w fun en w' => en = .returned (.int .i64 (cutC es j)) ∧ ∃ F', Rep w' F' R vs (cutE es j) ∧ Upd F w w' F' := by
  have h0 := h
  apply f_linkcut_Forest_Cut.ok
  unfold f_linkcut_Forest_Cut.wp
  obtain ⟨r, N, own, S, par, Fo, vn, en, nf, nk, A, c, sp, rfl, h2, h3⟩ := h
  refine ⟨_, h3.cm.2.1, h3.oe.look MTi hj ⟨_, rfl, (badId_ok _ _).mono ?_⟩⟩
  rintro _ w1 ⟨⟨b, rfl, hb⟩, rfl⟩
  refine ⟨b, rfl, ?_⟩
  have same : cutC es j ≠ 0 → ∃ F', Rep w1 F' r.R vs (cutE es j) ∧ Upd F w1 w1 F' := fun hc => ⟨F, by unfold cutE; rw [if_neg hc]; exact h0, Keeps.refl _ _, fun k hk => .inl hk⟩
  by_cases hbad : badI j
  · have ec : cutC es j = 1 := by unfold cutC; rw [if_pos hbad]
    exact sel_t (hb.2 hbad) ⟨by rw [ec], same (by rw [ec]; decide)⟩
  refine sel_f (Bool.eq_false_iff.2 fun hh => hbad (hb.1 hh)) ?_
  by_cases hid : j ∉ es.map E.id
  · have ec : cutC es j = 152 := by unfold cutC; rw [if_neg hbad, if_pos hid]
    exact sel_t (by simp [h3.gr.ez _ hid]) ⟨by rw [ec], same (by rw [ec]; decide)⟩
  have ec : cutC es j = 0 := by unfold cutC; rw [if_neg hbad, if_neg hid]
  have ecE : cutE es j = noE es j := by unfold cutE; rw [if_pos ec]
  rw [ec, ecE]
  obtain ⟨e, he, rfl⟩ := List.mem_map.1 (Classical.not_not.1 hid)
  clear same
  obtain ⟨er1, er2, eu, ev, euv, ew1, ew2⟩ := h3.gr.er e he
  have xS := (h3.gr.eS e he).1
  have x0 := h3.tr.nz _ xS
  have uS := (h3.gr.vS _ eu).1
  have vS := (h3.gr.vS _ ev).1
  have vr := h3.gr.vr
  have wu : W64 e.u := by have := vr _ eu; unfold W64; omega
  have wv : W64 e.v := by have := vr _ ev; unfold W64; omega
  have xlt := h3.env.rm.sl _ xS
  refine sel_f (by simp; omega) ?_
  have ho : (N (en e.id)).o = e := by rw [h3.env.rm.no]; exact (h3.gr.eS e he).2
  refine lc_at (K := fun a8 => ldI w1 ((a8.add _).add 4) .i64 _) h3.env.lp xlt rfl ?_
  rw [add_add _ 4 1, add_add _ 4 2, add_add _ 4 3]
  refine lc_ld h3.env.lp xlt rfl 4 (by omega) rfl (lc_ld h3.env.lp xlt rfl 5 (by omega) rfl (lc_ld h3.env.lp xlt rfl 6 (by omega) rfl (lc_ld h3.env.lp xlt rfl 7 (by omega) rfl ?_)))
  rw [ho]
  refine al_new fun w2 b1 e1 s1 hb1 g1 => ?_
  have hb1 : HB w2 b1 (eC zE) 33 := hb1
  refine hb_st0 hb1 (by simp [eC]) fun w3 q3 k3 => hb_st q3 (j := 1) (by simp [eC]) fun w4 q4 k4 => hb_st q4 (j := 2) (by simp [eC]) fun w5 q5 k5 => hb_st q5 (j := 3) (by simp [eC]) fun w6 q6 k6 => ?_
  have q6 : HB w6 b1 (eC e) 33 := q6
  have kb : Keeps (fun k => k = b1) w2 w6 := ((k3.trans k4).trans (k5.trans k6))
  have nF : ¬ Fp r A b1 := fun hf => by have h1 := h0.lt b1 ((h2 _).2 hf); omega
  have M6 : Md w6 r N own S par Fo vs (es.map E.id) nk (fun i => (vn i : Int)) (fun i => (en i : Int)) nf A c sp := (h3.md.below g1).other kb (fun k hk hf => nF (hk ▸ hf))
  have K6 : Keeps (Fp r A) w1 w6 := (Keeps.of_below g1).trans' kb fun k hk e => by omega
  refine drW_intro ?_
  have M7 := M6.below (Below.refl _ _).drew
  have q7 : HB w6.drew b1 (eC e) 33 := q6
  refine ⟨fun w' => w' = w6.drew, rfl, _, fun w' e => by rw [e]; exact M7.cm.1, _, fun w' e => by rw [e, q7.cell]; rfl, M7.ov.look MTi wu ⟨_, rfl, rfl, ?_⟩⟩
  have ux : AdjS S par (vn e.u) (en e.id) := (h3.adj _ _).2 ⟨e, he, .inr ⟨rfl, .inl rfl⟩⟩
  have vx : AdjS S par (vn e.v) (en e.id) := (h3.adj _ _).2 ⟨e, he, .inr ⟨rfl, .inr rfl⟩⟩
  have uvn : vn e.u ≠ vn e.v := fun h => euv (h3.gr.vi _ eu _ ev h)
  have unx := h3.gr.ven eu he
  have vnx := h3.gr.ven ev he
  refine (part_ok M7.env ux).mono ?_
  rintro _ w8 ⟨rfl, par8, N8, F8, en8, k8, a8⟩
  have M8 := M7.turned en8 k8
  have q8 : HB w8 b1 (eC e) 33 := q7.keeps k8 fun e => nF (.inr (.inl e))
  refine ⟨rfl, drW_intro ?_⟩
  have M9 := M8.below (Below.refl _ _).drew
  have q9 : HB w8.drew b1 (eC e) 33 := q8
  refine ⟨fun w' => w' = w8.drew, rfl, _, fun w' e => by rw [e]; exact M9.cm.1, _, fun w' e => by rw [e, q9.cell]; rfl, M9.ov.look MTi wv ⟨_, rfl, rfl, ?_⟩⟩
  refine (part_ok M9.env ((a8 _ _).2 ⟨vx, fun h => uvn h.1.symm, fun h => vnx h.1⟩)).mono ?_
  rintro _ w10 ⟨rfl, par10, N10, F10, en10, k10, a10⟩
  have M10 := M9.turned en10 k10
  have q10 : HB w10 b1 (eC e) 33 := q9.keeps k10 fun e => nF (.inr (.inl e))
  have K10 : Keeps (Fp r A) w1 w10 := ((K6.drew.trans (k8.mono fun k _ hk => .inr (.inl hk))).drew).trans (k10.mono fun k _ hk => .inr (.inl hk))
  refine ⟨rfl, ?_⟩
  have adjN : ∀ y z, AdjS S par10 y z ↔ Gn es vn en y z ∧ y ≠ en e.id ∧ z ≠ en e.id := by
    intro y z
    rw [a10, a8, h3.adj]
    constructor
    · rintro ⟨⟨h, h4, h5⟩, h6, h7⟩
      refine ⟨h, fun hy => ?_, fun hz => ?_⟩
      · rw [hy] at h
        obtain ⟨n, hn, hzn⟩ := gn_of_e h3.gr he h
        rcases hn with hn | hn
        · exact h5 ⟨hy, by rw [hzn, hn]⟩
        · exact h7 ⟨hy, by rw [hzn, hn]⟩
      · have h' : Gn es vn en (en e.id) y := by
          obtain ⟨a, ha, hh⟩ := h
          rw [hz] at hh
          exact ⟨a, ha, hh.symm.imp (fun x => x) (fun x => x)⟩
        obtain ⟨n, hn, hyn⟩ := gn_of_e h3.gr he h'
        rcases hn with hn | hn
        · exact h4 ⟨by rw [hyn, hn], hz⟩
        · exact h6 ⟨by rw [hyn, hn], hz⟩
    · rintro ⟨h, h4, h5⟩
      exact ⟨⟨h, fun h => h5 h.2, fun h => h4 h.1⟩, fun h => h5 h.2, fun h => h4 h.1⟩
  have iso : ∀ z, ¬ AdjS S par10 (en e.id) z := fun z hz => ((adjN _ _).1 hz).2.1 rfl
  have xsp : en e.id ∉ sp := fun hm => (h3.spd _ hm).1 xS
  have spn : sp.length ≤ 100000 := by have := h3.cnt; have := h3.nb; omega
  refine ⟨_, _, _, by rw [M10.env.lp.cellR]; show some r.sp = _; rw [h3.spr.v], ?_⟩
  refine al_new fun w11 b11 e11 s11 hb11 g11 => ?_
  have M11 := M10.below g11
  have q11 := q10.below g11
  have hb11 : HB w11 b11 #[.int .i64 (en e.id : Int)] TI := hb11
  refine spare_app M11.env.lp M11.spr hb11 spn fun A' c' w12 o12 k12 f12 => ?_
  have nR : ∀ a, A = some a → ¬ Fp r none a.block := by
    rintro a ha (h | h | h | h | h | ⟨_, h, _⟩)
    · exact (M11.spr.ap a ha).1 h
    · exact (M11.spr.ap a ha).2 h
    · exact (M11.da a ha).1 h
    · exact (M11.da a ha).2.1 h
    · exact (M11.da a ha).2.2 h
    · cases h
  have nA : ∀ k, Fp r none k → ¬ ∃ a, A = some a ∧ a.block = k := by rintro k hk ⟨a, ha, rfl⟩; exact nR a ha hk
  have fp : ∀ {k}, Fp r none k → Fp r A k := by
    rintro k (h | h | h | h | h | ⟨_, h, _⟩); exact .inl h; exact .inr (.inl h); exact .inr (.inr (.inl h)); exact .inr (.inr (.inr (.inl h))); exact .inr (.inr (.inr (.inr (.inl h)))); cases h
  have nA' : ¬ Fp r none A'.block := fun hk => by
    rcases f12 with h | h
    · exact nA _ hk ⟨A', h, rfl⟩
    · have : A'.block < w11.heap.size := M11.lt _ (fp hk)
      omega
  have nb1 : ¬ ∃ a, A = some a ∧ a.block = b1 := fun ⟨a, ha, hh⟩ => nF (.inr (.inr (.inr (.inr (.inr ⟨a, ha, hh⟩)))))
  have nAb : A'.block ≠ b1 := fun hk => by
    rcases f12 with h | h
    · exact nb1 ⟨A', h, hk⟩
    · have := q11.lt; omega
  have q12 : HB w12 b1 (eC e) 33 := q11.keeps k12 nb1
  have l12 : Lp w12 r N10 := M11.env.lp.keeps k12 (nA _ (.inl rfl)) (nA _ (.inr (.inl rfl)))
  refine ⟨_, _, _, rfl, ?_⟩
  refine spare_put l12 o12 ⟨fun e => nA' (.inl e), fun e => nA' (.inr (.inl e))⟩ (fun i hi => ?_) fun w13 l13 s13 k13 => ?_
  · rcases List.mem_append.1 hi with hi | hi
    · exact h3.spr.lt i hi
    · rw [List.mem_singleton.1 hi]; exact xlt
  have q13 : HB w13 b1 (eC e) 33 := q12.keeps k13 fun e => nF (.inl e)
  have M13 : Md w13 { r with sp := .slice (some A') (sp ++ [en e.id]).length c' } N10 own (fun y => S y ∧ y ≠ en e.id) par10 (fun p => F10 p ∧ en e.id ∉ p.1.ids) vs (es.map E.id) nk (fun i => (vn i : Int)) (fun i => (en i : Int)) nf (some A') c' (sp ++ [en e.id]) := by
    refine ⟨⟨l13, ⟨M10.env.rm.oo, M10.env.rm.sm.mono fun y hy => ⟨hy.1, rfl⟩, M10.env.rm.no, fun y hy => M10.env.rm.sl y hy.1⟩, M10.env.fo.drop iso xS, M10.env.n0, M10.env.nl⟩, (M11.ov.keeps k12 (nA _ (.inr (.inr (.inl rfl))))).keeps k13 M11.dv.1, (M11.oe.keeps k12 (nA _ (.inr (.inr (.inr (.inl rfl)))))).keeps k13 M11.de.1, (M11.on.keeps k12 (nA _ (.inr (.inr (.inr (.inr (.inl rfl))))))).keeps k13 M11.dn.1, s13, M11.nb, M11.dv, M11.de, M11.dn, ?_⟩
    rintro a ha; injection ha with ha; subst ha
    exact ⟨fun h => nA' (.inr (.inr (.inl h))), fun h => nA' (.inr (.inr (.inr (.inl h)))), fun h => nA' (.inr (.inr (.inr (.inr (.inl h)))))⟩
  have K13 : Keeps (Fp r A) w1 w13 := ((K10.trans (.of_below g11)).trans (k12.mono fun k _ hk => .inr (.inr (.inr (.inr (.inr hk)))))).trans (k13.mono fun k _ hk => .inl hk)
  have wx : W64 e.id := by unfold W64; omega
  refine ⟨_, M13.cm.2.1, M13.oe.del MTi wx fun w14 o14 k14 => ⟨rfl, ?_⟩⟩
  have M14 := M13.oeK k14 o14
  have q14 : HB w14 b1 (eC e) 33 := q13.keeps k14 fun e => nF (.inr (.inr (.inr (.inl e))))
  unfold f_linkcut_Forest_Cut.j0
  refine drW_intro ?_
  have M15 := M14.below (Below.refl _ _).drew
  have q15 : HB w14.drew b1 (eC e) 33 := q14
  have du := h3.nfd _ eu
  have dv := h3.nfd _ ev
  have dl := deg_le es e.u
  have dl2 := deg_le es e.v
  have dn := deg_nn es e.u
  have dn2 := deg_nn es e.v
  have hel := h3.gr.el h3.tr h3.adj
  have hvl := h3.gr.vl
  have nkl : nk.length ≤ vs.length := nodup_subI h3.on.nd h3.nkv
  refine ⟨_, M15.cm.2.2, hb_ldI q15 (j := 1) rfl (M15.on.look MTi wu ⟨_, rfl, ?_⟩)⟩
  have w1' : IntKind.i64.wrap (nf e.u - 1) = nf e.u - 1 := w64_in (by omega)
  show Runs Try.prog (Instr.mapUpdate _ _ (.int .i64 e.u) (.int .i64 (IntKind.i64.wrap (nf e.u - 1)))) _ _
  rw [w1']
  refine M15.on.upd MTi wu (by unfold W64; omega) (by omega) fun w16 o16 k16 => drW_intro ?_
  have M16 := (M15.onK k16 o16).below (Below.refl _ _).drew
  have q16 : HB w16.drew b1 (eC e) 33 := q15.keeps k16.drew fun e => nF (.inr (.inr (.inr (.inr (.inl e)))))
  refine ⟨_, M16.cm.2.2, hb_ldI q16 (j := 2) rfl (M16.on.look MTi wv ⟨_, rfl, ?_⟩)⟩
  show Runs Try.prog (Instr.mapUpdate _ _ (.int .i64 e.v) (.int .i64 (IntKind.i64.wrap ((if e.v = e.u then _ else nf e.v) - 1)))) _ _
  rw [if_neg (fun h : e.v = e.u => euv h.symm)]
  have w2' : IntKind.i64.wrap (nf e.v - 1) = nf e.v - 1 := w64_in (by omega)
  rw [w2']
  have hkv : ∀ x ∈ (if e.u ∈ nk then nk else e.u :: nk), x ∈ vs := fun x hx => by
    rcases mem_ins hx with rfl | hx
    · exact eu
    · exact h3.nkv x hx
  refine M16.on.upd MTi wv (by unfold W64; omega) (by have := nodup_subI M16.on.nd hkv; omega) fun w17 o17 k17 => ?_
  have M17 := M16.onK k17 o17
  intro _
  refine ⟨rfl, Fp { r with sp := .slice (some A') (sp ++ [en e.id]).length c' } (some A'), ⟨{ r with sp := .slice (some A') (sp ++ [en e.id]).length c' }, _, _, _, _, _, vn, setI en e.id 0, _, _, some A', c', sp ++ [en e.id], rfl, fun _ => Iff.rfl, ⟨M17.env, h3.gr.delE he, ?_, h3.own0, M17.ov, ?_, M17.on, ?_, ?_, M17.spr, ?_, ?_, ?_, M17.nb, M17.dv, M17.de, M17.dn, M17.da⟩⟩, ?_, ?_⟩
  · intro y z
    rw [adj_drop iso, adjN, gn_delE h3.gr he]
  · rw [noE_ids _ _ h3.gr.eid]
    exact M17.oe.cf fun j => by unfold setI; split <;> simp_all
  · intro y hy
    have hdeg := deg_noE h3.gr.eid he y
    have h9 := h3.nfd y hy
    show (if y = e.v then nf e.v - 1 else if y = e.u then nf e.u - 1 else nf y) = _
    by_cases y1 : y = e.v
    · have : ¬ e.u = y := fun h => euv (h.trans y1)
      rw [if_neg this, if_pos y1.symm] at hdeg
      rw [if_pos y1, ← y1]; omega
    · by_cases y2 : y = e.u
      · rw [if_pos y2.symm, if_neg (fun h => y1 h.symm)] at hdeg
        rw [if_neg y1, if_pos y2, ← y2]; omega
      · rw [if_neg (fun h => y2 h.symm), if_neg (fun h => y1 h.symm)] at hdeg
        rw [if_neg y1, if_neg y2]; omega
  · intro x hx
    rcases mem_ins hx with rfl | hx
    · exact ev
    · exact hkv x hx
  · intro i hi
    rcases List.mem_append.1 hi with hi | hi
    · exact ⟨fun h => (h3.spd i hi).1 h.1, (h3.spd i hi).2⟩
    · rw [List.mem_singleton.1 hi]; exact ⟨fun h => h.2 rfl, x0⟩
  · rw [List.nodup_append]
    exact ⟨h3.spn, by simp, fun a ha b hb e => by rw [List.mem_singleton.1 hb] at e; exact xsp (e ▸ ha)⟩
  · have := h3.cnt
    have h8 := congrArg List.length (noE_ids es e.id h3.gr.eid)
    rw [List.length_map, List.length_erase_of_mem (List.mem_map_of_mem he), List.length_map] at h8
    have := List.length_pos_of_mem he
    show r.n = _
    rw [h8, List.length_append]; simp; omega
  · have K2 : Keeps (Fp r A) w13 w17 := ((((k14.mono fun k _ hk => .inr (.inr (.inr (.inl hk)))).drew.trans (k16.mono fun k _ hk => .inr (.inr (.inr (.inr (.inl hk)))))).drew).trans (k17.mono fun k _ hk => .inr (.inr (.inr (.inr (.inl hk))))))
    exact (K13.trans K2).mono fun k _ hk => (h2 k).2 hk
  · rintro k (h | h | h | h | h | ⟨a, ha, rfl⟩)
    · exact .inl ((h2 k).2 (.inl h))
    · exact .inl ((h2 k).2 (.inr (.inl h)))
    · exact .inl ((h2 k).2 (.inr (.inr (.inl h))))
    · exact .inl ((h2 k).2 (.inr (.inr (.inr (.inl h)))))
    · exact .inl ((h2 k).2 (.inr (.inr (.inr (.inr (.inl h))))))
    · injection ha with ha; subst ha
      rcases f12 with h | h
      · exact .inl ((h2 _).2 (.inr (.inr (.inr (.inr (.inr ⟨_, h, rfl⟩))))))
      · exact .inr (by have h1 := g11.size; have h2 := K10.size; omega)
end Go.Proofs.Ytfknppccgojhdaa.Rd
