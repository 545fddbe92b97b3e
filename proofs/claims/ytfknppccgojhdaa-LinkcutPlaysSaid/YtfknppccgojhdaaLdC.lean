/- One call of a script, on a forest and on the document's; a script's calls on a forest. Conditions: none. -/
import Derived.Test.YtfknppccgojhdaaLdB
namespace Go.Dn
open Go.RowKit
set_option linter.unusedVariables false
theorem OM.perm {P : Program} {w : World} {k : TypeId} {b : Nat} {ks ks' : List Int} {f : Int → Int} (h : OM P w k b ks f) (p : ks.Perm ks') : OM P w k b ks' f := by
  obtain ⟨D, h1, h2, h3, h4⟩ := h.dat
  exact ⟨p.nodup_iff.1 h.nd, fun i hi => h.kw i (p.mem_iff.2 hi), fun i hi => h.z i fun hm => hi (p.mem_iff.1 hm), D, by rw [← p.length_eq]; exact h1, by rw [← p.length_eq]; exact h2, h3, fun i hi => (h4 i hi).trans p.mem_iff⟩
theorem deg_perm {es es' : List E} (p : es.Perm es') (v : Int) : deg es v = deg es' v := by
  induction p with
  | nil => rfl
  | cons x _ ih => simp only [deg, ih]
  | swap x y l => simp only [deg]; omega
  | trans _ _ h1 h2 => exact h1.trans h2
theorem Gr.perm {vs vs' : List Int} {es es' : List E} {vn en : Int → Nat} {own : Nat → E} {S : Nat → Prop} (g : Gr vs es vn en own S) (p : vs.Perm vs') (q : es.Perm es') : Gr vs' es' vn en own S where
  vnd := p.nodup_iff.1 g.vnd
  vr := fun v hv => g.vr v (p.mem_iff.2 hv)
  vl := by rw [← p.length_eq]; exact g.vl
  eid := (q.map E.id).nodup_iff.1 g.eid
  er := fun e he => by
    obtain ⟨h1, h2, h3, h4, h5⟩ := g.er e (q.mem_iff.2 he)
    exact ⟨h1, h2, p.mem_iff.1 h3, p.mem_iff.1 h4, h5⟩
  vz := fun v hv => g.vz v fun h => hv (p.mem_iff.1 h)
  ez := fun i hi => g.ez i fun h => hi ((q.map E.id).mem_iff.1 h)
  vS := fun v hv => g.vS v (p.mem_iff.2 hv)
  eS := fun e he => g.eS e (q.mem_iff.2 he)
  vi := fun u hu v hv => g.vi u (p.mem_iff.2 hu) v (p.mem_iff.2 hv)
  Sx := fun y hy => (g.Sx y hy).imp (fun ⟨v, hv, h⟩ => ⟨v, p.mem_iff.1 hv, h⟩) (fun ⟨e, he, h⟩ => ⟨e, q.mem_iff.1 he, h⟩)
end Go.Dn
namespace Go.Proofs.Ytfknppccgojhdaa.Rd
open Go.Dn Go.RowKit
set_option linter.unusedVariables false
set_option maxRecDepth 100000
theorem Rep.perm {w : World} {F : Nat → Prop} {R : Nat} {vs vs' : List Int} {es es' : List E} (h : Rep w F R vs es) (p : vs.Perm vs') (q : es.Perm es') : Rep w F R vs' es' := by
  obtain ⟨r, N, own, S, par, Fo, vn, en, nf, nk, A, c, sp, h1, h2, h3⟩ := h
  refine ⟨r, N, own, S, par, Fo, vn, en, nf, nk, A, c, sp, h1, h2, ⟨h3.env, h3.gr.perm p q, fun y z => (h3.adj y z).trans ?_, h3.own0, h3.ov.perm p, h3.oe.perm (q.map E.id), h3.on, fun v hv => (h3.nfd v (p.mem_iff.2 hv)).trans (deg_perm q v), fun v hv => p.mem_iff.1 (h3.nkv v hv), h3.spr, h3.spd, h3.spn, ?_, h3.nb, h3.dv, h3.de, h3.dn, h3.da⟩⟩
  · unfold Gn
    constructor
    · rintro ⟨e, he, h⟩; exact ⟨e, q.mem_iff.1 he, h⟩
    · rintro ⟨e, he, h⟩; exact ⟨e, q.mem_iff.2 he, h⟩
  · rw [h3.cnt, p.length_eq, q.length_eq]
theorem LF.perm {w0 w : World} {F : Nat → Prop} {R : Nat} {vs vs' : List Int} {es es' : List E} (h : LF w0 w F R vs es) (p : vs.Perm vs') (q : es.Perm es') : LF w0 w F R vs' es' := ⟨h.rep.perm p q, h.lo, h.bel⟩
theorem VE.rg {vs : List Int} {es : List E} (h : VE vs es) : RG vs es := ⟨h.vnd, fun e he => ⟨(h.er e he).2.2.1, (h.er e he).2.2.2.1⟩, h.eid⟩
theorem rg0 : RG [] [] := ⟨.nil, by simp, .nil⟩
noncomputable def jnB (es : List E) (u v : Int) : Bool := @decide (Jn es u v) (Classical.propDecidable _)
theorem jnB_iff (es : List E) (u v : Int) : jnB es u v = true ↔ Jn es u v := by unfold jnB; rw [@decide_eq_true_iff _ (Classical.propDecidable _)]
theorem linkC_j {vs : List Int} {es : List E} {e : E} {j : Bool} (h : e.u ∈ vs → e.v ∈ vs → (j = true ↔ Jn es e.u e.v)) : linkC vs es e j = linkC vs es e (jnB es e.u e.v) := by
  by_cases hm : e.u ∈ vs ∧ e.v ∈ vs
  · have : j = jnB es e.u e.v := by
      have h1 := h hm.1 hm.2
      rw [← jnB_iff] at h1
      exact Bool.eq_iff_iff.2 h1
    rw [this]
  · unfold linkC
    rw [if_pos hm, if_pos hm]
noncomputable def stp (st : List Int × List E) (o : Int × E) : List Int × List E :=
  if o.1 = 1 then (addVr st.1 o.2.u, st.2) else if o.1 = 2 then (delVr st.1 st.2 o.2.u, st.2) else if o.1 = 3 then (st.1, linkEr st.1 st.2 o.2 (jnB st.2 o.2.u o.2.v)) else if o.1 = 4 then (st.1, cutEr st.2 o.2.id) else st
noncomputable def cdO (st : List Int × List E) (o : Int × E) : Int :=
  if o.1 = 1 then addVC st.1 o.2.u else if o.1 = 2 then delVC st.1 st.2 o.2.u else if o.1 = 3 then linkC st.1 st.2 o.2 (jnB st.2 o.2.u o.2.v) else if o.1 = 4 then cutC st.2 o.2.id else 0
theorem addV_perm (vs : List Int) (v : Int) : (addVs vs v).Perm (addVr vs v) := by
  unfold addVs addVr
  split
  · exact (wiI_perm vs v).symm
  · exact .refl _
theorem erase_woI : ∀ {l : List Int}, l.Nodup → ∀ x, l.erase x = woI l x
  | [], _, _ => rfl
  | a :: l, h, x => by
    rw [List.nodup_cons] at h
    have ih := erase_woI h.2 x
    unfold woI at ih ⊢
    by_cases e : a = x
    · subst e
      rw [List.erase_cons_head, List.filter_cons_of_neg (by simp), ← ih, List.erase_of_not_mem h.1]
    · rw [List.erase_cons_tail (by simpa using e), List.filter_cons_of_pos (by simpa using e), ih]
theorem delV_perm {vs : List Int} (h : vs.Nodup) (es : List E) (v : Int) : delVs vs es v = delVr vs es v := by
  unfold delVs delVr
  split
  · exact erase_woI h v
  · rfl
theorem linkE_perm {vs : List Int} {es : List E} {e : E} {j : Bool} (h : e.u ∈ vs → e.v ∈ vs → (j = true ↔ Jn es e.u e.v)) : (linkE vs es e j).Perm (linkEr vs es e (jnB es e.u e.v)) := by
  unfold linkE linkEr
  rw [linkC_j h]
  split
  · exact (insE_perm es e).symm
  · exact .refl _
/-- bounds of a call -/
structure OpW (o : Int × E) : Prop where
  i : W64 o.2.id
  u : W64 o.2.u
  v : W64 o.2.v
  w : W64 o.2.w
def oC (o : Int × E) : Array Value := #[.int .i64 o.1, .int .i64 o.2.id, .int .i64 o.2.u, .int .i64 o.2.v, .int .i64 o.2.w]
theorem hb_ldI2 {w : World} {b : Nat} {cs : Array Value} {t : TypeId} (h : HB w b cs t) {i j : Nat} {x : Int} (hj : cs[i + j]? = some (.int .i64 x)) {K : Int → Prop} (hk : K x) : ldI w (((⟨b, 0, none⟩ : Addr).add i).add j) .i64 K := by
  rw [add_add]; exact hb_ldI h hj hk
theorem pass4 {w : World} (s : RS) {K : Option Addr → Nat → Nat → Option Addr → Nat → Nat → Option Addr → Nat → Nat → Option Addr → Nat → Nat → World → Prop} (hk : ∀ w', Below w.heap.size w w' → K s.A0 s.n0 s.c0 s.A1 s.n1 s.c1 s.A2 s.n2 s.c2 s.A3 s.n3 s.c3 w') :
    alW w (.cells #[.slice none 0 0, .slice none 0 0, .slice none 0 0, .slice none 0 0] 31) fun b w0 => stW w0 (⟨b, 0, none⟩ : Addr) (.slice s.A0 s.n0 s.c0) fun w1 => stW w1 ((⟨b, 0, none⟩ : Addr).add 1) (.slice s.A1 s.n1 s.c1) fun w2 => stW w2 ((⟨b, 0, none⟩ : Addr).add 2) (.slice s.A2 s.n2 s.c2) fun w3 => stW w3 ((⟨b, 0, none⟩ : Addr).add 3) (.slice s.A3 s.n3 s.c3) fun w4 =>
      ldS w4 (⟨b, 0, none⟩ : Addr) fun A0 n0 c0 => ldS w4 ((⟨b, 0, none⟩ : Addr).add 1) fun A1 n1 c1 => ldS w4 ((⟨b, 0, none⟩ : Addr).add 2) fun A2 n2 c2 => ldS w4 ((⟨b, 0, none⟩ : Addr).add 3) fun A3 n3 c3 => K A0 n0 c0 A1 n1 c1 A2 n2 c2 A3 n3 c3 w4 := by
  refine al_new fun w1 b e1 s1 h1 g1 => ?_
  exact ret4 h1 rfl s fun w2 h2 k2 => hk w2 (HB.belK g1 k2 (by omega))
/-- a forest and the document's, within a law -/
structure L2 (w0 w : World) (F : Nat → Prop) (R : Nat) (st : List Int × List E) (s : RS) (sr : List Int × List E) : Prop where
  f : LF w0 w F R st.1 st.2
  r : RF w s sr.1 sr.2
  d : ∀ k, Rb s k → ¬ F k
section
variable {w0 w w' : World} {F F' : Nat → Prop} {R : Nat} {st st' sr sr' : List Int × List E} {s s' : RS}
theorem L2.below (h : L2 w0 w F R st s sr) (hb : Below w.heap.size w w') : L2 w0 w' F R st s sr := ⟨h.f.below hb, h.r.belw hb, h.d⟩
theorem L2.ref (h : L2 w0 w F R st s sr) (hr : RF w' s' sr'.1 sr'.2) (hs : Sb w s s') (hb : Below w.heap.size w w') : L2 w0 w' F R st s' sr' :=
  ⟨h.f.below hb, hr, fun k hk hf => by
    rcases hs.b k hk with h1 | h1
    · exact h.d k h1 hf
    · have := h.f.rep.lt k hf; omega⟩
theorem L2.call (h : L2 w0 w F R st s sr) {vs : List Int} {es : List E} (hf : LF w0 w' F' R vs es) (hk : ∀ b cs t, Lo w0 w F b cs t → Lo w0 w' F' b cs t) (u : Upd F w w' F') (p : vs.Perm st'.1) (q : es.Perm st'.2) : L2 w0 w' F' R st' s sr :=
  ⟨hf.perm p q, h.r.keeps u.kp h.d, fun k hk hf' => by
    rcases u.fr k hf' with h1 | h1
    · exact h.d k hk h1
    · have := h.r.lt k hk; omega⟩
end
structure DoesR (w0 w : World) (F : Nat → Prop) (R : Nat) (st sr : List Int × List E) (s : RS) (o : Int × E) (en : Ending) (w' : World) : Prop where
  ex : ∃ F' s', en = .returned (.tuple #[.agg (rsC s'), .bool (cdO st o == cdO sr o)]) ∧ L2 w0 w' F' R (stp st o) s' (stp sr o) ∧ (∀ b cs t, Lo w0 w F b cs t → Lo w0 w' F' b cs t) ∧ Sb w s s'
/-- the end of each call -/
theorem does_fin {w0 w w3 w4 w5 : World} {F F' : Nat → Prop} {R b5 : Nat} {st sr st' sr' : List Int × List E} {s s' : RS} {o : Int × E} {x y : Int} {cs5 : Array Value} (hr : RF w s sr.1 sr.2) (n5 : w.heap.size ≤ b5) (h5 : Lo w0 w3 F b5 cs5 31) (hlo : ∀ b cs t, Lo w0 w F b cs t → Lo w0 w3 F b cs t)
    (H4 : L2 w0 w4 F' R st' s sr) (k4 : ∀ b cs t, Lo w0 w3 F b cs t → Lo w0 w4 F' b cs t) (r5 : RF w5 s' sr'.1 sr'.2) (sb5 : Sb w4 s s') (g5 : Below w4.heap.size w4 w5) (es : stp st o = st') (er : stp sr o = sr') (ex : cdO st o = x) (ey : cdO sr o = y) (hc5 : cs5.size = 4) (hsz : w.heap.size ≤ w4.heap.size) :
      (alW w5 (.cells #[.slice none 0 0, .slice none 0 0, .slice none 0 0, .slice none 0 0] 31) fun b w0' => stW w0' (⟨b, 0, none⟩ : Addr) (.slice s'.A0 s'.n0 s'.c0) fun w1 => stW w1 ((⟨b, 0, none⟩ : Addr).add 1) (.slice s'.A1 s'.n1 s'.c1) fun w2 => stW w2 ((⟨b, 0, none⟩ : Addr).add 2) (.slice s'.A2 s'.n2 s'.c2) fun w3 => stW w3 ((⟨b, 0, none⟩ : Addr).add 3) (.slice s'.A3 s'.n3 s'.c3) fun w4 =>
      ldS w4 (⟨b, 0, none⟩ : Addr) fun A0 n0 c0 => ldS w4 ((⟨b, 0, none⟩ : Addr).add 1) fun A1 n1 c1 => ldS w4 ((⟨b, 0, none⟩ : Addr).add 2) fun A2 n2 c2 => ldS w4 ((⟨b, 0, none⟩ : Addr).add 3) fun A3 n3 c3 =>
      stW w4 (⟨b5, 0, none⟩ : Addr) (.slice A0 n0 c0) fun w1 => stW w1 ((⟨b5, 0, none⟩ : Addr).add 1) (.slice A1 n1 c1) fun w2 => stW w2 ((⟨b5, 0, none⟩ : Addr).add 2) (.slice A2 n2 c2) fun w3 => stW w3 ((⟨b5, 0, none⟩ : Addr).add 3) (.slice A3 n3 c3) fun w4 =>
      ldS w4 (⟨b5, 0, none⟩ : Addr) fun A0 n0 c0 => ldS w4 ((⟨b5, 0, none⟩ : Addr).add 1) fun A1 n1 c1 => ldS w4 ((⟨b5, 0, none⟩ : Addr).add 2) fun A2 n2 c2 => ldS w4 ((⟨b5, 0, none⟩ : Addr).add 3) fun A3 n3 c3 =>
        DoesR w0 w F R st sr s o (.returned (.tuple #[.agg #[.slice A0 n0 c0, .slice A1 n1 c1, .slice A2 n2 c2, .slice A3 n3 c3], .bool (x == y)])) w4) := by
  subst es; subst er; subst ex; subst ey
  have H5 := H4.ref r5 sb5 g5
  have l5 := (k4 _ _ _ h5).below g5
  refine pass4 s' fun w6 g6 => ?_
  have H6 := H5.below g6
  have l6 := l5.below g6
  refine ret4 l6.hb hc5 s' fun w7 h7 k7 => ⟨F', s', rfl, ?_, fun b cs t hl => ?_, ⟨fun k hk => (sb5.b k hk).imp id fun h => Nat.le_trans hsz h⟩⟩
  · have bb : Below w0.heap.size w0 w7 := H6.f.bel.trans (k7.below H6.f.bel.size fun i hi e => by have := l6.lo; omega)
    refine ⟨⟨H6.f.rep.other k7 fun k e hf => l6.nF (e ▸ hf), H6.f.lo, bb⟩, H6.r.keeps k7 fun k hk e => ?_, H6.d⟩
    rcases sb5.b k hk with h8 | h8
    · have := hr.lt k h8; omega
    · have := (k4 _ _ _ h5).hb.lt; omega
  · have := ((k4 _ _ _ (hlo _ _ _ hl)).below g5).below g6
    exact ⟨this.hb.keeps k7 fun e => by have := hl.hb.lt; omega, this.nF, this.lo⟩
theorem does_ok {w0 w : World} {F : Nat → Prop} {R : Nat} {st sr : List Int × List E} {s : RS} (h : L2 w0 w F R st s sr) (g : RG sr.1 sr.2) (hel : sr.2.length ≤ 4095) {o : Int × E} (ho : OpW o) :
    Calls Try.prog 10 #[.pointer (some ⟨R, 0, none⟩), .agg (rsC s), .agg (oC o)] w (DoesR w0 w F R st sr s o) := by
  apply f_law17_does.ok
  unfold f_law17_does.wp
  refine al_new fun w1 b1 e1 s1 h1 g1 => al_new fun w2 b3 e3 s3 h3 g2 => al_new fun w3 b5 e5 s5 h5 g3 => ?_
  have hb := (g1.trans (g2.mono (by omega))).trans (g3.mono (by omega))
  have H := h.below hb
  have h1 : Lo w0 w3 F b1 (rsC s) 31 := h.f.new (hb.mono (Nat.le_refl _)) (by omega) ((h1.below g2).below g3)
  have h3 : Lo w0 w3 F b3 (oC o) 35 := h.f.new (hb.mono (Nat.le_refl _)) (by omega) (h3.below g3)
  have h5 : Lo w0 w3 F b5 #[.slice none 0 0, .slice none 0 0, .slice none 0 0, .slice none 0 0] 31 := h.f.new (hb.mono (Nat.le_refl _)) (by omega) h5
  have hlo : ∀ b cs t, Lo w0 w F b cs t → Lo w0 w3 F b cs t := fun b cs t hl => hl.below hb
  have n5 : w.heap.size ≤ b5 := by omega
  refine hb_ldI0 h3.hb rfl ?_
  by_cases k1 : o.1 = 1
  · refine sel_t (by simp [k1]) (hb_ldI2 h3.hb (i := 1) (j := 1) rfl ?_)
    refine (AddV_ok H.f.rep).mono ?_
    rintro _ w4 ⟨rfl, F', r4, u4⟩
    have H4 : L2 w0 w4 F' R (addVr st.1 o.2.u, st.2) s sr := H.call (H.f.call r4 u4) (fun b cs t hl => hl.call u4) u4 (addV_perm _ _) (.refl _)
    refine ⟨_, rfl, get4 (h1.call u4).hb (hb_ldI2 (h3.call u4).hb (i := 1) (j := 1) rfl ((RAddV_ok H4.r o.2.u).mono ?_))⟩
    rintro _ w5 ⟨s', rfl, r5, sb5, g5⟩
    refine ⟨s'.A0, s'.n0, s'.c0, s'.A1, s'.n1, s'.c1, s'.A2, s'.n2, s'.c2, s'.A3, s'.n3, s'.c3, _, rfl, ?_⟩
    exact does_fin h.r n5 h5 hlo H4 (fun b cs t hl => hl.call u4) (sr' := (addVr sr.1 o.2.u, sr.2)) r5 sb5 g5 (by unfold stp; rw [if_pos k1]) (by unfold stp; rw [if_pos k1]) (by unfold cdO; rw [if_pos k1]) (by unfold cdO; rw [if_pos k1]) rfl (Nat.le_trans hb.size u4.kp.size)
  refine sel_f (by simp [k1]) ?_
  by_cases k2 : o.1 = 2
  · refine sel_t (by simp [k2]) (hb_ldI2 h3.hb (i := 1) (j := 1) rfl ?_)
    refine (DelV_ok H.f.rep).mono ?_
    rintro _ w4 ⟨rfl, F', r4, u4⟩
    have H4 : L2 w0 w4 F' R (delVr st.1 st.2 o.2.u, st.2) s sr := H.call (H.f.call r4 u4) (fun b cs t hl => hl.call u4) u4 (by rw [delV_perm H.f.rep.ve.vnd]) (.refl _)
    refine ⟨_, rfl, get4 (h1.call u4).hb (hb_ldI2 (h3.call u4).hb (i := 1) (j := 1) rfl ((RDelV_ok H4.r o.2.u).mono ?_))⟩
    rintro _ w5 ⟨s', rfl, r5, sb5, g5⟩
    refine ⟨s'.A0, s'.n0, s'.c0, s'.A1, s'.n1, s'.c1, s'.A2, s'.n2, s'.c2, s'.A3, s'.n3, s'.c3, _, rfl, ?_⟩
    exact does_fin h.r n5 h5 hlo H4 (fun b cs t hl => hl.call u4) (sr' := (delVr sr.1 sr.2 o.2.u, sr.2)) r5 sb5 g5 (by unfold stp; rw [if_neg k1, if_pos k2]) (by unfold stp; rw [if_neg k1, if_pos k2]) (by unfold cdO; rw [if_neg k1, if_pos k2]) (by unfold cdO; rw [if_neg k1, if_pos k2]) rfl (Nat.le_trans hb.size u4.kp.size)
  refine sel_f (by simp [k2]) ?_
  by_cases k3 : o.1 = 3
  · refine sel_t (by simp [k3]) (hb_ldI h3.hb (j := 1) rfl (hb_ldI2 h3.hb (i := 1) (j := 1) rfl (hb_ldI2 h3.hb (i := 1) (j := 2) rfl (hb_ldI2 h3.hb (i := 1) (j := 3) rfl ?_))))
    refine (Link_ok H.f.rep (e := o.2) ho.u ho.v).mono ?_
    rintro _ w4 ⟨j, hj, rfl, F', r4, u4⟩
    have H4 : L2 w0 w4 F' R (st.1, linkEr st.1 st.2 o.2 (jnB st.2 o.2.u o.2.v)) s sr := H.call (H.f.call r4 u4) (fun b cs t hl => hl.call u4) u4 (.refl _) (linkE_perm hj)
    refine ⟨_, rfl, get4 (h1.call u4).hb (hb_ldI (h3.call u4).hb (j := 1) rfl (hb_ldI2 (h3.call u4).hb (i := 1) (j := 1) rfl (hb_ldI2 (h3.call u4).hb (i := 1) (j := 2) rfl (hb_ldI2 (h3.call u4).hb (i := 1) (j := 3) rfl ((RLink_ok H4.r g hel o.2).mono ?_)))))⟩
    rintro _ w5 ⟨s', j', hj', rfl, r5, sb5, g5⟩
    refine ⟨s'.A0, s'.n0, s'.c0, s'.A1, s'.n1, s'.c1, s'.A2, s'.n2, s'.c2, s'.A3, s'.n3, s'.c3, _, rfl, ?_⟩
    have e5 : linkEr sr.1 sr.2 o.2 j' = linkEr sr.1 sr.2 o.2 (jnB sr.2 o.2.u o.2.v) := by unfold linkEr; rw [linkC_j hj']
    rw [e5] at r5
    exact does_fin h.r n5 h5 hlo H4 (fun b cs t hl => hl.call u4) (sr' := (sr.1, linkEr sr.1 sr.2 o.2 (jnB sr.2 o.2.u o.2.v))) r5 sb5 g5 (by unfold stp; rw [if_neg k1, if_neg k2, if_pos k3]) (by unfold stp; rw [if_neg k1, if_neg k2, if_pos k3]) (by unfold cdO; rw [if_neg k1, if_neg k2, if_pos k3]; exact (linkC_j hj).symm) (by unfold cdO; rw [if_neg k1, if_neg k2, if_pos k3]; exact (linkC_j hj').symm) rfl (Nat.le_trans hb.size u4.kp.size)
  refine sel_f (by simp [k3]) ?_
  by_cases k4 : o.1 = 4
  · refine sel_t (by simp [k4]) (hb_ldI h3.hb (j := 1) rfl ?_)
    refine (Cut_ok H.f.rep ho.i).mono ?_
    rintro _ w4 ⟨rfl, F', r4, u4⟩
    have H4 : L2 w0 w4 F' R (st.1, cutEr st.2 o.2.id) s sr := H.call (H.f.call r4 u4) (fun b cs t hl => hl.call u4) u4 (.refl _) (.refl _)
    refine ⟨_, rfl, get4 (h1.call u4).hb (hb_ldI (h3.call u4).hb (j := 1) rfl ((RCut_ok H4.r o.2.id).mono ?_))⟩
    rintro _ w5 ⟨s', rfl, r5, sb5, g5⟩
    refine ⟨s'.A0, s'.n0, s'.c0, s'.A1, s'.n1, s'.c1, s'.A2, s'.n2, s'.c2, s'.A3, s'.n3, s'.c3, _, rfl, ?_⟩
    exact does_fin h.r n5 h5 hlo H4 (fun b cs t hl => hl.call u4) (sr' := (sr.1, cutEr sr.2 o.2.id)) r5 sb5 g5 (by unfold stp; rw [if_neg k1, if_neg k2, if_neg k3, if_pos k4]) (by unfold stp; rw [if_neg k1, if_neg k2, if_neg k3, if_pos k4]) (by unfold cdO; rw [if_neg k1, if_neg k2, if_neg k3, if_pos k4]) (by unfold cdO; rw [if_neg k1, if_neg k2, if_neg k3, if_pos k4]) rfl (Nat.le_trans hb.size u4.kp.size)
  refine sel_f (by simp [k4]) (get4 h1.hb (ret4 h5.hb rfl s fun w4 h4 q4 => ⟨F, s, ?_, ?_, fun b cs t hl => ?_, .refl _ _⟩))
  · unfold cdO; rw [if_neg k1, if_neg k2, if_neg k3, if_neg k4, if_neg k1, if_neg k2, if_neg k3, if_neg k4]; rfl
  · have bb : Below w0.heap.size w0 w4 := H.f.bel.trans (q4.below H.f.bel.size fun i hi e => by have := h5.lo; omega)
    unfold stp; rw [if_neg k1, if_neg k2, if_neg k3, if_neg k4, if_neg k1, if_neg k2, if_neg k3, if_neg k4]
    exact ⟨⟨H.f.rep.other q4 fun k e hf => h5.nF (e ▸ hf), H.f.lo, bb⟩, H.r.keeps q4 fun k hk e => by have := h.r.lt k hk; omega, H.d⟩
  · have := hlo _ _ _ hl
    exact ⟨this.hb.keeps q4 fun e => by have := hl.hb.lt; omega, this.nF, this.lo⟩
end Go.Proofs.Ytfknppccgojhdaa.Rd
