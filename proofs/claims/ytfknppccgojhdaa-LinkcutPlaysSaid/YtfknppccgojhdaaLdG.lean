/- LinkcutBack, walked. Conditions: none. -/
import Derived.Test.YtfknppccgojhdaaLdF
namespace Go.Dn
open Go.RowKit
set_option linter.unusedVariables false
theorem noE_self {es : List E} {e : E} (h : e.id ∉ es.map E.id) : noE (e :: es) e.id = es := by
  unfold noE
  rw [List.filter_cons_of_neg (by simp), List.filter_eq_self]
  intro b hb
  have : b.id ≠ e.id := fun h2 => h (h2 ▸ List.mem_map_of_mem hb)
  simpa using this
/-- a way through a new edge -/
theorem wk_through {es : List E} {e : E} (h : e.id ∉ es.map E.id) {u v : Int} {a b : List E} (ha : Wk es u a e.u) (na : NB a) (hb : Wk es e.v b v) (nb : NB b) : Wk (e :: es) u (a ++ e :: b) v ∧ NB (a ++ e :: b) := by
  have ne : ∀ {p : List E}, (∀ x ∈ p, x ∈ es) → ∀ x ∈ p, x.id ≠ e.id := fun hp x hx h2 => h (h2 ▸ List.mem_map_of_mem (hp x hx))
  have m : ∀ x ∈ es, x ∈ e :: es := fun x hx => List.mem_cons_of_mem _ hx
  refine ⟨(ha.mono m).app (.cons (by simp) (.inl rfl) ?_), ?_⟩
  · have : oth e e.u = e.v := by unfold oth; rw [if_pos rfl]
    rw [this]; exact hb.mono m
  · rw [NB.app]
    refine ⟨na, ?_, ?_⟩
    · cases b with
      | nil => trivial
      | cons c b => exact ⟨fun h2 => ne hb.mem c (by simp) h2.symm, nb⟩
    · intro x hx y hy
      simp only [List.head?_cons, Option.mem_def, Option.some.injEq] at hy
      subst hy
      exact ne ha.mem x (List.mem_of_getLast? hx)
end Go.Dn
namespace Go.Proofs.Ytfknppccgojhdaa.Rd
open Go.Dn Go.RowKit
set_option linter.unusedVariables false
set_option maxRecDepth 100000
/-- a path stays while edges are added -/
theorem _root_.Go.Dn.AlongR.mono {vs : List Int} {es es' : List E} (hs : ∀ e ∈ es, e ∈ es') (g : VE vs es) (g' : VE vs es') {u v : Int} {mx mx' : E} {W K c W' K' c' : Int} (h : AlongR vs es u v mx W K c) (h' : AlongR vs es' u v mx' W' K' c') (h0 : c = 0) : mx = mx' ∧ W = W' ∧ K = K' ∧ c' = 0 := by
  rcases h with ⟨_, _, _, _, hc⟩ | ⟨_, _, _, _, _, _, hc⟩ | ⟨hu, hv, p, hp, np, hm, rfl, rfl, _⟩
  · rw [hc] at h0; cases h0
  · rw [hc] at h0; cases h0
  · obtain ⟨h1, h2, rfl, rfl⟩ := h'.of g' hu hv (hp.mono hs) np
    exact ⟨hm.uniq (g.sm u v p hu hp np).1 h2, rfl, rfl, h1⟩
theorem Back_j0 {w : World} {b1 b2 : Nat} {t1 t2 : TypeId} {mx : E} {W K c : Int} (i53 : In53 W ∧ In53 K) (h1 : HB w b1 (aC mx W K) t1) (h2 : HB w b2 (aC mx W K) t2) {Kr : Bool → World → Prop} (k : Kr true w) : f_law17_LinkcutBack.j0 (⟨b1, 0, none⟩ : Addr) c (⟨b2, 0, none⟩ : Addr) c w Kr := by
  unfold f_law17_LinkcutBack.j0
  refine getA h2 (getA h1 (agg_eq w _ _ i53.1 i53.2 i53.1 i53.2 ⟨_, rfl, sel_t (by rw [eqE_iff.2 rfl]; simp) ?_⟩))
  rw [beq_self_eq_true]; exact k
section
variable {w0 w : World} {F : Nat → Prop} {R : Nat} {vs : List Int} {es : List E} {u v : Int} {e : E} {be b1 b2 b3 b4 : Nat} {m1 : E} {W1 K1 c1 : Int}
theorem Back_j2 (h : LF w0 w F R vs (e :: es)) (ve : VE vs es) (hid : e.id ∉ es.map E.id) (nb : ¬ badI e.id) (hu : W64 u) (hv : W64 v) (he : HB w0 be (eC e) 33) (l1 : Lo w0 w F b1 (aC m1 W1 K1) 48) (a1 : AlongR vs es u v m1 W1 K1 c1) {Kr : Bool → World → Prop} (k : ∀ w', Below w0.heap.size w0 w' → Kr true w') :
    f_law17_LinkcutBack.j2 u v (⟨be, 0, none⟩ : Addr) (some ⟨R, 0, none⟩) (⟨b1, 0, none⟩ : Addr) c1 (vs.length : Int) (es.length : Int) w Kr := by
  unfold f_law17_LinkcutBack.j2
  have wi := (W64.id nb).1
  refine hb_ldI0 (he.below h.bel) rfl (cut_step h wi fun w2 F2 h2 k2 => ?_)
  have ec : cutC (e :: es) e.id = 0 := by unfold cutC; rw [if_neg nb, if_neg (by simp)]
  have ee : cutE (e :: es) e.id = es := by unfold cutE; rw [if_pos ec]; exact noE_self hid
  rw [ee] at h2
  rw [ec]
  have l1 := k2 _ _ _ l1
  refine sel_f rfl (along_step h2 hu hv fun w3 b3 m3 W3 K3 c3 a3 h3 l3 k3 => ?_)
  have l1 := k3 _ _ _ l1
  obtain ⟨rfl, rfl, rfl, rfl⟩ := AlongR.det ve a1 a3
  refine len_step h3 fun w4 h4 k4 => ?_
  have l1 := k4 _ _ _ l1
  have l3 := k4 _ _ _ l3
  have i53 := a1.in53 ve
  refine getA l3.hb (getA l1.hb (agg_eq w4 _ _ i53.1 i53.2 i53.1 i53.2 ⟨_, rfl, sel_t (by rw [eqE_iff.2 rfl]; simp) (sel_t (by simp) (sel_t (by simp) ?_))⟩))
  rw [beq_self_eq_true]; exact k w4 h4.bel
theorem Back_sum (ve : VE vs es) (ve' : VE vs (e :: es)) (hid : e.id ∉ es.map E.id) {m2 m3 m4 : E} {W2 K2 c2 W3 K3 c3 W4 K4 c4 : Int} (a2 : AlongR vs es u e.u m2 W2 K2 c2) (a3 : AlongR vs es e.v v m3 W3 K3 c3) (a4 : AlongR vs (e :: es) u v m4 W4 K4 c4) (z2 : c2 = 0) (z3 : c3 = 0) : c4 = 0 ∧ W4 = W2 + W3 + e.w ∧ K4 = K2 + K3 + 1 := by
  rcases a2 with ⟨_, _, _, _, h⟩ | ⟨_, _, _, _, _, _, h⟩ | ⟨hu, heu, p, hp, np, _, rfl, rfl, _⟩
  · rw [h] at z2; cases z2
  · rw [h] at z2; cases z2
  rcases a3 with ⟨_, _, _, _, h⟩ | ⟨_, _, _, _, _, _, h⟩ | ⟨_, hv, q, hq, nq, _, rfl, rfl, _⟩
  · rw [h] at z3; cases z3
  · rw [h] at z3; cases z3
  obtain ⟨w1, w2⟩ := wk_through hid hp np hq nq
  obtain ⟨h1, _, h2, h3⟩ := a4.of ve' hu hv w1 w2
  refine ⟨h1, ?_, ?_⟩
  · rw [h2, sumW_app]; simp [sumW]; omega
  · rw [h3, List.length_append]; simp; omega
theorem Back_j1 (h : LF w0 w F R vs (e :: es)) (ve : VE vs es) (hid : e.id ∉ es.map E.id) (nb : ¬ badI e.id) (hw : 0 ≤ e.w ∧ e.w ≤ 1099511627776) (hu : W64 u) (hv : W64 v) (he : HB w0 be (eC e) 33) (l1 : Lo w0 w F b1 (aC m1 W1 K1) 48) (a1 : AlongR vs es u v m1 W1 K1 c1)
    {m2 m3 m4 : E} {W2 K2 c2 W3 K3 c3 W4 K4 c4 : Int} (l2 : Lo w0 w F b2 (aC m2 W2 K2) 48) (l3 : Lo w0 w F b3 (aC m3 W3 K3) 48) (l4 : Lo w0 w F b4 (aC m4 W4 K4) 48) (a2 : AlongR vs es u e.u m2 W2 K2 c2) (a3 : AlongR vs es e.v v m3 W3 K3 c3) (a4 : AlongR vs (e :: es) u v m4 W4 K4 c4) {Kr : Bool → World → Prop} (k : ∀ w', Below w0.heap.size w0 w' → Kr true w') :
    f_law17_LinkcutBack.j1 u v (⟨be, 0, none⟩ : Addr) (some ⟨R, 0, none⟩) (⟨b1, 0, none⟩ : Addr) c1 (⟨b2, 0, none⟩ : Addr) c2 (⟨b3, 0, none⟩ : Addr) c3 (vs.length : Int) (es.length : Int) (⟨b4, 0, none⟩ : Addr) c4 w Kr := by
  have ve' := h.rep.ve
  have he' := he.below h.bel
  have d1 := a1.in53 ve
  have d2 := a2.bd ve
  have d3 := a3.bd ve
  have d4 := a4.in53 ve'
  have f1 : (4607182418800017408 : Nat) = fb 1 := by decide
  have J2 := Back_j2 h ve hid nb hu hv he l1 a1 (Kr := fun b w => ∀ _ : Fr, Kr b w) (fun w' hb _ => k w' hb)
  unfold f_law17_LinkcutBack.j1
  rw [f1]
  by_cases z1 : c1 = 0
  · obtain ⟨rfl, rfl, rfl, z4⟩ := a1.mono (fun x hx => List.mem_cons_of_mem _ hx) ve ve' a4 z1
    refine sel_t (by simp [z1]) (sel_f (by simp [z4]) (getA l4.hb (getA l1.hb (agg_neq w _ _ d1.1 d1.2 d1.1 d1.2 ⟨_, rfl, sel_f (by rw [eqE_iff.2 rfl]; simp) ?_⟩))))
    by_cases z2 : c2 = 0
    · refine sel_t (by simp [z2]) ?_
      by_cases z3 : c3 = 0
      · obtain ⟨_, e1, e2⟩ := Back_sum ve ve' hid a2 a3 a4 z2 z3
        refine sel_t (by simp [z3]) (sel_f (by simp [z4]) (hb_ldC l4.hb (j := 4) rfl (hb_ldC l2.hb (j := 4) rfl (hb_ldC l3.hb (j := 4) rfl ?_))))
        refine csum_runs (by unfold In53; omega) (by unfold In53; omega) (by unfold In53; omega) (by unfold In53; omega) (by unfold In53; omega) (by unfold In53; omega) ⟨_, _, rfl, hb_ldI he' (j := 3) rfl (int_fl ⟨_, rfl, ?_⟩)⟩
        refine csum_runs (by unfold In53; omega) (by unfold In53; omega) (by unfold In53; omega) (by unfold In53; omega) (by unfold In53; omega) (by unfold In53; omega) ⟨_, _, rfl, ?_⟩
        refine cx_neq w _ _ d4.1 d4.2 (by unfold In53; omega) (by unfold In53; omega) ⟨_, rfl, sel_f (by simp [e1, e2]) J2⟩
      · exact sel_f (by simp [z3]) J2
    · exact sel_f (by simp [z2]) J2
  · refine sel_f (by simp [z1]) ?_
    by_cases z2 : c2 = 0
    · refine sel_t (by simp [z2]) ?_
      by_cases z3 : c3 = 0
      · obtain ⟨z4, e1, e2⟩ := Back_sum ve ve' hid a2 a3 a4 z2 z3
        refine sel_t (by simp [z3]) (sel_f (by simp [z4]) (hb_ldC l4.hb (j := 4) rfl (hb_ldC l2.hb (j := 4) rfl (hb_ldC l3.hb (j := 4) rfl ?_))))
        refine csum_runs (by unfold In53; omega) (by unfold In53; omega) (by unfold In53; omega) (by unfold In53; omega) (by unfold In53; omega) (by unfold In53; omega) ⟨_, _, rfl, hb_ldI he' (j := 3) rfl (int_fl ⟨_, rfl, ?_⟩)⟩
        refine csum_runs (by unfold In53; omega) (by unfold In53; omega) (by unfold In53; omega) (by unfold In53; omega) (by unfold In53; omega) (by unfold In53; omega) ⟨_, _, rfl, ?_⟩
        refine cx_neq w _ _ d4.1 d4.2 (by unfold In53; omega) (by unfold In53; omega) ⟨_, rfl, sel_f (by simp [e1, e2]) J2⟩
      · exact sel_f (by simp [z3]) J2
    · exact sel_f (by simp [z2]) J2
end
theorem LinkcutBack_walk {w : World} {A : Option Addr} {n c : Nat} {l : List (Int × E)} (hs : ∀ w', Below w.heap.size w w' → Scr w' A n l) {e : E} (we : W64 e.u ∧ W64 e.v) {u v : Int} (hu : W64 u) (hv : W64 v) :
    Calls Try.prog 5 #[.slice A n c, .agg (eC e), .int .i64 u, .int .i64 v] w fun en w' => en = .returned (.bool true) ∧ Below w.heap.size w w' := by
  apply f_law17_LinkcutBack.ok
  unfold f_law17_LinkcutBack.wp
  refine al_new fun w1 be eb sb he g1 => ?_
  have he : HB w1 be (eC e) 33 := he
  refine (filled_ok (hs w1 g1)).mono ?_
  rintro _ w2 ⟨F, R, rfl, h2⟩
  generalize run l = st at h2
  have ve := h2.rep.ve
  have done : ∀ w', Below w1.heap.size w1 w' → Below w.heap.size w w' := fun w' hb => g1.trans (hb.mono (by omega))
  refine ⟨_, rfl, sel_f rfl ((alive_ok w2).mono ?_)⟩
  rintro _ w3 ⟨rfl, g3⟩
  have h3 := h2.below g3
  refine ⟨_, rfl, sel_f rfl ?_⟩
  refine along_step h3 hu hv fun w4 b1 m1 W1 K1 c1 a1 h4 l1 _ => hb_ldI (he.below h4.bel) (j := 1) rfl ?_
  refine along_step h4 hu we.1 fun w5 b2 m2 W2 K2 c2 a2 h5 l2 k5 => hb_ldI (he.below h5.bel) (j := 2) rfl ?_
  have l1 := k5 _ _ _ l1
  refine along_step h5 we.2 hv fun w6 b3 m3 W3 K3 c3 a3 h6 l3 k6 => ?_
  have l1 := k6 _ _ _ l1
  have l2 := k6 _ _ _ l2
  refine len_step h6 fun w7 h7 k7 => ?_
  have l1 := k7 _ _ _ l1
  have l2 := k7 _ _ _ l2
  have l3 := k7 _ _ _ l3
  refine getE (he.below h7.bel) (link_step h7 we.1 we.2 fun w8 F8 j hj h8 k8 => ?_)
  have l1 := k8 _ _ _ l1
  have l2 := k8 _ _ _ l2
  have l3 := k8 _ _ _ l3
  by_cases hc : linkC st.1 st.2 e j = 0
  · obtain ⟨n1, n2, n3, w0', w1', hid, _⟩ := linkC_zero hc
    have ee : linkE st.1 st.2 e j = e :: st.2 := by unfold linkE; rw [if_pos hc]
    rw [ee] at h8
    refine sel_f (by simp [hc]) (along_step h8 hu hv fun w9 b4 m4 W4 K4 c4 a4 h9 l4 k9 => ?_)
    exact Back_j1 h9 ve hid n1 ⟨w0', w1'⟩ hu hv he (k9 _ _ _ l1) a1 (k9 _ _ _ l2) (k9 _ _ _ l3) l4 a2 a3 a4 fun w' hb _ => ⟨rfl, done w' hb⟩
  · have ee : linkE st.1 st.2 e j = st.2 := by unfold linkE; rw [if_neg hc]
    rw [ee] at h8
    refine sel_t (by simp [hc]) (along_step h8 hu hv fun w9 b4 m4 W4 K4 c4 a4 h9 l4 k9 => ?_)
    obtain ⟨rfl, rfl, rfl, rfl⟩ := AlongR.det ve a1 a4
    exact Back_j0 (a1.in53 ve) (k9 _ _ _ l1).hb l4.hb fun _ => ⟨rfl, done _ h9.bel⟩
theorem Scr.belw {w w' : World} {A : Option Addr} {n : Nat} {l : List (Int × E)} (h : Scr w A n l) (hb : Below w.heap.size w w') : Scr w' A n l := ⟨h.r.belw hb, h.n, h.le, h.ok⟩
theorem LinkcutBack_row {w : World} {A0 : Option Addr} {n0 c0 : Nat} {f : Nat → Nat → Int} {x0 x1 x2 x3 a b : Int} (h0 : IsRecs ks5 w A0 n0 c0 f) (y0 : (Lit.int .i64 x0).wf = true) (y1 : (Lit.int .i64 x1).wf = true) (y2 : (Lit.int .i64 x2).wf = true) (y3 : (Lit.int .i64 x3).wf = true) (wa : (Lit.int .i64 a).wf = true) (wb : (Lit.int .i64 b).wf = true) :
    Calls Try.prog 5 #[.slice A0 n0 c0, .agg #[.int .i64 x0, .int .i64 x1, .int .i64 x2, .int .i64 x3], .int .i64 a, .int .i64 b] w fun e w' => e = .returned (.bool true) ∧ Below w.heap.size w w' :=
  LinkcutBack_walk (fun w' hb => (scr_of h0).belw hb) (e := ⟨x0, x1, x2, x3⟩) ⟨wf_i64 y1, wf_i64 y2⟩ (wf_i64 wa) (wf_i64 wb)
end Go.Proofs.Ytfknppccgojhdaa.Rd
