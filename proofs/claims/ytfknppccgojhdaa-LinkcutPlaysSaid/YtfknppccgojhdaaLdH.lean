/- LinkcutWeights, walked. Conditions: none. -/
import Derived.Test.YtfknppccgojhdaaLdG
namespace Go.Dn
open Go.RowKit
set_option linter.unusedVariables false
/-- an edge of this id replaced -/
def rpl (i : Int) (e : E) (x : E) : E := if x.id = i then e else x
theorem rpl_id {i : Int} {e : E} (h : e.id = i) (x : E) : (rpl i e x).id = x.id := by
  unfold rpl; split
  · rename_i h2; rw [h, h2]
  · rfl
theorem Wk.rpl {es es' : List E} {i : Int} {e e' : E} (hi : e.id = i) (hu : e'.u = e.u) (hv : e'.v = e.v) (he : ∀ x ∈ es, x.id = i → x = e) (hm : ∀ x ∈ es, Go.Dn.rpl i e' x ∈ es') {u v : Int} {p : List E} (h : Wk es u p v) : Wk es' u (p.map (Go.Dn.rpl i e')) v := by
  induction h with
  | nil => exact .nil _
  | cons hx hm2 h ih =>
    rename_i x m v p
    have huv : (Go.Dn.rpl i e' x).u = x.u ∧ (Go.Dn.rpl i e' x).v = x.v := by
      unfold Go.Dn.rpl
      split
      · rename_i h2; rw [he x hx h2]; exact ⟨hu, hv⟩
      · exact ⟨rfl, rfl⟩
    have ho : oth (Go.Dn.rpl i e' x) m = oth x m := by unfold oth; rw [huv.1, huv.2]
    refine .cons (hm x hx) (by rw [huv.1, huv.2]; exact hm2) ?_
    rw [ho]; exact ih
theorem NB.rpl {i : Int} {e' : E} (hi : e'.id = i) : ∀ {p : List E}, NB p → NB (p.map (Go.Dn.rpl i e'))
  | [], _ => trivial
  | [_], _ => trivial
  | a :: b :: p, h => ⟨by rw [rpl_id hi, rpl_id hi]; exact h.1, NB.rpl hi h.2⟩
theorem sum_rpl {i : Int} {e e' : E} (hi : e.id = i) : ∀ {p : List E}, (p.map E.id).Nodup → (∀ x ∈ p, x.id = i → x = e) → (e ∈ p → sumW (p.map (rpl i e')) = sumW p + (e'.w - e.w)) ∧ (e ∉ p → sumW (p.map (rpl i e')) = sumW p)
  | [], _, _ => ⟨fun h => (by cases h), fun _ => rfl⟩
  | a :: p, nd, hp => by
    rw [List.map_cons, List.nodup_cons] at nd
    obtain ⟨h1, h2⟩ := sum_rpl (e' := e') hi nd.2 fun x hx => hp x (by simp [hx])
    by_cases ha : a.id = i
    · have e1 := hp a (by simp) ha
      subst e1
      have hn : a ∉ p := fun h => nd.1 (List.mem_map_of_mem h)
      refine ⟨fun _ => ?_, fun h => absurd (by simp) h⟩
      have := h2 hn
      simp only [sumW, List.map_cons, List.sum_cons] at this ⊢
      rw [this]
      have : rpl i e' a = e' := by unfold rpl; rw [if_pos ha]
      rw [this]; omega
    · have hae : e ≠ a := fun h => ha (by rw [← h]; exact hi)
      have hr : rpl i e' a = a := by unfold rpl; rw [if_neg ha]
      refine ⟨fun h => ?_, fun h => ?_⟩
      · have := h1 ((List.mem_cons.1 h).resolve_left hae)
        simp only [sumW, List.map_cons, List.sum_cons] at this ⊢
        rw [this, hr]; omega
      · have := h2 fun hh => h (by simp [hh])
        simp only [sumW, List.map_cons, List.sum_cons] at this ⊢
        rw [this, hr]
end Go.Dn
namespace Go.Proofs.Ytfknppccgojhdaa.Rd
open Go.Dn Go.RowKit
set_option linter.unusedVariables false
set_option maxRecDepth 100000
/-- what holds of the paths before, between and after -/
theorem weights {vs : List Int} {es : List E} {e e' : E} (he : e ∈ es) (hi : e'.id = e.id) (hu : e'.u = e.u) (hv : e'.v = e.v) (g : VE vs es) (g0 : VE vs (noE es e.id)) (g1 : VE vs (e' :: noE es e.id)) {u v : Int} {m1 m2 m3 : E} {W1 K1 c1 W2 K2 c2 W3 K3 c3 : Int} (a1 : AlongR vs es u v m1 W1 K1 c1) (a2 : AlongR vs (noE es e.id) u v m2 W2 K2 c2) (a3 : AlongR vs (e' :: noE es e.id) u v m3 W3 K3 c3) :
    c1 = c3 ∧ ((c1 ≠ 0 ∨ c2 = 0) → m1 = m3 ∧ W1 = W3 ∧ K1 = K3) ∧ (c1 = 0 → c2 ≠ 0 → W3 = W1 + (e'.w - e.w) ∧ K3 = K1 ∧ (m3.id = m1.id ∨ m3.id = e.id ∨ m1.id = e.id)) := by
  have ue : ∀ x ∈ es, x.id = e.id → x = e := fun x hx h => ids_inj g.eid x hx e he h
  have ue1 : ∀ x ∈ e' :: noE es e.id, x.id = e.id → x = e' := fun x hx h => by
    rcases List.mem_cons.1 hx with h2 | h2
    · exact h2
    · exact absurd h (noE_mem.1 h2).2
  have f1 : ∀ x ∈ es, rpl e.id e' x ∈ e' :: noE es e.id := fun x hx => by
    unfold rpl
    split
    · simp
    · rename_i h; exact List.mem_cons_of_mem _ (noE_mem.2 ⟨hx, h⟩)
  have f2 : ∀ x ∈ e' :: noE es e.id, rpl e.id e x ∈ es := fun x hx => by
    unfold rpl
    split
    · exact he
    · rename_i h
      rcases List.mem_cons.1 hx with h2 | h2
      · exact absurd (by rw [h2, hi]) h
      · exact (noE_mem.1 h2).1
  have s0 : ∀ x ∈ noE es e.id, x ∈ es := fun x hx => (noE_mem.1 hx).1
  have s1 : ∀ x ∈ noE es e.id, x ∈ e' :: noE es e.id := fun x hx => List.mem_cons_of_mem _ hx
  rcases a1 with ⟨h, rfl, rfl, rfl, rfl⟩ | ⟨hu', hv', h, rfl, rfl, rfl, rfl⟩ | ⟨hu', hv', p, hp, np, hm, rfl, rfl, rfl⟩
  · rcases a3 with ⟨_, rfl, rfl, rfl, rfl⟩ | ⟨h1, h2, _⟩ | ⟨h1, h2, _⟩
    · exact ⟨rfl, fun _ => ⟨rfl, rfl, rfl⟩, fun h => by cases h⟩
    · exact absurd ⟨h1, h2⟩ h
    · exact absurd ⟨h1, h2⟩ h
  · rcases a3 with ⟨h1, _⟩ | ⟨_, _, _, rfl, rfl, rfl, rfl⟩ | ⟨_, _, q, hq, nq, _⟩
    · exact absurd ⟨hu', hv'⟩ h1
    · exact ⟨rfl, fun _ => ⟨rfl, rfl, rfl⟩, fun h => by cases h⟩
    · exact absurd ⟨_, hq.rpl (i := e.id) (e := e') (e' := e) hi hu.symm hv.symm ue1 f2, nq.rpl rfl⟩ h
  · have hp1 := hp.rpl (e' := e') rfl hu hv ue f1
    have np1 := np.rpl (i := e.id) (e' := e') hi
    obtain ⟨rfl, hm3, rfl, rfl⟩ := a3.of g1 hu' hv' hp1 np1
    have sm := g.sm u v p hu' hp np
    refine ⟨rfl, fun h => ?_, fun _ h => ?_⟩
    · have h := h.resolve_left (fun h => h rfl)
      rcases a2 with ⟨_, _, _, _, h1⟩ | ⟨_, _, _, _, _, _, h1⟩ | ⟨_, _, q, hq, nq, _⟩
      · rw [h1] at h; cases h
      · rw [h1] at h; cases h
      · have e1 := g.uq u v p q hu' hp np (hq.mono s0) nq
        subst e1
        have hne : ∀ x ∈ p, x.id ≠ e.id := fun x hx => (noE_mem.1 (hq.mem x hx)).2
        have hmap : p.map (rpl e.id e') = p := by
          conv => rhs; rw [← List.map_id p]
          apply List.map_congr_left
          intro x hx
          unfold rpl; rw [if_neg (hne x hx)]; rfl
        rw [hmap] at hm3 ⊢
        exact ⟨hm.uniq sm.1 hm3, rfl, rfl⟩
    · have hep : e ∈ p := by
        refine Classical.byContradiction fun hn => ?_
        have hsub : ∀ x ∈ p, x ∈ noE es e.id := fun x hx => noE_mem.2 ⟨hp.mem x hx, fun h2 => hn (by rw [← ue x (hp.mem x hx) h2]; exact hx)⟩
        obtain ⟨h1, _⟩ := a2.of g0 hu' hv' (hp.of_mem hsub) np
        exact h h1
      refine ⟨(sum_rpl rfl sm.1 fun x hx => ue x (hp.mem x hx)).1 hep, by simp, ?_⟩
      have hne : p ≠ [] := fun h2 => by rw [h2] at hep; cases hep
      obtain ⟨x1, x2⟩ := hm.s hne
      obtain ⟨y1, y2⟩ := hm3.s (by simpa using hne)
      by_cases z1 : m1.id = e.id
      · exact .inr (.inr z1)
      by_cases z3 : m3.id = e.id
      · exact .inr (.inl z3)
      refine .inl ?_
      obtain ⟨x, hx, ex⟩ := List.mem_map.1 y1
      have hxi : x.id ≠ e.id := fun h2 => z3 (by rw [← ex, rpl_id hi]; exact h2)
      have : m3 = x := by rw [← ex]; unfold rpl; rw [if_neg hxi]
      subst this
      have k1 := x2 _ hx
      have k2 := y2 m1 (List.mem_map.2 ⟨m1, x1, by unfold rpl; rw [if_neg z1]⟩)
      unfold leE at k1 k2
      omega
theorem Weights_j0 {w0 w : World} {F : Nat → Prop} {R : Nat} {vs : List Int} {es : List E} {e : E} (he : e ∈ es) (g : VE vs es) (g0 : VE vs (noE es e.id)) {wt : Int} (hwt : 0 ≤ wt ∧ wt ≤ 1099511627776) (h : LF w0 w F R vs ((⟨e.id, e.u, e.v, wt⟩ : E) :: noE es e.id)) {u v : Int} (hu : W64 u) (hv : W64 v) {be b1 : Nat} {m1 m2 : E} {W1 K1 c1 W2 K2 c2 : Int} (le : Lo w0 w F be (eC e) 33) (l1 : Lo w0 w F b1 (aC m1 W1 K1) 48) (a1 : AlongR vs es u v m1 W1 K1 c1) (a2 : AlongR vs (noE es e.id) u v m2 W2 K2 c2) {Kr : Bool → World → Prop} (k : ∀ w', Below w0.heap.size w0 w' → Kr true w') :
    f_law17_LinkcutWeights.j0 e.id wt u v (some ⟨R, 0, none⟩) (⟨be, 0, none⟩ : Addr) (⟨b1, 0, none⟩ : Addr) c1 c2 w Kr := by
  have g1 := h.rep.ve
  unfold f_law17_LinkcutWeights.j0
  refine along_step h hu hv fun w2 b3 m3 W3 K3 c3 a3 h2 l3 k3 => ?_
  have le := k3 _ _ _ le
  have l1 := k3 _ _ _ l1
  obtain ⟨q1, q2, q3⟩ := weights he (e' := ⟨e.id, e.u, e.v, wt⟩) rfl rfl rfl g g0 g1 a1 a2 a3
  have i1 := a1.in53 g
  have i3 := a3.in53 g1
  have d1 := a1.bd g
  have er := g.er e he
  refine sel_f (by simp [q1]) ?_
  have eqs : (c1 ≠ 0 ∨ c2 = 0) → Kr true w2 → ldI w2 (⟨b3, 0, none⟩ : Addr) .i64 fun x54 => ldI w2 ((⟨b3, 0, none⟩ : Addr).add 1) .i64 fun x55 => ldI w2 ((⟨b3, 0, none⟩ : Addr).add 2) .i64 fun x56 => ldI w2 ((⟨b3, 0, none⟩ : Addr).add 3) .i64 fun x57 => ldC w2 ((⟨b3, 0, none⟩ : Addr).add 4) .f64 fun r58 i58 =>
      ldI w2 (⟨b1, 0, none⟩ : Addr) .i64 fun x59 => ldI w2 ((⟨b1, 0, none⟩ : Addr).add 1) .i64 fun x60 => ldI w2 ((⟨b1, 0, none⟩ : Addr).add 2) .i64 fun x61 => ldI w2 ((⟨b1, 0, none⟩ : Addr).add 3) .i64 fun x62 => ldC w2 ((⟨b1, 0, none⟩ : Addr).add 4) .f64 fun r63 i63 =>
      Runs Try.prog (do eqGuard .eql 48 (.tmp 88) (.tmp 89) (.agg #[.int .i64 x54, .int .i64 x55, .int .i64 x56, .int .i64 x57, .complex .f64 r58 i58]) (.agg #[.int .i64 x59, .int .i64 x60, .int .i64 x61, .int .i64 x62, .complex .f64 r63 i63]); binOp .eql 48 (.agg #[.int .i64 x54, .int .i64 x55, .int .i64 x56, .int .i64 x57, .complex .f64 r58 i58]) (.agg #[.int .i64 x59, .int .i64 x60, .int .i64 x61, .int .i64 x62, .complex .f64 r63 i63]) : Sem Value) w2 fun v65 w64 => ∃ b66 : Bool, v65 = (.bool b66) ∧ Kr b66 w64 := by
    intro hh hk
    obtain ⟨rfl, rfl, rfl⟩ := q2 hh
    refine getA l3.hb (getA l1.hb (agg_eq w2 _ _ i3.1 i3.2 i1.1 i1.2 ⟨_, rfl, ?_⟩))
    rw [eqE_iff.2 rfl]; simpa using hk
  by_cases z1 : c1 = 0
  · refine sel_f (by simp [z1]) ?_
    by_cases z2 : c2 = 0
    · exact sel_t (by simp [z2]) (eqs (.inr z2) (k w2 h2.bel))
    · obtain ⟨rfl, rfl, hm⟩ := q3 z1 z2
      refine sel_f (by simp [z2]) (hb_ldC l3.hb (j := 4) rfl (hb_ldC l1.hb (j := 4) rfl (hb_ldI le.hb (j := 3) rfl ?_)))
      rw [w64_in (by omega)]
      refine int_fl ⟨_, rfl, ?_⟩
      have f0 : (.complex .f64 (fb (wt - e.w)) 0 : Value) = .complex .f64 (fb (wt - e.w)) (fb 0) := by rw [fb_zero]
      rw [f0]
      refine csum_runs (by unfold In53; omega) (by unfold In53; omega) (by unfold In53; omega) (by unfold In53; omega) i3.1 (by unfold In53; omega) ⟨_, _, rfl, ?_⟩
      refine cx_eq w2 _ _ i3.1 i3.2 i3.1 (by unfold In53; omega) ⟨_, rfl, sel_t (by simp) (hb_ldI0 l3.hb rfl (hb_ldI0 l1.hb rfl ?_))⟩
      by_cases y1 : m3.id = m1.id
      · exact sel_t (by simp [y1]) (k w2 h2.bel)
      · refine sel_f (by simpa using y1) (hb_ldI0 l3.hb rfl ?_)
        by_cases y2 : m3.id = e.id
        · exact sel_t (by simp [y2]) (k w2 h2.bel)
        · refine sel_f (by simpa using y2) (hb_ldI0 l1.hb rfl ?_)
          have y3 : m1.id = e.id := (hm.resolve_left y1).resolve_left y2
          rw [y3, beq_self_eq_true]; exact k w2 h2.bel
  · exact sel_t (by simp [z1]) (eqs (.inl z1) (k w2 h2.bel))
theorem LinkcutWeights_walk {w : World} {A : Option Addr} {n c : Nat} {l : List (Int × E)} (hs : Scr w A n l) {i wt u v : Int} (hi : W64 i) (hu : W64 u) (hv : W64 v) :
    Calls Try.prog 7 #[.slice A n c, .int .i64 i, .int .i64 wt, .int .i64 u, .int .i64 v] w fun en w' => en = .returned (.bool true) ∧ Below w.heap.size w w' := by
  apply f_law17_LinkcutWeights.ok
  unfold f_law17_LinkcutWeights.wp
  refine (filled_ok hs).mono ?_
  rintro _ w2 ⟨F, R, rfl, h2⟩
  generalize run l = st at h2
  have ve := h2.rep.ve
  refine ⟨_, rfl, sel_f rfl ((alive_ok w2).mono ?_)⟩
  rintro _ w3 ⟨rfl, g3⟩
  have h3 := h2.below g3
  refine ⟨_, rfl, sel_f rfl (edge_step h3 hi fun w4 be h4 le k4 => ?_)⟩
  cases hb : edgeB st.2 i with
  | false => exact sel_t rfl ⟨rfl, h4.bel⟩
  | true =>
  obtain ⟨ym, yid⟩ := edgeE_mem hb
  generalize edgeE st.2 i = e at *
  subst yid
  refine sel_f rfl ?_
  by_cases w1 : wt < 0
  · exact sel_t (by simpa using w1) ⟨rfl, h4.bel⟩
  refine sel_f (by simpa using w1) ?_
  by_cases w2 : wt > 1099511627776
  · exact sel_t (by simpa using w2) ⟨rfl, h4.bel⟩
  refine sel_f (by simpa using w2) (along_step h4 hu hv fun w5 b1 m1 W1 K1 c1 a1 h5 l1 k5 => ?_)
  have le := k5 _ _ _ le
  refine cut_step h5 hi fun w6 F6 h6 k6 => ?_
  have le := k6 _ _ _ le
  have l1 := k6 _ _ _ l1
  have er := ve.er e ym
  have nb : ¬ badI e.id := by unfold badI; omega
  have vr := ve.vr
  have nbu : ¬ badI e.u := by have := vr _ er.2.2.1; unfold badI; omega
  have nbv : ¬ badI e.v := by have := vr _ er.2.2.2.1; unfold badI; omega
  have ec : cutC st.2 e.id = 0 := by unfold cutC; rw [if_neg nb, if_neg (fun h => h (List.mem_map_of_mem ym))]
  have ee : cutE st.2 e.id = noE st.2 e.id := by unfold cutE; rw [if_pos ec]
  rw [ee] at h6
  rw [ec]
  have g0 := h6.rep.ve
  refine sel_f rfl (along_step h6 hu hv fun w7 b2 m2 W2 K2 c2 a2 h7 l2 k7 => ?_)
  have le := k7 _ _ _ le
  have l1 := k7 _ _ _ l1
  refine hb_ldI le.hb (j := 1) rfl (hb_ldI le.hb (j := 2) rfl ?_)
  refine link_step h7 (e := ⟨e.id, e.u, e.v, wt⟩) (W64.id nbu).1 (W64.id nbv).1 fun w8 F8 j hj h8 k8 => ?_
  have le := k8 _ _ _ le
  have l1 := k8 _ _ _ l1
  have hj0 : j = false := by
    cases j with
    | false => rfl
    | true =>
      obtain ⟨p, hp, np⟩ := (hj er.2.2.1 er.2.2.2.1).1 rfl
      have hp' : Wk st.2 e.u p e.v := hp.mono fun x hx => (noE_mem.1 hx).1
      have hwk : Wk st.2 e.u [e] e.v := .cons ym (.inl rfl) (by unfold oth; rw [if_pos rfl]; exact .nil _)
      have := ve.uq e.u e.v p [e] er.2.2.1 hp' np hwk trivial
      subst this
      exact absurd rfl (noE_mem.1 (hp.mem e (by simp))).2
  subst hj0
  have elc : linkC st.1 (noE st.2 e.id) ⟨e.id, e.u, e.v, wt⟩ false = 0 := by
    unfold linkC
    rw [if_neg (by simp [nb, nbu, nbv]), if_neg (by simp; omega), if_neg (fun h => by obtain ⟨x, hx, hid⟩ := List.mem_map.1 h; exact (noE_mem.1 hx).2 hid), if_neg (fun h => h ⟨er.2.2.1, er.2.2.2.1⟩), if_neg (by decide)]
  have ele : linkE st.1 (noE st.2 e.id) ⟨e.id, e.u, e.v, wt⟩ false = ⟨e.id, e.u, e.v, wt⟩ :: noE st.2 e.id := by unfold linkE; rw [if_pos elc]
  rw [ele] at h8
  rw [elc]
  exact sel_f rfl (Weights_j0 ym ve g0 ⟨by omega, by omega⟩ h8 hu hv le l1 a1 a2 fun w' hb _ => ⟨rfl, hb⟩)
theorem LinkcutWeights_row {w : World} {A0 : Option Addr} {n0 c0 : Nat} {f : Nat → Nat → Int} {a b x y : Int} (h0 : IsRecs ks5 w A0 n0 c0 f) (wa : (Lit.int .i64 a).wf = true) (wb : (Lit.int .i64 b).wf = true) (wx : (Lit.int .i64 x).wf = true) (wy : (Lit.int .i64 y).wf = true) :
    Calls Try.prog 7 #[.slice A0 n0 c0, .int .i64 a, .int .i64 b, .int .i64 x, .int .i64 y] w fun e w' => e = .returned (.bool true) ∧ Below w.heap.size w w' :=
  LinkcutWeights_walk (scr_of h0) (wf_i64 wa) (wf_i64 wx) (wf_i64 wy)
end Go.Proofs.Ytfknppccgojhdaa.Rd
