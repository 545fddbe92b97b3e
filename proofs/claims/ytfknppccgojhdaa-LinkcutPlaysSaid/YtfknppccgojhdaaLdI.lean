/- LinkcutOrder, walked. Conditions: none. -/
import Derived.Test.YtfknppccgojhdaaLdH
namespace Go.Dn
open Go.RowKit
set_option linter.unusedVariables false
def sw (e : E) : E := ⟨e.id, e.v, e.u, e.w⟩
theorem sw_sw (e : E) : sw (sw e) = e := rfl
theorem oth_sw {e : E} {m : Int} (h : e.u = m ∨ e.v = m) : oth (sw e) m = oth e m := by
  unfold oth sw
  by_cases h1 : e.u = m
  · rw [if_pos h1]
    by_cases h2 : e.v = m
    · rw [if_pos h2, h1, h2]
    · rw [if_neg h2]
  · rw [if_neg h1, if_pos (h.resolve_left h1)]
theorem Wk.sw {es : List E} {u v : Int} {p : List E} (h : Wk es u p v) : Wk (es.map Go.Dn.sw) u (p.map Go.Dn.sw) v := by
  induction h with
  | nil => exact .nil _
  | cons he hm h ih => exact .cons (List.mem_map_of_mem he) hm.symm (by rw [oth_sw hm]; exact ih)
theorem NB.sw : ∀ {p : List E}, NB p → NB (p.map Go.Dn.sw)
  | [], _ => trivial
  | [_], _ => trivial
  | a :: b :: p, h => ⟨h.1, NB.sw h.2⟩
theorem sw_map (p : List E) : (p.map sw).map sw = p := by
  rw [List.map_map]
  conv => rhs; rw [← List.map_id p]
  rfl
theorem sumW_sw (p : List E) : sumW (p.map sw) = sumW p := by unfold sumW; rw [List.map_map]; rfl
theorem ids_sw (p : List E) : (p.map sw).map E.id = p.map E.id := by rw [List.map_map]; rfl
theorem MxP.sw {p : List E} {e : E} (h : MxP p e) : MxP (p.map Go.Dn.sw) (Go.Dn.sw e) := by
  refine ⟨fun hp => ?_, fun hp => ?_⟩
  · rw [h.z (List.map_eq_nil_iff.1 hp)]; rfl
  · obtain ⟨h1, h2⟩ := h.s fun h => hp (by rw [h]; rfl)
    refine ⟨List.mem_map_of_mem h1, fun a ha => ?_⟩
    obtain ⟨b, hb, rfl⟩ := List.mem_map.1 ha
    exact h2 b hb
end Go.Dn
namespace Go.Proofs.Ytfknppccgojhdaa.Rd
open Go.Dn Go.RowKit
set_option linter.unusedVariables false
set_option maxRecDepth 100000
theorem _root_.Go.Dn.AlongR.sw {vs : List Int} {es : List E} (g : VE vs es) (g' : VE vs (es.map Go.Dn.sw)) {u v : Int} {m m' : E} {W K c W' K' c' : Int} (h : AlongR vs es u v m W K c) (h' : AlongR vs (es.map Go.Dn.sw) u v m' W' K' c') : c = c' ∧ W = W' ∧ K = K' ∧ m' = Go.Dn.sw m := by
  rcases h with ⟨h, rfl, rfl, rfl, rfl⟩ | ⟨hu, hv, h, rfl, rfl, rfl, rfl⟩ | ⟨hu, hv, p, hp, np, hm, rfl, rfl, rfl⟩
  · rcases h' with ⟨_, rfl, rfl, rfl, rfl⟩ | ⟨h1, h2, _⟩ | ⟨h1, h2, _⟩
    · exact ⟨rfl, rfl, rfl, rfl⟩
    · exact absurd ⟨h1, h2⟩ h
    · exact absurd ⟨h1, h2⟩ h
  · rcases h' with ⟨h1, _⟩ | ⟨_, _, _, rfl, rfl, rfl, rfl⟩ | ⟨_, _, q, hq, nq, _⟩
    · exact absurd ⟨hu, hv⟩ h1
    · exact ⟨rfl, rfl, rfl, rfl⟩
    · refine absurd ⟨_, ?_, nq.sw⟩ h
      have := hq.sw
      rw [sw_map] at this; exact this
  · obtain ⟨rfl, h2, rfl, rfl⟩ := h'.of g' hu hv hp.sw np.sw
    refine ⟨rfl, (sumW_sw p).symm, by simp, ?_⟩
    exact h2.uniq (by rw [ids_sw]; exact (g.sm u v p hu hp np).1) hm.sw
/-- filled, and what held all the way -/
theorem filled_ok2 {w : World} {A : Option Addr} {n c : Nat} {l : List (Int × E)} (h : Scr w A n l) :
    Calls Try.prog 15 #[.slice A n c] w fun e w' => ∃ F R, e = .returned (.pointer (some ⟨R, 0, none⟩)) ∧ LF w w' F R (run l).1 (run l).2 ∧ ∀ i, i ≤ l.length → VE (run (l.take i)).1 (run (l.take i)).2 := by
  obtain ⟨hr, rfl, hle, hok⟩ := h
  apply f_law17_filled.ok
  unfold f_law17_filled.wp
  refine new_step (Below.refl _ w) fun w1 F1 R h1 _ _ => ?_
  refine ⟨l.length + 1, ?_⟩
  have key : ∀ (m i : Nat) (w2 : World) (F : Nat → Prop), l.length - i = m → i ≤ l.length → LF w w2 F R (run (l.take i)).1 (run (l.take i)).2 → (∀ j, j ≤ i → VE (run (l.take j)).1 (run (l.take j)).2) →
      f_law17_filled.l0 (m + 1) A l.length c (some ⟨R, 0, none⟩) (i : Int) w2 (fun w13 => ∀ _ : Fr, (fun e w' => ∃ F R, e = Ending.returned (.pointer (some ⟨R, 0, none⟩)) ∧ LF w w' F R (run l).1 (run l).2 ∧ ∀ i, i ≤ l.length → VE (run (l.take i)).1 (run (l.take i)).2) (.returned (.pointer (some ⟨R, 0, none⟩))) w13) := by
    intro m
    induction m with
    | zero =>
      intro i w2 F hm hi hf hv
      have : i = l.length := by omega
      subst this
      rw [List.take_length] at hf
      unfold f_law17_filled.l0
      exact sel_t rfl (sel_f (by simp) fun _ => ⟨F, R, rfl, hf, hv⟩)
    | succ m ih =>
      intro i w2 F hm hi hf hv
      have hlt : i < l.length := by omega
      obtain ⟨a, rfl, q⟩ := (hr.belw hf.bel) i hlt
      have hw : IntKind.i64.wrap ((i : Int) + 1) = ((i + 1 : Nat) : Int) := by rw [w64_in (by omega)]; omega
      unfold f_law17_filled.l0
      refine sel_t rfl (sel_t (by simpa using hlt) (optB_some rfl (req_intro (by simp; omega) (rowO q ?_))))
      have H : L2 w w2 F R (run (l.take i)) s0 ([], []) := ⟨hf, RF.zero w2, fun k hk => hk.elim (fun ⟨_, h, _⟩ => by cases h) (fun ⟨_, h, _⟩ => by cases h)⟩
      refine (does_ok H rg0 (by simp) (o := l[i]) (hok _ (List.getElem_mem hlt))).mono ?_
      rintro _ w3 ⟨F', s', rfl, H3, _⟩
      refine ⟨_, _, _, _, _, _, _, _, _, _, _, _, _, rfl, ?_⟩
      rw [hw]
      have e1 : run (l.take (i + 1)) = stp (run (l.take i)) l[i] := by rw [List.take_succ_eq_append_getElem hlt, run_snoc]
      have h3 := H3.f
      rw [← e1] at h3
      refine ih (i + 1) w3 F' (by omega) (by omega) h3 fun j hj => ?_
      by_cases hj2 : j ≤ i
      · exact hv j hj2
      · have : j = i + 1 := by omega
        subst this; exact h3.rep.ve
  exact key l.length 0 w1 F1 (by omega) (by omega) h1 fun j hj => by
    have : j = 0 := by omega
    subst this; exact h1.rep.ve
/-- the document's forest goes through the script -/
theorem Order_l0 {wS : World} {A : Option Addr} {c b9 : Nat} {l : List (Int × E)} (hr : RO wS A l) (hle : l.length ≤ 9223372036854775807) (hve : ∀ i, i ≤ l.length → VE (run (l.take i)).1 (run (l.take i)).2) (l9 : b9 < wS.heap.size) {K0 : World → Prop}
    (hA : ∀ i (hi : i < l.length), ∃ a, A = some a ∧ a.block ≠ b9)
    (k0 : ∀ w s, HB w b9 (rsC s) 31 → RF w s (run l).1 (run l).2 → (∀ k, Rb s k → wS.heap.size ≤ k) → Keeps (fun k => k = b9) wS w → K0 w) : ∀ (m i : Nat) (w : World) (s : RS), l.length - i = m → i ≤ l.length → HB w b9 (rsC s) 31 → RF w s (run (l.take i)).1 (run (l.take i)).2 → (∀ k, Rb s k → wS.heap.size ≤ k) → Keeps (fun k => k = b9) wS w →
      f_law17_LinkcutOrder.l0 (m + 1) (⟨b9, 0, none⟩ : Addr) A l.length c (l.length : Int) (i : Int) w K0 := by
  intro m
  induction m with
  | zero =>
    intro i w s hm hi h9 hf hrb hk
    have : i = l.length := by omega
    subst this
    rw [List.take_length] at hf
    unfold f_law17_LinkcutOrder.l0
    exact sel_f (by simp) (k0 w s h9 hf hrb hk)
  | succ m ih =>
    intro i w s hm hi h9 hf hrb hk
    have hlt : i < l.length := by omega
    obtain ⟨a, eA, h9a⟩ := hA i hlt
    obtain ⟨a', ea', q0⟩ := hr i hlt
    rw [eA] at ea'; injection ea' with ea'; subst ea'
    have q : RO1 w a i l[i] := by
      obtain ⟨c0, c1, c2, c3, c4⟩ := q0
      exact ⟨hk.cell c0 (by simpa only [add_block] using h9a), hk.cell c1 (by simpa only [add_block] using h9a), hk.cell c2 (by simpa only [add_block] using h9a), hk.cell c3 (by simpa only [add_block] using h9a), hk.cell c4 (by simpa only [add_block] using h9a)⟩
    have hw : IntKind.i64.wrap ((i : Int) + 1) = ((i + 1 : Nat) : Int) := by rw [w64_in (by omega)]; omega
    have e1 : run (l.take (i + 1)) = stp (run (l.take i)) l[i] := by rw [List.take_succ_eq_append_getElem hlt, run_snoc]
    have ve := hve i hi
    have hsz := hk.size
    have close : ∀ (w7 : World) (s' : RS), HB w7 b9 (rsC s') 31 → RF w7 s' (stp (run (l.take i)) l[i]).1 (stp (run (l.take i)) l[i]).2 → (∀ k, Rb s' k → wS.heap.size ≤ k) → Keeps (fun k => k = b9) wS w7 → f_law17_LinkcutOrder.l0 (m + 1) (⟨b9, 0, none⟩ : Addr) A l.length c (l.length : Int) (IntKind.i64.wrap ((i : Int) + 1)) w7 K0 := by
      intro w7 s' h9' hf' hrb' hk'
      rw [hw]
      exact ih (i + 1) w7 s' (by omega) (by omega) h9' (by rw [e1]; exact hf') hrb' hk'
    generalize run (l.take i) = st at hf ve close
    have len : st.2.length ≤ 4095 := by have := ve.el; omega
    unfold f_law17_LinkcutOrder.l0
    rw [eA] at close ⊢
    refine sel_t (by simpa using hlt) (optB_some rfl (req_intro (by simp; omega) (rowO q ?_)))
    refine op5 (o := l[i]) fun w2 b2 e2 h2 g2 => ?_
    have h92 := h9.below g2
    have hk2 := hk.trans (.of_below g2)
    refine get4 h92 (al_new fun w3 b3 e3 s3 h3 g3 => put4 h3 rfl s fun w4 h34 k4 => ?_)
    have sz2 := g2.size
    have l92 := h9.lt
    have lb2 := h2.lt
    have h24 : HB w4 b2 (oC l[i]) 35 := (h2.below g3).keeps k4 (by omega)
    have h94 : HB w4 b9 (rsC s) 31 := (h92.below g3).keeps k4 (by omega)
    have hb4 : Below w.heap.size w w4 := (g2.trans (g3.mono (by omega))).trans (k4.below (by have := g3.size; omega) fun i hi e => by omega)
    have hf4 := hf.belw hb4
    have hk4 := hk.trans (.of_below hb4)
    have lb3 := h34.lt
    -- behind a call
    have after : ∀ {w5 : World} {s' : RS}, RF w5 s' (stp st l[i]).1 (stp st l[i]).2 → Sb w4 s s' → Below w4.heap.size w4 w5 →
        (stW w5 (⟨b3, 0, none⟩ : Addr) (.slice s'.A0 s'.n0 s'.c0) fun w1 => stW w1 ((⟨b3, 0, none⟩ : Addr).add 1) (.slice s'.A1 s'.n1 s'.c1) fun w2 => stW w2 ((⟨b3, 0, none⟩ : Addr).add 2) (.slice s'.A2 s'.n2 s'.c2) fun w3 => stW w3 ((⟨b3, 0, none⟩ : Addr).add 3) (.slice s'.A3 s'.n3 s'.c3) fun w4 =>
          ldS w4 (⟨b3, 0, none⟩ : Addr) fun A0 n0 c0 => ldS w4 ((⟨b3, 0, none⟩ : Addr).add 1) fun A1 n1 c1 => ldS w4 ((⟨b3, 0, none⟩ : Addr).add 2) fun A2 n2 c2 => ldS w4 ((⟨b3, 0, none⟩ : Addr).add 3) fun A3 n3 c3 =>
          stW w4 (⟨b9, 0, none⟩ : Addr) (.slice A0 n0 c0) fun w1 => stW w1 ((⟨b9, 0, none⟩ : Addr).add 1) (.slice A1 n1 c1) fun w2 => stW w2 ((⟨b9, 0, none⟩ : Addr).add 2) (.slice A2 n2 c2) fun w3 => stW w3 ((⟨b9, 0, none⟩ : Addr).add 3) (.slice A3 n3 c3) fun w7 => f_law17_LinkcutOrder.l0 (m + 1) (⟨b9, 0, none⟩ : Addr) (some a) l.length c (l.length : Int) (IntKind.i64.wrap ((i : Int) + 1)) w7 K0) := by
      intro w5 s' hf5 hs5 g5
      have h35 := h34.below g5
      have h95 := h94.below g5
      refine ret4 h35 rfl s' fun w6 h36 k6 => put4 (h95.keeps k6 (by omega)) rfl s' fun w7 h97 k7 => ?_
      have nb : ∀ k, Rb s' k → k ≠ b3 ∧ k ≠ b9 := fun k hk => by
        rcases hs5.b k hk with h | h
        · have := hf.lt k h; have := hrb k h; omega
        · omega
      refine close w7 s' h97 ((hf5.keeps k6 fun k hk => (nb k hk).1).keeps k7 fun k hk => (nb k hk).2) (fun k hk => ?_) ?_
      · rcases hs5.b k hk with h | h
        · exact hrb k h
        · have := hk4.size; omega
      · exact ((hk4.trans (.of_below g5)).trans' k6 fun k hk e => by omega).trans k7
    refine hb_ldI0 h24 rfl ?_
    by_cases k1 : l[i].1 = 1
    · refine sel_t (by simp [k1]) (get4 h94 (hb_ldI2 h24 (i := 1) (j := 1) rfl ((RAddV_ok hf4 l[i].2.u).mono ?_)))
      rintro _ w5 ⟨s', rfl, r5, sb5, g5⟩
      refine ⟨s'.A0, s'.n0, s'.c0, s'.A1, s'.n1, s'.c1, s'.A2, s'.n2, s'.c2, s'.A3, s'.n3, s'.c3, _, rfl, after ?_ sb5 g5⟩
      unfold stp; rw [if_pos k1]; exact r5
    refine sel_f (by simp [k1]) ?_
    by_cases k2 : l[i].1 = 2
    · refine sel_t (by simp [k2]) (get4 h94 (hb_ldI2 h24 (i := 1) (j := 1) rfl ((RDelV_ok hf4 l[i].2.u).mono ?_)))
      rintro _ w5 ⟨s', rfl, r5, sb5, g5⟩
      refine ⟨s'.A0, s'.n0, s'.c0, s'.A1, s'.n1, s'.c1, s'.A2, s'.n2, s'.c2, s'.A3, s'.n3, s'.c3, _, rfl, after ?_ sb5 g5⟩
      unfold stp; rw [if_neg k1, if_pos k2]; exact r5
    refine sel_f (by simp [k2]) ?_
    by_cases k3 : l[i].1 = 3
    · refine sel_t (by simp [k3]) (get4 h94 (hb_ldI h24 (j := 1) rfl (hb_ldI2 h24 (i := 1) (j := 1) rfl (hb_ldI2 h24 (i := 1) (j := 2) rfl (hb_ldI2 h24 (i := 1) (j := 3) rfl ((RLink_ok hf4 ve.rg len l[i].2).mono ?_))))))
      rintro _ w5 ⟨s', j', hj', rfl, r5, sb5, g5⟩
      refine ⟨s'.A0, s'.n0, s'.c0, s'.A1, s'.n1, s'.c1, s'.A2, s'.n2, s'.c2, s'.A3, s'.n3, s'.c3, _, rfl, after ?_ sb5 g5⟩
      have e5 : linkEr st.1 st.2 l[i].2 j' = linkEr st.1 st.2 l[i].2 (jnB st.2 l[i].2.u l[i].2.v) := by unfold linkEr; rw [linkC_j hj']
      rw [e5] at r5
      unfold stp; rw [if_neg k1, if_neg k2, if_pos k3]; exact r5
    refine sel_f (by simp [k3]) ?_
    by_cases k4 : l[i].1 = 4
    · refine sel_t (by simp [k4]) (get4 h94 (hb_ldI h24 (j := 1) rfl ((RCut_ok hf4 l[i].2.id).mono ?_)))
      rintro _ w5 ⟨s', rfl, r5, sb5, g5⟩
      refine ⟨s'.A0, s'.n0, s'.c0, s'.A1, s'.n1, s'.c1, s'.A2, s'.n2, s'.c2, s'.A3, s'.n3, s'.c3, _, rfl, after ?_ sb5 g5⟩
      unfold stp; rw [if_neg k1, if_neg k2, if_neg k3, if_pos k4]; exact r5
    refine sel_f (by simp [k4]) (get4 h34 (put4 h94 rfl s fun w7 h97 k7 => close w7 s h97 ?_ hrb (hk4.trans k7)))
    unfold stp; rw [if_neg k1, if_neg k2, if_neg k3, if_neg k4]
    exact hf4.keeps k7 fun k hk e => by have := hrb k hk; omega
/-! ### two forests -/
structure T2 (w0 w : World) (F : Nat → Prop) (R : Nat) (st : List Int × List E) (G : Nat → Prop) (R2 : Nat) (vs : List Int) (es : List E) : Prop where
  f : LF w0 w F R st.1 st.2
  g : LF w0 w G R2 vs es
  d : ∀ k, F k → ¬ G k
section
variable {w0 w w' : World} {F G G' : Nat → Prop} {R R2 b9 : Nat} {st : List Int × List E} {vs vs' : List Int} {es es' : List E} {s : RS}
theorem T2.callG (h : T2 w0 w F R st G R2 vs es) (r : Rep w' G' R2 vs' es') (u : Upd G w w' G') : T2 w0 w' F R st G' R2 vs' es' := by
  have g := h.g.call r u
  exact ⟨⟨h.f.rep.other u.kp fun k hg hf => h.d k hf hg, h.f.lo, g.bel⟩, g, fun k hf hg => by
    rcases u.fr k hg with h1 | h1
    · exact h.d k hf h1
    · have := h.f.rep.lt k hf; omega⟩
theorem T2.below (h : T2 w0 w F R st G R2 vs es) (hb : Below w.heap.size w w') : T2 w0 w' F R st G R2 vs es := ⟨h.f.below hb, h.g.below hb, h.d⟩
theorem T2.keeps (h : T2 w0 w F R st G R2 vs es) (k : Keeps (fun k => k = b9) w w') (h1 : ¬ F b9) (h2 : ¬ G b9) (hl : w0.heap.size ≤ b9) : T2 w0 w' F R st G R2 vs es := by
  have bb : Below w0.heap.size w0 w' := h.f.bel.trans (k.below h.f.bel.size fun i hi e => by omega)
  exact ⟨⟨h.f.rep.other k fun k e hf => h1 (e ▸ hf), h.f.lo, bb⟩, ⟨h.g.rep.other k fun k e hf => h2 (e ▸ hf), h.g.lo, bb⟩, h.d⟩
/-- the document's forest beside two forests -/
structure X2 (w : World) (G : Nat → Prop) (b9 : Nat) (s : RS) (st : List Int × List E) : Prop where
  h9 : HB w b9 (rsC s) 31
  n9 : ¬ G b9
  rf : RF w s st.1 st.2
  nr : ∀ k, Rb s k → ¬ G k
theorem X2.callG (h : X2 w G b9 s st) (u : Upd G w w' G') : X2 w' G' b9 s st :=
  ⟨h.h9.keeps u.kp h.n9, fun hg => by
    rcases u.fr _ hg with h1 | h1
    · exact h.n9 h1
    · have := h.h9.lt; omega, h.rf.keeps u.kp h.nr, fun k hk hg => by
    rcases u.fr _ hg with h1 | h1
    · exact h.nr k hk h1
    · have := h.rf.lt k hk; omega⟩
theorem X2.below (h : X2 w G b9 s st) (hb : Below w.heap.size w w') : X2 w' G b9 s st := ⟨h.h9.below hb, h.n9, h.rf.belw hb, h.nr⟩
theorem Order_l1 {K3 : World → Prop} {Kr : Bool → World → Prop} (ve : VE st.1 st.2) (k3 : ∀ w G, T2 w0 w F R st G R2 st.1 [] → X2 w G b9 s st → K3 w) : ∀ (i : Nat) (w : World) (G : Nat → Prop), i ≤ st.1.length → T2 w0 w F R st G R2 (st.1.drop i) [] → X2 w G b9 s st → f_law17_LinkcutOrder.l1 (i + 1) (some ⟨R2, 0, none⟩) (⟨b9, 0, none⟩ : Addr) ((i : Int) - 1) w K3 Kr := by
  intro i
  induction i with
  | zero =>
    intro w G hi h x
    unfold f_law17_LinkcutOrder.l1
    exact sel_f (by simp) (k3 w G h x)
  | succ i ih =>
    intro w G hi h x
    have hlt : i < st.1.length := by omega
    have hvl := ve.vl
    obtain ⟨a, hA, q⟩ := x.rf.v i hlt
    have hn := x.rf.nv
    have hi1 : ((i + 1 : Nat) : Int) - 1 = (i : Int) := by omega
    unfold f_law17_LinkcutOrder.l1
    rw [hi1]
    refine sel_t (by simp) (hb_ldS0 x.h9 rfl (optB_some hA (req_intro (by simp; omega) (ldI_intro (x := st.1[i]) (by rw [Int.toNat_natCast, Nat.mul_one]; exact q) ?_))))
    refine (AddV_ok h.g.rep).mono ?_
    rintro _ w2 ⟨rfl, G', r2, u2⟩
    have hdr := List.drop_eq_getElem_cons hlt
    have nd := ve.vnd.sublist (List.drop_sublist i st.1)
    rw [hdr, List.nodup_cons] at nd
    have ec : addVC (st.1.drop (i + 1)) st.1[i] = 0 := by
      have := ve.vr _ (List.getElem_mem hlt)
      unfold addVC
      rw [if_neg (by unfold badI; omega), if_neg nd.1, if_neg (by rw [List.length_drop]; omega)]
    have ee : addVs (st.1.drop (i + 1)) st.1[i] = st.1.drop i := by unfold addVs; rw [if_pos ec, hdr]
    rw [ee] at r2
    refine ⟨_, rfl, sel_f (by rw [ec]; rfl) ?_⟩
    rw [w64_in (by omega)]
    exact ih w2 G' (by omega) (h.callG r2 u2) (x.callG u2)
theorem Order_l2 {K5 : World → Prop} {Kr : Bool → World → Prop} {u : Int} (wu : W64 u) (ve : VE st.1 st.2) (k5 : ∀ w G, T2 w0 w F R st G R2 st.1 (st.2.map Go.Dn.sw) → K5 w) : ∀ (i : Nat) (w : World) (G : Nat → Prop), i ≤ st.2.length → T2 w0 w F R st G R2 st.1 ((st.2.drop i).map Go.Dn.sw) → X2 w G b9 s st → f_law17_LinkcutOrder.l2 (i + 1) u (some ⟨R2, 0, none⟩) (⟨b9, 0, none⟩ : Addr) ((i : Int) - 1) w K5 Kr := by
  intro i
  induction i with
  | zero =>
    intro w G hi h x
    unfold f_law17_LinkcutOrder.l2
    exact sel_f (by simp) (k5 w G h)
  | succ i ih =>
    intro w G hi h x
    have hlt : i < st.2.length := by omega
    have hel := ve.el
    obtain ⟨a, hA, q⟩ := x.rf.e i hlt
    have hn := x.rf.ne
    have hi1 : ((i + 1 : Nat) : Int) - 1 = (i : Int) := by omega
    have em := List.getElem_mem hlt
    have hdr := List.drop_eq_getElem_cons hlt
    have sub := List.drop_sublist (i + 1) st.2
    have nd := ve.eid.sublist ((List.drop_sublist i st.2).map E.id)
    rw [hdr, List.map_cons, List.nodup_cons] at nd
    have er := ve.er _ em
    have vr := ve.vr
    unfold f_law17_LinkcutOrder.l2
    rw [hi1]
    refine sel_t (by simp) (hb_ldS x.h9 (j := 1) rfl (optB_some hA (req_intro (by simp; omega) (rowE q ?_))))
    refine edge4 (e := st.2[i]) fun w2 b2 e2 h2 g2 => ?_
    refine hb_ldI0 h2 rfl (hb_ldI h2 (j := 2) rfl (hb_ldI h2 (j := 1) rfl (hb_ldI h2 (j := 3) rfl ?_)))
    refine edge4 (e := Go.Dn.sw st.2[i]) fun w3 b3 e3 h3 g3 => ?_
    have hb3 : Below w.heap.size w w3 := g2.trans (g3.mono g2.size)
    have H3 := h.below hb3
    have X3 := x.below hb3
    have h23 := h2.below g3
    generalize st.2[i] = e at *
    have wu1 : W64 e.u := by have := vr _ er.2.2.1; unfold W64; omega
    have wv1 : W64 e.v := by have := vr _ er.2.2.2.1; unfold W64; omega
    refine getE h3 ((Link_ok H3.g.rep (e := Go.Dn.sw e) wv1 wu1).mono ?_)
    rintro _ w4 ⟨j, hj, rfl, G', r4, u4⟩
    have hj0 : j = false := by
      cases j with
      | false => rfl
      | true =>
        obtain ⟨p, hp, np⟩ := (hj er.2.2.2.1 er.2.2.1).1 rfl
        have hp2 := hp.sw
        rw [sw_map] at hp2
        have hp3 : Wk st.2 e.v (p.map Go.Dn.sw) e.u := hp2.mono fun x hx => sub.subset hx
        have hwk : Wk st.2 e.v [e] e.u := .cons em (.inr rfl) (by unfold oth; rw [if_neg er.2.2.2.2.1]; exact .nil _)
        have := ve.uq e.v e.u _ [e] er.2.2.2.1 hp3 np.sw hwk trivial
        have hme := hp2.mem
        rw [this] at hme
        exact absurd (List.mem_map_of_mem (hme e (by simp))) nd.1
    subst hj0
    have ec : linkC st.1 ((st.2.drop (i + 1)).map Go.Dn.sw) (Go.Dn.sw e) false = 0 := by
      have vu := vr _ er.2.2.1
      have vv := vr _ er.2.2.2.1
      unfold linkC
      rw [if_neg (by unfold badI; simp only [Go.Dn.sw]; omega), if_neg (by simp only [Go.Dn.sw]; omega), if_neg (by rw [ids_sw]; exact nd.1), if_neg (fun h => h ⟨er.2.2.2.1, er.2.2.1⟩), if_neg (by decide)]
    have ee : linkE st.1 ((st.2.drop (i + 1)).map Go.Dn.sw) (Go.Dn.sw e) false = (st.2.drop i).map Go.Dn.sw := by unfold linkE; rw [if_pos ec, hdr, List.map_cons]
    rw [ee] at r4
    have H4 := H3.callG r4 u4
    have X4 := X3.callG u4
    have h24 : HB w4 b2 (eC e) 33 := h23.keeps u4.kp fun hg => by have := h.g.rep.lt b2 hg; omega
    refine ⟨_, rfl, sel_f (by rw [ec]; rfl) (hb_ldI h24 (j := 1) rfl ((Along_ok H4.g.rep wu1 wu).mono ?_))⟩
    rintro _ w5 ⟨⟨mx, W, K, code, rfl, _⟩, r5, u5⟩
    refine ⟨mx.id, mx.u, mx.v, mx.w, fb W, fb K, code, rfl, ?_⟩
    rw [w64_in (by omega)]
    exact ih w5 G' (by omega) (H4.callG r5 u5) (X4.callG u5)
end
theorem LinkcutOrder_walk {w : World} {A : Option Addr} {n c : Nat} {l : List (Int × E)} (hs : Scr w A n l) {u v : Int} (hu : W64 u) (hv : W64 v) :
    Calls Try.prog 6 #[.slice A n c, .int .i64 u, .int .i64 v] w fun en w' => en = .returned (.bool true) ∧ Below w.heap.size w w' := by
  apply f_law17_LinkcutOrder.ok
  unfold f_law17_LinkcutOrder.wp
  refine (filled_ok2 hs).mono ?_
  obtain ⟨hr, rfl, hle, hok⟩ := hs
  rintro _ w2 ⟨F, R, rfl, h2, hve⟩
  have ve := h2.rep.ve
  refine ⟨_, rfl, new_step h2.bel fun w3 G R2 h3 g3 hG => sel_f rfl (sel_f rfl ?_)⟩
  have T3 : T2 w w3 F R (run l) G R2 [] [] := ⟨h2.below g3, h3, fun k hf hg => by have := h2.rep.lt k hf; have := hG k hg; omega⟩
  refine (alive_ok w3).mono ?_
  rintro _ w4 ⟨rfl, g4⟩
  refine ⟨_, rfl, sel_f rfl ?_⟩
  have T4 := T3.below g4
  refine al_new fun w5 b9 e5 s5 h5 g5 => put4 h5 rfl s0 fun w6 h6 k6 => ?_
  have T5 := T4.below g5
  have sz0 : w.heap.size ≤ b9 := by rw [e5]; exact T4.f.bel.size
  have nF : ¬ F b9 := fun hf => by have := T4.f.rep.lt b9 hf; omega
  have nG : ¬ G b9 := fun hf => by have := T4.g.rep.lt b9 hf; omega
  have T6 := T5.keeps k6 nF nG sz0
  have bw : Below w.heap.size w w6 := T6.f.bel
  have hr6 := hr.belw bw
  have hA : ∀ i (hi : i < l.length), ∃ a, A = some a ∧ a.block ≠ b9 := fun i hi => by
    obtain ⟨a, ha, q⟩ := hr i hi
    refine ⟨a, ha, fun e => ?_⟩
    have := World.block_lt_of_cell? w _ q.c0
    rw [add_block] at this
    omega
  refine ⟨l.length + 1, Order_l0 hr6 hle hve h6.lt hA (fun w7 s h97 hf7 hrb k7 => ?_) l.length 0 w6 s0 (by omega) (by omega) h6 (by exact RF.zero w6) (fun k hk => hk.elim (fun ⟨_, h, _⟩ => by cases h) (fun ⟨_, h, _⟩ => by cases h)) (Keeps.refl _ _)⟩
  intro _
  have T7 := T6.keeps k7 nF nG sz0
  have X7 : X2 w7 G b9 s (run l) := ⟨h97, nG, hf7, fun k hk hg => by have := hrb k hk; have := T6.g.rep.lt k hg; omega⟩
  generalize run l = st at *
  have hvl := ve.vl
  have hel := ve.el
  have hnv := hf7.nv
  refine hb_ldS0 h97 rfl ?_
  rw [hnv, w64_in (by omega)]
  refine ⟨st.1.length + 1, Order_l1 ve (fun w8 G8 T8 X8 => ?_) st.1.length w7 G (Nat.le_refl _) (by rw [List.drop_length]; exact T7) X7⟩
  intro _
  have hne := X8.rf.ne
  refine hb_ldS X8.h9 (j := 1) rfl ?_
  rw [hne, w64_in (by omega)]
  refine ⟨st.2.length + 1, Order_l2 hu ve (fun w9 G9 T9 => ?_) st.2.length w8 G8 (Nat.le_refl _) (by rw [List.drop_length]; exact T8) X8⟩
  intro _
  refine (Along_ok T9.f.rep hu hv).mono ?_
  rintro _ wA ⟨⟨m1, W1, K1, c1, rfl, a1⟩, rA, uA⟩
  refine ⟨m1.id, m1.u, m1.v, m1.w, fb W1, fb K1, c1, rfl, ?_⟩
  have TA : T2 w wA F R st G9 R2 st.1 (st.2.map Go.Dn.sw) := by
    have f := T9.f.call rA uA
    exact ⟨f, ⟨T9.g.rep.other uA.kp fun k hf hg => T9.d k hf hg, T9.g.lo, f.bel⟩, T9.d⟩
  refine agg5 fun wB b1 eB hB gB => ?_
  have TB := TA.below gB
  have n1 : ¬ G9 b1 := fun hg => by have := TA.g.rep.lt b1 hg; omega
  have n1F : ¬ F b1 := fun hg => by have := TA.f.rep.lt b1 hg; omega
  refine (Along_ok TB.g.rep hu hv).mono ?_
  rintro _ wC ⟨⟨m2, W2, K2, c2, rfl, a2⟩, rC, uC⟩
  refine ⟨m2.id, m2.u, m2.v, m2.w, fb W2, fb K2, c2, rfl, ?_⟩
  have TC := TB.callG rC uC
  have hB1 := hB.keeps uC.kp n1
  refine agg5 fun wD b2 eD hD gD => ?_
  have TD := TC.below gD
  have hB2 := hB1.below gD
  have n2 : ¬ G9 b2 := fun hg => by have := TC.g.rep.lt b2 hg; omega
  have n2F : ¬ F b2 := fun hg => by have := TC.f.rep.lt b2 hg; omega
  refine (Len_ok TD.f.rep).mono ?_
  rintro _ wE ⟨rfl, rE, uE⟩
  have TE' : T2 w wE F R st G9 R2 st.1 (st.2.map Go.Dn.sw) := by
    have f := TD.f.call rE uE
    exact ⟨f, ⟨TD.g.rep.other uE.kp fun k hf hg => TD.d k hf hg, TD.g.lo, f.bel⟩, TD.d⟩
  have hB3 := hB2.keeps uE.kp n1F
  have hD3 := hD.keeps uE.kp n2F
  refine ⟨_, _, rfl, (Len_ok TE'.g.rep).mono ?_⟩
  rintro _ wF ⟨rfl, rF, uF⟩
  have TF := TE'.callG rF uF
  have hB4 := hB3.keeps uF.kp n1
  have hD4 := hD3.keeps uF.kp n2
  refine ⟨_, _, rfl, ?_⟩
  have ve2 := TF.g.rep.ve
  obtain ⟨rfl, rfl, rfl, rfl⟩ := a1.sw ve ve2 a2
  have i1 := a1.in53 ve
  refine sel_t (by simp) (hb_ldC hB4 (j := 4) rfl (hb_ldC hD4 (j := 4) rfl (cx_eq wF _ _ i1.1 i1.2 i1.1 i1.2 ⟨_, rfl, sel_t (by simp) ?_⟩)))
  refine hb_ldI0 hB4 rfl (hb_ldI0 hD4 rfl (sel_t (by simp [Go.Dn.sw]) (hb_ldI hB4 (j := 3) rfl (hb_ldI hD4 (j := 3) rfl (sel_t (by simp [Go.Dn.sw]) (sel_t (by simp) ⟨by simp, TF.f.bel⟩))))))
theorem LinkcutOrder_row {w : World} {A0 : Option Addr} {n0 c0 : Nat} {f : Nat → Nat → Int} {a b : Int} (h0 : IsRecs ks5 w A0 n0 c0 f) (wa : (Lit.int .i64 a).wf = true) (wb : (Lit.int .i64 b).wf = true) :
    Calls Try.prog 6 #[.slice A0 n0 c0, .int .i64 a, .int .i64 b] w fun e w' => e = .returned (.bool true) ∧ Below w.heap.size w w' :=
  LinkcutOrder_walk (scr_of h0) (wf_i64 wa) (wf_i64 wb)
end Go.Proofs.Ytfknppccgojhdaa.Rd
