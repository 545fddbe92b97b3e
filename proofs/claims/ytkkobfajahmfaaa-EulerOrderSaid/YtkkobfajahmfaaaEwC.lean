/- EulerBack, walked. Conditions: none. -/
import Derived.Test.YtkkobfajahmfaaaEwA
import Derived.Test.YtkkobfajahmfaaaRdL3
namespace Go.Proofs.Ytkkobfajahmfaaa.Rd
open Go.Dn Go.RowKit
set_option linter.unusedVariables false
set_option maxRecDepth 100000
theorem noE_no : ∀ {l : List E} {i : Int}, i ∉ l.map E.id → noE l i = l
  | [], _, _ => rfl
  | a :: l, i, h => by
    rw [List.map_cons, List.mem_cons, not_or] at h
    unfold noE
    rw [List.filter_cons_of_pos (by simpa using fun e => h.1 e.symm)]
    congr 1
    exact noE_no h.2
theorem noE_insE : ∀ {l : List E} {e : E}, e.id ∉ l.map E.id → noE (insE l e) e.id = l
  | [], e, _ => by simp [insE, noE]
  | a :: l, e, h => by
    have h0 := h
    rw [List.map_cons, List.mem_cons, not_or] at h
    rw [insE_cons]
    split
    · have := noE_no h0
      unfold noE at this ⊢
      rw [List.filter_cons_of_neg (by simp)]; exact this
    · have := noE_insE h.2
      unfold noE at this ⊢
      rw [List.filter_cons_of_pos (by simpa using fun e => h.1 e.symm), this]
theorem cn_insE {es : List E} {e : E} {x y : Int} : Cn (insE es e) x y ↔ Cn es x y ∨ (Cn es x e.u ∧ Cn es e.v y) ∨ (Cn es x e.v ∧ Cn es e.u y) := by
  rw [← cn_add]
  exact ⟨fun h => h.mono fun a ha => by rcases insE_mem.1 ha with rfl | ha <;> simp_all, fun h => h.mono fun a ha => by rw [List.mem_append, List.mem_singleton] at ha; exact insE_mem.2 ha.symm⟩
section
variable {vs : List Int} {es : List E} {e : E}
theorem vO_link (hu : e.u ∈ vs) (hv : e.v ∈ vs) {x : Int} : x ∈ vO vs (insE es e) e.v ↔ x ∈ vO vs es e.u ∨ x ∈ vO vs es e.v := by
  rw [vO_mem, vO_mem, vO_mem, cn_insE]
  constructor
  · rintro ⟨_, hx, h | ⟨_, h⟩ | ⟨_, h⟩⟩
    · exact .inr ⟨hv, hx, h⟩
    · exact .inr ⟨hv, hx, h⟩
    · exact .inl ⟨hu, hx, h⟩
  · rintro (⟨_, hx, h⟩ | ⟨_, hx, h⟩)
    · exact ⟨hv, hx, .inr (.inr ⟨Cn.refl _ _, h⟩)⟩
    · exact ⟨hv, hx, .inl h⟩
theorem vO_other (hu : e.u ∈ vs) (hv : e.v ∈ vs) {x : Int} (h1 : x ∉ vO vs es e.u) (h2 : x ∉ vO vs es e.v) : vO vs (insE es e) x = vO vs es x := by
  unfold vO
  split
  · rename_i hx
    unfold cmpV
    refine List.filter_congr fun y _ => ?_
    have : Cn (insE es e) x y ↔ Cn es x y := by
      rw [cn_insE]
      constructor
      · rintro (h | ⟨h, _⟩ | ⟨h, _⟩)
        · exact h
        · exact absurd (vO_mem.2 ⟨hu, hx, h.symm⟩) h1
        · exact absurd (vO_mem.2 ⟨hv, hx, h.symm⟩) h2
      · exact .inl
    simp [this]
  · rfl
end
theorem vO_sorted {vs : List Int} {es : List E} (g : GE vs es) (u : Int) : (vO vs es u).Pairwise (· < ·) := by
  unfold vO; split
  · exact cmpV_sorted g.vss es u
  · exact .nil
theorem back_l0 {wS : World} {Fp : Nat → Prop} (hF : ∀ k, Fp k → k < wS.heap.size) {A A' : Option Addr} {c c' : Nat} {la lb : List Int} (ha : Hd wS Fp A la) (hb' : Hd wS Fp A' lb) (la2 : la.length ≤ 2048) (lb2 : lb.length ≤ 2048) (sa : la.Pairwise (· < ·)) (sb : lb.Pairwise (· < ·)) (dis : ∀ x ∈ lb, x ∉ la) {K0 : Option Addr → Nat → Nat → World → Prop} {Kr : Bool → World → Prop}
    (k0 : ∀ w A c L, Hd w Fp A L → L.Pairwise (· < ·) → (∀ x, x ∈ L ↔ x ∈ la ∨ x ∈ lb) → Below wS.heap.size wS w → K0 A L.length c w) : ∀ (m i : Nat) (w : World) (B : Option Addr) (cB : Nat) (L : List Int), lb.length - i = m → i ≤ lb.length → Hd w Fp B L → L.Pairwise (· < ·) → L.length = la.length + i → (∀ x, x ∈ L ↔ x ∈ la ∨ x ∈ lb.take i) → Below wS.heap.size wS w →
      f_law16_EulerBack.l0 (m + 1) A la.length c B L.length cB A' lb.length c' (lb.length : Int) (i : Int) w K0 Kr := by
  intro m
  induction m with
  | zero =>
    intro i w B cB L hm hi hL sL lL mL hb
    have : i = lb.length := by omega
    subst this
    rw [List.take_length] at mL
    unfold f_law16_EulerBack.l0
    exact sel_f (by simp) (k0 w B cB L hL sL mL hb)
  | succ m ih =>
    intro i w B cB L hm hi hL sL lL mL hb
    have hlt : i < lb.length := by omega
    have hw : IntKind.i64.wrap ((i : Int) + 1) = ((i + 1 : Nat) : Int) := by rw [w64_in (by omega)]; omega
    obtain ⟨a, rfl, q⟩ := (hb'.ri.belw hb) i hlt
    have htk : lb.take (i + 1) = lb.take i ++ [lb[i]] := by rw [List.take_succ_eq_append_getElem hlt]
    have hv : lb[i] ∈ lb := List.getElem_mem hlt
    have hnt : lb[i] ∉ lb.take i := fun h => by
      obtain ⟨j, hj, e⟩ := List.getElem_of_mem h
      rw [List.getElem_take] at e
      rw [List.length_take] at hj
      have := List.pairwise_iff_getElem.1 sb j i (by omega) hlt (by omega)
      omega
    generalize hx : lb[i] = v at q hv htk hnt
    unfold f_law16_EulerBack.l0
    refine sel_t (by simpa using hlt) (optB_some rfl (req_intro (by simp; omega) ?_))
    rw [Int.toNat_natCast, Nat.mul_one]
    refine ldI_intro q (hasI_step (ha.ri.belw hb) rfl (by omega) (sel_f (by simpa using dis v hv) ((With_ok hL.ri rfl (by omega) v).mono ?_)))
    rintro _ w2 ⟨B2, c2, rfl, o2, g2⟩
    have hn : v ∉ L := fun h => (( mL v).1 h).elim (dis v hv) hnt
    have hl2 : (wiI L v).length = L.length + 1 := by rw [(wiI_perm _ _).length_eq]; rfl
    refine ⟨_, _, _, rfl, ?_⟩
    rw [hw]
    refine ih (i + 1) w2 B2 c2 (wiI L v) (by omega) (by omega) (hL.sub (B := 0) (e := 0) o2 fun k hk => Nat.lt_of_lt_of_le (hF k hk) hb.size) (wiI_sorted sL hn) (by omega) (fun x => ?_) (hb.trans (g2.mono hb.size))
    rw [wiI_mem, mL, htk, List.mem_append, List.mem_singleton]
    constructor
    · rintro (h | h | h)
      · exact .inr (.inr h)
      · exact .inl h
      · exact .inr (.inl h)
    · rintro (h | h | h)
      · exact .inr (.inl h)
      · exact .inr (.inr h)
      · exact .inl h
section
variable {w0 w : World} {Fp : Nat → Prop} {F : Nat} {vs : List Int} {es : List E} {kv ke : Int → Bool} {e : E}
/-- the last questions: all is as it was -/
theorem back_tail (h : LF w0 w Fp F vs (insE es e) kv ke) (g : GE vs es) (hid : e.id ∉ es.map E.id) (nb : ¬ badI e.id) {u v x : Int} (hu : W64 u) (hv : W64 v) (hx : W64 x) {Aa Ab Ac Ae : Option Addr} {ca cb cc ce : Nat} (da : Hd w Fp Aa (vO vs es u)) (db : Hd w Fp Ab (vO vs es v)) (dc : Hd w Fp Ac (vO vs es x)) (de : Hd w Fp Ae (eO vs es u)) {Kf : World → Prop} {Q : Bool → World → Prop} (k : ∀ w', Below w0.heap.size w0 w' → Q true w') :
    Calls Try.prog 17 #[.pointer (some ⟨F, 0, none⟩), .int .i64 e.id] w fun e62 w63 => ∃ (x64 : Int), e62 = .returned (.int .i64 x64) ∧ (
      sel (x64 != (0 : Int)) (Kf w63) (
      Calls Try.prog 18 #[.pointer (some ⟨F, 0, none⟩), .int .i64 e.id] w63 fun e65 w66 => ∃ (b67 : Bool), e65 = .returned (.bool b67) ∧ (
      sel b67 (Kf w66) (
      f_law16_EulerBack.j1 u v x (some ⟨F, 0, none⟩) Aa (vO vs es u).length ca Ab (vO vs es v).length cb Ac (vO vs es x).length cc Ae (eO vs es u).length ce w66 (fun (b92 : Bool) (w93 : World) => ∀ _ : Dn.Fr, Q b92 w93)))) ) := by
  have wi : W64 e.id := by unfold badI at nb; unfold W64; omega
  have va := vO_le g u
  have vb := vO_le g v
  have vc := vO_le g x
  have vd := eO_le g u
  refine cut_step h wi fun w1 F1 h1 u1 => ?_
  have ec : cutC (insE es e) e.id = 0 := by unfold cutC; rw [if_neg nb, if_neg (fun hh => hh (insE_ids.2 (.inl rfl)))]
  have ee : cutEr (insE es e) e.id = es := by unfold cutEr; rw [if_pos ec, noE_insE hid]
  rw [ee] at h1
  rw [ec]
  refine sel_f rfl (has_step h1 wi fun w2 h2 g2 => sel_f (by simpa using hid) ?_)
  unfold f_law16_EulerBack.j1
  refine verts_step h2 hu fun w3 A3 c3 h3 d3 g3 => verts_step h3 hv fun w4 A4 c4 h4 d4 g4 => verts_step h4 hx fun w5 A5 c5 h5 d5 g5 => edges_step h5 hu fun w6 A6 c6 h6 d6 g6 => ?_
  have da := (((((da.call u1).below g2).below g3).below g4).below g5).below g6
  have db := (((((db.call u1).below g2).below g3).below g4).below g5).below g6
  have dc := (((((dc.call u1).below g2).below g3).below g4).below g5).below g6
  have de := (((((de.call u1).below g2).below g3).below g4).below g5).below g6
  have d3 := ((d3.below g4).below g5).below g6
  have d4 := (d4.below g5).below g6
  have d5 := d5.below g6
  refine same_step d3.ri rfl da.ri rfl va fun w7 g7 => sel_t (by simp) (same_step (d4.below g7).ri rfl (db.below g7).ri rfl vb fun w8 g8 => sel_t (by simp) (same_step ((d5.below g7).below g8).ri rfl ((dc.below g7).below g8).ri rfl vc fun w9 g9 => sel_t (by simp) (same_step (((de.below g7).below g8).below g9).ri rfl (((d6.below g7).below g8).below g9).ri rfl vd fun w10 g10 => ?_)))
  intro _
  have : decide (eO vs es u = eO vs es u) = true := by simp
  rw [this]
  exact k w10 ((((h6.below g7).below g8).below g9).below g10).bel
end
theorem EulerBack_walk {w : World} {As : Option Addr} {ns cs : Nat} {sl : List Int} (hs : Sds w As ns cs sl) {A : Option Addr} {n c : Nat} {l : List EO} (h : Scr w A n l) {id u v x : Int} (hi : W64 id) (hu : W64 u) (hv : W64 v) (hx : W64 x) :
    Calls Try.prog 3 #[.slice As ns cs, .slice A n c, .int .i64 id, .int .i64 u, .int .i64 v, .int .i64 x] w fun e w' => e = .returned (.bool true) ∧ Below w.heap.size w w' := by
  apply f_law16_EulerBack.ok
  unfold f_law16_EulerBack.wp
  refine filled_step hs h fun w1 F Fp kv ke h1 _ => sel_f rfl (alive_step fun w2 g2 => sel_f rfl ?_)
  have h2 := h1.below g2
  have g := h2.ge
  generalize (run l).1 = vs at h2 g
  generalize (run l).2 = es at h2 g
  have va := vO_le g u
  have vb := vO_le g v
  have vc := vO_le g x
  refine verts_step h2 hu fun w3 A3 c3 h3 d3 g3 => verts_step h3 hv fun w4 A4 c4 h4 d4 g4 => verts_step h4 hx fun w5 A5 c5 h5 d5 g5 => edges_step h5 hu fun w6 A6 c6 h6 d6 g6 => ?_
  have da := ((d3.below g4).below g5).below g6
  have db := (d4.below g5).below g6
  have dc := d5.below g6
  have de := d6
  refine link_step (e := ⟨id, u, v, 0⟩) h6 hi hu hv rfl fun w7 F7 j hj h7 u7 => ?_
  have da := da.call u7
  have db := db.call u7
  have dc := dc.call u7
  have de := de.call u7
  by_cases e0 : linkC vs es ⟨id, u, v, 0⟩ j = 0
  case neg =>
    have ee : linkEr vs es ⟨id, u, v, 0⟩ j = es := by unfold linkEr; rw [if_neg e0]
    rw [ee] at h7
    refine sel_t (by simpa using e0) (verts_step h7 hx fun w8 A8 c8 h8 d8 g8 => same_step d8.ri rfl (dc.below g8).ri rfl vc fun w9 g9 => sel_t (by simp) ?_)
    by_cases e1 : linkC vs es ⟨id, u, v, 0⟩ j = 51
    case neg => exact sel_t (by simpa using e1) ⟨rfl, (h8.below g9).bel⟩
    refine sel_f (by rw [e1]; rfl) ?_
    have hn : ¬ (u ∈ vs ∧ v ∈ vs) := fun hh => by
      unfold linkC at e1
      rw [if_neg (c := ¬ ((⟨id, u, v, 0⟩ : E).u ∈ vs ∧ (⟨id, u, v, 0⟩ : E).v ∈ vs)) (fun h => h hh)] at e1
      split at e1
      · cases e1
      · split at e1
        · cases e1
        · split at e1
          · cases e1
          · split at e1 <;> cases e1
    by_cases hin : u ∈ vs
    · have hjn : v ∉ vs := fun h => hn ⟨hin, h⟩
      have e1 : cdV vs u = 0 := by unfold cdV; rw [if_pos hin]
      have e2 : cdV vs v = 51 := by unfold cdV; rw [if_neg hjn]
      rw [e1, e2]
      exact sel_f rfl ⟨rfl, (h8.below g9).bel⟩
    · have e1 : cdV vs u = 51 := by unfold cdV; rw [if_neg hin]
      rw [e1]
      exact sel_t rfl ⟨rfl, (h8.below g9).bel⟩
  rw [e0]
  obtain ⟨nb, _, _, _, _, hid, huv, hvv, jf⟩ := linkC_zero e0
  have ee : linkEr vs es ⟨id, u, v, 0⟩ j = insE es ⟨id, u, v, 0⟩ := by unfold linkEr; rw [if_pos e0]
  rw [ee] at h7
  have hnc : ¬ Cn es u v := fun hc => by
    have := (hj huv hvv).2 hc
    rw [jf] at this; cases this
  have g' := h7.ge
  refine sel_f rfl ((CopyInts_ok da.ri rfl (by omega)).mono ?_)
  rintro _ w8 ⟨A8, c8, rfl, o8, g8⟩
  refine ⟨_, _, _, rfl, ?_⟩
  have h8 := h7.below g8
  have d8 := h7.own o8
  refine ⟨_, back_l0 (wS := w8) h8.rep.lt (da.below g8) (db.below g8) va vb (vO_sorted g u) (vO_sorted g v) (fun y hy hy' => hnc ((vO_mem.1 hy').2.2.trans (vO_mem.1 hy).2.2.symm)) (fun w9 A9 c9 L dL sL mL g9 => ?_) _ 0 w8 (some A8) c8 (vO vs es u) rfl (by omega) d8 (vO_sorted g u) rfl (by simp) (Below.refl _ _)⟩
  intro _
  have h9 := h8.below g9
  have eL : vO vs (insE es ⟨id, u, v, 0⟩) v = L := sorted_ext (vO_sorted g' v) sL fun y => by rw [mL]; exact vO_link (e := ⟨id, u, v, 0⟩) huv hvv
  have lL : L.length ≤ 2048 := by rw [← eL]; exact vO_le g' v
  refine verts_step h9 hv fun w10 A10 c10 h10 d10 g10 => verts_step h10 hx fun w11 A11 c11 h11 d11 g11 => ?_
  have dL := (dL.below g10).below g11
  have d10 := d10.below g11
  have da := (((da.below g8).below g9).below g10).below g11
  have db := (((db.below g8).below g9).below g10).below g11
  have dc := (((dc.below g8).below g9).below g10).below g11
  have de := (((de.below g8).below g9).below g10).below g11
  have vy := vO_le g' x
  have done : ∀ {w'}, Below w.heap.size w w' → (fun e w' => e = Ending.returned (.bool true) ∧ Below w.heap.size w w') (.returned (.bool true)) w' := fun hb => ⟨rfl, hb⟩
  rw [eL] at d10 ⊢
  refine same_step d10.ri rfl dL.ri rfl lL fun w12 g12 => sel_f (by simp) (sel_f (by simp) ?_)
  have h12 := h11.below g12
  by_cases hin : x ∈ vs
  case neg =>
    have ec : cdV vs x = 51 := by unfold cdV; rw [if_neg hin]
    rw [ec]
    refine sel_f rfl (sel_f rfl (back_tail (e := ⟨id, u, v, 0⟩) h12 g hid (fun h => nb h) hu hv hx (da.below g12) (db.below g12) (dc.below g12) (de.below g12) fun w' hb => ⟨rfl, hb⟩))
  have ec : cdV vs x = 0 := by unfold cdV; rw [if_pos hin]
  rw [ec]
  refine sel_t rfl (hasI_step (dL.below g12).ri rfl (by omega) ?_)
  by_cases hxL : x ∈ L
  · have ex : vO vs (insE es ⟨id, u, v, 0⟩) x = L := by rw [← eL]; exact vO_eq (by rw [eL]; exact hxL)
    rw [ex] at d11 ⊢
    refine sel_f (by simpa using hxL) (sel_t rfl (hasI_step (dL.below g12).ri rfl (by omega) (sel_t (by simpa using hxL) (same_step (d11.below g12).ri rfl (dL.below g12).ri rfl lL fun w13 g13 => sel_f (by simp) ?_))))
    exact back_tail (e := ⟨id, u, v, 0⟩) (h12.below g13) g hid (fun h => nb h) hu hv hx ((da.below g12).below g13) ((db.below g12).below g13) ((dc.below g12).below g13) ((de.below g12).below g13) fun w' hb => ⟨rfl, hb⟩
  · have ex : vO vs (insE es ⟨id, u, v, 0⟩) x = vO vs es x := vO_other (e := ⟨id, u, v, 0⟩) huv hvv (fun h => hxL ((mL x).2 (.inl h))) (fun h => hxL ((mL x).2 (.inr h)))
    rw [ex] at d11 ⊢
    refine sel_t (by simpa using hxL) (same_step (d11.below g12).ri rfl (dc.below g12).ri rfl vc fun w13 g13 => sel_f (by simp) (sel_t rfl (hasI_step ((dL.below g12).below g13).ri rfl (by omega) (sel_f (by simpa using hxL) ?_))))
    exact back_tail (e := ⟨id, u, v, 0⟩) (h12.below g13) g hid (fun h => nb h) hu hv hx ((da.below g12).below g13) ((db.below g12).below g13) ((dc.below g12).below g13) ((de.below g12).below g13) fun w' hb => ⟨rfl, hb⟩
theorem EulerBack_row {w : World} {A0 A1 : Option Addr} {n0 c0 n1 c1 : Nat} {zs : List Int} {f : Nat → Nat → Int} {g : Nat → Bool} {a b c d : Int} (h0 : IsRow .i64 w A0 n0 c0 zs) (s0 : n0 * 8 ≤ 140737488351232) (h1 : IsRecB 4 w A1 n1 c1 f g) (wa : (Lit.int .i64 a).wf = true) (wb : (Lit.int .i64 b).wf = true) (wc : (Lit.int .i64 c).wf = true) (wd : (Lit.int .i64 d).wf = true) :
    Calls Try.prog 3 #[.slice A0 n0 c0, .slice A1 n1 c1, .int .i64 a, .int .i64 b, .int .i64 c, .int .i64 d] w fun e w' => e = .returned (.bool true) ∧ Below w.heap.size w w' := by
  obtain ⟨l, hs⟩ := sds_of h0 s0
  exact EulerBack_walk hs (scr_of h1) (wf_i64 wa) (wf_i64 wb) (wf_i64 wc) (wf_i64 wd)
end Go.Proofs.Ytkkobfajahmfaaa.Rd
