/- EulerOrder, walked: the loops. Conditions: none. -/
import Derived.Test.YtkkobfajahmfaaaEwD
namespace Go.Proofs.Ytkkobfajahmfaaa.Rd
open Go.Dn Go.RowKit
set_option linter.unusedVariables false
set_option linter.unusedSimpArgs false
set_option maxRecDepth 100000
theorem opB {w : World} {o : EO} {Q : Nat → World → Prop} (hQ : ∀ w' b, w.heap.size ≤ b → HB w' b (oC o) 45 → Below w.heap.size w w' → Q b w') :
    alW w (.cells #[.int .i64 (0 : Int), .int .i64 (0 : Int), .int .i64 (0 : Int), .int .i64 (0 : Int), .bool false] 45) fun B w1 =>
      stW w1 (⟨B, 0, none⟩ : Addr) (.int .i64 o.k) fun w2 => stW w2 ((⟨B, 0, none⟩ : Addr).add 1) (.int .i64 o.id) fun w3 => stW w3 ((⟨B, 0, none⟩ : Addr).add 2) (.int .i64 o.u) fun w4 => stW w4 ((⟨B, 0, none⟩ : Addr).add 3) (.int .i64 o.v) fun w5 => stW w5 ((⟨B, 0, none⟩ : Addr).add 4) (.bool o.on) fun w6 => Q B w6 := by
  refine al_new fun w1 b1 e1 s1 h1 g1 => ?_
  refine hb_st0 h1 (by simp) fun w2 h2 k2 => hb_st h2 (j := 1) (by simp) fun w3 h3 k3 => hb_st h3 (j := 2) (by simp) fun w4 h4 k4 => hb_st h4 (j := 3) (by simp) fun w5 h5 k5 => hb_st h5 (j := 4) (by simp) fun w6 h6 k6 => ?_
  have k := ((k2.trans k3).trans (k4.trans k5)).trans k6
  exact hQ w6 b1 (by omega) h6 (g1.trans ((k.below (B := w.heap.size) (by omega) fun i hi e => by omega)))
abbrev TFo : TypeId := 43
/-- the document's forest, without marks, in its block -/
structure DB (w : World) (B : Nat) (s : RS) (n : Nt) : Prop where
  hb : HB w B (rsC s) TFo
  rf : RF w s n.1 n.2 [] []
  nR : ¬ Rb s B
theorem DB.below {w w' : World} {B : Nat} {s : RS} {n : Nt} (h : DB w B s n) (g : Below w.heap.size w w') : DB w' B s n := ⟨h.hb.below g, h.rf.belw g, h.nR⟩
theorem doc_fin {w w4 w5 : World} {B : Nat} {s s' : RS} {n n' : Nt} (h : DB w4 B s n) (r : RF w5 s' n'.1 n'.2 [] []) (sb : Sb w4 s s') (g : Below w4.heap.size w4 w5) (kk : Keeps (fun k => k = B) w w4) {K : World → Prop} (hk : ∀ w', DB w' B s' n' → Keeps (fun k => k = B) w w' → K w') :
      (alW w5 (.cells #[.slice none 0 0, .slice none 0 0, .slice none 0 0, .slice none 0 0] TFo) fun b w0' => stW w0' (⟨b, 0, none⟩ : Addr) (.slice s'.A0 s'.n0 s'.c0) fun w1 => stW w1 ((⟨b, 0, none⟩ : Addr).add 1) (.slice s'.A1 s'.n1 s'.c1) fun w2 => stW w2 ((⟨b, 0, none⟩ : Addr).add 2) (.slice s'.A2 s'.n2 s'.c2) fun w3 => stW w3 ((⟨b, 0, none⟩ : Addr).add 3) (.slice s'.A3 s'.n3 s'.c3) fun w4 =>
      ldS w4 (⟨b, 0, none⟩ : Addr) fun A0 n0 c0 => ldS w4 ((⟨b, 0, none⟩ : Addr).add 1) fun A1 n1 c1 => ldS w4 ((⟨b, 0, none⟩ : Addr).add 2) fun A2 n2 c2 => ldS w4 ((⟨b, 0, none⟩ : Addr).add 3) fun A3 n3 c3 =>
      stW w4 (⟨B, 0, none⟩ : Addr) (.slice A0 n0 c0) fun w1 => stW w1 ((⟨B, 0, none⟩ : Addr).add 1) (.slice A1 n1 c1) fun w2 => stW w2 ((⟨B, 0, none⟩ : Addr).add 2) (.slice A2 n2 c2) fun w3 => stW w3 ((⟨B, 0, none⟩ : Addr).add 3) (.slice A3 n3 c3) K) := by
  refine pass4 s' fun w6 g6 => put4 ((h.hb.below g).below g6) rfl s' fun w7 h7 k7 => ?_
  have nR : ¬ Rb s' B := fun hb => by
    rcases sb.b B hb with h1 | h1
    · exact h.nR h1
    · have := h.hb.lt; omega
  exact hk w7 ⟨h7, (r.belw g6).keeps k7 fun k hk e => nR (e ▸ hk), nR⟩ (((kk.trans (.of_below g)).trans (.of_below g6)).trans k7)
theorem nil_woI (b : Prop) [Decidable b] (x : Int) : (if b then woI [] x else []) = [] := by split <;> rfl
theorem ord_l0 {w0 wS : World} (hS : Below w0.heap.size w0 wS) {B : Nat} (hB : w0.heap.size ≤ B) {A : Option Addr} {c : Nat} {l : List EO} (hr : RO w0 A l) (hle : l.length ≤ 9223372036854775807) (hG : ∀ i, i ≤ l.length → GE (run (l.take i)).1 (run (l.take i)).2) {K0 : World → Prop}
    (k0 : ∀ w s, DB w B s (run l) → Keeps (fun k => k = B) wS w → (∀ k, Rb s k → wS.heap.size ≤ k) → K0 w) : ∀ (m i : Nat) (w : World) (s : RS), l.length - i = m → i ≤ l.length → DB w B s (run (l.take i)) → Keeps (fun k => k = B) wS w → (∀ k, Rb s k → wS.heap.size ≤ k) →
      f_law16_EulerOrder.l0 (m + 1) (⟨B, 0, none⟩ : Addr) A l.length c (l.length : Int) (i : Int) w K0 := by
  intro m
  induction m with
  | zero =>
    intro i w s hm hi h hk hR
    have : i = l.length := by omega
    subst this
    rw [List.take_length] at h
    unfold f_law16_EulerOrder.l0
    exact sel_f (by simp) (k0 w s h hk hR)
  | succ m ih =>
    intro i w s hm hi h hk hR
    have hlt : i < l.length := by omega
    have hb : Below w0.heap.size w0 w := hS.trans (hk.below hS.size fun k hk e => by omega)
    obtain ⟨a, rfl, q⟩ := (hr.belw hb) i hlt
    have hw : IntKind.i64.wrap ((i : Int) + 1) = ((i + 1 : Nat) : Int) := by rw [w64_in (by omega)]; omega
    have hrun : run (l.take (i + 1)) = nstp (run (l.take i)) l[i] := by rw [List.take_succ_eq_append_getElem hlt, run_snoc]
    have g := hG i (by omega)
    generalize ho : l[i] = o at q hrun
    generalize hn : run (l.take i) = n at h hrun g
    have nx : ∀ {w'} {s'}, DB w' B s' (nstp n o) → Keeps (fun k => k = B) wS w' → (∀ k, Rb s' k → wS.heap.size ≤ k) → f_law16_EulerOrder.l0 (m + 1) (⟨B, 0, none⟩ : Addr) (some a) l.length c (l.length : Int) (IntKind.i64.wrap ((i : Int) + 1)) w' K0 := fun h' k' r' => by
      rw [hw]
      exact ih (i + 1) _ _ (by omega) (by omega) (by rw [hrun]; exact h') k' r'
    unfold f_law16_EulerOrder.l0
    refine sel_t (by simpa using hlt) (optB_some rfl (req_intro (by simp; omega) (rowO q (opB fun w2 b2 e2 h2 g2 => hb_ldI0 h2 rfl ?_))))
    have h' := h.below g2
    have hk' := hk.trans (.of_below g2)
    have up : ∀ {s' : RS}, Sb w2 s s' → ∀ k, Rb s' k → wS.heap.size ≤ k := fun sb k hk => (sb.b k hk).elim (hR k) fun h => by have := hk'.size; omega
    by_cases k1 : o.k = 1
    · refine sel_t (by simp [k1]) (get4 h'.hb (hb_ldI h2 (j := 2) rfl ((RAddV_ok h'.rf o.u).mono ?_)))
      rintro _ w5 ⟨s', rfl, r5, sb5, g5⟩
      refine ⟨_, _, _, _, _, _, _, _, _, _, _, _, _, rfl, doc_fin (n' := (addVr n.1 o.u, n.2)) h' r5 sb5 g5 hk' fun w6 h6 k6 => nx ?_ k6 (up sb5)⟩
      unfold nstp; rw [if_pos k1]; exact h6
    refine sel_f (by simp [k1]) ?_
    by_cases k2 : o.k = 2
    · refine sel_t (by simp [k2]) (get4 h'.hb (hb_ldI h2 (j := 2) rfl ((RDelV_ok h'.rf o.u).mono ?_)))
      rintro _ w5 ⟨s', rfl, r5, sb5, g5⟩
      have e5 : delMr n.1 n.2 [] o.u = [] := nil_woI _ _
      rw [e5] at r5
      refine ⟨_, _, _, _, _, _, _, _, _, _, _, _, _, rfl, doc_fin (n' := (delVr n.1 n.2 o.u, n.2)) h' r5 sb5 g5 hk' fun w6 h6 k6 => nx ?_ k6 (up sb5)⟩
      unfold nstp; rw [if_neg k1, if_pos k2]; exact h6
    refine sel_f (by simp [k2]) ?_
    by_cases k3 : o.k = 3
    · refine sel_t (by simp [k3]) (get4 h'.hb (hb_ldI h2 (j := 1) rfl (hb_ldI h2 (j := 2) rfl (hb_ldI h2 (j := 3) rfl ((RLink16_ok h'.rf g.rg (by have := g.elen; omega) (e := o.e) (by show ¬ ((0 : Int) < 0 ∨ (1099511627776 : Int) < 0); decide)).mono ?_)))))
      rintro _ w5 ⟨s', j', hj', rfl, r5, sb5, g5⟩
      have hj' : jC n.1 n.2 o.u o.v j' := fun hu hv => (hj' hu hv).trans (jn_cn g.rg.ids)
      rw [linkEr_j hj'] at r5
      refine ⟨_, _, _, _, _, _, _, _, _, _, _, _, _, rfl, doc_fin (n' := (n.1, linkEr n.1 n.2 o.e (jb n o))) h' r5 sb5 g5 hk' fun w6 h6 k6 => nx ?_ k6 (up sb5)⟩
      unfold nstp; rw [if_neg k1, if_neg k2, if_pos k3]; exact h6
    refine sel_f (by simp [k3]) ?_
    by_cases k4 : o.k = 4
    · refine sel_t (by simp [k4]) (get4 h'.hb (hb_ldI h2 (j := 1) rfl ((RCut_ok h'.rf o.id).mono ?_)))
      rintro _ w5 ⟨s', rfl, r5, sb5, g5⟩
      have e5 : cutMr n.2 [] o.id = [] := nil_woI _ _
      rw [e5] at r5
      refine ⟨_, _, _, _, _, _, _, _, _, _, _, _, _, rfl, doc_fin (n' := (n.1, cutEr n.2 o.id)) h' r5 sb5 g5 hk' fun w6 h6 k6 => nx ?_ k6 (up sb5)⟩
      unfold nstp; rw [if_neg k1, if_neg k2, if_neg k3, if_pos k4]; exact h6
    refine sel_f (by simp [k4]) (nx (s' := s) ?_ hk' hR)
    unfold nstp; rw [if_neg k1, if_neg k2, if_neg k3, if_neg k4]; exact h'
/-! ### two forests and the document's -/
theorem LF.oth {w0 w w' : World} {Ff Fg Fg' : Nat → Prop} {F G : Nat} {vs vs' vs2 : List Int} {es es' es2 : List E} {kv ke kv' ke' kv2 ke2 : Int → Bool} (hf : LF w0 w Ff F vs es kv ke) (hg : LF w0 w' Fg' G vs2 es2 kv2 ke2) (dis : ∀ k, Ff k → ¬ Fg k) (u : Upd Fg w w' Fg') : LF w0 w' Ff F vs es kv ke ∧ ∀ k, Ff k → ¬ Fg' k :=
  ⟨⟨hf.rep.other u.kp fun k hk hf => dis k hf hk, hf.lo, hg.bel⟩, fun k h1 h2 => by
    rcases u.fr k h2 with h3 | h3
    · exact dis k h1 h3
    · have := hf.rep.lt k h1; omega⟩
structure Doc (w : World) (Fg : Nat → Prop) (B : Nat) (s : RS) (n : Nt) : Prop where
  db : DB w B s n
  nB : ¬ Fg B
  nR : ∀ k, Rb s k → ¬ Fg k
theorem Doc.call {w w' : World} {Fg Fg' : Nat → Prop} {B : Nat} {s : RS} {n : Nt} (h : Doc w Fg B s n) (u : Upd Fg w w' Fg') : Doc w' Fg' B s n :=
  ⟨⟨h.db.hb.keeps u.kp h.nB, h.db.rf.keeps u.kp h.nR, h.db.nR⟩, fun hf => (u.fr B hf).elim h.nB fun h2 => by have := h.db.hb.lt; omega, fun k hk hf => (u.fr k hf).elim (h.nR k hk) fun h2 => by have := h.db.rf.lt k hk; omega⟩
section
variable {w0 : World} {Ff : Nat → Prop} {F G B : Nat} {s : RS} {n : Nt} {kv ke : Int → Bool}
theorem ord_l1 (g : GE n.1 n.2) {K3 : World → Prop} {Kr : Bool → World → Prop}
    (k3 : ∀ w Fg kvg, LF w0 w Ff F n.1 n.2 kv ke → LF w0 w Fg G n.1 [] kvg nof → (∀ k, Ff k → ¬ Fg k) → Doc w Fg B s n → K3 w) : ∀ (i : Nat) (w : World) (Fg : Nat → Prop) (kvg : Int → Bool), i ≤ n.1.length → LF w0 w Ff F n.1 n.2 kv ke → LF w0 w Fg G (n.1.drop i) [] kvg nof → (∀ k, Ff k → ¬ Fg k) → Doc w Fg B s n →
      f_law16_EulerOrder.l1 (i + 1) (some ⟨G, 0, none⟩) (⟨B, 0, none⟩ : Addr) ((i : Int) - 1) w K3 Kr := by
  have vl := g.vlen
  intro i
  induction i with
  | zero =>
    intro w Fg kvg hi hf hg dis hd
    rw [List.drop_zero] at hg
    unfold f_law16_EulerOrder.l1
    exact sel_f (by simp) (k3 w Fg kvg hf hg dis hd)
  | succ i ih =>
    intro w Fg kvg hi hf hg dis hd
    have hlt : i < n.1.length := by omega
    have e1 : ((i + 1 : Nat) : Int) - 1 = (i : Int) := by omega
    obtain ⟨a, ha, q⟩ := hd.db.rf.v i hlt
    have nv := hd.db.rf.nv
    have hw : IntKind.i64.wrap ((i : Int) - 1) = (i : Int) - 1 := w64_in (by omega)
    obtain ⟨c1, c2⟩ := addV_first hlt g.vss g.vr vl
    rw [e1]
    unfold f_law16_EulerOrder.l1
    refine sel_t (by simp) (hb_ldS0 hd.db.hb rfl (optB_some ha (req_intro (by simp; omega) ?_)))
    rw [Int.toNat_natCast, Nat.mul_one]
    refine ldI_intro q (addV_step hg (g.vW (List.getElem_mem hlt)) fun w1 F1 h1 u1 => ?_)
    rw [c2] at h1
    rw [c1, hw]
    obtain ⟨f1, d1⟩ := hf.oth (kv' := kv) (ke' := ke) (vs' := []) (es' := []) h1 dis u1
    exact sel_f rfl (ih w1 F1 _ (by omega) f1 h1 d1 (hd.call u1))
theorem ord_l2 (g : GE n.1 n.2) (ac : Ac n.2) {K5 : World → Prop} {Kr : Bool → World → Prop}
    (k5 : ∀ w Fg kvg keg, LF w0 w Ff F n.1 n.2 kv ke → LF w0 w Fg G n.1 (n.2.map swE) kvg keg → (∀ k, Ff k → ¬ Fg k) → Doc w Fg B s n → K5 w) : ∀ (i : Nat) (w : World) (Fg : Nat → Prop) (kvg keg : Int → Bool), i ≤ n.2.length → LF w0 w Ff F n.1 n.2 kv ke → LF w0 w Fg G n.1 ((n.2.drop i).map swE) kvg keg → (∀ k, Ff k → ¬ Fg k) → Doc w Fg B s n →
      f_law16_EulerOrder.l2 (i + 1) (some ⟨G, 0, none⟩) (⟨B, 0, none⟩ : Addr) ((i : Int) - 1) w K5 Kr := by
  have vl := g.elen
  intro i
  induction i with
  | zero =>
    intro w Fg kvg keg hi hf hg dis hd
    rw [List.drop_zero] at hg
    unfold f_law16_EulerOrder.l2
    exact sel_f (by simp) (k5 w Fg kvg keg hf hg dis hd)
  | succ i ih =>
    intro w Fg kvg keg hi hf hg dis hd
    have hlt : i < n.2.length := by omega
    have e1 : ((i + 1 : Nat) : Int) - 1 = (i : Int) := by omega
    obtain ⟨a, ha, q⟩ := hd.db.rf.e i hlt
    have nv := hd.db.rf.ne
    have hw : IntKind.i64.wrap ((i : Int) - 1) = (i : Int) - 1 := w64_in (by omega)
    have hm : n.2[i] ∈ n.2 := List.getElem_mem hlt
    have lf := fun j => link_first (j := j) g ac hlt
    generalize hx : n.2[i] = e at q hm lf
    obtain ⟨hu, hv⟩ := g.ends e hm
    rw [e1]
    unfold f_law16_EulerOrder.l2
    refine sel_t (by simp) (hb_ldS hd.db.hb (j := 1) rfl (optB_some ha (req_intro (by simp; omega) ?_)))
    refine rowE q (al_new fun w1 b1 e1 s1 h1 g1 => putE h1 rfl e fun w2 h2 k2 => hb_ldI0 h2 rfl (hb_ldI h2 (j := 2) rfl (hb_ldI h2 (j := 1) rfl ?_)))
    have gg : Below w.heap.size w w2 := HB.belK g1 k2 (by omega)
    refine link_step (e := swE e) (hg.below gg) (show W64 e.id from g.eW (List.mem_map_of_mem hm)) (g.vW hv) (g.vW hu) rfl fun w3 F3 j hj h3 u3 => ?_
    obtain ⟨c1, c2⟩ := lf j hj
    rw [c2] at h3
    rw [c1, hw]
    obtain ⟨f3, d3⟩ := (hf.below gg).oth (kv' := kv) (ke' := ke) (vs' := []) (es' := []) h3 dis u3
    exact sel_f rfl (ih w3 F3 _ _ (by omega) f3 h3 d3 ((hd.call (.below gg)).call u3))
theorem ord_l3 (g : GE n.1 n.2) {Fg : Nat → Prop} {kvg keg : Int → Bool} {A : Option Addr} {c : Nat} {K7 : World → Prop} {Kr : Bool → World → Prop}
    (k7 : ∀ w, LF w0 w Ff F n.1 n.2 kv ke → LF w0 w Fg G n.1 (n.2.map swE) kvg keg → K7 w) : ∀ (m i : Nat) (w : World), n.1.length - i = m → i ≤ n.1.length → LF w0 w Ff F n.1 n.2 kv ke → LF w0 w Fg G n.1 (n.2.map swE) kvg keg → RI w A n.1 →
      f_law16_EulerOrder.l3 (m + 1) (some ⟨F, 0, none⟩) (some ⟨G, 0, none⟩) A n.1.length c (n.1.length : Int) (i : Int) w K7 Kr := by
  have vl := g.vlen
  intro m
  induction m with
  | zero =>
    intro i w hm hi hf hg hr
    have : i = n.1.length := by omega
    subst this
    unfold f_law16_EulerOrder.l3
    exact sel_f (by simp) (k7 w hf hg)
  | succ m ih =>
    intro i w hm hi hf hg hr
    have hlt : i < n.1.length := by omega
    have hw : IntKind.i64.wrap ((i : Int) + 1) = ((i + 1 : Nat) : Int) := by rw [w64_in (by omega)]; omega
    obtain ⟨a, rfl, q⟩ := hr i hlt
    have hv : n.1[i] ∈ n.1 := List.getElem_mem hlt
    generalize hx : n.1[i] = v at q hv
    have ec : cdV n.1 v = 0 := by unfold cdV; rw [if_pos hv]
    unfold f_law16_EulerOrder.l3
    refine sel_t (by simpa using hlt) (optB_some rfl (req_intro (by simp; omega) ?_))
    rw [Int.toNat_natCast, Nat.mul_one]
    refine ldI_intro q ?_
    by_cases h40 : (i : Int) > 40
    · exact sel_t (by simpa using h40) (k7 w hf hg)
    refine sel_f (by simpa using h40) (verts_step hf (g.vW hv) fun w1 A1 c1 f1 d1 g1 => verts_step (hg.below g1) (g.vW hv) fun w2 A2 c2 h2 d2 g2 => edges_step (f1.below g2) (g.vW hv) fun w3 A3 c3 f3 d3 g3 => edges_step (h2.below g3) (g.vW hv) fun w4 A4 c4 h4 d4 g4 => ?_)
    rw [ec, hw]
    rw [vO_sw] at d2 ⊢
    rw [eO_sw] at d4 ⊢
    refine sel_f rfl (sel_f rfl (sel_f rfl (sel_f rfl (same_step ((((d1.below g2).below g3).below g4)).ri rfl ((d2.below g3).below g4).ri rfl (vO_le g v) fun w5 g5 => sel_f (by simp) (same_step ((d3.below g4).below g5).ri rfl (d4.below g5).ri rfl (eO_le g v) fun w6 g6 => sel_f (by simp) ?_)))))
    exact ih (i + 1) w6 (by omega) (by omega) (((f3.below g4).below g5).below g6) ((h4.below g5).below g6) ((((((hr.belw g1).belw g2).belw g3).belw g4).belw g5).belw g6)
end
theorem EulerOrder_walk {w : World} {As Ab : Option Addr} {ns cs nb cb : Nat} {sl sb : List Int} (hs : Sds w As ns cs sl) (hb : Sds w Ab nb cb sb) {A : Option Addr} {n c : Nat} {l : List EO} (h : Scr w A n l) :
    Calls Try.prog 4 #[.slice As ns cs, .slice Ab nb cb, .slice A n c] w fun e w' => e = .returned (.bool true) ∧ Below w.heap.size w w' := by
  apply f_law16_EulerOrder.ok
  unfold f_law16_EulerOrder.wp
  refine filled_step hs h fun w1 F Ff kv ke h1 hG => ?_
  have hb1 := hb.belw h1.bel
  refine new_step h1.bel hb1.r hb1.n hb1.c0 hb1.le fun w2 G Fg hg2 g2 hFg => sel_f rfl (sel_f rfl (alive_step fun w3 g3 => sel_f rfl ?_))
  have hf3 := (h1.below g2).below g3
  have hg3 := hg2.below g3
  have dis : ∀ k, Ff k → ¬ Fg k := fun k hk hk' => by have := h1.rep.lt k hk; have := hFg k hk'; omega
  refine al_new fun w4 B eB sB hB g4 => put4 hB rfl s0 fun w5 h5 k5 => ?_
  have gg : Below w3.heap.size w3 w5 := HB.belK g4 k5 (by omega)
  have hf5 := hf3.below gg
  have hg5 := hg3.below gg
  have hlo : w.heap.size ≤ B := by have := hf3.bel.size; omega
  have g := hG l.length (Nat.le_refl _)
  rw [List.take_length] at g
  have ac := run_ac l
  obtain ⟨hr, rfl, hle, hok⟩ := h
  have r0 : ∀ k, ¬ Rb s0 k := fun k hk => by rcases hk with ⟨_, h, _⟩ | ⟨_, h, _⟩ | ⟨_, h, _⟩ | ⟨_, h, _⟩ <;> cases h
  refine ⟨_, ord_l0 (w0 := w) (wS := w5) hf5.bel hlo hr hle hG (fun w6 s6 d6 k6 r6 => ?_) l.length 0 w5 s0 rfl (by omega) ⟨h5, RF.zero w5, r0 B⟩ (.refl _ _) (fun k hk => (r0 k hk).elim)⟩
  intro _
  have nBf : ¬ Ff B := fun hf => by have := hf3.rep.lt B hf; omega
  have nBg : ¬ Fg B := fun hf => by have := hg3.rep.lt B hf; omega
  have b6 : Below w.heap.size w w6 := hf5.bel.trans (k6.below hf5.bel.size fun i hi e => by omega)
  have hf6 : LF w w6 Ff F (run l).1 (run l).2 kv ke := ⟨hf5.rep.other k6 fun k e hf => nBf (e ▸ hf), hf5.lo, b6⟩
  have hg6 : LF w w6 Fg G [] [] nof nof := ⟨hg5.rep.other k6 fun k e hf => nBg (e ▸ hf), hg5.lo, b6⟩
  have dd : Doc w6 Fg B s6 (run l) := ⟨d6, nBg, fun k hk hf => by have := r6 k hk; have := hg5.rep.lt k hf; omega⟩
  have vl := g.vlen
  have el := g.elen
  have nv : s6.n0 = (run l).1.length := d6.rf.nv
  have ne : s6.n1 = (run l).2.length := d6.rf.ne
  refine hb_ldS0 d6.hb rfl ?_
  rw [nv, w64_in (by omega)]
  refine ⟨_, ord_l1 g (fun w7 Fg7 kv7 hf7 hg7 dis7 dd7 => ?_) (run l).1.length w6 Fg nof (Nat.le_refl _) hf6 (by rw [List.drop_length]; exact hg6) dis dd⟩
  intro _
  refine hb_ldS dd7.db.hb (j := 1) rfl ?_
  rw [ne, w64_in (by omega)]
  refine ⟨_, ord_l2 g ac (fun w8 Fg8 kv8 ke8 hf8 hg8 dis8 dd8 => ?_) (run l).2.length w7 Fg7 kv7 nof (Nat.le_refl _) hf7 (by rw [List.drop_length]; exact hg7) dis7 dd7⟩
  intro _
  refine hb_ldS0 dd8.db.hb rfl ?_
  rw [nv]
  refine ⟨_, ord_l3 g (fun w9 hf9 hg9 => ?_) (run l).1.length 0 w8 rfl (by omega) hf8 hg8 dd8.db.rf.v⟩
  intro _
  refine len_step hf9 (len_step hg9 ⟨by rw [beq_self_eq_true], hf9.bel⟩)
theorem EulerOrder_row {w : World} {A0 A1 A2 : Option Addr} {n0 c0 n1 c1 n2 c2 : Nat} {zs zt : List Int} {f : Nat → Nat → Int} {g : Nat → Bool} (h0 : IsRow .i64 w A0 n0 c0 zs) (s0 : n0 * 8 ≤ 140737488351232) (h1 : IsRow .i64 w A1 n1 c1 zt) (s1 : n1 * 8 ≤ 140737488351232) (h2 : IsRecB 4 w A2 n2 c2 f g) :
    Calls Try.prog 4 #[.slice A0 n0 c0, .slice A1 n1 c1, .slice A2 n2 c2] w fun e w' => e = .returned (.bool true) ∧ Below w.heap.size w w' := by
  obtain ⟨l, hs⟩ := sds_of h0 s0
  obtain ⟨l', hs'⟩ := sds_of h1 s1
  exact EulerOrder_walk hs hs' (scr_of h2)
end Go.Proofs.Ytkkobfajahmfaaa.Rd
