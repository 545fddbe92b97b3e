/- LinkcutPlays, walked. Conditions: none. -/
import Derived.Test.YtfknppccgojhdaaLdK
namespace Go.Proofs.Ytfknppccgojhdaa.Rd
open Go.Dn Go.RowKit
set_option linter.unusedVariables false
set_option maxRecDepth 100000
theorem joined_code {vs : List Int} {es : List E} {u v : Int} {mx : E} {W K code : Int} (h : AlongR vs es u v mx W K code) (hu : u ∈ vs) (hv : v ∈ vs) {b : Bool} (hb : b = true ↔ u ∈ vs ∧ v ∈ vs ∧ ∃ p, Wk es u p v ∧ NB p) : b = (code == 0) := by
  rcases h with ⟨h, _⟩ | ⟨_, _, h, _, _, _, rfl⟩ | ⟨_, _, p, hp, np, _, _, _, rfl⟩
  · exact absurd ⟨hu, hv⟩ h
  · have : b = false := Bool.eq_false_iff.2 fun hh => h (hb.1 hh).2.2
    rw [this]; rfl
  · have : b = true := hb.2 ⟨hu, hv, p, hp, np⟩
    rw [this]; rfl
structure TellR (w0 w : World) (F : Nat → Prop) (R : Nat) (st : List Int × List E) (s : RS) (en : Ending) (w' : World) : Prop where
  en : en = .returned (.bool true)
  l : L2 w0 w' F R st s st
  k : ∀ b cs t, Lo w0 w F b cs t → Lo w0 w' F b cs t
theorem L2.callF {w0 w w' : World} {F : Nat → Prop} {R : Nat} {st sr : List Int × List E} {s : RS} (h : L2 w0 w F R st s sr) (r : Rep w' F R st.1 st.2) (u : Upd F w w' F) : L2 w0 w' F R st s sr := h.call (h.f.call r u) (fun b cs t hl => hl.call u) u (.refl _) (.refl _)
theorem tells_ok {w0 w : World} {F : Nat → Prop} {R : Nat} {st : List Int × List E} {s : RS} (h : L2 w0 w F R st s st) {u v : Int} (hu : W64 u) (hv : W64 v) :
    Calls Try.prog 14 #[.pointer (some ⟨R, 0, none⟩), .agg (rsC s), .int .i64 u, .int .i64 v] w (TellR w0 w F R st s) := by
  apply f_law17_tells.ok
  unfold f_law17_tells.wp
  refine al_new fun w1 b1 e1 s1 h1 g1 => ?_
  have H1 := h.below g1
  have l1 : Lo w0 w1 F b1 (rsC s) 31 := h.f.new g1 (by omega) h1
  have kk : ∀ b cs t, Lo w0 w F b cs t → Lo w0 w1 F b cs t := fun b cs t hl => hl.below g1
  have ve := h.f.rep.ve
  refine (Along_ok H1.f.rep hu hv).mono ?_
  rintro _ w2 ⟨⟨m1, W1, K1, c1, rfl, a1⟩, r2, u2⟩
  refine ⟨m1.id, m1.u, m1.v, m1.w, fb W1, fb K1, c1, rfl, ?_⟩
  have H2 := H1.callF r2 u2
  have l1 := l1.call u2
  have kk : ∀ b cs t, Lo w0 w F b cs t → Lo w0 w2 F b cs t := fun b cs t hl => (kk b cs t hl).call u2
  refine agg5 fun w3 b6 e6 h6 g3 => ?_
  have H3 := H2.below g3
  have l6 : Lo w0 w3 F b6 (aC m1 W1 K1) 48 := H2.f.new g3 e6 h6
  have l1 := l1.below g3
  have kk : ∀ b cs t, Lo w0 w F b cs t → Lo w0 w3 F b cs t := fun b cs t hl => (kk b cs t hl).below g3
  refine get4 l1.hb ((RAlong_ok H3.r ve u v).mono ?_)
  rintro _ w4 ⟨⟨m2, W2, K2, c2, rfl, a2⟩, g4⟩
  refine ⟨m2.id, m2.u, m2.v, m2.w, fb W2, fb K2, c2, rfl, ?_⟩
  obtain ⟨rfl, rfl, rfl, rfl⟩ := AlongR.det ve a1 a2
  have H4 := H3.below g4
  have l1 := l1.below g4
  have l6 := l6.below g4
  have kk : ∀ b cs t, Lo w0 w F b cs t → Lo w0 w4 F b cs t := fun b cs t hl => (kk b cs t hl).below g4
  refine agg5 fun w5 b20 e20 h20 g5 => ?_
  have H5 := H4.below g5
  have l20 : Lo w0 w5 F b20 (aC m1 W1 K1) 48 := H4.f.new g5 e20 h20
  have l1 := l1.below g5
  have l6 := l6.below g5
  have kk : ∀ b cs t, Lo w0 w F b cs t → Lo w0 w5 F b cs t := fun b cs t hl => (kk b cs t hl).below g5
  refine (Joined_ok H5.f.rep hu hv).mono ?_
  rintro _ w6 ⟨⟨b, rfl, hb⟩, r6, u6⟩
  refine ⟨_, _, rfl, ?_⟩
  have H6 := H5.callF r6 u6
  have l1 := l1.call u6
  have l6 := l6.call u6
  have l20 := l20.call u6
  have kk : ∀ b cs t, Lo w0 w F b cs t → Lo w0 w6 F b cs t := fun b cs t hl => (kk b cs t hl).call u6
  have i53 := a1.in53 ve
  have hvl := H6.r.vl
  refine hb_ldS0 l1.hb rfl ((Has_ok H6.r.v H6.r.nv (by omega) u).mono ?_)
  rintro _ _ ⟨rfl, rfl⟩
  refine ⟨_, rfl, ?_⟩
  by_cases mu : u ∈ st.1
  · refine sel_t (by simpa using mu) (hb_ldS0 l1.hb rfl ((Has_ok H6.r.v H6.r.nv (by omega) v).mono ?_))
    rintro _ _ ⟨rfl, rfl⟩
    refine ⟨_, rfl, ?_⟩
    by_cases mv : v ∈ st.1
    · refine sel_t (by simpa using mv) (getA l6.hb (getA l20.hb (agg_eq _ _ _ i53.1 i53.2 i53.1 i53.2 ⟨_, rfl, sel_t (by rw [eqE_iff.2 rfl]; simp) (sel_t (by simp) ?_)⟩)))
      rw [if_pos ⟨mu, mv⟩]
      refine sel_t rfl ⟨?_, H6, kk⟩
      rw [joined_code a1 mu mv hb]; simp
    · refine sel_f (by simpa using mv) (getA l6.hb (getA l20.hb (agg_eq _ _ _ i53.1 i53.2 i53.1 i53.2 ⟨_, rfl, sel_t (by rw [eqE_iff.2 rfl]; simp) (sel_t (by simp) ?_)⟩)))
      rw [if_neg (fun hh => mv hh.2)]
      refine sel_t rfl ⟨?_, H6, kk⟩
      have : b = false := Bool.eq_false_iff.2 fun hh => mv (hb.1 hh).2.1
      rw [this]; rfl
  · refine sel_f (by simpa using mu) (getA l6.hb (getA l20.hb (agg_eq _ _ _ i53.1 i53.2 i53.1 i53.2 ⟨_, rfl, sel_t (by rw [eqE_iff.2 rfl]; simp) (sel_t (by simp) ?_)⟩)))
    rw [if_neg (fun hh => mu hh.1)]
    refine sel_t rfl ⟨?_, H6, kk⟩
    have : b = false := Bool.eq_false_iff.2 fun hh => mu (hb.1 hh).1
    rw [this]; rfl
theorem L2.put {w0 w w' : World} {F : Nat → Prop} {R b : Nat} {st : List Int × List E} {s : RS} (h : L2 w0 w F R st s st) (k : Keeps (fun k => k = b) w w') (nF : ¬ F b) (nr : ∀ k, Rb s k → k ≠ b) (lo : w0.heap.size ≤ b) : L2 w0 w' F R st s st :=
  ⟨⟨h.f.rep.other k fun k e hf => nF (e ▸ hf), h.f.lo, h.f.bel.trans (k.below h.f.bel.size fun i hi e => by omega)⟩, h.r.keeps k fun k hk => nr k hk, h.d⟩
theorem Plays_l0 {w0 : World} {R b7 : Nat} {A : Option Addr} {c : Nat} {l : List (Int × E)} (hr : RO w0 A l) (hle : l.length ≤ 9223372036854775807) (hok : ∀ o ∈ l, OpW o) {K0 : World → Prop} {Kr : Bool → World → Prop}
    (k0 : ∀ w F s st, L2 w0 w F R st s st → Lo w0 w F b7 (rsC s) 31 → K0 w) : ∀ (m i : Nat) (w : World) (F : Nat → Prop) (s : RS) (st : List Int × List E), l.length - i = m → i ≤ l.length → L2 w0 w F R st s st → Lo w0 w F b7 (rsC s) 31 → (∀ k, Rb s k → k ≠ b7) →
      f_law17_LinkcutPlays.l0 (m + 1) (some ⟨R, 0, none⟩) (⟨b7, 0, none⟩ : Addr) A l.length c (l.length : Int) (i : Int) w K0 Kr := by
  intro m
  induction m with
  | zero =>
    intro i w F s st hm hi H l7 hrb
    have : i = l.length := by omega
    subst this
    unfold f_law17_LinkcutPlays.l0
    exact sel_f (by simp) (k0 w F s st H l7)
  | succ m ih =>
    intro i w F s st hm hi H l7 hrb
    have hlt : i < l.length := by omega
    obtain ⟨a, rfl, q⟩ := (hr.belw H.f.bel) i hlt
    have ho := hok _ (List.getElem_mem hlt)
    have hw : IntKind.i64.wrap ((i : Int) + 1) = ((i + 1 : Nat) : Int) := by rw [w64_in (by omega)]; omega
    have ve := H.f.rep.ve
    unfold f_law17_LinkcutPlays.l0
    refine sel_t (by simpa using hlt) (optB_some rfl (req_intro (by simp; omega) (rowO q ?_)))
    generalize l[i] = o at ho
    refine op5 (o := o) fun w2 b2 e2 h2 g2 => ?_
    have H2 := H.below g2
    have l7 := l7.below g2
    have l2 : Lo w0 w2 F b2 (oC o) 35 := H.f.new g2 e2 h2
    have n72 : b7 ≠ b2 := by have := l7.hb.lt; have := hrb; intro e; subst e; have := l7.hb.symm.trans h2; revert this; simp [rsC, oC]
    refine get4 l7.hb (hb_ldI0 l2.hb rfl (hb_ldI l2.hb (j := 1) rfl (hb_ldI l2.hb (j := 2) rfl (hb_ldI l2.hb (j := 3) rfl (hb_ldI l2.hb (j := 4) rfl ?_)))))
    refine (does_ok H2 ve.rg (by have := ve.el; omega) ho).mono ?_
    rintro _ w3 ⟨F', s', rfl, H3, k3, sb3⟩
    refine ⟨_, _, _, _, _, _, _, _, _, _, _, _, _, rfl, ?_⟩
    have l7 := k3 _ _ _ l7
    have l2 := k3 _ _ _ l2
    have l72 := l7.hb.lt
    have hrb' : ∀ k, Rb s' k → k ≠ b7 := fun k hk e => by
      rcases sb3.b k hk with h8 | h8
      · exact hrb k h8 e
      · have : b7 < w2.heap.size := (by assumption : Lo w0 w2 F b7 (rsC s) 31).hb.lt
        omega
    refine pass4 s' fun w4 g4 => ?_
    have H4 := H3.below g4
    have l7 := l7.below g4
    have l2 := l2.below g4
    refine put4 l7.hb rfl s' fun w5 h75 k5 => ?_
    have H5 := H4.put k5 l7.nF hrb' l7.lo
    have l7 : Lo w0 w5 F' b7 (rsC s') 31 := ⟨h75, l7.nF, l7.lo⟩
    have l2 : Lo w0 w5 F' b2 (oC o) 35 := ⟨l2.hb.keeps k5 fun e => n72 e.symm, l2.nF, l2.lo⟩
    refine (Len_ok H5.f.rep).mono ?_
    rintro _ w6 ⟨rfl, r6, u6⟩
    have H6 := H5.callF r6 u6
    have l7 := l7.call u6
    have l2 := l2.call u6
    refine ⟨_, _, rfl, hb_ldI l2.hb (j := 1) rfl ((Edge_ok H6.f.rep ho.i).mono ?_)⟩
    rintro _ w7 ⟨rfl, r7, u7⟩
    have H7 := H6.callF r7 u7
    have l7 := l7.call u7
    have l2 := l2.call u7
    refine ⟨_, _, _, _, _, rfl, ?_⟩
    refine edge4 (e := edgeE (stp st o).2 o.2.id) fun w8 b59 e59 h59 g8 => ?_
    have H8 := H7.below g8
    have l7 := l7.below g8
    have l2 := l2.below g8
    refine get4 l7.hb (hb_ldI l2.hb (j := 1) rfl ((REdge_ok H8.r o.2.id).mono ?_))
    rintro _ w9 ⟨rfl, g9⟩
    have H9 := H8.below g9
    have l7 := l7.below g9
    have l2 := l2.below g9
    have h59 := h59.below g9
    refine ⟨_, _, _, _, _, rfl, ?_⟩
    refine edge4 (e := edgeE (stp st o).2 o.2.id) fun wA b73 e73 h73 gA => ?_
    have HA := H9.below gA
    have l7 := l7.below gA
    have l2 := l2.below gA
    have h59 := h59.below gA
    have hnv := HA.r.nv
    have hne := HA.r.ne
    refine sel_f (by simp) (hb_ldS0 l7.hb rfl (sel_f (by simp [hnv]) (hb_ldS l7.hb (j := 1) rfl (sel_f (by simp [hne]) ?_))))
    refine getE h59 (getE h73 (sel_f (by simp) (sel_f (by simp) ?_)))
    refine get4 l7.hb (hb_ldI2 l2.hb (i := 1) (j := 1) rfl (hb_ldI2 l2.hb (i := 1) (j := 2) rfl ((tells_ok HA ho.u ho.v).mono ?_)))
    rintro _ wB ⟨rfl, HB, kB⟩
    refine ⟨_, rfl, sel_f rfl ?_⟩
    rw [hw]
    exact ih (i + 1) wB F' s' (stp st o) (by omega) (by omega) HB (kB _ _ _ l7) hrb'
theorem Plays_l1 {w0 : World} {F : Nat → Prop} {R b7 : Nat} {s : RS} {st : List Int × List E} {K2 : World → Prop} {Kr : Bool → World → Prop}
    (k2 : ∀ w, L2 w0 w F R st s st → K2 w) : ∀ (m i : Nat) (w : World), st.1.length - i = m → i ≤ st.1.length → L2 w0 w F R st s st → Lo w0 w F b7 (rsC s) 31 →
      f_law17_LinkcutPlays.l1 (m + 1) (some ⟨R, 0, none⟩) (⟨b7, 0, none⟩ : Addr) s.A0 s.n0 s.c0 (s.n0 : Int) (i : Int) w K2 Kr := by
  intro m
  induction m with
  | zero =>
    intro i w hm hi H l7
    have : i = st.1.length := by omega
    subst this
    have hn := H.r.nv
    unfold f_law17_LinkcutPlays.l1
    exact sel_f (by simp [hn]) (k2 w H)
  | succ m ih =>
    intro i w hm hi H l7
    have hlt : i < st.1.length := by omega
    have hn := H.r.nv
    have hvl := H.r.vl
    have vr := H.f.rep.ve.vr
    have hw : IntKind.i64.wrap ((i : Int) + 1) = ((i + 1 : Nat) : Int) := by rw [w64_in (by omega)]; omega
    obtain ⟨a, hA, q⟩ := H.r.v i hlt
    obtain ⟨a0, hA0, _⟩ := H.r.v 0 (by omega)
    rw [hA] at hA0; injection hA0 with hA0; subst hA0
    have w64 : ∀ j (hj : j < st.1.length), W64 st.1[j] := fun j hj => by have := vr _ (List.getElem_mem hj); unfold W64; omega
    have Hd : L2 w0 w.drew F R st s st := H.below (Below.refl _ _).drew
    have ld : Lo w0 w.drew F b7 (rsC s) 31 := l7.below (Below.refl _ _).drew
    unfold f_law17_LinkcutPlays.l1
    refine sel_t (by simp [hn]; omega) (optB_some hA (req_intro (by simp [hn]; omega) (ldI_intro (x := st.1[i]) (by rw [Int.toNat_natCast, Nat.mul_one]; exact q) (drW_intro ?_))))
    have cellS : ∀ w', (Lo w0 w' F b7 (rsC s) 31 ∧ RI w' s.A0 st.1) → ∀ j (hj : j < st.1.length), w'.cell? (a.add j) = some (.int .i64 st.1[j]) := fun w' h j hj => by
      obtain ⟨a', ha', hc⟩ := h.2 j hj
      rw [hA] at ha'; injection ha' with ha'; subst ha'; exact hc
    refine ⟨fun w' => Lo w0 w' F b7 (rsC s) 31 ∧ RI w' s.A0 st.1, ⟨ld, Hd.r.v⟩, ?_⟩
    by_cases h12 : i < 12
    · have hd4 : ∀ {K : Option Addr → Nat → Nat → Option Addr → Nat → Nat → Option Addr → Nat → Nat → Option Addr → Nat → Nat → Prop}, K s.A0 s.n0 s.c0 s.A1 s.n1 s.c1 s.A2 s.n2 s.c2 s.A3 s.n3 s.c3 → hdS (fun w' => Lo w0 w' F b7 (rsC s) 31 ∧ RI w' s.A0 st.1) (⟨b7, 0, none⟩ : Addr) fun A0 n0 c0 => hdS (fun w' => Lo w0 w' F b7 (rsC s) 31 ∧ RI w' s.A0 st.1) ((⟨b7, 0, none⟩ : Addr).add 1) fun A1 n1 c1 => hdS (fun w' => Lo w0 w' F b7 (rsC s) 31 ∧ RI w' s.A0 st.1) ((⟨b7, 0, none⟩ : Addr).add 2) fun A2 n2 c2 => hdS (fun w' => Lo w0 w' F b7 (rsC s) 31 ∧ RI w' s.A0 st.1) ((⟨b7, 0, none⟩ : Addr).add 3) fun A3 n3 c3 => K A0 n0 c0 A1 n1 c1 A2 n2 c2 A3 n3 c3 := fun hk =>
        ⟨_, _, _, fun w' h => (h.1.hb.cell 0).trans rfl, _, _, _, fun w' h => (h.1.hb.cell 1).trans rfl, _, _, _, fun w' h => (h.1.hb.cell 2).trans rfl, _, _, _, fun w' h => (h.1.hb.cell 3).trans rfl, hk⟩
      refine sel_t (by simp; omega) (hd4 ⟨s.A0, s.n0, s.c0, fun w' h => (h.1.hb.cell 0).trans rfl, optB_some hA (req_intro (by simp [hn]; omega) ⟨st.1[0], fun w' h => ?_, ?_⟩)⟩)
      · have := cellS w' h 0 (by omega)
        simpa using this
      refine (tells_ok Hd (w64 i hlt) (w64 0 (by omega))).mono ?_
      rintro _ w2 ⟨rfl, H2, k2'⟩
      have l2 := k2' _ _ _ ld
      refine ⟨_, rfl, ⟨l2, H2.r.v⟩, sel_f rfl (hd4 ⟨s.A0, s.n0, s.c0, fun w' h => (h.1.hb.cell 0).trans rfl, s.A0, s.n0, s.c0, fun w' h => (h.1.hb.cell 0).trans rfl, ?_⟩)⟩
      have hw1 : IntKind.i64.wrap ((s.n0 : Int) - 1) = ((st.1.length - 1 : Nat) : Int) := by rw [hn, w64_in (by omega)]; omega
      dsimp only
      rw [hw1]
      refine optB_some hA (req_intro (by simp [hn]; omega) ⟨st.1[st.1.length - 1]'(by omega), fun w' h => ?_, ?_⟩)
      · rw [Int.toNat_natCast, Nat.mul_one]; exact cellS w' h _ (by omega)
      refine (tells_ok H2 (w64 _ (by omega)) (w64 i hlt)).mono ?_
      rintro _ w3 ⟨rfl, H3, k3⟩
      refine ⟨_, rfl, sel_f rfl ?_⟩
      rw [hw]
      exact ih (i + 1) w3 (by omega) (by omega) H3 (k3 _ _ _ l2)
    · refine sel_f (by simp; omega) ⟨⟨ld, Hd.r.v⟩, ?_⟩
      rw [hw]
      exact ih (i + 1) _ (by omega) (by omega) Hd ld
theorem LinkcutPlays_walk {w : World} {A : Option Addr} {n c : Nat} {l : List (Int × E)} (hs : Scr w A n l) :
    Calls Try.prog 3 #[.slice A n c] w fun en w' => en = .returned (.bool true) ∧ Below w.heap.size w w' := by
  obtain ⟨hr, rfl, hle, hok⟩ := hs
  apply f_law17_LinkcutPlays.ok
  unfold f_law17_LinkcutPlays.wp
  refine new_step (Below.refl _ w) fun w1 F R h1 _ _ => sel_f rfl ((alive_ok w1).mono ?_)
  rintro _ w2 ⟨rfl, g2⟩
  have h2 := h1.below g2
  refine ⟨_, rfl, sel_f rfl (al_new fun w3 b7 e7 s7 h7 g3 => put4 h7 rfl s0 fun w4 h74 k4 => ?_)⟩
  have h3 := h2.below g3
  have l7 : Lo w w3 F b7 #[.slice none 0 0, .slice none 0 0, .slice none 0 0, .slice none 0 0] 31 := h2.new g3 (by omega) h7
  have nr : ∀ k, Rb s0 k → k ≠ b7 := fun k hk => hk.elim (fun ⟨_, h, _⟩ => by cases h) (fun ⟨_, h, _⟩ => by cases h)
  have H3 : L2 w w3 F R ([], []) s0 ([], []) := ⟨h3, RF.zero w3, fun k hk => hk.elim (fun ⟨_, h, _⟩ => by cases h) (fun ⟨_, h, _⟩ => by cases h)⟩
  have H4 := H3.put k4 l7.nF nr l7.lo
  have l74 : Lo w w4 F b7 (rsC s0) 31 := ⟨h74, l7.nF, l7.lo⟩
  refine ⟨l.length + 1, Plays_l0 hr hle hok (fun w5 F5 s5 st5 H5 l75 => ?_) l.length 0 w4 F s0 ([], []) (by omega) (by omega) H4 l74 nr⟩
  intro _
  refine hb_ldS0 l75.hb rfl ⟨st5.1.length + 1, Plays_l1 (fun w6 H6 => ?_) st5.1.length 0 w5 (by omega) (by omega) H5 l75⟩
  intro _
  exact ⟨rfl, H6.f.bel⟩
theorem LinkcutPlays_row {w : World} {A0 : Option Addr} {n0 c0 : Nat} {f : Nat → Nat → Int} (h0 : IsRecs ks5 w A0 n0 c0 f) :
    Calls Try.prog 3 #[.slice A0 n0 c0] w fun e w' => e = .returned (.bool true) ∧ Below w.heap.size w w' := LinkcutPlays_walk (scr_of h0)
end Go.Proofs.Ytfknppccgojhdaa.Rd
