/- LinkcutPaths, walked. Conditions: none. -/
import Derived.Test.YtfknppccgojhdaaLdE
import Derived.Test.YtfknppccgojhdaaRecs2
namespace Go.Proofs.Ytfknppccgojhdaa.Rd
open Go.Dn Go.RowKit
set_option linter.unusedVariables false
set_option maxRecDepth 100000

theorem W64.of_wf {n : Int} (h : (Lit.int .i64 n).wf = true) : W64 n := wf_i64 h
theorem scr_of {w : World} {A : Option Addr} {n c : Nat} {f : Nat → Nat → Int} (h : IsRecs ks5 w A n c f) : Scr w A n ((List.range n).map fun i => (f i 0, (⟨f i 1, f i 2, f i 3, f i 4⟩ : E))) := by
  rcases h with ⟨rfl, rfl, rfl⟩ | ⟨a, rfl, h1, h2, h3⟩
  · exact ⟨fun i hi => by simp at hi, by simp, by simp, fun o ho => by simp at ho⟩
  · have k5 : ks5.length = 5 := rfl
    refine ⟨fun i hi => ⟨a, rfl, ?_⟩, by simp, by simp; unfold maxLen at h2; omega, fun o ho => ?_⟩
    · have hi' : i < n := by simpa using hi
      have key : ∀ j, j < 5 → w.cell? ((a.add (i * 5)).add j) = some (.int .i64 (f i j)) := fun j hj => by
        have := (h3 i hi' j hj).1
        rw [k5] at this
        rw [add_add, this]
        congr 2
        have : ∀ j (hj : j < 5), ks5[j] = IntKind.i64 := fun j hj => by
          match j, hj with
          | 0, _ => rfl | 1, _ => rfl | 2, _ => rfl | 3, _ => rfl | 4, _ => rfl
        exact this j hj
      rw [List.getElem_map, List.getElem_range]
      have k0 := key 0 (by omega)
      rw [add_add, Nat.add_zero] at k0
      exact ⟨k0, key 1 (by omega), key 2 (by omega), key 3 (by omega), key 4 (by omega)⟩
    · obtain ⟨i, hi, rfl⟩ := List.mem_map.1 ho
      have hi' : i < n := by simpa using hi
      exact ⟨wf_i64 (h3 i hi' 1 (by decide)).2, wf_i64 (h3 i hi' 2 (by decide)).2, wf_i64 (h3 i hi' 3 (by decide)).2, wf_i64 (h3 i hi' 4 (by decide)).2⟩
theorem op5 {w : World} {o : Int × E} {Q : Nat → World → Prop} (hQ : ∀ w' b, w.heap.size ≤ b → HB w' b (oC o) 35 → Below w.heap.size w w' → Q b w') :
    alW w (.cells #[.int .i64 (0 : Int), .int .i64 (0 : Int), .int .i64 (0 : Int), .int .i64 (0 : Int), .int .i64 (0 : Int)] 35) fun B w1 =>
      stW w1 (⟨B, 0, none⟩ : Addr) (.int .i64 o.1) fun w2 => stW w2 ((⟨B, 0, none⟩ : Addr).add 1) (.int .i64 o.2.id) fun w3 => stW w3 ((⟨B, 0, none⟩ : Addr).add 2) (.int .i64 o.2.u) fun w4 => stW w4 ((⟨B, 0, none⟩ : Addr).add 3) (.int .i64 o.2.v) fun w5 => stW w5 ((⟨B, 0, none⟩ : Addr).add 4) (.int .i64 o.2.w) fun w6 => Q B w6 := by
  refine al_new fun w1 b1 e1 s1 h1 g1 => ?_
  refine hb_st0 h1 (by simp) fun w2 h2 k2 => hb_st h2 (j := 1) (by simp) fun w3 h3 k3 => hb_st h3 (j := 2) (by simp) fun w4 h4 k4 => hb_st h4 (j := 3) (by simp) fun w5 h5 k5 => hb_st h5 (j := 4) (by simp) fun w6 h6 k6 => ?_
  have k := ((k2.trans k3).trans (k4.trans k5)).trans k6
  exact hQ w6 b1 (by omega) h6 (g1.trans ((k.below (B := w.heap.size) (by omega) fun i hi e => by omega)))
/-- what Along tells, taken up -/
theorem getA {w : World} {b : Nat} {t : TypeId} {mx : E} {W K : Int} (h : HB w b (aC mx W K) t) {Q : Int → Int → Int → Int → Nat → Nat → Prop} (hq : Q mx.id mx.u mx.v mx.w (fb W) (fb K)) :
    ldI w (⟨b, 0, none⟩ : Addr) .i64 fun x0 => ldI w ((⟨b, 0, none⟩ : Addr).add 1) .i64 fun x1 => ldI w ((⟨b, 0, none⟩ : Addr).add 2) .i64 fun x2 => ldI w ((⟨b, 0, none⟩ : Addr).add 3) .i64 fun x3 => ldC w ((⟨b, 0, none⟩ : Addr).add 4) .f64 fun r i => Q x0 x1 x2 x3 r i :=
  hb_ldI0 h rfl (hb_ldI h (j := 1) rfl (hb_ldI h (j := 2) rfl (hb_ldI h (j := 3) rfl (hb_ldC h (j := 4) rfl hq))))
theorem edgeE_mem {es : List E} {i : Int} (h : edgeB es i = true) : edgeE es i ∈ es ∧ (edgeE es i).id = i := by
  unfold edgeB at h
  obtain ⟨e, he, h2⟩ := List.any_eq_true.1 h
  unfold edgeE
  cases hf : es.find? (fun e => e.id == i) with
  | none => rw [List.find?_eq_none] at hf; exact absurd h2 (hf e he)
  | some a => exact ⟨List.mem_of_find?_eq_some hf, by simpa using List.find?_some hf⟩
theorem MxP.one {y mx : E} (h : MxP [y] mx) : mx = y := by
  have := (h.s (by simp)).1
  simpa using this
theorem Paths_l2 {w0 : World} {F : Nat → Prop} {R : Nat} {vs : List Int} {es : List E} {A : Option Addr} {c : Nat} {l : List (Int × E)} (hr : RO w0 A l) (hle : l.length ≤ 9223372036854775807) (hok : ∀ o ∈ l, OpW o) {K0 : World → Prop} {Kr : Bool → World → Prop} (k0 : ∀ w, LF w0 w F R vs es → K0 w) : ∀ (m i : Nat) (w : World), l.length - i = m → i ≤ l.length → LF w0 w F R vs es →
    f_law17_LinkcutPaths.l2 (m + 1) (some ⟨R, 0, none⟩) A l.length c (l.length : Int) (i : Int) w K0 Kr := by
  intro m
  induction m with
  | zero =>
    intro i w hm hi h
    have : i = l.length := by omega
    subst this
    unfold f_law17_LinkcutPaths.l2
    exact sel_f (by simp) (k0 w h)
  | succ m ih =>
    intro i w hm hi h
    have hlt : i < l.length := by omega
    obtain ⟨a, rfl, q⟩ := (hr.belw h.bel) i hlt
    have ho := hok _ (List.getElem_mem hlt)
    have hw : IntKind.i64.wrap ((i : Int) + 1) = ((i + 1 : Nat) : Int) := by rw [w64_in (by omega)]; omega
    have ve := h.rep.ve
    unfold f_law17_LinkcutPaths.l2
    refine sel_t (by simpa using hlt) (optB_some rfl (req_intro (by simp; omega) (rowO q ?_)))
    refine op5 (o := l[i]) fun w2 b2 e2 h2 g2 => ?_
    have H2 := h.below g2
    refine hb_ldI h2 (j := 1) rfl ?_
    refine edge_step H2 ho.i fun w3 b3 H3 l3 k3 => ?_
    rw [hw]
    cases hb : edgeB es l[i].2.id with
    | false => exact sel_t rfl (ih (i + 1) w3 (by omega) (by omega) H3)
    | true =>
      obtain ⟨ym, yid⟩ := edgeE_mem hb
      generalize edgeE es l[i].2.id = y at *
      have er := ve.er y ym
      have vr := ve.vr
      have wu : W64 y.u := by have := vr _ er.2.2.1; unfold W64; omega
      have wv : W64 y.v := by have := vr _ er.2.2.2.1; unfold W64; omega
      refine sel_f rfl (hb_ldI l3.hb (j := 1) rfl (hb_ldI l3.hb (j := 2) rfl ?_))
      refine along_step H3 wu wv fun w4 b4 mx W K code ha H4 l4 k4 => ?_
      have l3 := k4 _ _ _ l3
      have hwk : Wk es y.u [y] y.v := .cons ym (.inl rfl) (by unfold oth; rw [if_pos rfl]; exact .nil _)
      obtain ⟨rfl, hmx, rfl, rfl⟩ := ha.of ve er.2.2.1 er.2.2.2.1 hwk trivial
      have := MxP.one hmx
      subst this
      refine sel_f rfl (hb_ldI0 l4.hb rfl (hb_ldI l4.hb (j := 1) rfl (hb_ldI l4.hb (j := 2) rfl (hb_ldI l4.hb (j := 3) rfl (hb_ldI0 l3.hb rfl (hb_ldI l3.hb (j := 1) rfl (hb_ldI l3.hb (j := 2) rfl (hb_ldI l3.hb (j := 3) rfl ?_))))))))
      refine sel_f (by simp) (hb_ldC l4.hb (j := 4) rfl (hb_ldI l3.hb (j := 3) rfl (int_fl ⟨_, rfl, ?_⟩)))
      have f1 : (4607182418800017408 : Nat) = fb 1 := by decide
      rw [f1]
      have i1 : In53 (sumW [mx]) := by simp [sumW, In53]; omega
      have i2 : In53 mx.w := by unfold In53; omega
      refine cx_neq w4 _ _ i1 (by simp [In53]) i2 (by simp [In53]) ⟨_, rfl, sel_f (by simp [sumW]) (ih (i + 1) w4 (by omega) (by omega) H4)⟩
theorem Paths_tail {w0 w : World} {F : Nat → Prop} {R : Nat} {vs : List Int} {es : List E} {A : Option Addr} {c : Nat} {l : List (Int × E)} (hr : RO w0 A l) (hle : l.length ≤ 9223372036854775807) (hok : ∀ o ∈ l, OpW o) (h : LF w0 w F R vs es) {Kr : Bool → World → Prop} (k : ∀ w, Below w0.heap.size w0 w → Kr true w) : f_law17_LinkcutPaths.j1 A l.length c (some ⟨R, 0, none⟩) w Kr := by
  unfold f_law17_LinkcutPaths.j1
  exact ⟨l.length + 1, Paths_l2 hr hle hok (fun w2 h2 _ => k w2 h2.bel) l.length 0 w (by omega) (by omega) h⟩
theorem Paths_j0 {w0 w : World} {F : Nat → Prop} {R : Nat} {vs : List Int} {es : List E} (h : LF w0 w F R vs es) {u v x : Int} {b1 b2 b3 : Nat} {m1 m2 m3 : E} {W1 K1 c1 W2 K2 c2 W3 K3 c3 : Int} {t1 t2 t3 : TypeId} (h1 : HB w b1 (aC m1 W1 K1) t1) (h2 : HB w b2 (aC m2 W2 K2) t2) (h3 : HB w b3 (aC m3 W3 K3) t3) (a1 : AlongR vs es u v m1 W1 K1 c1) (a2 : AlongR vs es v x m2 W2 K2 c2) (a3 : AlongR vs es u x m3 W3 K3 c3) {bt : Bool} (hbt : bt = true → c1 = 0 ∧ c2 = 0) {Kn : World → Prop} {Kr : Bool → World → Prop} (kn : Kn w) :
    f_law17_LinkcutPaths.j0 (⟨b1, 0, none⟩ : Addr) (⟨b2, 0, none⟩ : Addr) (⟨b3, 0, none⟩ : Addr) c3 bt w Kn Kr := by
  have ve := h.rep.ve
  unfold f_law17_LinkcutPaths.j0
  cases bt with
  | false => exact sel_f rfl kn
  | true =>
    obtain ⟨z1, z2⟩ := hbt rfl
    refine sel_t rfl ?_
    have d1 := a1.bd ve
    have d2 := a2.bd ve
    have d3 := a3.bd ve
    rcases a1 with ⟨_, _, _, _, h⟩ | ⟨_, _, _, _, _, _, h⟩ | ⟨hu, hv, p, hp, np, _, rfl, rfl, _⟩
    · rw [h] at z1; cases z1
    · rw [h] at z1; cases z1
    rcases a2 with ⟨_, _, _, _, h⟩ | ⟨_, _, _, _, _, _, h⟩ | ⟨_, hx, q, hq, nq, _, rfl, rfl, _⟩
    · rw [h] at z2; cases z2
    · rw [h] at z2; cases z2
    obtain ⟨t, ht, nt, hs, k, hk⟩ := (hp.app hq).red2 (ids_inj ve.eid) fun e he => (ve.er e he).2.2.2.2.2.1
    obtain ⟨rfl, _, rfl, rfl⟩ := a3.of ve hu hx ht nt
    rw [sumW_app] at hs
    rw [List.length_append] at hk
    have in1 : In53 (sumW p) := by unfold In53; omega
    have in2 : In53 (sumW q) := by unfold In53; omega
    have in3 : In53 (sumW t) := by unfold In53; omega
    have il1 : In53 (p.length : Int) := by unfold In53; omega
    have il2 : In53 (q.length : Int) := by unfold In53; omega
    have il3 : In53 (t.length : Int) := by unfold In53; omega
    refine sel_f rfl (hb_ldC h3 (j := 4) rfl (hb_ldC h1 (j := 4) rfl (hb_ldC h2 (j := 4) rfl (fl_add in1 in2 (by unfold In53; omega) ⟨_, rfl, fl_gt in3 (by unfold In53; omega) ⟨_, rfl, sel_f (by simp; omega) ?_⟩⟩))))
    refine hb_ldC h3 (j := 4) rfl (hb_ldC h1 (j := 4) rfl (hb_ldC h2 (j := 4) rfl (fl_add il1 il2 (by unfold In53; omega) ⟨_, rfl, fl_gt il3 (by unfold In53; omega) ⟨_, rfl, sel_f (by simp; omega) ?_⟩⟩)))
    refine hb_ldC h3 (j := 4) rfl (hb_ldC h1 (j := 4) rfl (fl_add il3 il1 (by unfold In53; omega) ⟨_, rfl, hb_ldC h2 (j := 4) rfl (fl_add (by unfold In53; omega) il2 (by unfold In53; omega) ⟨_, rfl, fl_int (by unfold In53; omega) ⟨_, rfl, sel_f ?_ kn⟩⟩)⟩))
    have : ((t.length : Int) + p.length + q.length).tmod 2 = 0 := by
      rw [Int.tmod_eq_emod_of_nonneg (by omega)]
      omega
    rw [this]; rfl
theorem LinkcutPaths_walk {w : World} {A : Option Addr} {n c : Nat} {l : List (Int × E)} (hs : Scr w A n l) {u v x : Int} (hu : W64 u) (hv : W64 v) (hx : W64 x) :
    Calls Try.prog 4 #[.slice A n c, .int .i64 u, .int .i64 v, .int .i64 x] w fun e w' => e = .returned (.bool true) ∧ Below w.heap.size w w' := by
  apply f_law17_LinkcutPaths.ok
  unfold f_law17_LinkcutPaths.wp
  refine (filled_ok hs).mono ?_
  obtain ⟨hr, rfl, hle, hok⟩ := hs
  rintro _ w1 ⟨F, R, rfl, h1⟩
  generalize run l = st at h1
  have ve := h1.rep.ve
  refine ⟨_, rfl, sel_f rfl ((alive_ok w1).mono ?_)⟩
  rintro _ w2 ⟨rfl, g2⟩
  have h2 := h1.below g2
  refine ⟨_, rfl, sel_f rfl ?_⟩
  refine along_step h2 hu hv fun w3 b1 m1 W1 K1 c1 a1 h3 l1 _ => ?_
  refine along_step h3 hv hu fun w4 b2 m2 W2 K2 c2 a2 h4 l2 k4 => ?_
  have l1 := k4 _ _ _ l1
  obtain ⟨rfl, rfl, rfl, rfl⟩ := AlongR.det ve a1 a2.symm
  refine getA l1.hb (getA l2.hb ?_)
  have i53 := a1.in53 ve
  refine agg_neq w4 _ _ i53.1 i53.2 i53.1 i53.2 ⟨_, rfl, sel_f (by rw [eqE_iff.2 rfl]; simp) (sel_f (by simp) ?_)⟩
  refine along_step h4 hv hx fun w5 b3 m3 W3 K3 c3 a3 h5 l3 k5 => ?_
  have l1 := k5 _ _ _ l1
  refine along_step h5 hu hx fun w6 b4 m4 W4 K4 c4 a4 h6 l4 k6 => ?_
  have l1 := k6 _ _ _ l1
  have l3 := k6 _ _ _ l3
  by_cases hc : c1 = 0
  · refine sel_t (by simp [hc]) (Paths_j0 h6 l1.hb l3.hb l4.hb a1 a3 a4 (fun hh => ⟨hc, by simpa using hh⟩) fun _ => ?_)
    exact Paths_tail hr hle hok h6 fun w7 hb _ => ⟨rfl, hb⟩
  · refine sel_f (by simp [hc]) (Paths_j0 h6 l1.hb l3.hb l4.hb a1 a3 a4 (fun hh => by cases hh) fun _ => ?_)
    exact Paths_tail hr hle hok h6 fun w7 hb _ => ⟨rfl, hb⟩
theorem LinkcutPaths_row {w : World} {A0 : Option Addr} {n0 c0 : Nat} {f : Nat → Nat → Int} {a b c : Int} (h0 : IsRecs ks5 w A0 n0 c0 f) (wa : (Lit.int .i64 a).wf = true) (wb : (Lit.int .i64 b).wf = true) (wc : (Lit.int .i64 c).wf = true) :
    Calls Try.prog 4 #[.slice A0 n0 c0, .int .i64 a, .int .i64 b, .int .i64 c] w fun e w' => e = .returned (.bool true) ∧ Below w.heap.size w w' :=
  LinkcutPaths_walk (scr_of h0) (wf_i64 wa) (wf_i64 wb) (wf_i64 wc)
end Go.Proofs.Ytfknppccgojhdaa.Rd
