/- Along, walked: what is told of a path. Conditions: none. -/
import Derived.Test.YtfknppccgojhdaaLcN
namespace Go.Dn
open Go.RowKit
set_option linter.unusedVariables false
section
variable {vs : List Int} {es : List E} {vn en : Int → Nat} {own : Nat → E} {S : Nat → Prop} {par : Nat → Nat}
theorem nds_sum (g : Gr vs es vn en own S) : ∀ {p : List E} {m : Int}, (∀ e ∈ p, e ∈ es) → wOf own (nds vn en m p) = sumW p ∧ kOf own (nds vn en m p) = (p.length : Int)
  | [], _, _ => by simp [nds, wOf, kOf, sumW]
  | e :: p, m, h => by
    have he := h e (by simp)
    obtain ⟨h1, h2⟩ := nds_sum g (m := oth e m) fun x hx => h x (List.mem_cons_of_mem e hx)
    have ov := (g.vS _ (oth_mem g he m)).2
    have oe := (g.eS e he).2
    have := (g.er e he).1
    simp only [nds, wOf, kOf, k1, ov, oe, h1, h2, sumW, List.map_cons, List.sum_cons, List.length_cons, zE]
    rw [if_pos (by omega), if_neg (by omega)]
    constructor
    · show e.w + (0 + sumW p) = e.w + sumW p
      omega
    · omega
theorem nds_mem : ∀ {p : List E} {m : Int} {x : Nat}, x ∈ nds vn en m p → (∃ e ∈ p, x = en e.id) ∨ ∃ e ∈ p, ∃ n, x = vn (oth e n)
  | [], _, _, h => by simp [nds] at h
  | e :: p, m, x, h => by
    simp only [nds, List.mem_cons] at h
    rcases h with rfl | rfl | h
    · exact .inl ⟨e, by simp, rfl⟩
    · exact .inr ⟨e, by simp, m, rfl⟩
    · rcases nds_mem h with ⟨e', h1, h2⟩ | ⟨e', h1, h2⟩
      · exact .inl ⟨e', by simp [h1], h2⟩
      · exact .inr ⟨e', by simp [h1], h2⟩
theorem mem_nds : ∀ {p : List E} {m : Int} {e : E}, e ∈ p → en e.id ∈ nds vn en m p
  | [], _, _, h => by simp at h
  | a :: p, m, e, h => by
    rcases List.mem_cons.1 h with rfl | h
    · simp [nds]
    · simp [nds, mem_nds h]
theorem nds_max (g : Gr vs es vn en own S) {p : List E} {m : Int} (hm : m ∈ vs) (h : ∀ e ∈ p, e ∈ es) {x : E} (hx : IsMx own (vn m :: nds vn en m p) x) : MxP p x := by
  have ovm := (g.vS m hm).2
  have key : ∀ y ∈ vn m :: nds vn en m p, (own y).id ≠ 0 → own y ∈ p := by
    intro y hy h0
    rcases List.mem_cons.1 hy with rfl | hy
    · rw [ovm] at h0; exact absurd rfl h0
    · rcases nds_mem hy with ⟨e, h1, rfl⟩ | ⟨e, h1, n, rfl⟩
      · rw [(g.eS e (h e h1)).2]; exact h1
      · rw [(g.vS _ (oth_mem g (h e h1) n)).2] at h0; exact absurd rfl h0
  refine ⟨fun hp => ?_, fun hp => ?_⟩
  · by_cases h0 : x.id = 0
    · exact (hx.z h0).1
    · obtain ⟨_, ⟨y, hy, e⟩, _⟩ := hx.s h0
      have := key y hy (by rw [e]; exact h0)
      rw [hp] at this; simp at this
  · by_cases h0 : x.id = 0
    · exfalso
      obtain ⟨e, he⟩ := List.exists_mem_of_ne_nil p hp
      have := (hx.z h0).2 (en e.id) (List.mem_cons_of_mem _ (mem_nds he))
      rw [(g.eS e (h e he)).2] at this
      have := (g.er e (h e he)).1
      omega
    · obtain ⟨_, ⟨y, hy, e⟩, h3⟩ := hx.s h0
      refine ⟨e ▸ key y hy (by rw [e]; exact h0), fun a ha => ?_⟩
      have := h3 (en a.id) (List.mem_cons_of_mem _ (mem_nds ha))
      rw [(g.eS a (h a ha)).2] at this
      exact this (by have := (g.er a (h a ha)).1; omega)
end
/-- what Along tells -/
def AlongR (vs : List Int) (es : List E) (u v : Int) (mx : E) (W K code : Int) : Prop :=
  (¬ (u ∈ vs ∧ v ∈ vs) ∧ mx = zE ∧ W = 0 ∧ K = 0 ∧ code = 51) ∨ (u ∈ vs ∧ v ∈ vs ∧ (¬ ∃ p, Wk es u p v ∧ NB p) ∧ mx = zE ∧ W = 0 ∧ K = 0 ∧ code = 61) ∨
  (u ∈ vs ∧ v ∈ vs ∧ ∃ p, Wk es u p v ∧ NB p ∧ MxP p mx ∧ W = sumW p ∧ K = (p.length : Int) ∧ code = 0)
def aC (mx : E) (W K : Int) : Array Value := #[.int .i64 mx.id, .int .i64 mx.u, .int .i64 mx.v, .int .i64 mx.w, .complex .f64 (fb W) (fb K)]
theorem aC_zero : aC zE 0 0 = #[.int .i64 0, .int .i64 0, .int .i64 0, .int .i64 0, .complex .f64 0 0] := by simp only [aC, zE, fb_zero]
end Go.Dn
namespace Go.Proofs.Ytfknppccgojhdaa.Rd
open Go.Dn Go.RowKit
set_option linter.unusedVariables false
set_option maxRecDepth 100000
theorem put5 {w : World} {b : Nat} {m0 m : E} {W0 K0 : Int} {p q : Nat} {t : TypeId} (h : HB w b (aC m0 W0 K0) t) {K : Int → Int → Int → Int → Nat → Nat → World → Prop} (hk : ∀ w', HB w' b #[.int .i64 m.id, .int .i64 m.u, .int .i64 m.v, .int .i64 m.w, .complex .f64 p q] t → Keeps (fun k => k = b) w w' → K m.id m.u m.v m.w p q w') :
    stW w (⟨b, 0, none⟩ : Addr) (.int .i64 m.id) fun w6 => stW w6 ((⟨b, 0, none⟩ : Addr).add 1) (.int .i64 m.u) fun w7 => stW w7 ((⟨b, 0, none⟩ : Addr).add 2) (.int .i64 m.v) fun w8 => stW w8 ((⟨b, 0, none⟩ : Addr).add 3) (.int .i64 m.w) fun w9 => stW w9 ((⟨b, 0, none⟩ : Addr).add 4) (.complex .f64 p q) fun w10 =>
    ldI w10 (⟨b, 0, none⟩ : Addr) .i64 fun x11 => ldI w10 ((⟨b, 0, none⟩ : Addr).add 1) .i64 fun x12 => ldI w10 ((⟨b, 0, none⟩ : Addr).add 2) .i64 fun x13 => ldI w10 ((⟨b, 0, none⟩ : Addr).add 3) .i64 fun x14 => ldC w10 ((⟨b, 0, none⟩ : Addr).add 4) .f64 fun r15 i15 => K x11 x12 x13 x14 r15 i15 w10 := by
  refine hb_st0 h (by simp [aC]) fun w1 h1 k1 => hb_st h1 (j := 1) (by simp [aC]) fun w2 h2 k2 => hb_st h2 (j := 2) (by simp [aC]) fun w3 h3 k3 => hb_st h3 (j := 3) (by simp [aC]) fun w4 h4 k4 => hb_st h4 (j := 4) (by simp [aC]) fun w5 h5 k5 => ?_
  have h5 : HB w5 b #[.int .i64 m.id, .int .i64 m.u, .int .i64 m.v, .int .i64 m.w, .complex .f64 p q] t := h5
  refine hb_ldI0 h5 rfl (hb_ldI h5 (j := 1) rfl (hb_ldI h5 (j := 2) rfl (hb_ldI h5 (j := 3) rfl ⟨_, _, (h5.cell 4).trans rfl, hk _ h5 ?_⟩)))
  exact ((k1.trans k2).trans (k3.trans k4)).trans k5
theorem Along_ok {w : World} {F : Nat → Prop} {R : Nat} {vs : List Int} {es : List E} (h : Rep w F R vs es) {u v : Int} (hu : W64 u) (hv : W64 v) :
    Calls Try.prog 16 #[.pointer (some ⟨R, 0, none⟩), .int .i64 u, .int .i64 v] w fun e w' => (∃ mx W K code, e = .returned (.tuple #[.agg (aC mx W K), .int .i64 code]) ∧ AlongR vs es u v mx W K code) ∧ Rep w' F R vs es ∧ Upd F w w' F := by
  apply f_linkcut_Forest_Along.ok
  unfold f_linkcut_Forest_Along.wp
  refine al_new fun w1 b1 e1 s1 hb1 g1 => ?_
  have hb1 : HB w1 b1 (aC zE 0 0) 48 := by rw [aC_zero]; exact hb1
  have h1 := h.below g1
  have nF : ¬ F b1 := fun hf => by have := h.lt b1 hf; omega
  refine (Joined_ok h1 hu hv).mono ?_
  rintro e w4 ⟨⟨b, rfl, hb⟩, h4, u4⟩
  refine ⟨_, _, rfl, ?_⟩
  have hb4 : HB w4 b1 (aC zE 0 0) 48 := hb1.keeps u4.kp nF
  have U4 : Upd F w w4 F := ⟨(Keeps.of_below g1).trans u4.kp, fun k hk => .inl hk⟩
  have U5 : ∀ {w5 w6 : World} {F'}, Upd F w w5 F' → Keeps (fun k => k = b1) w5 w6 → Upd F w w6 F' := fun hU hk => ⟨hU.kp.trans' hk fun k hk e => by omega, hU.fr⟩
  by_cases huv : u ∈ vs ∧ v ∈ vs
  · rw [if_pos huv]
    refine sel_f (by simp) ?_
    cases b with
    | false =>
      refine sel_t rfl ?_
      refine put5 (m := zE) hb4 fun w6 h6 k6 => ⟨⟨zE, 0, 0, 61, ?_, .inr (.inl ⟨huv.1, huv.2, fun hp => ?_, rfl, rfl, rfl, rfl⟩)⟩, h4.other k6 (fun k e hf => nF (e ▸ hf)), U5 U4 k6⟩
      · rw [aC_zero]; rfl
      · have := hb.2 ⟨huv.1, huv.2, hp⟩; cases this
    | true =>
      refine sel_f rfl ?_
      have hw := (hb.1 rfl).2.2
      obtain ⟨r, N, own, S, par, Fo, vn, en, nf, nk, A, c, sp, rfl, hF, h4'⟩ := h4
      have uS := (h4'.gr.vS u huv.1).1
      have vS := (h4'.gr.vS v huv.2).1
      refine ⟨_, h4'.cm.1, h4'.ov.look MTi hu ⟨_, rfl, ?_⟩⟩
      refine (root_ok h4'.env uS).mono ?_
      rintro e w5 ⟨rfl, par1, N1, F1, ta, p1⟩
      have r5 := h4'.turned p1.en p1.kp p1.adj
      refine ⟨rfl, _, r5.cm.1, r5.ov.look MTi hv ⟨_, rfl, (access_ok p1.en vS).mono ?_⟩⟩
      rintro e w6 ⟨rfl, N2, F2, tb, p2⟩
      have r6 := r5.turned p2.en p2.kp (fun _ _ => Iff.rfl)
      have kg : Keeps (fun k => k = r.g) w4 w6 := p1.kp.trans p2.kp
      have hd : Rep' w6.drew r vs es N2 own S par1 F2 vn en nf nk A c sp := r6.below (Below.refl _ _).drew
      refine ⟨rfl, drW_intro ⟨fun w' => w' = w6.drew, rfl, _, _, _, fun w' e => by rw [e]; exact hd.env.lp.sl0, _, fun w' e => by rw [e]; exact hd.cm.1, hd.ov.look MTi hv ⟨_, rfl, rfl, optB_some rfl (req_intro (by have := hd.env.rm.sl _ vS; simp; omega) ?_)⟩⟩⟩
      have vlt := hd.env.rm.sl _ vS
      rw [add_add _ 8 1, add_add _ 8 2, add_add _ 8 3, add_add _ 8 4]
      refine ⟨_, fun w' e => by rw [e]; exact hd.env.lp.cell vlt rfl (j := 8) (by omega), _, fun w' e => by rw [e]; exact hd.env.lp.cell vlt rfl (j := 9) (by omega), _, fun w' e => by rw [e]; exact hd.env.lp.cell vlt rfl (j := 10) (by omega), _, fun w' e => by rw [e]; exact hd.env.lp.cell vlt rfl (j := 11) (by omega), _, _, fun w' e => by rw [e]; exact hd.env.lp.cell vlt rfl (j := 12) (by omega), ?_⟩
      have nb1 : b1 ≠ r.g := fun e => nF ((hF b1).2 (.inr (.inl e)))
      have hb6 : HB w6 b1 (aC zE 0 0) 48 := hb4.keeps kg nb1
      have hb6' : HB w6.drew b1 (aC zE 0 0) 48 := hb6
      -- the path
      have ok2 := (p2.en.fo.ok _ _ p2.top).1
      have ag : Ag own (tb.ids ++ [vn v]) (N2 (vn v)) := ok2.2.2.2.2.2.1
      have ag2 : Ag own (tb.flat ++ [vn v]) (N2 (vn v)) := ag.perm ((ST.flat_perm tb).symm.append_right _)
      have t1 : Tr S par1 := ⟨p1.en.fo.up, p1.en.fo.ps, fun y hy => p1.en.fo.nz hy⟩
      have same : SameC par1 (vn u) (vn v) := ((same_wk r5.gr t1 r5.adj huv.1 huv.2).2 hw)
      obtain ⟨ca, cb, c1, c2, c3⟩ := same
      have up : Up par1 (vn u) ([] ++ [vn u]) := .step (t1.nz _ uS) (by rw [p1.par0]; exact .zero)
      have e1 := c1.unique up
      have e2 := c2.unique p2.way
      subst e1
      have hhead : (tb.flat ++ [vn v]).head? = some (vn u) := by rw [← e2, ← c3]; rfl
      obtain ⟨l, hl⟩ : ∃ l, tb.flat ++ [vn v] = vn u :: l := by
        cases hh : tb.flat ++ [vn v] with
        | nil => rw [hh] at hhead; simp at hhead
        | cons x l => rw [hh] at hhead; simp at hhead; exact ⟨l, by rw [hhead]⟩
      have hway := p2.way
      rw [hl] at hway
      have hch := hway.chn
      obtain ⟨p, q1, q2, q3⟩ := chn_wk r5.gr t1 r5.adj l.length (Nat.le_refl _) huv.1 huv.2 hch.1.2 (fun y hy => hway.inS t1 vS y (by simp [hy])) hway.nodup hch.2
      rw [hl, q3] at ag2
      have hsum := nds_sum r5.gr (m := u) q1.mem
      have ovu := (r5.gr.vS u huv.1).2
      have hW : (N2 (vn v)).sr = sumW p := by rw [ag2.sr]; simp only [wOf, ovu, zE, hsum.1]; omega
      have hK : (N2 (vn v)).si = (p.length : Int) := by
        rw [ag2.si]; simp only [kOf, k1, ovu, zE, hsum.2]
        rw [if_neg (by omega)]; omega
      refine put5 (m := (N2 (vn v)).mx) hb6' fun w7 h7 k7 => ⟨⟨(N2 (vn v)).mx, sumW p, p.length, 0, ?_, .inr (.inr ⟨huv.1, huv.2, p, q1, q2, nds_max r5.gr huv.1 q1.mem ag2.mx, rfl, rfl, rfl⟩)⟩, ?_, ?_⟩
      · rw [hW, hK]; rfl
      · exact ⟨r, N2, own, S, par1, F2, vn, en, nf, nk, A, c, sp, rfl, hF, hd.other k7 fun k e hf => nF ((hF k).2 hf |> (e ▸ ·))⟩
      · refine ⟨(U4.kp.trans (kg.mono fun k _ e => (hF k).2 (.inr (.inl e)))).drew.trans' k7 fun k hk e => by omega, fun k hk => .inl hk⟩
  · rw [if_neg huv]
    refine sel_t (by decide) ?_
    refine put5 (m := zE) hb4 fun w6 h6 k6 => ⟨⟨zE, 0, 0, 51, ?_, .inl ⟨huv, rfl, rfl, rfl, rfl⟩⟩, h4.other k6 (fun k e hf => nF (e ▸ hf)), U5 U4 k6⟩
    rw [aC_zero]; rfl
theorem Rep.uniq {w : World} {F : Nat → Prop} {R : Nat} {vs : List Int} {es : List E} (h : Rep w F R vs es) {u v : Int} {p q : List E} (hu : u ∈ vs) (hp : Wk es u p v) (np : NB p) (hq : Wk es u q v) (nq : NB q) : p = q := by
  obtain ⟨r, N, own, S, par, Fo, vn, en, nf, nk, A, c, sp, rfl, hF, h3⟩ := h
  exact wk_uniq h3.gr h3.tr h3.adj hu hp np hq nq
end Go.Proofs.Ytfknppccgojhdaa.Rd
