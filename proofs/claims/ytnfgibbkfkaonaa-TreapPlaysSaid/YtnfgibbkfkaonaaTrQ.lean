/- The walk of TreapSeeds: two ropes that chance treats otherwise tell the same. Conditions: none. -/
import Derived.Test.YtnfgibbkfkaonaaTrP
import Derived.Test.YtnfgibbkfkaonaaRdL3
namespace Go.Proofs.Ytnfgibbkfkaonaa.Rd
open Go.Dn Go.RowKit
set_option linter.unusedVariables false
set_option maxRecDepth 100000

/-- a block beside a rope's -/
structure Out (b : Nat) (r : RC) : Prop where
  R : b ≠ r.R
  g : b ≠ r.g
  A : ∀ a, r.As = some a → a.block ≠ b
theorem LS.out {w0 w : World} {r : RC} {m : MS} (h : LS w0 w r m) {b : Nat} (hb : w.heap.size ≤ b) : Out b r := by
  have h1 := h.rope.lt
  have h2 := h.rope.as
  exact ⟨by omega, by omega, fun a ha => by have := (h2 a ha).1; omega⟩
theorem Out.mv {b : Nat} {r r' : RC} {w : World} (h : Out b r) (m : Mv w r r') (hb : b < w.heap.size) : Out b r' :=
  ⟨by rw [m.R]; exact h.R, by rcases m.g with e | e; rw [e]; exact h.g; omega, fun a ha => h.A a (by rw [← m.As]; exact ha)⟩
theorem Out.no {b : Nat} {r : RC} (h : Out b r) : ¬ Sr r b := by rintro (e | e); exact h.R e; exact h.g e
theorem LS.beside {w0 w w' : World} {r : RC} {m : MS} {b : Nat} (h : LS w0 w r m) (k : Keeps (fun k => k = b) w w') (o : Out b r) (hb : w0.heap.size ≤ b) : LS w0 w' r m := h.keeps k o.R o.g o.A hb
/-- two ropes apart -/
structure Ap (r s : RC) : Prop where
  a : Out s.R r
  b : Out s.g r
  c : Out r.R s
  d : Out r.g s
theorem Ap.symm {r s : RC} (h : Ap r s) : Ap s r := ⟨h.c, h.d, h.a, h.b⟩
theorem Ap.mv {w0 w : World} {r r' s : RC} {m : MS} (h : Ap r s) (hv : Mv w r r') (hs : LS w0 w s m) : Ap r' s := by
  have h1 := hs.rope.lt
  have h2 := hs.rope.as
  refine ⟨h.a.mv hv h1.1, h.b.mv hv h1.2.1, by rw [hv.R]; exact h.c, ?_⟩
  rcases hv.g with e | e
  · rw [e]; exact h.d
  · exact hs.out e
theorem LS.other {w0 w w' : World} {r s : RC} {m m' : MS} (h : LS w0 w s m) (hr : LS w0 w r m') (k : Keeps (Sr r) w w') (a : Ap r s) : LS w0 w' s m :=
  ⟨h.rope.keeps k a.a.no a.b.no (fun x hx e => by rcases e with e | e; exact a.c.A x hx e; exact a.d.A x hx e), h.n, h.B, h.marks, hr.belK k⟩
theorem Ap.new {w0 w w' : World} {r s : RC} {m m' : MS} (hr : LS w0 w r m) (hs : LS w0 w' s m') (hB : w.heap.size ≤ s.B) : Ap r s := by
  have h1 := hr.rope.lt
  have h2 := hr.rope.as
  have h3 := hs.rope.lt
  have h4 : ∀ a, s.As = some a → s.B ≤ a.block := by
    obtain ⟨N, ts, hp, hf⟩ := hs.rope
    exact fun a ha => (hp.sap a ha).1
  exact ⟨hr.out (by omega), hr.out (by omega), ⟨by omega, by omega, fun a ha => by have := h4 a ha; omega⟩, ⟨by omega, by omega, fun a ha => by have := h4 a ha; omega⟩⟩

theorem Seeds_l0 {w0 : World} {A : Option Addr} {len cap : Nat} {f : Nat → Nat → Int} (hf : IsRecs ks5 w0 A len cap f) {R S : Nat} {K0 : World → Prop} {Kr : Bool → World → Prop} (hK : ∀ w', Below w0.heap.size w0 w' → K0 w') :
    ∀ (d i : Nat) (w : World) (r s : RC) (m : MS), len - i = d → i ≤ len → LS w0 w r m → LS w0 w s m → Ap r s → r.R = R → s.R = S → f_law15_TreapSeeds.l0 (d + 1) (some ⟨R, 0, none⟩) (some ⟨S, 0, none⟩) A len cap (len : Int) (i : Int) w K0 Kr := by
  intro d
  induction d with
  | zero =>
    intro i w r s m h1 h2 hr hs ha h4 h5
    have : i = len := by omega
    subst this
    unfold f_law15_TreapSeeds.l0
    exact sel_f (by simp) (hK w hr.bel)
  | succ d ih =>
    intro i w r s m h1 h2 hr hs ha h4 h5
    have hle := hf.le
    unfold f_law15_TreapSeeds.l0
    refine sel_t (by simp; omega) (op_rd (hf.below hr.bel) (by omega) fun w1 b e hb q1 => ?_)
    subst h4; subst h5
    have hw0 := hr.bel.size
    have obr := hr.out (b := b) (by omega)
    have obs := hs.out (b := b) (by omega)
    have hr1 := hr.below q1; have hs1 := hs.below q1
    have hbl := hb.lt
    refine (changes0_ok hr1 (hf.opOk (i := i) (by omega))).mono ?_
    rintro e w2 ⟨A0, n0, c0, A1, n1, c1, A2, n2, c2, bb, rfl, r', hr2, hm, hk⟩
    have hs2 := hs1.other hr1 hk ha
    have hb2 := hb.keeps hk obr.no
    have ha2 := ha.mv hm hs1
    have obr2 := obr.mv hm hbl
    have hbl2 := hb2.lt
    refine ⟨_, _, _, _, _, _, _, _, _, _, rfl, hb_ldI0 hb2 rfl (hb_ldI (j := 1) hb2 rfl (hb_ldI (j := 2) hb2 rfl (hb_ldI (j := 3) hb2 rfl (hb_ldI (j := 4) hb2 rfl ((changes0_ok hs2 (hf.opOk (i := i) (by omega))).mono ?_)))))⟩
    rintro e w3 ⟨A0, n0, c0, A1, n1, c1, A2, n2, c2, bb, rfl, s', hs3, hm', hk'⟩
    have hr3 := hr2.other hs2 hk' ha2.symm
    have hb3 := hb2.keeps hk' obs.no
    have ha3 := (ha2.symm.mv hm' hr2).symm
    have obs3 := obs.mv hm' hbl2
    rw [← hm.R, ← hm'.R]
    clear hk hk'
    refine ⟨_, _, _, _, _, _, _, _, _, _, rfl, hb_ldI (j := 1) hb3 rfl ((hr3.list _).mono ?_)⟩
    rintro e w4 ⟨A4, c4, rfl, l4, hr4, q4⟩
    have hs4 := hs3.below q4; have hb4 := hb3.below q4
    refine ⟨_, _, _, _, rfl, hb_ldI (j := 1) hb4 rfl ((hs4.list _).mono ?_)⟩
    rintro e w5 ⟨A5, c5, rfl, l5, hs5, q5⟩
    have hr5 := hr4.below q5; have hb5 := hb4.below q5; have l4 := l4.below q5
    refine ⟨_, _, _, _, rfl, hb_ldI (j := 2) hb5 rfl ((hr5.all _).mono ?_)⟩
    rintro e w6 ⟨rfl, hr6, q6⟩
    have hs6 := hs5.below q6; have hb6 := hb5.below q6; have l4 := l4.below q6; have l5 := l5.below q6
    refine ⟨_, _, _, rfl, al_new fun w7 b7 e7 z7 h7 q7 => hb_st0 h7 (by simp) fun w8 h8 k8 => hb_st (j := 1) h8 (by simp) fun w9 h9 k9 => ?_⟩
    have o7r := hr6.out (b := b7) (by omega); have o7s := hs6.out (b := b7) (by omega)
    have hbl6 := hb6.lt
    have l4 := ((l4.below q7).st k8 h7 (by decide)).st k9 h8 (by decide); have l5 := ((l5.below q7).st k8 h7 (by decide)).st k9 h8 (by decide)
    have hw6 := hr6.bel.size
    have hr9 := (hr6.below q7).beside (k8.trans k9) o7r (by omega); have hs9 := (hs6.below q7).beside (k8.trans k9) o7s (by omega)
    have hb9 := (hb6.below q7).keeps (k8.trans k9) (by omega)
    refine hb_ldI (j := 2) hb9 rfl ((hs9.all _).mono ?_)
    rintro e w10 ⟨rfl, hs10, q10⟩
    have hr10 := hr9.below q10; have hb10 := hb9.below q10; have l4 := l4.below q10; have l5 := l5.below q10
    have h10 := h9.below q10
    refine ⟨_, _, _, rfl, al_new fun w11 b11 e11 z11 h11 q11 => hb_st0 h11 (by simp) fun w12 h12 k12 => hb_st (j := 1) h12 (by simp) fun w13 h13 k13 => ?_⟩
    have o11r := hr10.out (b := b11) (by omega); have o11s := hs10.out (b := b11) (by omega)
    have hbl10 := hb10.lt; have h10l := h10.lt
    have l4 := ((l4.below q11).st k12 h11 (by decide)).st k13 h12 (by decide); have l5 := ((l5.below q11).st k12 h11 (by decide)).st k13 h12 (by decide)
    have hw10 := hr10.bel.size
    have hr13 := (hr10.below q11).beside (k12.trans k13) o11r (by omega); have hs13 := (hs10.below q11).beside (k12.trans k13) o11s (by omega)
    have hb13 := (hb10.below q11).keeps (k12.trans k13) (by omega)
    have h13a := (h10.below q11).keeps (k12.trans k13) (by omega)
    refine hb_ldI (j := 1) hb13 rfl ((hr13.seek _).mono ?_)
    rintro e w14 ⟨rfl, hr14, q14⟩
    have hs14 := hs13.below q14; have hb14 := hb13.below q14; have l4 := l4.below q14; have l5 := l5.below q14
    have h14 := h13.below q14; have h14a := h13a.below q14
    refine ⟨_, _, rfl, hb_ldI (j := 1) hb14 rfl ((hs14.seek _).mono ?_)⟩
    rintro e w15 ⟨rfl, hs15, q15⟩
    have hr15 := hr14.below q15; have l4 := l4.below q15; have l5 := l5.below q15
    have h15 := h14.below q15; have h15a := h14a.below q15
    refine ⟨_, _, rfl, ?_⟩
    unfold f_law15_TreapSeeds.j1
    obtain ⟨rok, hn, hpos⟩ := hr3.rok
    have hll : (listE (stepM m (opAt f i)).n (stepM m (opAt f i)).rows (f i 1)).1.length ≤ 65537 := by
      unfold listE
      cases hbd : Bd (stepM m (opAt f i)).n (f i 1) with
      | true => simp
      | false =>
        obtain ⟨x, ex, ex', hx⟩ := Bd_nat hbd
        have := (rok.rlen hx).1
        simp only [Bool.false_eq_true, if_false, ex']; omega
    refine (SameInts_ok l4.reads (by rw [zs_len]) l5.reads (by rw [zs_len]) (by rw [zs_len]; omega)).mono ?_
    rintro e w16 ⟨rfl, q16⟩
    have h16 := h15.below q16; have h16a := h15a.below q16
    refine ⟨_, rfl, sel_f (by simp) (sel_f (by simp) (hb_ldI0 h16a rfl (hb_ldI (j := 1) h16a rfl (hb_ldI0 h16 rfl (hb_ldI (j := 1) h16 rfl (sel_f (by simp) (sel_f (by simp) (sel_f (by simp) (sel_f (by simp) fun _ => ?_)))))))))⟩
    rw [w64_in (by omega), show (i : Int) + 1 = ((i + 1 : Nat) : Int) by omega, hm.R, hm'.R]
    exact ih (i + 1) w16 r' s' _ (by omega) (by omega) (hr15.below q16) (hs15.below q16) ha3 hm.R hm'.R
theorem TreapSeeds_walk {w : World} {A0 A1 A2 : Option Addr} {n0 n1 n2 c0 c1 c2 : Nat} {sl tl : List Int} {f : Nat → Nat → Int} (hr : RI w A0 sl) (hn : n0 = sl.length) (hc0 : A0 = none → sl.length = 0 ∧ c0 = 0) (hlen : sl.length ≤ 17592186044416)
    (hr' : RI w A1 tl) (hn' : n1 = tl.length) (hc0' : A1 = none → tl.length = 0 ∧ c1 = 0) (hlen' : tl.length ≤ 17592186044416) (hf : IsRecs ks5 w A2 n2 c2 f) :
    Calls Try.prog 3 #[.slice A0 n0 c0, .slice A1 n1 c1, .slice A2 n2 c2] w fun e w' => e = .returned (.bool true) ∧ Below w.heap.size w w' := by
  apply f_law15_TreapSeeds.ok
  unfold f_law15_TreapSeeds.wp
  refine (LS.new (w0 := w) (Below.refl _ _) hr hn hc0 hlen).mono ?_
  rintro e w1 ⟨r, rfl, hS, hB, hb⟩
  refine ⟨_, rfl, (LS.new (w0 := w) hS.bel (hr'.below hb (Nat.le_refl _)) hn' hc0' hlen').mono ?_⟩
  rintro e w2 ⟨s, rfl, hS', hB', hb'⟩
  refine ⟨_, rfl, sel_f rfl (sel_f rfl ((alive_ok w2).mono ?_))⟩
  rintro e w3 ⟨rfl, q3⟩
  exact ⟨_, rfl, sel_f rfl ⟨_, Seeds_l0 hf (fun w' hb _ => ⟨rfl, hb⟩) n2 0 w3 r s _ rfl (by omega) ((hS.below hb').below q3) (hS'.below q3) (Ap.new hS hS' hB') rfl rfl⟩⟩
theorem row_ints {w : World} {A : Option Addr} {n c : Nat} {zs : List Int} (h : IsRow .i64 w A n c zs) (s : n * 8 ≤ 140737488351232) : ∃ l : List Int, RI w A l ∧ n = l.length ∧ (A = none → l.length = 0 ∧ c = 0) ∧ l.length ≤ 17592186044416 := by
  rcases h with ⟨rfl, rfl, rfl, rfl⟩ | ⟨x, rfl, hl, hm, hz, hc, hw⟩
  · exact ⟨[], RI.nil _ _, rfl, fun _ => ⟨rfl, rfl⟩, by simp⟩
  · refine ⟨zs.take n, ?_, by simp; omega, (fun h => by cases h), by simp; omega⟩
    intro i hi
    rw [List.length_take] at hi
    refine ⟨x, rfl, ?_⟩
    rw [hc i (by omega), List.getElem_take]
    congr 2
    simp [List.getD_eq_getElem?_getD, show i < zs.length by omega]
theorem TreapSeeds_row {w : World} {A0 A1 A2 : Option Addr} {n0 n1 n2 c0 c1 c2 : Nat} {za zb : List Int} {f : Nat → Nat → Int} (h0 : IsRow .i64 w A0 n0 c0 za) (s0 : n0 * 8 ≤ 140737488351232) (h1 : IsRow .i64 w A1 n1 c1 zb) (s1 : n1 * 8 ≤ 140737488351232) (h2 : IsRecs ks5 w A2 n2 c2 f) :
    Calls Try.prog 3 #[.slice A0 n0 c0, .slice A1 n1 c1, .slice A2 n2 c2] w fun e w' => e = .returned (.bool true) ∧ Below w.heap.size w w' := by
  obtain ⟨l, hr, e1, e2, e3⟩ := row_ints h0 s0
  obtain ⟨l', hr', e1', e2', e3'⟩ := row_ints h1 s1
  exact TreapSeeds_walk hr e1 e2 e3 hr' e1' e2' e3' h2
end Go.Proofs.Ytnfgibbkfkaonaa.Rd
