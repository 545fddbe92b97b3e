/- page: one call of a script against the empty page: what it does to the page. Conditions: none. -/
import Derived.Test.YtifambgaekjilaaDoorPgL
namespace Go.Proofs.YtifambgaekjilaaDoor.Rd
open Go.Dn Go.RowKit
set_option linter.unusedVariables false
set_option linter.unusedSimpArgs false
set_option maxRecDepth 100000
section
variable {w wS w' w0 : World} {B b1 b3 b5 b11 : Nat} {X : Nat → Prop} {ρ : RPg} {p p' : Pg} {o : WOp} {Kn : World → Prop} {Kr : Bool → World → Prop}
theorem fin_of {wS w' : World} (h : PM wS B X ρ p) {ρ' : RPg} (e : ρ'.P = ρ.P) (h' : PM w' B X ρ' p') (hn : ∀ k, PN ρ' k → PN ρ k ∨ wS.heap.size ≤ k) (k : Keeps (fun k => PN ρ k ∨ wS.heap.size ≤ k) wS w') : AsR wS B X ρ p' w' :=
  ⟨⟨ρ', e, h', hn⟩, k.mono fun i hi hk => hk.elim id fun h => by omega⟩
set_option maxHeartbeats 1600000 in
theorem j0_t (hk12 : o.kind = 1 ∨ o.kind = 2) (h : PM wS B X ρ p) (hX : ∀ k, X k → k < wS.heap.size) (ho0 : OkW w0 o) (gw : Below w0.heap.size w0 wS) (hB : w0.heap.size ≤ B) (g : Below wS.heap.size wS w)
    (i1 : HB w b1 z4 TRp) (i3 : HB w b3 (wopE o).toArray TWo) (i5 : HB w b5 z4 TRp) (hb1 : wS.heap.size ≤ b1) (hb3 : wS.heap.size ≤ b3) (hb5 : wS.heap.size ≤ b5) (n35 : b3 ≠ b5)
    (hr : ∀ b w', (∃ x0 x1 x2 A n c, HB w' b5 (r4 x0 x1 x2 A n c) TRp) → AsR wS B X ρ (doP p o) w' → Kr b w') :
    f_law08_asks.j0 ⟨ρ.P, 0, none⟩ ⟨b1, 0, none⟩ ⟨b3, 0, none⟩ ⟨b5, 0, none⟩ o.kind true w Kn Kr := by
  have hl1 := ho0.l1
  have gok : ∀ {w' : World}, Below wS.heap.size wS w' → OkW w' o := fun g' => (ho0.below gw).below g'
  have ho := gok g
  unfold f_law08_asks.j0
  refine sel_t rfl (hb_ldS i3 (j := 2) (A := o.A1) (n := o.data.length) (c := o.c1) rfl ((Wide_ok ho.r1 ho.l1).mono ?_))
  rintro _ w6 ⟨A6, c6, rfl, o6, g6⟩
  have hml : marks.length = 64 := rfl
  have hl6 : (o.data ++ marks).length = o.data.length + 64 := by rw [List.length_append, hml]
  have hc6 : o.data.length + 64 ≤ c6 := by have := o6.le; omega
  obtain ⟨a6, ea6, _⟩ := o6.reads 0 (by omega)
  have hb6 := o6.block a6 ea6
  have sz := g.size
  have sz6 := g6.size
  refine ⟨_, _, _, rfl, ldR (i1.below g6) (al_new fun w7 b16 e16 s7 h16 g7 => stR (show HB w7 b16 z4 TRp from h16) fun w8 h8 k8 => hb_ldI0 (((i3.below g6).below g7).keeps k8 (by have := i3.lt; omega)) (x := o.kind) rfl ?_)⟩
  have sz8 := k8.size
  have g8 : Below w6.heap.size w6 w8 := g7.trans (k8.below (by omega) fun k hk e => by omega)
  have gd : Below w8.heap.size w8 w8.drew := (Below.refl _ _).drew
  have g9 : Below w6.heap.size w6 w8.drew := g8.trans (gd.mono (by omega))
  obtain ⟨w9, hw9⟩ : ∃ w9, w8.drew = w9 := ⟨_, rfl⟩
  have sz9 : w9.heap.size = w8.heap.size := by rw [← hw9]; rfl
  rw [hw9] at g9
  have gS9 : Below wS.heap.size wS w9 := (g.trans (g6.mono sz)).trans (g9.mono (by omega))
  have j1' := (i1.below g6).below g9
  have j3' := (i3.below g6).below g9
  have j5' := (i5.below g6).below g9
  have j16 : HB w9 b16 z4 TRp := by rw [← hw9]; exact HB.below h8 gd
  have o9 := o6.keep g9
  have esl : slA A6 0 c6 1 = A6 := by
    unfold slA
    rw [if_neg (by omega), ea6]
    show some (a6.add (0 * 1)) = some a6
    rw [Nat.zero_mul, Go.Dn.add_zero]
  have rb9 : Go.Dn.RB w9 A6 o.data := fun i hi => by
    obtain ⟨a, ea, hc⟩ := o9.reads i (by omega)
    exact ⟨a, ea, by rw [hc, List.getElem_append_left hi]⟩
  have hM : PM w9 B (fun k => X k ∨ (wS.heap.size ≤ k ∧ k < w9.heap.size)) ρ p := (h.outX (X' := fun k => X k ∨ (wS.heap.size ≤ k ∧ k < w9.heap.size)) fun k hk hx => hx.elim id fun e => by omega).below gS9
  have hX' : ∀ k, (X k ∨ (wS.heap.size ≤ k ∧ k < w9.heap.size)) → k < w9.heap.size := fun k hk => hk.elim (fun e => by have := hX k e; have := gS9.size; omega) fun e => e.2
  have hp : ∀ k, PN ρ k → k < wS.heap.size := fun k hk => (h.lt k hk).1
  have b6S : wS.heap.size ≤ a6.block ∧ a6.block < w9.heap.size := by omega
  have ob6 : ∀ {k}, Ob A6 k → k = a6.block := fun {k} ⟨a, ea, e⟩ => by rw [ea6] at ea; cases ea; exact e.symm
  have b1w := i1.lt
  have b3w := i3.lt
  have b5w := i5.lt
  have tail : ∀ (w10 : World) (ρ' : RPg), ρ'.P = ρ.P → PM w10 B (fun k => X k ∨ (wS.heap.size ≤ k ∧ k < w9.heap.size)) ρ' (doP p o) → (∀ k, PN ρ' k → PN ρ k ∨ w9.heap.size ≤ k) → Keeps (PN ρ) w9 w10 → ∀ (w11 : World), Below w10.heap.size w10 w11 → ∀ (y0 y1 y2 : Int) (A' : Option Addr) (n' c' : Nat) (f f' : Int),
      stW w11 (⟨b16, 0, Option.none⟩ : Addr) (.int .i64 y0) fun w39 =>
      stW w39 ((⟨b16, 0, Option.none⟩ : Addr).add 1) (.int .u8 y1) fun w40 =>
      stW w40 ((⟨b16, 0, Option.none⟩ : Addr).add 2) (.int .u32 y2) fun w41 =>
      stW w41 ((⟨b16, 0, Option.none⟩ : Addr).add 3) (.slice A' n' c') fun w42 =>
      f_law08_asks.j1 (⟨b3, 0, Option.none⟩ : Addr) (⟨b5, 0, Option.none⟩ : Addr) A6 (o.data ++ marks).length c6 f f' (⟨b16, 0, Option.none⟩ : Addr) w42 (fun (b61 : Bool) (w62 : World) => ∀ _ : Fr, Kr b61 w62) := by
    intro w10 ρ' eP' h10 n10 k10 w11 g11 y0 y1 y2 A' n' c' f f'
    have np : ∀ {k : Nat}, wS.heap.size ≤ k → ¬ PN ρ k := fun {k} hk hn => by have := hp k hn; omega
    have k11 : Keeps (PN ρ) w9 w11 := k10.trans (.of_below g11)
    have sz11 := k11.size
    refine stR (j16.keeps k11 (np (by omega))) fun w12 h12 k12 => ?_
    have o12 : OwnB w12 w.heap.size TU8 A6 c6 (o.data ++ marks) := OwnB.keepsB (OwnB.keepsB o9 k11 fun a ea => np (by rw [ea6] at ea; cases ea; omega)) k12 fun a ea e => by rw [ea6] at ea; cases ea; omega
    have kk : Keeps (fun k => PN ρ k ∨ wS.heap.size ≤ k) wS w12 := ((Keeps.of_below gS9).trans (k11.mono fun _ _ => .inl)).trans (k12.mono fun _ _ e => .inr (by omega))
    have h11 := h10.below g11
    have nS : ∀ k, PN ρ' k → ¬ (Ob A6 k ∨ k = b5 ∨ k = b16) := fun k hk he => by
      have hlt : wS.heap.size ≤ k ∧ k < w9.heap.size := by
        rcases he with e | e | e
        · rw [ob6 e]; exact b6S
        · omega
        · omega
      rcases n10 k hk with q | q
      · have := hp k q; omega
      · omega
    have h12' := h11.keepsX k12 (fun k hk e => nS k hk (.inr (.inr e))) fun k e => .inr (by omega)
    have okw12 : OkW w12 o := by
      have : Below w0.heap.size w0 w12 := gw.trans (kk.below (by have := gw.size; omega) fun i hi he => by
        rcases he with q | q
        · have := (h.lt i q).2; omega
        · have := gw.size; omega)
      exact ho0.below this
    refine j1_go o12 rfl okw12 (fun _ _ _ _ => trivial) ((j3'.keeps k11 (np hb3)).keeps k12 (by omega)) ((j5'.keeps k11 (np hb5)).keeps k12 (by omega)) h12 (fun e => by have := ob6 e; omega) (fun e => by have := ob6 e; omega) (fun e => by have := ob6 e; omega) fun b w13 hb5' k13 _ => hr b w13 hb5' ?_
    have h13 := h12'.keepsX k13 (fun k hk e => nS k hk (e.imp id .inl)) fun k e => .inr (by
      rcases e with e | e
      · rw [ob6 e]; exact b6S
      · omega)
    refine fin_of h eP' (h13.outX fun k _ => .inl) (fun k hk => (n10 k hk).imp id fun e => by omega) (kk.trans (k13.mono fun k _ e => .inr ?_))
    rcases e with e | e
    · rw [ob6 e]; exact b6S.1
    · omega
  rcases hk12 with hk | hk
  · refine sel_t (by rw [hk]; rfl) (drW_intro ?_)
    rw [hw9]
    refine hb_ldI j3' (j := 1) (x := o.n) rfl (hb_ldS j3' (j := 2) (A := o.A1) (n := o.data.length) (c := o.c1) rfl (req_intro (by simp; omega) ?_))
    rw [esl, Int.toNat_natCast, Nat.sub_zero, Nat.sub_zero]
    refine (Insert_pg hM (i := o.n) rb9 rfl hl1 hX').mono ?_
    rintro _ w10 ⟨ρ', rfl, eP', h10, n10, k10⟩
    have np : ∀ {k : Nat}, wS.heap.size ≤ k → ¬ PN ρ k := fun {k} hk hn => by have := hp k hn; omega
    have ed : doP p o = (insL p o.n o.data).1 := by unfold doP; rw [if_pos hk]
    have m1 := j1'.keeps k10 (np hb1)
    have m3 := j3'.keeps k10 (np hb3)
    have okw : OkW w10 o := ho0.below (gw.trans (((Keeps.of_below gS9).trans k10 |>.mono (S' := fun k => PN ρ k ∨ wS.heap.size ≤ k) fun _ _ => .inl).below (by have := gw.size; omega) fun i hi he => by
      rcases he with q | q
      · have := (h.lt i q).2; omega
      · have := gw.size; omega))
    refine ⟨_, rfl, ldR m1 (hb_ldI m3 (j := 1) (x := o.n) rfl (hb_ldS m3 (j := 2) (A := o.A1) (n := o.data.length) (c := o.c1) rfl ((R0Insert o.n okw.r1 rfl hl1).mono ?_)))⟩
    rintro _ w11 ⟨x0, x1, x2, A', n', c', f, rfl, g11⟩
    exact ⟨_, _, _, _, _, _, _, rfl, tail w10 ρ' eP' (by rw [ed]; exact h10) n10 k10 w11 g11 _ _ _ _ _ _ _ _⟩
  · refine sel_f (by rw [hk]; rfl) (drW_intro ?_)
    rw [hw9]
    refine hb_ldI j3' (j := 1) (x := o.n) rfl (hb_ldS j3' (j := 2) (A := o.A1) (n := o.data.length) (c := o.c1) rfl (req_intro (by simp; omega) ?_))
    rw [esl, Int.toNat_natCast, Nat.sub_zero, Nat.sub_zero]
    refine (Replace_pg hM (i := o.n) rb9 rfl hl1 hX').mono ?_
    rintro _ w10 ⟨rfl, h10, k10⟩
    have np : ∀ {k : Nat}, wS.heap.size ≤ k → ¬ PN ρ k := fun {k} hk hn => by have := hp k hn; omega
    have ed : doP p o = (repL p o.n o.data).1 := by unfold doP; rw [if_neg (by omega), if_pos hk]
    have m1 := j1'.keeps k10 (np hb1)
    have m3 := j3'.keeps k10 (np hb3)
    refine ⟨_, rfl, ldR m1 (hb_ldI m3 (j := 1) (x := o.n) rfl (hb_ldS m3 (j := 2) (A := o.A1) (n := o.data.length) (c := o.c1) rfl ((R0Replace o.n w10 (u := o.data)).mono ?_)))⟩
    rintro _ w11 ⟨x0, x1, x2, A', n', c', f, rfl, g11⟩
    exact ⟨_, _, _, _, _, _, _, rfl, tail w10 ρ rfl (by rw [ed]; exact h10) (fun k => .inl) k10 w11 g11 _ _ _ _ _ _ _ _⟩
set_option maxHeartbeats 1600000 in
theorem j0_f (q1 : o.kind ≠ 1) (q2 : o.kind ≠ 2) (h : PM wS B X ρ p) (ho : OkW wS o) (g : Below wS.heap.size wS w)
    (i1 : HB w b1 z4 TRp) (i3 : HB w b3 (wopE o).toArray TWo) (i5 : HB w b5 z4 TRp) (hb1 : wS.heap.size ≤ b1) (hb3 : wS.heap.size ≤ b3) (hb5 : wS.heap.size ≤ b5) (n15 : b1 ≠ b5)
    (hr : ∀ b w', (∃ x0 x1 x2 A n c, HB w' b5 (r4 x0 x1 x2 A n c) TRp) → AsR wS B X ρ (doP p o) w' → Kr b w')
    (hn : ∀ w', (∃ x0 x1 x2 A n c, HB w' b1 (r4 x0 x1 x2 A n c) TRp) → HB w' b5 z4 TRp → AsR wS B X ρ (doP p o) w' → Kn w') :
    f_law08_asks.j0 ⟨ρ.P, 0, none⟩ ⟨b1, 0, none⟩ ⟨b3, 0, none⟩ ⟨b5, 0, none⟩ o.kind false w Kn Kr := by
  have hp : ∀ k, PN ρ k → k < wS.heap.size := fun k hk => (h.lt k hk).1
  have np : ∀ {k : Nat}, wS.heap.size ≤ k → ¬ PN ρ k := fun {k} hk hn => by have := hp k hn; omega
  have hw := h.below g
  have sz := g.size
  have b1w := i1.lt
  have b3w := i3.lt
  have b5w := i5.lt
  have t5 : ∀ {w' : World} {x0 x1 x2 : Int} {A : Option Addr} {n c : Nat} {b : Nat}, HB w' b (r4 x0 x1 x2 A n c) TRp → ∀ cs, ¬ HB w' b cs TU8 := fun hb cs hc => absurd (HB.ty hc hb) (by decide)
  unfold f_law08_asks.j0
  refine sel_f rfl ?_
  by_cases q3 : o.kind = 3
  · have ed : doP p o = (remL p o.n).1 := by unfold doP; rw [if_neg q1, if_neg q2, if_pos q3]
    refine sel_t (by rw [q3]; rfl) (hb_ldI i3 (j := 1) (x := o.n) rfl ((Remove_pg hw (i := o.n)).mono ?_))
    rintro _ w10 ⟨rfl, h10, k10⟩
    have m1 := i1.keeps k10 (np hb1)
    have m3 := i3.keeps k10 (np hb3)
    have m5 := i5.keeps k10 (np hb5)
    have sz10 := k10.size
    refine ⟨_, rfl, ldR m1 (hb_ldI m3 (j := 1) (x := o.n) rfl ((R0Remove w10 o.n).mono ?_))⟩
    rintro _ w11 ⟨rfl, g11⟩
    have sz11 := g11.size
    refine ⟨_, _, _, _, _, _, _, rfl, al_new fun w12 b12 e12 s12 h12 g12 => stR (show HB w12 b12 z4 TRp from h12) fun w13 h13 k13 => ldR h13 (stR (((m5.below g11).below g12).keeps k13 (by omega)) fun w14 h14 k14 => hr _ _ ⟨_, _, _, _, _, _, h14⟩ ?_)⟩
    have g13 : Below w10.heap.size w10 w13 := (g11.trans (g12.mono sz11)).trans (k13.below (by omega) fun k hk e => by omega)
    rw [ed]
    refine fin_of h rfl ((h10.below g13).keepsT k14 (fun k hk e => by have := hp k hk; omega) fun k e => by subst e; exact t5 ((m5.below g13))) (fun k => .inl) ?_
    exact ((((Keeps.of_below g).trans (k10.mono fun _ _ => .inl)).trans (.of_below g13))).trans (k14.mono fun _ _ e => .inr (by omega))
  refine sel_f (by simpa using q3) ?_
  by_cases q4 : o.kind = 4
  · have ed : doP p o = p := by unfold doP; rw [if_neg q1, if_neg q2, if_neg q3, if_neg (by omega), if_neg (by omega)]
    refine sel_t (by rw [q4]; rfl) (hb_ldI i3 (j := 1) (x := o.n) rfl ((Item_pg hw (i := o.n)).mono ?_))
    rintro _ w10 ⟨A10, c10, x10, f10, rfl, o10, g10, _⟩
    have h10 := hw.below g10
    refine ⟨_, _, _, _, rfl, hb_ldI (i3.below g10) (j := 1) (x := o.n) rfl ((Item_pg h10 (i := o.n)).mono ?_)⟩
    rintro _ w11 ⟨A11, c11, x11, f11, rfl, o11, g11, _⟩
    have h11 := h10.below g11
    have m1 := (i1.below g10).below g11
    have m3 := (i3.below g10).below g11
    have m5 := (i5.below g10).below g11
    have gS : Below wS.heap.size wS w11 := (g.trans (g10.mono sz)).trans (g11.mono (by have := g10.size; omega))
    have fin : ∀ {w12 : World}, Keeps (fun k => k = b5) w11 w12 → AsR wS B X ρ (doP p o) w12 := fun {w12} k12 => by
      rw [ed]
      exact fin_of h rfl (h11.keepsT k12 (fun k hk e => by have := hp k hk; omega) fun k e => by subst e; exact t5 m5) (fun k => .inl) ((Keeps.of_below gS).trans (k12.mono fun _ _ e => .inr (by omega)))
    refine ⟨_, _, _, _, rfl, hb_ldI m3 (j := 1) (x := o.n) rfl ?_⟩
    by_cases c1 : o.n < 0
    · refine sel_t (by simpa using c1) (ldR m1 ?_)
      by_cases c2 : (f10 == 82) = true
      · exact sel_t c2 (stR m5 fun w12 h12 k12 => hr _ _ ⟨_, _, _, _, _, _, h12⟩ (fin k12))
      · exact sel_f (by simpa using c2) (stR m5 fun w12 h12 k12 => hr _ _ ⟨_, _, _, _, _, _, h12⟩ (fin k12))
    · refine sel_f (by simpa using c1) (hb_ldI m3 (j := 1) (x := o.n) rfl (hb_ldS m1 (j := 3) rfl (sel_t (by simp; omega) (ldR m1 ?_))))
      by_cases c2 : (f10 == 82) = true
      · exact sel_t c2 (stR m5 fun w12 h12 k12 => hr _ _ ⟨_, _, _, _, _, _, h12⟩ (fin k12))
      · exact sel_f (by simpa using c2) (stR m5 fun w12 h12 k12 => hr _ _ ⟨_, _, _, _, _, _, h12⟩ (fin k12))
  refine sel_f (by simpa using q4) ?_
  by_cases q5 : o.kind = 5
  · have ed : doP p o = { p with extra := (IntKind.u32.wrap o.n).toNat } := by unfold doP; rw [if_neg q1, if_neg q2, if_neg q3, if_pos q5]
    obtain ⟨x, hx, hxl⟩ : ∃ x : Nat, IntKind.u32.wrap o.n = (x : Int) ∧ x < 4294967296 := ⟨(o.n % 4294967296).toNat, by rw [u32w]; omega, by omega⟩
    refine sel_t (by rw [q5]; rfl) (hb_ldI i3 (j := 1) (x := o.n) rfl ?_)
    rw [hx]
    refine (SetExtra_pg hw hxl).mono ?_
    rintro _ w10 ⟨rfl, h10, k10⟩
    have nP : ∀ {k : Nat}, wS.heap.size ≤ k → ¬ k = ρ.P := fun {k} hk e => by have := hp ρ.P (.inl rfl); omega
    have m1 := i1.keeps k10 (nP hb1)
    have m3 := i3.keeps k10 (nP hb3)
    have m5 := i5.keeps k10 (nP hb5)
    refine ⟨rfl, hb_ldI m3 (j := 1) (x := o.n) rfl (hb_st m1 (by simp [r4]) fun w11 h11 k11 => hn _ ⟨0, 0, _, none, 0, 0, h11⟩ (m5.keeps k11 (by omega)) ?_)⟩
    rw [ed, hx, Int.toNat_natCast]
    refine fin_of h rfl (h10.keepsT k11 (fun k hk e => by have := hp k hk; omega) fun k e => by subst e; exact t5 m1) (fun k => .inl) ?_
    exact ((Keeps.of_below g).trans (k10.mono fun _ _ e => .inl (.inl e))).trans (k11.mono fun _ _ e => .inr (by omega))
  refine sel_f (by simpa using q5) ?_
  by_cases q6 : o.kind = 6
  · have ed : doP p o = { p with lsn := o.n.toNat } := by unfold doP; rw [if_neg q1, if_neg q2, if_neg q3, if_neg q5, if_pos q6]
    refine sel_t (by rw [q6]; rfl) (hb_ldI i3 (j := 1) (x := o.n) rfl ((SetLSN_pg hw ho.n1.2).mono ?_))
    rintro _ w10 ⟨rfl, h10, k10⟩
    have nP : ∀ {k : Nat}, wS.heap.size ≤ k → ¬ k = ρ.P := fun {k} hk e => by have := hp ρ.P (.inl rfl); omega
    have m1 := i1.keeps k10 (nP hb1)
    have m3 := i3.keeps k10 (nP hb3)
    have m5 := i5.keeps k10 (nP hb5)
    refine ⟨rfl, hb_ldI m3 (j := 1) (x := o.n) rfl (hb_st0 m1 (by simp [r4]) fun w11 h11 k11 => hn _ ⟨_, 0, 0, none, 0, 0, h11⟩ (m5.keeps k11 (by omega)) ?_)⟩
    rw [ed]
    refine fin_of h rfl (h10.keepsT k11 (fun k hk e => by have := hp k hk; omega) fun k e => by subst e; exact t5 m1) (fun k => .inl) ?_
    exact ((Keeps.of_below g).trans (k10.mono fun _ _ e => .inl (.inl e))).trans (k11.mono fun _ _ e => .inr (by omega))
  refine sel_f (by simpa using q6) ?_
  have ed : doP p o = p := by unfold doP; rw [if_neg q1, if_neg q2, if_neg q3, if_neg q5, if_neg q6]
  refine hn _ ⟨_, _, _, _, _, _, i1⟩ i5 ?_
  rw [ed]
  exact fin_of h rfl hw (fun k => .inl) (.of_below g)
theorem Asks_ok (h : PM w B X ρ p) (hX : ∀ k, X k → k < w.heap.size) (ho0 : OkW w0 o) (gw : Below w0.heap.size w0 w) (hB : w0.heap.size ≤ B) :
    Calls Tryd.prog 25 #[.pointer (some ⟨ρ.P, 0, none⟩), eP, .agg #[.int .i64 o.kind, .int .i64 o.n, .slice o.A1 o.data.length o.c1]] w fun e w' =>
      ∃ (x0 x1 x2 : Int) (A : Option Addr) (n c : Nat) (b : Bool), e = .returned (.tuple #[.agg #[.int .i64 x0, .int .u8 x1, .int .u32 x2, .slice A n c], .bool b]) ∧ AsR w B X ρ (doP p o) w' := by
  refine f_law08_asks.ok _ _ _ _ _ _ _ _ _ _ _ _ _ _ ?_
  unfold f_law08_asks.wp
  refine al_new fun w1 b1 e1 s1 h1 g1 => al_new fun w2 b3 e2 s2 h2 g2 => al_new fun w3 b5 e3 s3 h3 g3 => ?_
  have g03 : Below w.heap.size w w3 := (g1.trans (g2.mono g1.size)).trans (g3.mono (by omega))
  have i1 : HB w3 b1 z4 TRp := (h1.below g2).below g3
  have i3 : HB w3 b3 (wopE o).toArray TWo := h2.below g3
  have i5 : HB w3 b5 z4 TRp := h3
  have rN : ∀ w', (∃ x0 x1 x2 A n c, HB w' b1 (r4 x0 x1 x2 A n c) TRp) → HB w' b5 z4 TRp → AsR w B X ρ (doP p o) w' → ldI w' (⟨b1, 0, Option.none⟩ : Addr) .i64 fun x178 =>
      ldI w' ((⟨b1, 0, Option.none⟩ : Addr).add 1) .u8 fun x179 =>
      ldI w' ((⟨b1, 0, Option.none⟩ : Addr).add 2) .u32 fun x180 =>
      ldS w' ((⟨b1, 0, Option.none⟩ : Addr).add 3) fun A181 n181 c181 =>
      stW w' (⟨b5, 0, Option.none⟩ : Addr) (.int .i64 x178) fun w182 =>
      stW w182 ((⟨b5, 0, Option.none⟩ : Addr).add 1) (.int .u8 x179) fun w183 =>
      stW w183 ((⟨b5, 0, Option.none⟩ : Addr).add 2) (.int .u32 x180) fun w184 =>
      stW w184 ((⟨b5, 0, Option.none⟩ : Addr).add 3) (.slice A181 n181 c181) fun w185 =>
      ldI w185 (⟨b5, 0, Option.none⟩ : Addr) .i64 fun x186 =>
      ldI w185 ((⟨b5, 0, Option.none⟩ : Addr).add 1) .u8 fun x187 =>
      ldI w185 ((⟨b5, 0, Option.none⟩ : Addr).add 2) .u32 fun x188 =>
      ldS w185 ((⟨b5, 0, Option.none⟩ : Addr).add 3) fun A189 n189 c189 =>
      ∃ (x0 x1 x2 : Int) (A : Option Addr) (n c : Nat) (b : Bool), Ending.returned (.tuple #[.agg #[.int .i64 x186, .int .u8 x187, .int .u32 x188, .slice A189 n189 c189], .bool true]) = .returned (.tuple #[.agg #[.int .i64 x0, .int .u8 x1, .int .u32 x2, .slice A n c], .bool b]) ∧ AsR w B X ρ (doP p o) w185 := by
    rintro w' ⟨x0, x1, x2, A, n, c, m1⟩ m5 ha
    refine ldR m1 (stR m5 fun w4 h4 k4 => ldR h4 ⟨_, _, _, _, _, _, _, rfl, ?_⟩)
    obtain ⟨⟨ρ', eP', h', n'⟩, ks⟩ := ha
    refine ⟨⟨ρ', eP', h'.keepsT k4 (fun k hk e => ?_) (fun k e cs hc => ?_), n'⟩, ks.trans' k4 fun k hk e => by omega⟩
    · subst e
      rcases n' _ hk with q | q
      · have := (h.lt _ q).1; omega
      · obtain ⟨ms, u1, u2⟩ := h'.rc
        rcases hk with e | e
        · exact absurd (HB.ty (e ▸ h'.hb) m5) (by decide)
        · obtain ⟨a, ha, e⟩ := e
          obtain ⟨cs, hc⟩ := own_hb u1 ha
          rw [e] at hc
          exact absurd (HB.ty hc m5) (by decide)
    · subst e; exact absurd (HB.ty hc m5) (by decide)
  have rR : ∀ (b : Bool) w', (∃ x0 x1 x2 A n c, HB w' b5 (r4 x0 x1 x2 A n c) TRp) → AsR w B X ρ (doP p o) w' → ldI w' (⟨b5, 0, Option.none⟩ : Addr) .i64 fun x186 =>
      ldI w' ((⟨b5, 0, Option.none⟩ : Addr).add 1) .u8 fun x187 =>
      ldI w' ((⟨b5, 0, Option.none⟩ : Addr).add 2) .u32 fun x188 =>
      ldS w' ((⟨b5, 0, Option.none⟩ : Addr).add 3) fun A189 n189 c189 =>
      ∃ (x0 x1 x2 : Int) (A : Option Addr) (n c : Nat) (b' : Bool), Ending.returned (.tuple #[.agg #[.int .i64 x186, .int .u8 x187, .int .u32 x188, .slice A189 n189 c189], .bool b]) = .returned (.tuple #[.agg #[.int .i64 x0, .int .u8 x1, .int .u32 x2, .slice A n c], .bool b']) ∧ AsR w B X ρ (doP p o) w' := by
    rintro b w' ⟨x0, x1, x2, A, n, c, m5⟩ ha
    exact ldR m5 ⟨_, _, _, _, _, _, _, rfl, ha⟩
  have hb : w.heap.size ≤ b1 ∧ w.heap.size ≤ b3 ∧ w.heap.size ≤ b5 ∧ b3 ≠ b5 ∧ b1 ≠ b5 := by omega
  obtain ⟨hb1, hb3, hb5, n35, n15⟩ := hb
  refine hb_ldI0 i3 (x := o.kind) rfl ?_
  by_cases q1 : o.kind = 1
  · refine sel_t (by rw [q1]; rfl) ?_
    rw [show (o.kind == 1) = true by rw [q1]; rfl]
    exact j0_t (.inl q1) h hX ho0 gw hB g03 i1 i3 i5 hb1 hb3 hb5 n35 fun b w' a1 a2 _ => rR b w' a1 a2
  · refine sel_f (by simpa using q1) ?_
    by_cases q2 : o.kind = 2
    · rw [show (o.kind == 2) = true by rw [q2]; rfl]
      exact j0_t (.inr q2) h hX ho0 gw hB g03 i1 i3 i5 hb1 hb3 hb5 n35 fun b w' a1 a2 _ => rR b w' a1 a2
    · rw [show (o.kind == 2) = false by simpa using q2]
      exact j0_f q1 q2 h (ho0.below gw) g03 i1 i3 i5 hb1 hb3 hb5 n15 (fun b w' a1 a2 _ => rR b w' a1 a2) fun w' a1 a2 a3 _ => rN w' a1 a2 a3
end
end Go.Proofs.YtifambgaekjilaaDoor.Rd
