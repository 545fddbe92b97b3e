/- The document's disk in memory: Read, Write, Sync. Conditions: none. -/
import Derived.Test.YthekjlglnmhlaaaDlC
namespace Go.Proofs.Ythekjlglnmhlaaa.Rd
open Go.Dn Go.RowKit Go.Shelf
set_option linter.unusedVariables false
set_option linter.unusedSimpArgs false
set_option maxRecDepth 100000
theorem cell_belw {w w' : World} (g : Below w.heap.size w w') {a : Addr} {v : Value} (h : w.cell? a = some v) : w'.cell? a = some v := by
  rw [g.cell (World.block_lt_of_cell? w _ h)]; exact h
/-- a disk of the document goes from one box into another, and out of it -/
theorem rv_ret {w : World} {b1 b3 : Nat} {t1 t3 : TypeId} {v : RV} {cs : Array Value} (h1 : HB w b1 (rvC v) t1) (h3 : HB w b3 cs t3) (hs : cs.size = 4)
    {K : Option Addr → Nat → Nat → Option Addr → Nat → Nat → Int → Bool → World → Prop} (k : ∀ w', Keeps (fun k => k = b3) w w' → HB w' b3 (rvC v) t3 → K v.A v.n v.c v.P v.pn v.pc v.st v.off w') :
    ldS w (⟨b1, 0, Option.none⟩ : Addr) fun A14 n14 c14 =>
    ldS w ((⟨b1, 0, Option.none⟩ : Addr).add 1) fun A15 n15 c15 =>
    ldI w ((⟨b1, 0, Option.none⟩ : Addr).add 2) .i64 fun x16 =>
    ldB w ((⟨b1, 0, Option.none⟩ : Addr).add 3) fun b17 =>
    stW w (⟨b3, 0, Option.none⟩ : Addr) (.slice A14 n14 c14) fun w10 =>
    stW w10 ((⟨b3, 0, Option.none⟩ : Addr).add 1) (.slice A15 n15 c15) fun w11 =>
    stW w11 ((⟨b3, 0, Option.none⟩ : Addr).add 2) (.int .i64 x16) fun w12 =>
    stW w12 ((⟨b3, 0, Option.none⟩ : Addr).add 3) (.bool b17) fun w13 =>
    ldS w13 (⟨b3, 0, Option.none⟩ : Addr) fun A14 n14 c14 =>
    ldS w13 ((⟨b3, 0, Option.none⟩ : Addr).add 1) fun A15 n15 c15 =>
    ldI w13 ((⟨b3, 0, Option.none⟩ : Addr).add 2) .i64 fun x16 =>
    ldB w13 ((⟨b3, 0, Option.none⟩ : Addr).add 3) fun b17 => K A14 n14 c14 A15 n15 c15 x16 b17 w13 := by
  obtain ⟨z0, z1, z2, z3, rfl⟩ : ∃ z0 z1 z2 z3, cs = #[z0, z1, z2, z3] := by
    rcases cs with ⟨l⟩
    match l, hs with
    | [z0, z1, z2, z3], _ => exact ⟨z0, z1, z2, z3, rfl⟩
  refine hb_ldS0 h1 rfl (hb_ldS (j := 1) h1 (A := v.P) (n := v.pn) (c := v.pc) rfl (hb_ldI (j := 2) h1 (x := v.st) rfl (hb_ldB (j := 3) h1 (x := v.off) rfl ?_)))
  refine hb_st0 h3 (by simp) fun w6 h6 k6 => hb_st h6 (by simp) fun w7 h7 k7 => hb_st h7 (by simp) fun w8 h8 k8 => hb_st h8 (by simp) fun w9 h9 k9 => ?_
  exact hb_ldS0 h9 rfl (hb_ldS (j := 1) h9 rfl (hb_ldI (j := 2) h9 rfl (hb_ldB (j := 3) h9 rfl (k w9 (((k6.trans k7).trans k8).trans k9) h9))))
section
variable {w w' : World} {N S : Nat → Prop} {d : Dk} {v : RV}
/-- blocks to keep out of: the given ones, and the boxes of this call -/
def NN (N : Nat → Prop) (a b : Nat) (k : Nat) : Prop := N k ∨ (a ≤ k ∧ k < b)
theorem NN.up {a b : Nat} : ∀ k, k < a → NN N a b k → N k := fun k hk h => h.elim id fun h => by omega
theorem NN.dn {a b : Nat} : ∀ k, N k → NN N a b k := fun k => .inl
theorem NN.lt {a b : Nat} (hN : ∀ k, N k → k < a) (hab : a ≤ b) : ∀ k, NN N a b k → k < b := fun k h => h.elim (fun h => by have := hN k h; omega) fun h => h.2
/-! ### Read -/
theorem RRead_ok (h : RM w N v d) (i : Int) : Calls Try.prog 45 #[rvE v, .int .i64 i] w fun e w' => (∃ A n c x, e = .returned (.tuple #[.slice A n c, .int .i64 x]) ∧
      ((d.off = true ∧ A = none ∧ n = 0 ∧ x = 70) ∨ (d.off = false ∧ (i < 0 ∨ (d.safe.length : Int) ≤ i) ∧ A = none ∧ n = 0 ∧ x = 1) ∨
       (d.off = false ∧ 0 ≤ i ∧ i < d.safe.length ∧ x = 0 ∧ n = 512 ∧ OwnE eB 1 w' w.heap.size 5 A c (hasS d i).1))) ∧ Below w.heap.size w w' := by
  apply f_ref07_Read.ok
  unfold f_ref07_Read.wp
  refine al_new fun w1 b1 e1 s1 hb1 g1 => ?_
  have hb1 : HB w1 b1 (rvC v) TRd := hb1
  have h1 := h.belw g1
  refine hb_ldB (j := 3) hb1 (x := v.off) rfl ?_
  by_cases ho : d.off = true
  · exact sel_t (h.off.trans ho) ⟨⟨_, _, _, _, rfl, .inl ⟨ho, rfl, rfl, rfl⟩⟩, g1⟩
  have hof : d.off = false := by simpa using ho
  refine sel_f (h.off.trans hof) ?_
  by_cases c1 : i < 0
  · exact sel_t (by simpa using c1) ⟨⟨_, _, _, _, rfl, .inr (.inl ⟨hof, .inl c1, rfl, rfl, rfl⟩)⟩, g1⟩
  refine sel_f (by simpa using c1) (hb_ldS0 hb1 (A := v.A) (n := v.n) (c := v.c) rfl ?_)
  by_cases c2 : (d.safe.length : Int) ≤ i
  · exact sel_t (by rw [h.n]; simpa using c2) ⟨⟨_, _, _, _, rfl, .inr (.inl ⟨hof, .inr c2, rfl, rfl, rfl⟩)⟩, g1⟩
  refine sel_f (by rw [h.n]; simpa using c2) (hb_ldS0 hb1 (A := v.A) (n := v.n) (c := v.c) rfl ?_)
  obtain ⟨j, rfl⟩ := Int.eq_ofNat_of_zero_le (show 0 ≤ i by omega)
  have hj : j < d.safe.length := by omega
  refine h1.ms.ld hj h.n fun a0 m0 q0 q1 q2 hm0 => ?_
  rw [show ((j : Int).toNat) * 3 = j * 3 by omega]
  refine ldS_intro q0 (ldS_intro q1 (ldB_intro q2 ((Rhas_ok hm0).mono ?_)))
  rintro _ w2 ⟨A2, c2', rfl, r2, b2, g2⟩
  have e : ((lk d.pend (j : Int)).getD (d.safe.getD j z0)) = hasS d (j : Int) := by unfold hasS; rw [Int.toNat_natCast]
  rw [e] at r2
  have el : (hasS d (j : Int)).1.length = 512 := (hasS d (j : Int)).2
  refine ⟨_, _, _, rfl, (BCopy_ok r2 el.symm (by omega)).mono ?_⟩
  rintro _ w3 ⟨A3, c3, rfl, o3, g3⟩
  have s1' := g1.size
  have s2' := g2.size
  refine ⟨_, _, _, rfl, ⟨_, _, _, _, rfl, .inr (.inr ⟨hof, by omega, by omega, rfl, el, ?_⟩)⟩, (g1.trans (g2.mono g1.size)).trans (g3.mono (by omega))⟩
  exact ⟨o3.1, o3.2.imp id fun ⟨g, cap, cur, h1, h2, h3⟩ => ⟨g, cap, cur, h1, by omega, h3⟩⟩
/-! ### Write -/
theorem RWrite_ok (h : RM w N v d) (hN : ∀ k, N k → k < w.heap.size) {i : Int} {A : Option Addr} {n c : Nat} {l : List Int} (hr : RB w A l) (hn : n = l.length) (hl : l.length ≤ 140737488355328) :
    Calls Try.prog 47 #[rvE v, .int .i64 i, .slice A n c] w fun e w' => ∃ v', e = .returned (.tuple #[rvE v', .int .i64 (wrC d i l)]) ∧ RM w' N v' (wrD d i l) ∧ Below w.heap.size w w' := by
  subst hn
  apply f_ref07_Write.ok
  unfold f_ref07_Write.wp
  refine al_new fun w1 b1 e1 s1 hb1 g1 => al_new fun w2 b3 e3 s3 hb3 g2 => ?_
  have hb1 : HB w2 b1 (rvC v) TRd := HB.below (cs := rvC v) hb1 g2
  have G2 := g1.trans (g2.mono g1.size)
  have s0 := G2.size
  have h2 := h.belw G2
  have up : ∀ {W W' : World}, Below w.heap.size w W → Keeps (fun k => k = b3) W W' → Below w.heap.size w W' := fun g k => g.trans (k.below g.size fun i hi e => by omega)
  have up1 : ∀ {W W' : World}, Below w.heap.size w W → Keeps (fun k => k = b1) W W' → Below w.heap.size w W' := fun g k => g.trans (k.below g.size fun i hi e => by omega)
  have bad : ∀ x : Int, wrC d i l = x → wrD d i l = d → ∀ {W : World}, HB W b1 (rvC v) TRd → HB W b3 #[.slice none 0 0, .slice none 0 0, .int .i64 (0 : Int), .bool false] TRd → Below w.heap.size w W →
      ldS W (⟨b1, 0, Option.none⟩ : Addr) fun A14 n14 c14 =>
      ldS W ((⟨b1, 0, Option.none⟩ : Addr).add 1) fun A15 n15 c15 =>
      ldI W ((⟨b1, 0, Option.none⟩ : Addr).add 2) .i64 fun x16 =>
      ldB W ((⟨b1, 0, Option.none⟩ : Addr).add 3) fun b17 =>
      stW W (⟨b3, 0, Option.none⟩ : Addr) (.slice A14 n14 c14) fun w10 =>
      stW w10 ((⟨b3, 0, Option.none⟩ : Addr).add 1) (.slice A15 n15 c15) fun w11 =>
      stW w11 ((⟨b3, 0, Option.none⟩ : Addr).add 2) (.int .i64 x16) fun w12 =>
      stW w12 ((⟨b3, 0, Option.none⟩ : Addr).add 3) (.bool b17) fun w13 =>
      ldS w13 (⟨b3, 0, Option.none⟩ : Addr) fun A14 n14 c14 =>
      ldS w13 ((⟨b3, 0, Option.none⟩ : Addr).add 1) fun A15 n15 c15 =>
      ldI w13 ((⟨b3, 0, Option.none⟩ : Addr).add 2) .i64 fun x16 =>
      ldB w13 ((⟨b3, 0, Option.none⟩ : Addr).add 3) fun b17 =>
      (∃ v', Ending.returned (.tuple #[.agg #[.slice A14 n14 c14, .slice A15 n15 c15, .int .i64 x16, .bool b17], .int .i64 x]) = .returned (.tuple #[rvE v', .int .i64 (wrC d i l)]) ∧ RM w13 N v' (wrD d i l) ∧ Below w.heap.size w w13) := fun x ex ed W q1 q3 g => by
    refine rv_ret q1 q3 rfl fun w' k' _ => ⟨v, by rw [ex]; rfl, ?_, up g k'⟩
    rw [ed]
    exact h.belw (up g k')
  refine hb_ldB (j := 3) hb1 (x := v.off) rfl ?_
  by_cases ho : d.off = true
  · exact sel_t (h.off.trans ho) (bad 70 (by unfold wrC; rw [if_pos ho]) (by unfold wrD; rw [if_pos ho]) hb1 hb3 G2)
  have hof : d.off = false := by simpa using ho
  refine sel_f (h.off.trans hof) ?_
  have badw : wrBad d i l → wrC d i l = 1 ∧ wrD d i l = d := fun hb => by
    constructor
    · unfold wrC; rw [if_neg ho, if_pos hb]
    · unfold wrD; rw [if_neg ho, if_pos hb]
  by_cases c1 : i < 0
  · exact sel_t (by simpa using c1) (bad 1 (badw (.inl c1)).1 (badw (.inl c1)).2 hb1 hb3 G2)
  refine sel_f (by simpa using c1) (hb_ldS0 hb1 (A := v.A) (n := v.n) (c := v.c) rfl ?_)
  by_cases c2 : (d.safe.length : Int) ≤ i
  · exact sel_t (by rw [h.n]; simpa using c2) (bad 1 (badw (.inr (.inl c2))).1 (badw (.inr (.inl c2))).2 hb1 hb3 G2)
  refine sel_f (by rw [h.n]; simpa using c2) ?_
  by_cases c3 : 512 < l.length
  · exact sel_t (by simp; omega) (bad 1 (badw (.inr (.inr c3))).1 (badw (.inr (.inr c3))).2 hb1 hb3 G2)
  refine sel_f (by simp; omega) ?_
  have nb : ¬ wrBad d i l := by unfold wrBad; omega
  have eC : wrC d i l = stepC d := by unfold wrC; rw [if_neg ho, if_neg nb]
  have eD : wrD d i l = stepD d (putD i l) := by unfold wrD; rw [if_neg ho, if_neg nb]
  rw [eC, eD]
  obtain ⟨s, hs⟩ : ∃ s, wrap64 (d.steps + 1) = s := ⟨_, rfl⟩
  have hs' : IntKind.i64.wrap (v.st + 1) = s := by rw [wrap_eq, h.st]; exact hs
  refine hb_ldI (j := 2) hb1 (x := v.st) rfl (hb_st (j := 2) hb1 (by simp [rvC]) fun w3 hb1' k3 => ?_)
  rw [hs'] at hb1'
  have hb1s : HB w3 b1 (rvC { v with st := s }) TRd := hb1'
  have G3 := up1 G2 k3
  have n13 : b3 ≠ b1 := by omega
  have hb3 := hb3.keeps k3 n13
  obtain ⟨k, hk⟩ : ∃ k, fateOf s d.plan = k := ⟨_, rfl⟩
  have h3 := h.belw G3
  refine hb_ldS0 hb1s (A := v.A) (n := v.n) (c := v.c) rfl (hb_ldS (j := 1) hb1s (A := v.P) (n := v.pn) (c := v.pc) rfl (hb_ldI (j := 2) hb1s (x := s) rfl (hb_ldB (j := 3) hb1s (x := v.off) rfl ?_)))
  refine (Rfate_ok (v := { v with st := s }) (d := d) h3.pl h.pn h.pz).mono ?_
  rintro _ w4 ⟨rfl, g4⟩
  rw [show fateOf ({ v with st := s } : RV).st d.plan = k from hk]
  have G4 := G3.trans (g4.mono G3.size)
  have hb1 := hb1s.below g4
  have hb3 := hb3.below g4
  have h4 := h.belw G4
  refine ⟨_, rfl, ?_⟩
  by_cases k1 : k = 1
  · refine sel_t (by simpa using k1) (rv_ret hb1 hb3 rfl fun w5 k5 _ => ⟨{ v with st := s }, ?_, ?_, up G4 k5⟩)
    · unfold stepC; simp only [hs, hk, k1]; rfl
    · have e : stepD d (putD i l) = { d with steps := s } := by unfold stepD; simp only [hs, hk, k1]; rfl
      rw [e]
      have q := h.belw (up G4 k5)
      exact ⟨q.ms, q.n, q.sl, q.pl, q.pn, q.pb, q.pz, rfl, q.off⟩
  refine sel_f (by simpa using k1) ?_
  by_cases k2 : k = 2
  · refine sel_t (by simpa using k2) (hb_st (j := 3) hb1 (by simp [rvC]) fun w5 hb1' k5 => ?_)
    have hb15 : HB w5 b1 (rvC { v with st := s, off := true }) TRd := hb1'
    have G5 := up1 G4 k5
    refine rv_ret hb15 (hb3.keeps k5 n13) rfl fun w6 k6 _ => ⟨{ v with st := s, off := true }, ?_, ?_, up G5 k6⟩
    · unfold stepC; simp only [hs, hk, if_neg k1, if_pos k2]; rfl
    · have e : stepD d (putD i l) = { d with steps := s, off := true } := by unfold stepD; simp only [hs, hk, if_neg k1, if_pos k2]
      rw [e]
      have q := h.belw (up G5 k6)
      exact ⟨q.ms, q.n, q.sl, q.pl, q.pn, q.pb, q.pz, rfl, rfl⟩
  refine sel_f (by simpa using k2) (drW_intro ?_)
  obtain ⟨j, rfl⟩ := Int.eq_ofNat_of_zero_le (show 0 ≤ i by omega)
  have hj : j < d.safe.length := by omega
  have gd := (Below.refl w4.heap.size w4).drew
  have G5 := G4.trans (gd.mono G4.size)
  have hb1 := hb1.below gd
  have hb3 := hb3.below gd
  obtain ⟨wd, ewd⟩ : ∃ wd, wd = w4.drew := ⟨_, rfl⟩
  rw [← ewd] at gd G5 hb1 hb3 ⊢
  have h5 := h.belw G5
  have s5 := G5.size
  have s45 := gd.size
  have s34 := g4.size
  have s23 := k3.size
  refine ⟨fun w' => Below wd.heap.size wd w', Below.refl _ _, ?_⟩
  have hh : ∀ w', Below wd.heap.size wd w' → HB w' b1 (rvC { v with st := s }) TRd := fun w' g => hb1.below g
  refine hdS_i0 hh (A := v.A) (n := v.n) (c := v.c) rfl (hdS_i hh (j := 1) (A := v.P) (n := v.pn) (c := v.pc) rfl (hdI_i hh (j := 2) (x := s) rfl ⟨v.off, fun w' g => ((hh w' g).cell 3).trans rfl, ?_⟩))
  obtain ⟨N2, hN2⟩ : ∃ N2, N2 = NN N w.heap.size wd.heap.size := ⟨_, rfl⟩
  have dn : ∀ k, N k → N2 k := fun k hk => by rw [hN2]; exact .inl hk
  have lt2 : ∀ k, N2 k → k < wd.heap.size := by rw [hN2]; exact NN.lt hN (by omega)
  have i1 : N2 b1 := by rw [hN2]; exact .inr ⟨by omega, by omega⟩
  have i3 : N2 b3 := by rw [hN2]; exact .inr ⟨by omega, by omega⟩
  have hms : RMs wd N2 v.A d := (h.ms.out (by rw [hN2]; exact NN.up)).belw G5
  refine hdS_i0 hh (A := v.A) (n := v.n) (c := v.c) rfl (hms.ld hj h.n fun a0 m0 q0 q1 q2 hm0 => ?_)
  rw [show ((j : Int).toNat) * 3 = j * 3 by omega]
  refine ⟨m0.A, m0.n, m0.c, fun w' g => cell_belw g q0, (full_ok (hr.belw G5) rfl hl).mono ?_⟩
  rintro _ w6 ⟨A6, c6, rfl, o6, g6⟩
  have G6 := G5.trans (g6.mono s5)
  have s6 := g6.size
  have hm6 := hm0.belw g6
  refine ⟨_, _, _, rfl, g6, ?_⟩
  refine (Rput_ok (w := w6) (N := N2) (v := { v with st := s }) (d := d) (mm := ⟨m0.A, m0.n, m0.c, A6, 512, c6, true⟩) (i := j) (t := secOf l) (hms.belw g6) h.n h.sl (fun k hk => by have := lt2 k hk; omega) hj ⟨hm6.r, hm6.n, hm6.a, rfl, fun t ht => ?_⟩).mono ?_
  · injection ht with ht; subst ht
    exact ⟨OwnE.rb o6, rfl, fun a ha hn => by have := (o6.block a ha).1; have := lt2 _ hn; omega⟩
  rintro _ w7 ⟨A7, c7, rfl, hms7, g7⟩
  have G7 := G6.trans (g7.mono G6.size)
  refine ⟨_, _, _, _, _, _, _, _, rfl, ?_⟩
  have hb17 := (hb1.below g6).below g7
  have hb37 := (hb3.below g6).below g7
  refine hb_st0 hb17 (by simp [rvC]) fun w8 e8 k8 => hb_st e8 (by simp [rvC]) fun w9 e9 k9 => hb_st e9 (by simp [rvC]) fun w10 e10 k10 => hb_st e10 (by simp [rvC]) fun w11 e11 k11 => ?_
  have kk := ((k8.trans k9).trans k10).trans k11
  have hb1b : HB w11 b1 (rvC { v with st := s, A := A7, c := c7 }) TRd := e11
  have hb3b := hb37.keeps kk n13
  have G11 := up1 G7 kk
  have hms11 := hms7.keeps kk fun k e => by rw [e]; exact i1
  by_cases k3' : k = 3
  · refine sel_t (by simpa using k3') (hb_st (j := 3) hb1b (by simp [rvC]) fun w12 e12 k12 => ?_)
    have hb1c : HB w12 b1 (rvC { v with st := s, A := A7, c := c7, off := true }) TRd := e12
    have G12 := up1 G11 k12
    have hms12 := hms11.keeps k12 fun k e => by rw [e]; exact i1
    refine rv_ret hb1c (hb3b.keeps k12 n13) rfl fun w13 k13 _ => ⟨{ v with st := s, A := A7, c := c7, off := true }, ?_, ?_, up G12 k13⟩
    · unfold stepC; simp only [hs, hk, if_neg k1, if_neg k2, if_pos k3']; rfl
    · have e : stepD d (putD (j : Int) l) = { putD (j : Int) l { d with steps := s } with off := true } := by unfold stepD; simp only [hs, hk, if_neg k1, if_neg k2, if_pos k3']
      rw [e]
      have q := h.belw (up G12 k13)
      exact ⟨(hms12.keeps k13 fun k e => by rw [e]; exact i3).out fun k _ => dn k, q.n, q.sl, q.pl, q.pn, q.pb, q.pz, rfl, rfl⟩
  · refine sel_f (by simpa using k3') (rv_ret hb1b hb3b rfl fun w13 k13 _ => ⟨{ v with st := s, A := A7, c := c7 }, ?_, ?_, up G11 k13⟩)
    · unfold stepC; simp only [hs, hk, if_neg k1, if_neg k2, if_neg k3']; rfl
    · have e : stepD d (putD (j : Int) l) = putD (j : Int) l { d with steps := s } := by unfold stepD; simp only [hs, hk, if_neg k1, if_neg k2, if_neg k3']
      rw [e]
      have q := h.belw (up G11 k13)
      exact ⟨(hms11.keeps k13 fun k e => by rw [e]; exact i3).out fun k _ => dn k, q.n, q.sl, q.pl, q.pn, q.pb, q.pz, rfl, q.off⟩
/-! ### Sync -/
theorem RSync_ok (h : RM w N v d) (hN : ∀ k, N k → k < w.heap.size) :
    Calls Try.prog 48 #[rvE v] w fun e w' => ∃ v', e = .returned (.tuple #[rvE v', .int .i64 (syC d)]) ∧ RM w' N v' (syD d) ∧ Below w.heap.size w w' := by
  apply f_ref07_Sync.ok
  unfold f_ref07_Sync.wp
  refine al_new fun w1 b1 e1 s1 hb1 g1 => al_new fun w2 b3 e3 s3 hb3 g2 => ?_
  have hb1 : HB w2 b1 (rvC v) TRd := HB.below (cs := rvC v) hb1 g2
  have G2 := g1.trans (g2.mono g1.size)
  have s0 := G2.size
  have h2 := h.belw G2
  have up : ∀ {W W' : World}, Below w.heap.size w W → Keeps (fun k => k = b3) W W' → Below w.heap.size w W' := fun g k => g.trans (k.below g.size fun i hi e => by omega)
  have up1 : ∀ {W W' : World}, Below w.heap.size w W → Keeps (fun k => k = b1) W W' → Below w.heap.size w W' := fun g k => g.trans (k.below g.size fun i hi e => by omega)
  refine hb_ldB (j := 3) hb1 (x := v.off) rfl ?_
  by_cases ho : d.off = true
  · refine sel_t (h.off.trans ho) (rv_ret hb1 hb3 rfl fun w' k' _ => ⟨v, ?_, ?_, up G2 k'⟩)
    · rw [show syC d = 70 by unfold syC; rw [if_pos ho]]; rfl
    · rw [show syD d = d by unfold syD; rw [if_pos ho]]
      exact h.belw (up G2 k')
  have hof : d.off = false := by simpa using ho
  refine sel_f (h.off.trans hof) ?_
  have eC : syC d = stepC d := by unfold syC; rw [if_neg ho]
  have eD : syD d = stepD d syncD := by unfold syD; rw [if_neg ho]
  rw [eC, eD]
  obtain ⟨s, hs⟩ : ∃ s, wrap64 (d.steps + 1) = s := ⟨_, rfl⟩
  have hs' : IntKind.i64.wrap (v.st + 1) = s := by rw [wrap_eq, h.st]; exact hs
  refine hb_ldI (j := 2) hb1 (x := v.st) rfl (hb_st (j := 2) hb1 (by simp [rvC]) fun w3 hb1' k3 => ?_)
  rw [hs'] at hb1'
  have hb1s : HB w3 b1 (rvC { v with st := s }) TRd := hb1'
  have G3 := up1 G2 k3
  have n13 : b3 ≠ b1 := by omega
  have hb3 := hb3.keeps k3 n13
  obtain ⟨k, hk⟩ : ∃ k, fateOf s d.plan = k := ⟨_, rfl⟩
  have h3 := h.belw G3
  refine hb_ldS0 hb1s (A := v.A) (n := v.n) (c := v.c) rfl (hb_ldS (j := 1) hb1s (A := v.P) (n := v.pn) (c := v.pc) rfl (hb_ldI (j := 2) hb1s (x := s) rfl (hb_ldB (j := 3) hb1s (x := v.off) rfl ?_)))
  refine (Rfate_ok (v := { v with st := s }) (d := d) h3.pl h.pn h.pz).mono ?_
  rintro _ w4 ⟨rfl, g4⟩
  rw [show fateOf ({ v with st := s } : RV).st d.plan = k from hk]
  have G4 := G3.trans (g4.mono G3.size)
  have hb1 := hb1s.below g4
  have hb3 := hb3.below g4
  have h4 := h.belw G4
  refine ⟨_, rfl, ?_⟩
  by_cases k1 : k = 1
  · refine sel_t (by simpa using k1) (rv_ret hb1 hb3 rfl fun w5 k5 _ => ⟨{ v with st := s }, ?_, ?_, up G4 k5⟩)
    · unfold stepC; simp only [hs, hk, k1]; rfl
    · have e : stepD d syncD = { d with steps := s } := by unfold stepD; simp only [hs, hk, k1]; rfl
      rw [e]
      have q := h.belw (up G4 k5)
      exact ⟨q.ms, q.n, q.sl, q.pl, q.pn, q.pb, q.pz, rfl, q.off⟩
  refine sel_f (by simpa using k1) ?_
  by_cases k2 : k = 2
  · refine sel_t (by simpa using k2) (hb_st (j := 3) hb1 (by simp [rvC]) fun w5 hb1' k5 => ?_)
    have hb15 : HB w5 b1 (rvC { v with st := s, off := true }) TRd := hb1'
    have G5 := up1 G4 k5
    refine rv_ret hb15 (hb3.keeps k5 n13) rfl fun w6 k6 _ => ⟨{ v with st := s, off := true }, ?_, ?_, up G5 k6⟩
    · unfold stepC; simp only [hs, hk, if_neg k1, if_pos k2]; rfl
    · have e : stepD d syncD = { d with steps := s, off := true } := by unfold stepD; simp only [hs, hk, if_neg k1, if_pos k2]
      rw [e]
      have q := h.belw (up G5 k6)
      exact ⟨q.ms, q.n, q.sl, q.pl, q.pn, q.pb, q.pz, rfl, rfl⟩
  refine sel_f (by simpa using k2) ?_
  have s4 := G4.size
  have s34 := g4.size
  have s23 := k3.size
  obtain ⟨N2, hN2⟩ : ∃ N2, N2 = NN N w.heap.size w4.heap.size := ⟨_, rfl⟩
  have dn : ∀ k, N k → N2 k := fun k hk => by rw [hN2]; exact .inl hk
  have lt2 : ∀ k, N2 k → k < w4.heap.size := by rw [hN2]; exact NN.lt hN (by omega)
  have i1 : N2 b1 := by rw [hN2]; exact .inr ⟨by omega, by omega⟩
  have i3 : N2 b3 := by rw [hN2]; exact .inr ⟨by omega, by omega⟩
  have hms : RMs w4 N2 v.A d := (h.ms.out (by rw [hN2]; exact NN.up)).belw G4
  refine hb_ldS0 hb1 (A := v.A) (n := v.n) (c := v.c) rfl ((settled_ok hms h.n h.sl lt2).mono ?_)
  rintro _ w7 ⟨A7, c7, rfl, hms7, g7⟩
  have G7 := G4.trans (g7.mono G4.size)
  refine ⟨_, _, _, rfl, ?_⟩
  refine hb_st0 (hb1.below g7) (by simp [rvC]) fun w8 e8 k8 => ?_
  have hb1b : HB w8 b1 (rvC { v with st := s, A := A7, n := d.safe.length, c := c7 }) TRd := e8
  have hb3b := (hb3.below g7).keeps k8 n13
  have G11 := up1 G7 k8
  have hms11 := hms7.keeps k8 fun k e => by rw [e]; exact i1
  by_cases k3' : k = 3
  · refine sel_t (by simpa using k3') (hb_st (j := 3) hb1b (by simp [rvC]) fun w12 e12 k12 => ?_)
    have hb1c : HB w12 b1 (rvC { v with st := s, A := A7, n := d.safe.length, c := c7, off := true }) TRd := e12
    have G12 := up1 G11 k12
    have hms12 := hms11.keeps k12 fun k e => by rw [e]; exact i1
    refine rv_ret hb1c (hb3b.keeps k12 n13) rfl fun w13 k13 _ => ⟨{ v with st := s, A := A7, n := d.safe.length, c := c7, off := true }, ?_, ?_, up G12 k13⟩
    · unfold stepC; simp only [hs, hk, if_neg k1, if_neg k2, if_pos k3']; rfl
    · have e : stepD d syncD = { syncD { d with steps := s } with off := true } := by unfold stepD; simp only [hs, hk, if_neg k1, if_neg k2, if_pos k3']
      rw [e]
      have q := h.belw (up G12 k13)
      exact ⟨(hms12.keeps k13 fun k e => by rw [e]; exact i3).out fun k _ => dn k, (flushed_len _ _).symm, by rw [show ({ syncD { d with steps := s } with off := true } : Dk).safe.length = d.safe.length from flushed_len _ _]; exact q.sl, q.pl, q.pn, q.pb, q.pz, rfl, rfl⟩
  · refine sel_f (by simpa using k3') (rv_ret hb1b hb3b rfl fun w13 k13 _ => ⟨{ v with st := s, A := A7, n := d.safe.length, c := c7 }, ?_, ?_, up G11 k13⟩)
    · unfold stepC; simp only [hs, hk, if_neg k1, if_neg k2, if_neg k3']; rfl
    · have e : stepD d syncD = syncD { d with steps := s } := by unfold stepD; simp only [hs, hk, if_neg k1, if_neg k2, if_neg k3']
      rw [e]
      have q := h.belw (up G11 k13)
      exact ⟨(hms11.keeps k13 fun k e => by rw [e]; exact i3).out fun k _ => dn k, (flushed_len _ _).symm, by rw [show (syncD { d with steps := s } : Dk).safe.length = d.safe.length from flushed_len _ _]; exact q.sl, q.pl, q.pn, q.pb, q.pz, rfl, q.off⟩
end
end Go.Proofs.Ythekjlglnmhlaaa.Rd
