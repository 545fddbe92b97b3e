/- The document's Abort, Commit, walked. Conditions: none. -/
import Derived.Test.YtbfcjnbjhpfdfaaMvJ
namespace Go.Proofs.Ytbfcjnbjhpfdfaa.Rd
open Go.Dn Go.RowKit
set_option linter.unusedVariables false
set_option maxRecDepth 100000
variable {w : World} {G : Nat → Prop} {A : Option Addr} {c : Nat} {t : Tb}
theorem RAbort_ok (h : RTb w G A t.txs) (hlen : t.txs.length ≤ 1048576) {n : Int} (hn : W64 n) :
    Calls Try.prog 28 #[tbV A t.txs.length c t.last, .int .i64 n] w fun e w' => ∃ A' c', e = .returned (.tuple #[tbV A' (t.abort n).1.txs.length c' (t.abort n).1.last, .int .i64 (t.abort n).2]) ∧ RO w w' G A' (t.abort n).1.txs := by
  apply f_ref14_Abort.ok
  unfold f_ref14_Abort.wp
  refine al_new fun w1 b1 e1 s1 h1 g1 => al_new fun w2 b3 e3 s3 h3 g2 => hb_ldS0 (h1.below g2) rfl (hb_ldI (j := 1) (h1.below g2) rfl ?_)
  have sz1 := g1.size
  have sz2 := g2.size
  have h2 := (h.below g1).below g2
  refine (RIs_ok (c := c) h2 hn).mono fun e w3 he => ?_
  obtain ⟨rfl, g3⟩ := he
  have sz3 := g3.size
  have g0 : Below w.heap.size w w3 := (g1.trans (g2.mono (by omega))).trans (g3.mono (by omega))
  have H3 := h.below g0
  have h13 := (h1.below g2).below g3
  have h33 := h3.below g3
  refine ⟨_, rfl, ?_⟩
  unfold Tb.abort
  cases hx : t.get n with
  | none =>
    exact sel_t (by simp) (hb_ldS0 h13 rfl (hb_ldI (j := 1) h13 rfl (out2 h33 rfl fun w4 k4 _ => ⟨A, c, rfl, .of h (g0.trans (k4.below (by omega) fun k hk (e : k = b3) => by omega))⟩)))
  | some x =>
    obtain ⟨h5, h6, h7⟩ := Tb.get_some hx
    obtain ⟨a, m, rfl, hmx, hi, c0, c1, c2, c3, hR, hRG⟩ := get_row H3 hx
    have hlt3 : ∀ k, G k → k < w.heap.size := by obtain ⟨ms, _, r⟩ := h; exact r.lt
    refine sel_f (by simp) (hb_ldS0 h13 rfl (optB_some rfl ?_))
    rw [i64p h5 hn.2]
    refine req_intro (by simp; omega) (ldI_intro c0 (ldS_intro c1 ⟨_, c2, ldI_intro c3 (box4 m fun w4 b4 e4 h4 g4 s4 => hb_st (j := 2) h4 (by simp) fun w5 h5' k5 => ?_)⟩))
    have h5' : HB w5 b4 #[.int .i64 m.start, .slice m.A m.tk.length m.c, .bool false, .int .i64 m.at_] 73 := h5'
    have sz5 := k5.size
    have b35 : Below w3.heap.size w3 w5 := g4.trans (k5.below (by omega) fun k hk (e : k = b4) => by omega)
    have h15 := h13.below b35
    refine hb_ldS0 h15 rfl (hb_ldI (j := 1) h15 rfl (hb_ldI0 h5' rfl (hb_ldS (j := 1) h5' rfl (hb_ldB (j := 2) h5' rfl (hb_ldI (j := 3) h5' rfl ?_)))))
    refine (RPut_ok (c := c) (H3.below b35) hlen h5 hn.2 (x := ⟨m.start, m.A, m.c, m.tk, false, m.at_⟩) (hR.below b35) hRG).mono fun e w9 he => ?_
    obtain ⟨A9, c9, rfl, r9⟩ := he
    have hput : (t.put n (TxM.tx ⟨m.start, m.A, m.c, m.tk, false, m.at_⟩)) = t.put n { x with live := false } := by rw [← hmx]; rfl
    rw [hput] at r9 ⊢
    refine ⟨A9, _, c9, _, rfl, out2 ((h33.below b35).below (by obtain ⟨_, _, _, h⟩ := r9; exact h)) rfl fun w10 k10 _ => ⟨A9, c9, rfl, r9.wide k10 (fun k (e : k = b3) => ⟨fun hg => ?_, by omega, by omega⟩) (fun k hk => .inl hk) (g0.trans (b35.mono (by omega)))⟩⟩
    have := hlt3 k hg; omega
theorem RCommit_ok (h : RTb w G A t.txs) (hlen : t.txs.length ≤ 1048576) {n : Int} (hn : W64 n) (htk : ∀ y ∈ t.txs, (y.tk.length : Int) ≤ 9223372036854775807) (hl0 : 0 ≤ t.last) :
    Calls Try.prog 27 #[tbV A t.txs.length c t.last, .int .i64 n] w fun e w' => ∃ A' c', e = .returned (.tuple #[tbV A' (t.commit n).1.txs.length c' (t.commit n).1.last, .int .i64 (t.commit n).2.1, .int .i64 (t.commit n).2.2]) ∧ RO w w' G A' (t.commit n).1.txs := by
  apply f_ref14_Commit.ok
  unfold f_ref14_Commit.wp
  refine al_new fun w1 b1 e1 s1 h1 g1 => al_new fun w2 b3 e3 s3 h3 g2 => hb_ldS0 (h1.below g2) rfl (hb_ldI (j := 1) (h1.below g2) rfl ?_)
  have sz1 := g1.size
  have sz2 := g2.size
  have h2 := (h.below g1).below g2
  refine (RTry_ok (c := c) h2 hlen hn htk).mono fun e w3 he => ?_
  obtain ⟨rfl, g3⟩ := he
  have sz3 := g3.size
  have g0 : Below w.heap.size w w3 := (g1.trans (g2.mono (by omega))).trans (g3.mono (by omega))
  have H3 := h.below g0
  have h13 := (h1.below g2).below g3
  have h33 := h3.below g3
  refine ⟨_, rfl, ?_⟩
  unfold Tb.commit
  cases hx : t.get n with
  | none =>
    have ht : t.try_ n = 141 := by unfold Tb.try_; rw [hx]
    rw [ht]
    exact sel_t rfl (hb_ldS0 h13 rfl (hb_ldI (j := 1) h13 rfl (out2 h33 rfl fun w4 k4 _ => ⟨A, c, rfl, .of h (g0.trans (k4.below (by omega) fun k hk (e : k = b3) => by omega))⟩)))
  | some x =>
    obtain ⟨h5, h6, h7⟩ := Tb.get_some hx
    obtain ⟨a, m, rfl, hmx, hi, c0, c1, c2, c3, hR, hRG⟩ := get_row H3 hx
    have hlt3 : ∀ k, G k → k < w.heap.size := by obtain ⟨ms, _, r⟩ := h; exact r.lt
    have hk : m.tk = x.tk := by rw [← hmx]; rfl
    have ht : t.try_ n ≠ 141 := by
      unfold Tb.try_; rw [hx]; simp only
      split
      · decide
      · split <;> decide
    refine sel_f (beq_false_of_ne ht) (hb_ldS0 h13 rfl (optB_some rfl ?_))
    rw [i64p h5 hn.2]
    refine req_intro (by simp; omega) (ldI_intro c0 (ldS_intro c1 ⟨_, c2, ldI_intro c3 (box4 m fun w4 b4 e4 h4 g4 s4 => hb_st (j := 2) h4 (by simp) fun w5 h5' k5 => ?_)⟩))
    have h5' : HB w5 b4 #[.int .i64 m.start, .slice m.A m.tk.length m.c, .bool false, .int .i64 m.at_] 73 := h5'
    have sz5 := k5.size
    have b35 : Below w3.heap.size w3 w5 := g4.trans (k5.below (by omega) fun k hk (e : k = b4) => by omega)
    have h15 := h13.below b35
    by_cases ht0 : t.try_ n = 0
    · refine sel_f (by simp [ht0]) (hb_ldS (j := 1) h5' rfl ?_)
      simp only
      rw [if_neg (by omega)]
      by_cases hkn : x.tk = []
      · rw [if_pos hkn]
        refine sel_t (beq_iff_eq.2 (by rw [hk, hkn]; rfl)) (drW_intro ⟨fun w' => HB w' b1 #[.slice (some a) t.txs.length c, .int .i64 t.last] 28 ∧ HB w' b4 #[.int .i64 m.start, .slice m.A m.tk.length m.c, .bool false, .int .i64 m.at_] 73, ⟨h15, h5'⟩, ?_⟩)
        refine ⟨_, _, _, fun w' h => h.1.cell 0, _, fun w' h => h.1.cell 1, _, fun w' h => h.2.cell 0, _, _, _, fun w' h => h.2.cell 1, _, fun w' h => h.2.cell 2, _, fun w' h => h.2.cell 3, _, fun w' h => h.2.cell 0, ?_⟩
        have kd : Keeps (fun _ => False) w5 w5.drew := (Keeps.refl _ _).drew
        have bd : Below w3.heap.size w3 w5.drew := b35.trans (kd.below (by have := b35.size; omega) fun _ _ => id)
        have h1d : HB w5.drew b1 #[.slice (some a) t.txs.length c, .int .i64 t.last] 28 := h15
        have h5d : HB w5.drew b4 #[.int .i64 m.start, .slice m.A m.tk.length m.c, .bool false, .int .i64 m.at_] 73 := h5'
        have szd : w5.drew.heap.size = w5.heap.size := rfl
        generalize w5.drew = w6 at bd h1d h5d szd
        refine (RPut_ok (c := c) (H3.below bd) hlen h5 hn.2 (x := ⟨m.start, m.A, m.c, m.tk, false, m.at_⟩) (hR.below bd) hRG).mono fun e w9 he => ?_
        obtain ⟨A9, c9, rfl, r9⟩ := he
        have b69 : Below w6.heap.size w6 w9 := by obtain ⟨_, _, _, h⟩ := r9; exact h
        have hput : (t.put n (TxM.tx ⟨m.start, m.A, m.c, m.tk, false, m.at_⟩)) = t.put n { x with live := false } := by rw [← hmx]; rfl
        rw [hput] at r9 ⊢
        refine ⟨A9, _, c9, _, rfl, ⟨h1d.below b69, h5d.below b69⟩, hb_st0 ((h33.below bd).below b69) (by simp) fun w10 h10 k10 => hb_st (j := 1) h10 (by simp) fun w11 h11 k11 => ⟨⟨((h1d.below b69).keeps k10 (by omega)).keeps k11 (by omega), ((h5d.below b69).keeps k10 (by omega)).keeps k11 (by omega)⟩, hb_ldS0 h11 rfl (hb_ldI (j := 1) h11 rfl ⟨A9, c9, ?_, r9.wide (k10.trans k11) (fun k (e : k = b3) => ⟨fun hg => ?_, by omega, by omega⟩) (fun k hk => .inl hk) (g0.trans (bd.mono (by omega)))⟩)⟩⟩
        · rw [show m.start = x.start by rw [← hmx]; rfl]; rfl
        · have := hlt3 k hg; omega
      · rw [if_neg hkn]
        have hcl := (Tb.try_zero hx ht0).2.resolve_left hkn
        have hw1 : IntKind.i64.wrap (t.last + 1) = t.last + 1 := w64_in (by simp only [mxT] at hcl; omega)
        refine sel_f (beq_false_of_ne (by rw [hk]; have := List.length_pos_iff.2 hkn; omega)) (hb_ldI (j := 1) h15 rfl (hb_st (j := 1) h15 (by simp) fun w6 h6' k6 => ?_))
        rw [hw1] at h6'
        have h6' : HB w6 b1 #[.slice (some a) t.txs.length c, .int .i64 (t.last + 1)] 28 := h6'
        refine hb_ldI (j := 1) h6' rfl (hb_st (j := 3) (h5'.keeps k6 (by omega)) (by simp) fun w7 h7' k7 => ?_)
        have h7' : HB w7 b4 #[.int .i64 m.start, .slice m.A m.tk.length m.c, .bool false, .int .i64 (t.last + 1)] 73 := h7'
        have h17 := h6'.keeps k7 (by omega)
        have k57 : Keeps (fun k => k = b1 ∨ k = b4) w5 w7 := (k6.mono fun k _ h => .inl h).trans (k7.mono fun k _ h => .inr h)
        have kw : Keeps (fun k => k = b1 ∨ k = b4) w3 w7 := (Keeps.of_below b35).trans k57
        refine drW_intro ⟨fun w' => HB w' b1 #[.slice (some a) t.txs.length c, .int .i64 (t.last + 1)] 28 ∧ HB w' b4 #[.int .i64 m.start, .slice m.A m.tk.length m.c, .bool false, .int .i64 (t.last + 1)] 73, ⟨h17, h7'⟩, ?_⟩
        refine ⟨_, _, _, fun w' h => h.1.cell 0, _, fun w' h => h.1.cell 1, _, fun w' h => h.2.cell 0, _, _, _, fun w' h => h.2.cell 1, _, fun w' h => h.2.cell 2, _, fun w' h => h.2.cell 3, _, fun w' h => h.1.cell 1, ?_⟩
        have kd : Keeps (fun k => k = b1 ∨ k = b4) w3 w7.drew := kw.drew
        have h1d : HB w7.drew b1 #[.slice (some a) t.txs.length c, .int .i64 (t.last + 1)] 28 := h17
        have h5d : HB w7.drew b4 #[.int .i64 m.start, .slice m.A m.tk.length m.c, .bool false, .int .i64 (t.last + 1)] 73 := h7'
        have szd : w5.heap.size ≤ w7.drew.heap.size := k57.size
        generalize w7.drew = w8 at kd h1d h5d szd
        have hG14 : ∀ k, G k → ¬ (k = b1 ∨ k = b4) := fun k hk h => by have := hlt3 k hk; omega
        have H8 := H3.keeps kd hG14
        have hlast : (⟨t.txs, t.last + 1⟩ : Tb).txs = t.txs := rfl
        have gx : (⟨t.txs, t.last + 1⟩ : Tb).get n = some x := hx
        refine (RPut_ok (t := ⟨t.txs, t.last + 1⟩) (c := c) (A := some a) (G := G) H8 hlen h5 hn.2 (x := ⟨m.start, m.A, m.c, m.tk, false, t.last + 1⟩) (hR.keeps kd fun g hg => hG14 _ (hRG g hg)) hRG).mono fun e w9 he => ?_
        obtain ⟨A9, c9, rfl, r9⟩ := he
        have b69 : Below w8.heap.size w8 w9 := by obtain ⟨_, _, _, h⟩ := r9; exact h
        have hput : ((⟨t.txs, t.last + 1⟩ : Tb).put n (TxM.tx ⟨m.start, m.A, m.c, m.tk, false, t.last + 1⟩)).txs = (t.put n { x with live := false, at_ := t.last + 1 }).txs := by rw [← hmx]; rfl
        rw [hput] at r9 ⊢
        have h38 := (h33.keeps kd (by omega)).below b69
        have bw8 : Below w.heap.size w w8 := g0.trans (kd.below (by omega) fun k hk h => by omega)
        refine ⟨A9, _, c9, _, rfl, ⟨h1d.below b69, h5d.below b69⟩, hb_st0 h38 (by simp) fun w10 h10 k10 => hb_st (j := 1) h10 (by simp) fun w11 h11 k11 => ⟨⟨((h1d.below b69).keeps k10 (by omega)).keeps k11 (by omega), ((h5d.below b69).keeps k10 (by omega)).keeps k11 (by omega)⟩, hb_ldS0 h11 rfl (hb_ldI (j := 1) h11 rfl ⟨A9, c9, rfl, r9.wide (k10.trans k11) (fun k (e : k = b3) => ⟨fun hg => ?_, by omega, by omega⟩) (fun k hk => .inl hk) bw8⟩)⟩⟩
        have := hlt3 k hg; omega
    · refine sel_t (by simp [ht0]) (hb_ldS0 h15 rfl (hb_ldI (j := 1) h15 rfl (hb_ldI0 h5' rfl (hb_ldS (j := 1) h5' rfl (hb_ldB (j := 2) h5' rfl (hb_ldI (j := 3) h5' rfl ?_))))))
      simp only
      rw [if_pos ht0]
      refine (RPut_ok (c := c) (H3.below b35) hlen h5 hn.2 (x := ⟨m.start, m.A, m.c, m.tk, false, m.at_⟩) (hR.below b35) hRG).mono fun e w9 he => ?_
      obtain ⟨A9, c9, rfl, r9⟩ := he
      have hput : (t.put n (TxM.tx ⟨m.start, m.A, m.c, m.tk, false, m.at_⟩)) = t.put n { x with live := false } := by rw [← hmx]; rfl
      rw [hput] at r9 ⊢
      refine ⟨A9, _, c9, _, rfl, out2 ((h33.below b35).below (by obtain ⟨_, _, _, h⟩ := r9; exact h)) rfl fun w10 k10 _ => ⟨A9, c9, rfl, r9.wide k10 (fun k (e : k = b3) => ⟨fun hg => ?_, by omega, by omega⟩) (fun k hk => .inl hk) (g0.trans (b35.mono (by omega)))⟩⟩
      have := hlt3 k hg; omega
end Go.Proofs.Ytbfcjnbjhpfdfaa.Rd
