/- KeysOrder walked. Conditions: the world's shape; sizes at most 2^20. -/
import Derived.Test.YtakgoekfnhkgaaaDoorKeO
import Derived.Test.YtakgoekfnhkgaaaDoorRdL5
namespace Go.Proofs.YtakgoekfnhkgaaaDoor.Rd
open Go.Dn Go.RowKit
set_option linter.unusedVariables false
set_option linter.unusedSimpArgs false
set_option maxRecDepth 100000
section
variable {w : World} {A A1 A2 A3 : Option Addr} {c c1 c2 c3 B B1 B3 : Nat} {k l l1 l2 la lb : List UInt8} {s t : Int}
theorem ord_j0 (rk : Go.Dn.RB w A2 k) (hz : A2 = none → c2 = 0) (hc : k.length ≤ c2) (hk : k.length ≤ 1048576) (rl : Go.Dn.RB w A3 l) (hz3 : A3 = none → c3 = 0) (hc3 : l.length ≤ c3) (hl : l.length ≤ 1048576)
    (hs : -9223372036854775808 ≤ s ∧ s ≤ 9223372036854775807) (ht : -9223372036854775808 ≤ t ∧ t ≤ 9223372036854775807) {Kr : Bool → World → Prop} (hK : ∀ w', Below w.heap.size w w' → Kr true w') :
    f_law04_KeysOrder.j0 A2 k.length c2 A3 l.length c3 s t w Kr := by
  unfold f_law04_KeysOrder.j0
  refine (Version_ok (t := s) rk hz hc (by omega) hs).mono ?_
  rintro _ w1 ⟨A4, c4, rfl, o4, g1⟩
  have s1 := g1.size
  refine ⟨_, _, _, _, rfl, (Version_ok (t := t) (rl.below g1 (Nat.le_refl _)) hz3 hc3 (by omega) ht).mono ?_⟩
  rintro _ w2 ⟨A5, c5, rfl, o5, g2⟩
  have s2 := g2.size
  have c12 := g1.trans (g2.mono s1)
  refine ⟨_, _, _, _, rfl, ?_⟩
  by_cases bs : badT s
  · rw [versL_bad (k := k) bs]
    unfold badT at bs
    refine sel_t rfl ?_
    by_cases q1 : s < 0
    · exact sel_t (by simpa using q1) (hK _ c12)
    · exact sel_f (by simpa using q1) (sel_t (by simp; omega) (hK _ c12))
  by_cases bt : badT t
  · rw [versL_ok (k := k) bs, versL_bad (k := l) bt]
    unfold badT at bs bt
    refine sel_f rfl (sel_t rfl (sel_f (by simp; omega) (sel_f (by simp; omega) ?_)))
    by_cases q1 : t < 0
    · exact sel_t (by simpa using q1) (hK _ c12)
    · refine sel_f (by simpa using q1) ?_
      rw [decide_eq_true (by omega)]
      exact hK _ c12
  have hel := escL_len k
  rw [versL_ok (k := k) bs] at o4 ⊢
  rw [versL_ok (k := l) bt] at o5 ⊢
  dsimp only at o4 o5 ⊢
  have hv := ord_vers (bigL s) (bigL t) k l
  rw [ord_big bs bt] at hv
  have r4 := o4.reads.below g2 (Nat.le_refl _)
  have r5 := o5.reads
  refine sel_f rfl (sel_f rfl ((Order_ok (rk.below c12 (Nat.le_refl _)) (rl.below c12 (Nat.le_refl _)) rfl rfl (by omega)).mono ?_))
  rintro _ w3 ⟨rfl, g3⟩
  have s3 := g3.size
  have hlen : (escL k ++ [0, 0] ++ bigL s).length ≤ 140737488355328 := by simp [bigL, be8]; omega
  have last := Order_ok (w := w3) (c := c4) (c1 := c5) (r4.below g3 (Nat.le_refl _)) (r5.below g3 (Nat.le_refl _)) rfl rfl hlen
  have fin : ∀ w', Below w3.heap.size w3 w' → Kr true w' := fun w' g => hK _ ((c12.trans (g3.mono (by omega))).trans (g.mono (by omega)))
  refine ⟨_, rfl, ?_⟩
  by_cases q : k = l
  · rw [if_pos q] at hv
    have h0 : ordL k l = 0 := (ordL_zero k l).2 q
    rw [h0]
    refine sel_t rfl ?_
    by_cases q1 : t < s
    · rw [if_pos q1] at hv
      refine sel_t (by simpa using q1) (last.mono ?_)
      rintro _ w4 ⟨rfl, g4⟩
      rw [hv]
      exact ⟨_, rfl, fin _ g4⟩
    rw [if_neg q1] at hv
    refine sel_f (by simpa using q1) (sel_t rfl ?_)
    by_cases q2 : s < t
    · rw [if_pos q2] at hv
      refine sel_t (by simpa using q2) (last.mono ?_)
      rintro _ w4 ⟨rfl, g4⟩
      rw [hv]
      exact ⟨_, rfl, fin _ g4⟩
    · rw [if_neg q2] at hv
      refine sel_f (by simpa using q2) (last.mono ?_)
      rintro _ w4 ⟨rfl, g4⟩
      rw [hv]
      exact ⟨_, rfl, fin _ g4⟩
  · rw [if_neg q] at hv
    have h0 : (ordL k l == 0) = false := by
      rw [beq_eq_false_iff_ne]
      exact fun h => q ((ordL_zero k l).1 h)
    rw [h0]
    refine sel_f rfl (sel_f rfl (last.mono ?_))
    rintro _ w4 ⟨rfl, g4⟩
    rw [hv]
    refine ⟨_, rfl, ?_⟩
    rw [beq_self_eq_true]
    exact fin _ g4
theorem ord_part {e1 e2 : Bool} {x1 x2 : Int} {ah : Bool} (h1 : HB w B1 (rfC e1 x1) TRf) (h3 : HB w B3 (rfC e2 x2) TRf) (ra : Go.Dn.RB w A la) (rb : Go.Dn.RB w A1 lb) (hl : la.length ≤ 5) (hah : decide (ordL la lb < 0) = ah) (hsame : decide (la = lb) = (e1 == e2 && x1 == x2)) {Q0 Q1 : World → Prop} (hQ1 : ∀ w', Below w.heap.size w w' → Q1 w') :
    drW w fun w20 => ∃ S21 : World → Prop, S21 w20 ∧ (
      Calls Tryd.prog 23 #[.slice A la.length c, .slice A1 lb.length c1] w20 fun e22 w23 => ∃ (x24 : Int), e22 = .returned (.int .i64 x24) ∧ (
      S21 w23 ∧ (
      sel (!((decide (x24 < (0 : Int))) == ah)) (S21 w23 ∧ (Q0 w23)) (
      hdB S21 (⟨B1, 0, Option.none⟩ : Addr) fun b25 =>
      hdI S21 ((⟨B1, 0, Option.none⟩ : Addr).add 1) .i64 fun x26 =>
      hdB S21 (⟨B3, 0, Option.none⟩ : Addr) fun b27 =>
      hdI S21 ((⟨B3, 0, Option.none⟩ : Addr).add 1) .i64 fun x28 =>
      Calls Tryd.prog 24 #[.slice A la.length c, .slice A1 lb.length c1] w23 fun e29 w30 => ∃ (b31 : Bool), e29 = .returned (.bool b31) ∧ (
      S21 w30 ∧ (
      sel (!(b31 == ((b25 == b27) && ((x26 == x28) && true)))) (Q0 w30) (Q1 w30)))))) ) := by
  refine drW_intro ?_
  have gd : Below w.heap.size w w.drew := (Below.refl _ _).drew
  have h1' := h1.below gd
  have h3' := h3.below gd
  have ra' := ra.below gd (Nat.le_refl _)
  have rb' := rb.below gd (Nat.le_refl _)
  have sd := gd.size
  refine ⟨fun a => HB a B1 (rfC e1 x1) TRf ∧ HB a B3 (rfC e2 x2) TRf, ⟨h1', h3'⟩, (Order_ok ra' rb' rfl rfl (by omega)).mono ?_⟩
  rintro _ w2 ⟨rfl, g2⟩
  have s2 := g2.size
  have h12 := h1'.below g2
  have h32 := h3'.below g2
  refine ⟨_, rfl, ⟨h12, h32⟩, sel_f (by rw [hah]; simp) ?_⟩
  refine ⟨e1, fun a ha => (ha.1.cell 0).trans rfl, x1, fun a ha => (ha.1.cell 1).trans rfl, e2, fun a ha => (ha.2.cell 0).trans rfl, x2, fun a ha => (ha.2.cell 1).trans rfl, (Same_ok (ra'.below g2 (Nat.le_refl _)) (rb'.below g2 (Nat.le_refl _)) rfl rfl (by omega)).mono ?_⟩
  rintro _ w3 ⟨rfl, g3⟩
  refine ⟨_, rfl, ⟨h12.below g3, h32.below g3⟩, sel_f (by rw [hsame]; simp) (hQ1 _ ((gd.trans (g2.mono sd)).trans (g3.mono (by omega))))⟩
set_option maxHeartbeats 1000000 in
theorem KeysOrderUpto_row (hS : w.ShapedOpen Tryd.prog) {e1 : Bool} {x1 : Int} (hx1 : (Lit.int .i64 x1).wf = true) {e2 : Bool} {x2 : Int} (hx2 : (Lit.int .i64 x2).wf = true) (hr : Go.Dn.RB w A2 k) (hz : A2 = none → c2 = 0) (hc : k.length ≤ c2) (hk : k.length ≤ 1048576) (hr2 : Go.Dn.RB w A3 l) (hz2 : A3 = none → c3 = 0) (hc2 : l.length ≤ c3) (hl : l.length ≤ 1048576) (hs : (Lit.int .i64 s).wf = true) (ht : (Lit.int .i64 t).wf = true) :
    Calls Tryd.prog 5 #[.agg #[.bool e1, .int .i64 x1], .agg #[.bool e2, .int .i64 x2], .slice A2 k.length c2, .slice A3 l.length c3, .int .i64 s, .int .i64 t] w fun r w' => r = .returned (.bool true) ∧ Below w.heap.size w w' := by
  apply f_law04_KeysOrder.ok
  unfold f_law04_KeysOrder.wp
  have hM := mx_of hS
  refine al_new fun w1 B1 q1 z1 h1 g1 => al_new fun w2 B3 q3 z3 h3 g2 => ?_
  have s1 := g1.size
  have s2 := g2.size
  have c02 := g1.trans (g2.mono s1)
  refine (alive_ok (hM.below c02)).mono ?_
  rintro _ w3 ⟨rfl, g3⟩
  have s3 := g3.size
  have h13 : HB w3 B1 (rfC e1 x1) TRf := HB.below (cs := rfC e1 x1) (HB.below (cs := rfC e1 x1) h1 g2) g3
  have h33 : HB w3 B3 (rfC e2 x2) TRf := HB.below (cs := rfC e2 x2) h3 g3
  refine ⟨_, rfl, sel_f rfl (hb_ldB0 h13 rfl (hb_ldI (j := 1) h13 rfl (Elem_ok.mono ?_)))⟩
  rintro _ w4 ⟨A4, c4, rfl, o4, g4⟩
  have s4 := g4.size
  have h34 := h33.below g4
  refine ⟨_, _, _, _, rfl, hb_ldB0 h34 rfl (hb_ldI (j := 1) h34 rfl (Elem_ok.mono ?_))⟩
  rintro _ w5 ⟨A5, c5, rfl, o5, g5⟩
  have s5 := g5.size
  have h15 := (h13.below g4).below g5
  have h35 := h34.below g5
  have c35 : Below w3.heap.size w3 w5 := g4.trans (g5.mono s4)
  have c05 : Below w.heap.size w w5 := (c02.trans (g3.mono (by omega))).trans (c35.mono (by omega))
  refine ⟨_, _, _, _, rfl, ?_⟩
  have j0 : ∀ w', Below w5.heap.size w5 w' → f_law04_KeysOrder.j0 A2 k.length c2 A3 l.length c3 s t w' (fun (b : Bool) (w127 : World) => ∀ _ : Fr, (Ending.returned (.bool b)) = .returned (.bool true) ∧ Below w.heap.size w w127) := fun w' g => by
    have cw := c05.trans (g.mono (by omega))
    refine ord_j0 (hr.below cw (Nat.le_refl _)) hz hc hk (hr2.below cw (Nat.le_refl _)) hz2 hc2 hl (wf_i64 hs) (wf_i64 ht) fun w'' g'' _ => ⟨rfl, cw.trans (g''.mono (by have := g.size; omega))⟩
  by_cases b1 : badId x1
  · have e : (elemL e1 x1).2 = 1 := by unfold elemL; rw [if_pos b1]
    rw [e]
    exact sel_f rfl (j0 _ (Below.refl _ _))
  by_cases b2 : badId x2
  · have e : (elemL e1 x1).2 = 0 := by unfold elemL; rw [if_neg b1]
    have e' : (elemL e2 x2).2 = 1 := by unfold elemL; rw [if_pos b2]
    rw [e, e']
    exact sel_t rfl (sel_f rfl (j0 _ (Below.refl _ _)))
  have e : (elemL e1 x1).2 = 0 := by unfold elemL; rw [if_neg b1]
  have e' : (elemL e2 x2).2 = 0 := by unfold elemL; rw [if_neg b2]
  rw [e, e']
  obtain ⟨ho, hsm⟩ := ord_elem (e1 := e1) (e2 := e2) b1 b2
  have ra := o4.reads.below g5 (Nat.le_refl _)
  have rb := o5.reads
  have el := elemL_len e1 x1
  refine sel_t rfl (sel_t rfl (hb_ldB0 h15 rfl ?_))
  cases e1
  · refine sel_t rfl (hb_ldB0 h35 rfl ?_)
    cases e2
    · refine sel_f rfl (hb_ldB0 h15 rfl (hb_ldB0 h35 rfl (sel_t rfl (hb_ldI (j := 1) h15 rfl (hb_ldI (j := 1) h35 rfl ?_)))))
      exact ord_part h15 h35 ra rb el ho hsm j0
    · refine sel_t rfl ?_
      exact ord_part h15 h35 ra rb el ho hsm j0
  · refine sel_f rfl (hb_ldB0 h15 rfl (hb_ldB0 h35 rfl ?_))
    cases e2
    · refine sel_f rfl ?_
      exact ord_part h15 h35 ra rb el ho hsm j0
    · refine sel_t rfl (hb_ldI (j := 1) h15 rfl (hb_ldI (j := 1) h35 rfl ?_))
      exact ord_part h15 h35 ra rb el ho hsm j0
end
end Go.Proofs.YtakgoekfnhkgaaaDoor.Rd
