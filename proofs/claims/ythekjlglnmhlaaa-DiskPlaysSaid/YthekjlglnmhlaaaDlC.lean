/- The document's disk in memory: put, settled, fate. Conditions: none. -/
import Derived.Test.YthekjlglnmhlaaaDlB
namespace Go.Proofs.Ythekjlglnmhlaaa.Rd
open Go.Dn Go.RowKit Go.Shelf
set_option linter.unusedVariables false
set_option linter.unusedSimpArgs false
set_option maxRecDepth 100000
section
variable {w w' : World} {N S : Nat → Prop} {d : Dk} {v : RV}
/-! ### settled -/
theorem settled_l0 {w0 : World} {A0 : Option Addr} {c0 : Nat} (h : RMs w0 N A0 d) (hsl : d.safe.length ≤ 4096) {f : Nat → Sec} {g : Nat → Option Sec} (hf : ∀ j, j < d.safe.length → f j = hasS d (j : Int)) (hg : ∀ j, g j = none)
    {K0 : Option Addr → Nat → Nat → World → Prop} (k0 : ∀ A c w, Acc w w0 N A c f g d.safe.length → Below w0.heap.size w0 w → K0 A d.safe.length c w) :
    ∀ (m i : Nat) (A : Option Addr) (n c : Nat) (w : World), d.safe.length - i = m → i ≤ d.safe.length → n = i → Acc w w0 N A c f g i → Below w0.heap.size w0 w →
      f_ref07_settled.l0 (m + 1) A0 d.safe.length c0 A n c (i : Int) w K0 := by
  intro m
  induction m with
  | zero =>
    intro i A n c w hm hi en a hb
    have : i = d.safe.length := by omega
    subst this
    subst en
    unfold f_ref07_settled.l0
    exact sel_f (by simp) (k0 _ _ _ a hb)
  | succ m ih =>
    intro i A n c w hm hi en a hb
    have hlt : i < d.safe.length := by omega
    unfold f_ref07_settled.l0
    refine sel_t (by simpa using hlt) ((h.src hb a.blk).ld hlt rfl fun a0 m0 q0 q1 q2 hm0 => ?_)
    rw [show ((i : Int).toNat) * 3 = i * 3 by omega]
    refine ldS_intro q0 (ldS_intro q1 (ldB_intro q2 ((Rhas_ok hm0).mono ?_)))
    rintro _ w1 ⟨A1, c1, rfl, r1, b1, g1⟩
    have hb1 := hb.trans (g1.mono hb.size)
    refine ⟨_, _, _, rfl, (a.belw g1).put en (m := ⟨A1, 512, c1, none, 0, 0, false⟩) ?_ rfl hb1 (by omega) fun A' c' w2 a2 hb2 => ?_⟩
    · refine ⟨?_, rfl, b1, by rw [hg]; rfl, fun t ht => by rw [hg] at ht; cases ht⟩
      rw [hf i hlt]
      unfold hasS
      rw [Int.toNat_natCast]
      exact r1
    · rw [wrs hlt (by omega)]
      exact ih (i + 1) A' (i + 1) c' w2 (by omega) (by omega) rfl a2 hb2
theorem settled_ok {A0 : Option Addr} {n c0 : Nat} (h : RMs w N A0 d) (hn : n = d.safe.length) (hsl : d.safe.length ≤ 4096) (hN : ∀ k, N k → k < w.heap.size) :
    Calls Try.prog 61 #[.slice A0 n c0] w fun e w' => ∃ A c, e = .returned (.slice A d.safe.length c) ∧ RMs w' N A (syncD d) ∧ Below w.heap.size w w' := by
  subst hn
  apply f_ref07_settled.ok
  unfold f_ref07_settled.wp
  refine alW_intro ⟨_, settled_l0 (w0 := w) (f := fun j => hasS d (j : Int)) (g := fun _ => none) h hsl (fun j _ => rfl) (fun _ => rfl) (fun A c w1 a1 g1 => ?_) d.safe.length 0 _ 0 0 _ rfl (by omega) rfl (Acc.nil (Nat.le_refl _)) ((Below.refl _ _).alloc (Nat.le_refl _) _)⟩
  intro _
  have hl : (syncD d).safe.length = d.safe.length := flushed_len _ _
  refine ⟨A, c, rfl, a1.rms hN hl.symm (fun j hj => ?_) (fun j hj => rfl), g1⟩
  rw [List.getD_eq_getElem?_getD, List.getElem?_eq_getElem hj, Option.getD_some]
  have := flushed_get d [] j hj
  simp only [hasK, List.any_nil, Bool.false_eq_true, if_false] at this
  exact this
/-! ### put -/
theorem put_l0 {w0 : World} {b1 b3 : Nat} {t1 t3 : TypeId} {mm : SpM} {at_ : Int} (h : RMs w0 N v.A d) (hn : v.n = d.safe.length) (hsl : d.safe.length ≤ 4096) (hb1 : HB w0 b1 (rvC v) t1) (hb3 : HB w0 b3 (eSp mm).toArray t3)
    {f : Nat → Sec} {g : Nat → Option Sec} (hf : ∀ j, j < d.safe.length → (j : Int) ≠ at_ → f j = d.safe.getD j z0 ∧ g j = lk d.pend (j : Int)) (hm : ∀ j, j < d.safe.length → (j : Int) = at_ → SpR w0 N mm (f j) (g j))
    {K0 : Option Addr → Nat → Nat → World → Prop} (k0 : ∀ A c w, Acc w w0 N A c f g d.safe.length → Below w0.heap.size w0 w → K0 A d.safe.length c w) :
    ∀ (m i : Nat) (A : Option Addr) (n c : Nat) (w : World), d.safe.length - i = m → i ≤ d.safe.length → n = i → Acc w w0 N A c f g i → Below w0.heap.size w0 w →
      f_ref07_put.l0 (m + 1) at_ (⟨b1, 0, none⟩ : Addr) (⟨b3, 0, none⟩ : Addr) A n c (i : Int) w K0 := by
  intro m
  induction m with
  | zero =>
    intro i A n c w hm hi en a hb
    have : i = d.safe.length := by omega
    subst this
    subst en
    unfold f_ref07_put.l0
    exact hb_ldS0 (hb1.below hb) (A := v.A) (n := v.n) (c := v.c) rfl (sel_f (by rw [hn]; simp) (k0 _ _ _ a hb))
  | succ m ih =>
    intro i A n c w hm' hi en a hb
    have hlt : i < d.safe.length := by omega
    have nx : ∀ A' c' w', Acc w' w0 N A' c' f g (i + 1) → Below w0.heap.size w0 w' → f_ref07_put.l0 (m + 1) at_ (⟨b1, 0, none⟩ : Addr) (⟨b3, 0, none⟩ : Addr) A' (i + 1) c' (IntKind.i64.wrap ((i : Int) + 1)) w' K0 := fun A' c' w' a' hb' => by
      rw [wrs hlt (by omega)]
      exact ih (i + 1) A' (i + 1) c' w' (by omega) (by omega) rfl a' hb'
    unfold f_ref07_put.l0
    refine hb_ldS0 (hb1.below hb) (A := v.A) (n := v.n) (c := v.c) rfl (sel_t (by rw [hn]; simpa using hlt) ?_)
    by_cases e : (i : Int) = at_
    · refine sel_t (by simp [e]) (hb_ldS0 (hb3.below hb) rfl (hb_ldS (j := 1) (hb3.below hb) rfl (hb_ldB (j := 2) (hb3.below hb) rfl ?_)))
      refine a.put en (m := mm) ?_ rfl hb (by omega) nx
      have q1 : SpR w0 (fun k => N k ∨ w0.heap.size ≤ k) mm (f i) (g i) := (hm i hlt e).out fun k hk h => h.elim id fun h => by omega
      exact (q1.belw hb).weak fun k h => h.elim .inl fun ⟨a1, ha, e⟩ => .inr (by have := a.blk a1 ha; omega)
    · refine sel_f (by simpa using e) (hb_ldS0 (hb1.below hb) (A := v.A) (n := v.n) (c := v.c) rfl ((h.src hb a.blk).ld hlt hn fun a0 m0 q0 q1 q2 hm0 => ?_))
      rw [show ((i : Int).toNat) * 3 = i * 3 by omega]
      refine ldS_intro q0 (ldS_intro q1 (ldB_intro q2 (a.put en (m := m0) ?_ rfl hb (by omega) nx)))
      obtain ⟨h1, h2⟩ := hf i hlt e
      rw [h1, h2]
      exact hm0
def rvE (v : RV) : Value := .agg (rvC v)
theorem Rput_ok {mm : SpM} {i : Nat} {t : Sec} (h : RMs w N v.A d) (hn : v.n = d.safe.length) (hsl : d.safe.length ≤ 4096) (hN : ∀ k, N k → k < w.heap.size) (hi : i < d.safe.length) (hm : SpR w N mm (d.safe.getD i z0) (some t)) :
    Calls Try.prog 60 #[rvE v, .int .i64 (i : Int), .agg (eSp mm).toArray] w fun e w' => ∃ A c, e = .returned (rvE { v with A := A, c := c }) ∧ RMs w' N A { d with pend := putK d.pend (i : Int) t } ∧ Below w.heap.size w w' := by
  apply f_ref07_put.ok
  unfold f_ref07_put.wp
  refine al_new fun w1 b1 e1 s1 hb1 g1 => al_new fun w2 b3 e3 s3 hb3 g2 => al_new fun w3 b5 e5 s5 hb5 g3 => ?_
  have G : Below w.heap.size w w3 := (g1.trans (g2.mono (by omega))).trans (g3.mono (by omega))
  have hb1 : HB w3 b1 (rvC v) TRd := (hb1.below g2).below g3
  have hb3 := hb3.below g3
  have hw1 : w.heap.size ≤ b1 := by omega
  obtain ⟨N', hN'⟩ : ∃ N' : Nat → Prop, N' = fun k => N k ∨ (w.heap.size ≤ k ∧ k < w3.heap.size) := ⟨_, rfl⟩
  have hN3 : ∀ k, N' k → k < w3.heap.size := fun k hk => by
    rw [hN'] at hk
    rcases hk with hk | hk
    · have := hN k hk; omega
    · exact hk.2
  have up : ∀ k, k < w.heap.size → N' k → N k := fun k hk h => by
    rw [hN'] at h
    exact h.elim id fun h => by omega
  have dn : ∀ k, N k → N' k := fun k hk => by rw [hN']; exact .inl hk
  have i1 : N' b1 := by rw [hN']; exact .inr ⟨by omega, by omega⟩
  have i5 : N' b5 := by rw [hN']; exact .inr ⟨by omega, by omega⟩
  refine alW_intro ⟨_, put_l0 (N := N') (w0 := w3) (v := v) (mm := mm) (at_ := (i : Int)) (f := fun j => d.safe.getD j z0) (g := fun j => if (i : Int) = (j : Int) then some t else lk d.pend (j : Int)) ((h.out up).belw G) hn hsl hb1 hb3 (fun j hj hne => ⟨rfl, by rw [if_neg (fun e => hne e.symm)]⟩) (fun j hj e => ?_) (fun A c w4 a4 g4 => ?_) d.safe.length 0 _ 0 0 _ rfl (by omega) rfl (Acc.nil (Nat.le_refl _)) ((Below.refl _ _).alloc (Nat.le_refl _) _)⟩
  · have : j = i := by omega
    subst this
    rw [if_pos rfl]
    exact (hm.out up).belw G
  · intro _
    have G4 := G.trans (g4.mono G.size)
    have hb14 := hb1.below g4
    have hb54 := hb5.below g4
    have hr := a4.rms hN3 (d := { d with pend := putK d.pend (i : Int) t }) rfl (fun j hj => rfl) (fun j hj => lk_putK _)
    have sz := g4.size
    refine hb_st0 hb14 (by simp [rvC]) fun w5 h5 k5 => ?_
    have n15 : b5 ≠ b1 := by omega
    have hb55 := hb54.keeps k5 n15
    refine hb_ldS0 h5 rfl (hb_ldS (j := 1) h5 (A := v.P) (n := v.pn) (c := v.pc) rfl (hb_ldI (j := 2) h5 (x := v.st) rfl (hb_ldB (j := 3) h5 (x := v.off) rfl ?_)))
    refine hb_st0 hb55 (by simp) fun w6 h6 k6 => hb_st h6 (by simp) fun w7 h7 k7 => hb_st h7 (by simp) fun w8 h8 k8 => hb_st h8 (by simp) fun w9 h9 k9 => ?_
    have k6' := ((k6.trans k7).trans k8).trans k9
    refine hb_ldS0 h9 rfl (hb_ldS (j := 1) h9 rfl (hb_ldI (j := 2) h9 rfl (hb_ldB (j := 3) h9 rfl ⟨A, c, ?_, ?_, ?_⟩)))
    · unfold rvE rvC; simp only [hn]
    · exact ((hr.keeps k5 fun k e => by rw [e]; exact i1).keeps k6' fun k e => by rw [e]; exact i5).out fun k _ => dn k
    · exact (G4.trans (k5.below G4.size fun k hk e => by omega)).trans (k6'.below (by have := k5.size; have := G4.size; omega) fun k hk e => by omega)
/-! ### fate -/
theorem Rfate_l0 {w0 : World} {b : Nat} {t : TypeId} (hb : HB w0 b (rvC v) t) (hr : RowE eF 2 w0 v.P d.plan) (hn : v.pn = d.plan.length) (hz : d.plan.length * 16 ≤ 140737488355328)
    {K0 : World → Prop} {Kr : Int → World → Prop} (k0 : fateOf v.st d.plan = 0 → ∀ w, Below w0.heap.size w0 w → K0 w) (kr : ∀ w, Below w0.heap.size w0 w → Kr (fateOf v.st d.plan) w) :
    ∀ (m i : Nat) (w : World), d.plan.length - i = m → i ≤ d.plan.length → fateOf v.st d.plan = fateOf v.st (d.plan.drop i) → Below w0.heap.size w0 w →
      f_ref07_fate.l0 (m + 1) (⟨b, 0, none⟩ : Addr) (i : Int) w K0 Kr := by
  intro m
  induction m with
  | zero =>
    intro i w hm hi hf g
    have : i = d.plan.length := by omega
    subst this
    unfold f_ref07_fate.l0
    rw [List.drop_length] at hf
    exact hb_ldS (j := 1) (hb.below g) (A := v.P) (n := v.pn) (c := v.pc) rfl (sel_f (by rw [hn]; simp) (k0 hf w g))
  | succ m ih =>
    intro i w hm hi hf g
    have hlt : i < d.plan.length := by omega
    have gd := g.drew
    have hbd := hb.below gd
    have hrd := hr.below EF gd
    have e : d.plan.drop i = d.plan[i] :: d.plan.drop (i + 1) := List.drop_eq_getElem_cons hlt
    rw [e] at hf
    obtain ⟨a, ha, hc⟩ := hrd i hlt
    have q0 : w.drew.cell? (a.add (i * 2)) = some (.int .i64 d.plan[i].1) := by
      have := hrd
      rw [ha] at this
      rw [this.c0 EF hlt]; rfl
    have q1 : w.drew.cell? ((a.add (i * 2)).add 1) = some (.int .i64 d.plan[i].2) := by rw [hc 1 (by decide)]; rfl
    have nx : ¬ okF v.st d.plan[i] → f_ref07_fate.l0 (m + 1) (⟨b, 0, none⟩ : Addr) (IntKind.i64.wrap ((i : Int) + 1)) w.drew K0 Kr := fun hn => by
      rw [wrs hlt (by omega)]
      refine ih (i + 1) _ (by omega) (by omega) ?_ gd
      rw [hf]
      show (if okF v.st d.plan[i] then _ else _) = _
      rw [if_neg hn]
    have lp : ∀ {K : Option Addr → Nat → Nat → Prop}, K v.P v.pn v.pc → ldS w.drew ((⟨b, 0, none⟩ : Addr).add 1) K := fun h => hb_ldS (j := 1) hbd (A := v.P) (n := v.pn) (c := v.pc) rfl h
    have lq : ∀ {K : Addr → Prop}, K a → optB v.P fun a => req (decide (0 ≤ (i : Int) ∧ (i : Int) < (v.pn : Int))) (K a) := fun h => optB_some ha (req_intro (by rw [hn]; simp; omega) h)
    unfold f_ref07_fate.l0
    rw [show ((i : Int).toNat) * 2 = i * 2 by omega]
    refine hb_ldS (j := 1) (hb.below g) (A := v.P) (n := v.pn) (c := v.pc) rfl (sel_t (by rw [hn]; simpa using hlt) (drW_intro (lp (lq (ldI_intro q0 (hb_ldI (j := 2) hbd (x := v.st) rfl ?_))))))
    by_cases c1 : d.plan[i].1 = v.st
    · refine sel_t (by simpa using c1) (lp (lq (ldI_intro q1 ?_)))
      by_cases c2 : 1 ≤ d.plan[i].2
      · refine sel_t (by simpa using c2) (lp (lq (ldI_intro q1 ?_)))
        by_cases c3 : d.plan[i].2 ≤ 3
        · refine sel_t (by simpa using c3) (lp (lq (ldI_intro q1 ?_)))
          have : fateOf v.st d.plan = d.plan[i].2 := by
            rw [hf]
            show (if okF v.st d.plan[i] then _ else _) = _
            rw [if_pos (show okF v.st d.plan[i] from ⟨c1, c2, c3⟩)]
          rw [← this]
          exact kr _ gd
        · exact sel_f (by simpa using c3) (nx fun h => c3 h.2.2)
      · exact sel_f (by simpa using c2) (nx fun h => c2 h.2.1)
    · exact sel_f (by simpa using c1) (nx fun h => c1 h.1)
theorem Rfate_ok (hr : RowE eF 2 w v.P d.plan) (hn : v.pn = d.plan.length) (hz : d.plan.length * 16 ≤ 140737488355328) :
    Calls Try.prog 59 #[rvE v] w fun e w' => e = .returned (.int .i64 (fateOf v.st d.plan)) ∧ Below w.heap.size w w' := by
  apply f_ref07_fate.ok
  unfold f_ref07_fate.wp
  refine al_new fun w1 b1 e1 s1 hb1 g1 => ?_
  have hb1 : HB w1 b1 (rvC v) TRd := hb1
  refine ⟨_, Rfate_l0 (w0 := w1) hb1 (hr.below EF g1) hn hz (fun h w2 g2 => ?_) (fun w2 g2 => ?_) d.plan.length 0 w1 rfl (by omega) rfl (Below.refl _ _)⟩
  · intro _; rw [h]; exact ⟨rfl, g1.trans (g2.mono g1.size)⟩
  · intro _; exact ⟨rfl, g1.trans (g2.mono g1.size)⟩
end
end Go.Proofs.Ythekjlglnmhlaaa.Rd
