/- The document's disk in memory: On, Load, Loose, All, Safe. Conditions: none. -/
import Derived.Test.YthekjlglnmhlaaaDlD
namespace Go.Proofs.Ythekjlglnmhlaaa.Rd
open Go.Dn Go.RowKit Go.Shelf
set_option linter.unusedVariables false
set_option linter.unusedSimpArgs false
set_option maxRecDepth 100000
section
variable {w w' : World} {N S : Nat → Prop} {d : Dk} {v : RV}
/-! ### On -/
theorem On_l0 {w0 : World} {b1 : Nat} {t1 : TypeId} {Ak : Option Addr} {ck : Nat} {ks : List Int} (h : RMs w0 N v.A d) (hn : v.n = d.safe.length) (hsl : d.safe.length ≤ 4096) (hb1 : HB w0 b1 (rvC v) t1) (rk : RI w0 Ak ks) (hk : ks.length ≤ 140737488355328)
    {K0 : Option Addr → Nat → Nat → World → Prop} (k0 : ∀ A c w, Acc w w0 N A c (fun j => if (j : Int) ∈ ks then hasS d (j : Int) else d.safe.getD j z0) (fun _ => none) d.safe.length → Below w0.heap.size w0 w → K0 A d.safe.length c w) :
    ∀ (m i : Nat) (A : Option Addr) (n c : Nat) (w : World), d.safe.length - i = m → i ≤ d.safe.length → n = i → Acc w w0 N A c (fun j => if (j : Int) ∈ ks then hasS d (j : Int) else d.safe.getD j z0) (fun _ => none) i → Below w0.heap.size w0 w →
      f_ref07_On.l0 (m + 1) Ak ks.length ck (⟨b1, 0, none⟩ : Addr) A n c (i : Int) w K0 := by
  intro m
  induction m with
  | zero =>
    intro i A n c w hm hi en a hb
    have : i = d.safe.length := by omega
    subst this
    subst en
    unfold f_ref07_On.l0
    exact hb_ldS0 (hb1.below hb) (A := v.A) (n := v.n) (c := v.c) rfl (sel_f (by rw [hn]; simp) (k0 _ _ _ a hb))
  | succ m ih =>
    intro i A n c w hm hi en a hb
    have hlt : i < d.safe.length := by omega
    have lv : ∀ {w : World} {K : Option Addr → Nat → Nat → Prop}, Below w0.heap.size w0 w → K v.A v.n v.c → ldS w (⟨b1, 0, none⟩ : Addr) K := fun g h => hb_ldS0 (hb1.below g) (A := v.A) (n := v.n) (c := v.c) rfl h
    have nx : ∀ A' c' w', Acc w' w0 N A' c' (fun j => if (j : Int) ∈ ks then hasS d (j : Int) else d.safe.getD j z0) (fun _ => none) (i + 1) → Below w0.heap.size w0 w' → f_ref07_On.l0 (m + 1) Ak ks.length ck (⟨b1, 0, none⟩ : Addr) A' (i + 1) c' (IntKind.i64.wrap ((i : Int) + 1)) w' K0 := fun A' c' w' a' hb' => by
      rw [wrs hlt (by omega)]
      exact ih (i + 1) A' (i + 1) c' w' (by omega) (by omega) rfl a' hb'
    unfold f_ref07_On.l0
    have e3 : ((i : Int).toNat) * 3 = i * 3 := by omega
    refine lv hb (sel_t (by rw [hn]; simpa using hlt) (lv hb ((h.src hb a.blk).ld hlt hn fun a0 m0 q0 q1 q2 hm0 => ?_)))
    rw [e3]
    refine ldS_intro q0 (al_new fun w1 b11 e11 s11 hb11 g1 => hb_st0 hb11 (by decide) fun w2 h2 k2 => hb_st h2 (by simp) fun w3 h3 k3 => hb_st h3 (by simp) fun w4 h4 k4 => ?_)
    have g4 : Below w.heap.size w w4 := g1.trans (((k2.trans k3).trans k4).below g1.size fun k hk e => by omega)
    have hb4 := hb.trans (g4.mono hb.size)
    have s4 := hb4.size
    have sw := hb.size
    have a_blk := a.blk
    have h4 : HB w4 b11 #[.slice m0.A m0.n m0.c, .slice none 0 0, .bool false] TSp := h4
    refine (Has_ok ((show RI w4 Ak ks from rk.below hb4 (Nat.le_refl _))) rfl hk (i : Int)).mono ?_
    rintro _ w4 ⟨rfl, rfl⟩
    refine ⟨_, rfl, ?_⟩
    have a4 := a.belw g4
    by_cases hi2 : (i : Int) ∈ ks
    · have hs : RMs w4 (fun k => N k ∨ w0.heap.size ≤ k) v.A d := (h.out fun k hk h => h.elim id fun h => by omega).belw hb4
      refine sel_t (by simpa using hi2) (lv hb4 (hs.ld hlt hn fun a0 m1 q0 q1 q2 hm1 => ?_))
      refine ldS_intro q0 (ldS_intro q1 (ldB_intro q2 ((Rhas_ok hm1).mono ?_)))
      rintro _ w5 ⟨A5, c5, rfl, r5, b5, g5⟩
      have hb5 := hb4.trans (g5.mono hb4.size)
      have e : ((lk d.pend (i : Int)).getD (d.safe.getD i z0)) = hasS d (i : Int) := by unfold hasS; rw [Int.toNat_natCast]
      rw [e] at r5
      refine ⟨_, _, _, rfl, hb_st0 (h4.below g5) (by simp) fun w6 h6 k6 => ?_⟩
      have hb6 : Below w0.heap.size w0 w6 := hb5.trans (k6.below hb5.size fun k hk e => by omega)
      have g6 : Below w.heap.size w w6 := (g4.trans (g5.mono g4.size)).trans (k6.below (by have := g4.size; have := g5.size; omega) fun k hk e => by omega)
      refine hb_ldS0 h6 rfl (hb_ldS (j := 1) h6 (A := none) (n := 0) (c := 0) rfl (hb_ldB (j := 2) h6 (x := false) rfl ((a.belw g6).put en (m := ⟨A5, 512, c5, none, 0, 0, false⟩) ?_ rfl hb6 (by omega) nx)))
      refine ⟨?_, rfl, fun a ha h => b5 a ha (h.elim .inl fun ⟨a1, ha1, e1⟩ => .inr (by have := a_blk a1 ha1; omega)), rfl, fun t ht => by cases ht⟩
      simp only [if_pos hi2]
      exact r5.keeps k6 fun a ha e => b5 a ha (.inr (by omega))
    · refine sel_f (by simpa using hi2) (hb_ldS0 h4 rfl (hb_ldS (j := 1) h4 (A := none) (n := 0) (c := 0) rfl (hb_ldB (j := 2) h4 (x := false) rfl (a4.put en (m := ⟨m0.A, m0.n, m0.c, none, 0, 0, false⟩) ?_ rfl hb4 (by omega) nx))))
      have hm4 := hm0.belw g4
      refine ⟨?_, hm4.n, hm4.a, rfl, fun t ht => by cases ht⟩
      simp only [if_neg hi2]
      exact hm4.r
theorem ROn_ok (h : RM w N v d) (hN : ∀ k, N k → k < w.heap.size) {Ak : Option Addr} {n ck : Nat} {ks : List Int} (rk : RI w Ak ks) (hn : n = ks.length) (hk : ks.length ≤ 140737488355328) :
    Calls Try.prog 49 #[rvE v, .slice Ak n ck] w fun e w' => ∃ v', e = .returned (rvE v') ∧ RM w' N v' (onD d ks) ∧ Below w.heap.size w w' := by
  subst hn
  apply f_ref07_On.ok
  unfold f_ref07_On.wp
  refine al_new fun w1 b1 e1 s1 hb1 g1 => al_new fun w2 b3 e3 s3 hb3 g2 => ?_
  have hb1 : HB w2 b1 (rvC v) TRd := HB.below (cs := rvC v) hb1 g2
  have G2 := g1.trans (g2.mono g1.size)
  have s0 := G2.size
  obtain ⟨N2, hN2⟩ : ∃ N2, N2 = NN N w.heap.size w2.heap.size := ⟨_, rfl⟩
  have dn : ∀ k, N k → N2 k := fun k hk => by rw [hN2]; exact .inl hk
  have lt2 : ∀ k, N2 k → k < w2.heap.size := by rw [hN2]; exact NN.lt hN (by omega)
  have i1 : N2 b1 := by rw [hN2]; exact .inr ⟨by omega, by omega⟩
  have i3 : N2 b3 := by rw [hN2]; exact .inr ⟨by omega, by omega⟩
  have hms : RMs w2 N2 v.A d := (h.ms.out (by rw [hN2]; exact NN.up)).belw G2
  have n13 : b3 ≠ b1 := by omega
  refine alW_intro ⟨_, On_l0 (w0 := w2) (v := v) (ks := ks) hms h.n h.sl hb1 (show RI w2 Ak ks from rk.below G2 (Nat.le_refl _)) hk (fun A c w4 a4 g4 => ?_) d.safe.length 0 _ 0 0 _ rfl (by omega) rfl (Acc.nil (Nat.le_refl _)) ((Below.refl _ _).alloc (Nat.le_refl _) _)⟩
  intro _
  have hl : (onD d ks).safe.length = d.safe.length := kept_len _ _
  have G4 := G2.trans (g4.mono G2.size)
  have hms4 : RMs w4 N2 A (onD d ks) := a4.rms lt2 hl.symm (fun j hj => by
    rw [List.getD_eq_getElem?_getD, List.getElem?_eq_getElem hj, Option.getD_some]
    exact kept_get d ks j hj) (fun j hj => rfl)
  refine hb_st0 (hb1.below g4) (by simp [rvC]) fun w5 h5 k5 => hb_st (j := 3) h5 (by simp [rvC]) fun w6 h6 k6 => ?_
  have k56 := k5.trans k6
  have hb16 : HB w6 b1 (rvC { v with A := A, n := d.safe.length, c := c, off := false }) TRd := h6
  have G6 : Below w.heap.size w w6 := G4.trans (k56.below G4.size fun k hk e => by omega)
  refine rv_ret hb16 ((hb3.below g4).keeps k56 n13) rfl fun w7 k7 _ => ⟨{ v with A := A, n := d.safe.length, c := c, off := false }, rfl, ?_, G6.trans (k7.below G6.size fun k hk e => by omega)⟩
  have q := h.belw (G6.trans (k7.below G6.size fun k hk e => by omega))
  exact ⟨((hms4.keeps k56 fun k e => by rw [e]; exact i1).keeps k7 fun k e => by rw [e]; exact i3).out fun k _ => dn k, hl.symm, by rw [hl]; exact q.sl, q.pl, q.pn, q.pb, q.pz, q.st, rfl⟩
end
end Go.Proofs.Ythekjlglnmhlaaa.Rd
