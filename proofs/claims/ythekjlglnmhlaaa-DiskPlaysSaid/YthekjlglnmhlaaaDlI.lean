/- The statement DiskPlays: whatever is done to a disk, it answers and is as the document says. Conditions: none. -/
import Derived.Test.YthekjlglnmhlaaaDlH
import Derived.Test.YthekjlglnmhlaaaRdL6
namespace Go.Proofs.Ythekjlglnmhlaaa.Rd
open Go.Dn Go.RowKit Go.Shelf
set_option linter.unusedVariables false
set_option linter.unusedSimpArgs false
set_option maxRecDepth 100000
section
variable {w w' : World} {B : Nat} {d : Dk}
theorem Plays_l1 {A : Option Addr} {c : Nat} {ops : List DOp} {D b : Nat} {w0 : World} (hB : B ≤ w0.heap.size) (hb : B ≤ b) {K0 : World → Prop} {Kr : Bool → World → Prop}
    (k0 : ∀ w r d v, r.D = D → HB w b (rvC v) TRd → DM w B r d → RM w (fun k => FD r k ∨ k = b) v d → Keeps (fun k => B ≤ k) w0 w → K0 w) :
    ∀ (m i : Nat) (w : World) (r : RD) (d : Dk) (v : RV), ops.length - i = m → i ≤ ops.length → r.D = D → HB w b (rvC v) TRd → DM w B r d → RM w (fun k => FD r k ∨ k = b) v d → ¬ FD r b → Keeps (fun k => B ≤ k) w0 w → RDo w B A ops →
      f_law07_DiskPlays.l1 (m + 1) (some ⟨D, 0, none⟩) (⟨b, 0, none⟩ : Addr) A ops.length c (ops.length : Int) (i : Int) w K0 Kr := by
  intro m
  induction m with
  | zero =>
    intro i w r d v hm hi eD hv h hr hnb k ho
    unfold f_law07_DiskPlays.l1
    exact sel_f (by simp; omega) (k0 w r d v eD hv h hr k)
  | succ m ih =>
    intro i w r d v hm hi eD hv h hr hnb k ho
    have hlt : i < ops.length := by omega
    have hmem : ops[i] ∈ ops := List.getElem_mem hlt
    unfold f_law07_DiskPlays.l1
    refine sel_t (by simpa using hlt) (op_ld ho.row hlt (op_box fun b30 w1 e1 h1 g1 => ?_))
    have hv1 := hv.below g1
    refine hb_ldS0 hv1 (A := v.A) (n := v.n) (c := v.c) rfl (hb_ldS (j := 1) hv1 (A := v.P) (n := v.pn) (c := v.pc) rfl (hb_ldI (j := 2) hv1 (x := v.st) rfl (hb_ldB (j := 3) hv1 (x := v.off) rfl ?_)))
    refine hb_ldI0 h1 rfl (hb_ldI (j := 1) h1 rfl (hb_ldS (j := 2) h1 rfl (hb_ldS (j := 3) h1 rfl (hb_ldS (j := 4) h1 rfl ?_))))
    subst eD
    have s0 := k.size
    have s1 := g1.size
    have hm1 := h.below g1
    have hbl := hv.lt
    refine (asks_ok (N := fun k => FD r k ∨ k = b) hm1 (hr.belw g1) (fun k => .inl) (fun k hk => hk.elim (fun hk => (hm1.lt k hk).1) fun hk => by omega) (fun k hk => hk.elim (fun hk => (hm1.lt k hk).2) fun hk => by omega) ((ho.ok _ hmem).keep (.of_below g1)) (by omega)).mono ?_
    rintro _ w2 ⟨v', r', rfl, eD', hm2, hr2, k2, f2⟩
    have KB2 : Keeps (fun k => B ≤ k) w1 w2 := k2.mono fun i hi ho => (hm1.lt i ho).2
    have s2 := k2.size
    have hv2 := hv1.keeps k2 hnb
    have hnb' : ¬ FD r' b := fun hf => (f2 b hf).elim hnb fun h => by omega
    refine ⟨_, _, _, _, _, _, _, _, _, rfl, al_new fun w3 b49 e3 s3 h49 g3 => ?_⟩
    refine rv_st h49 rfl v' fun w4 k4 _ => ?_
    have G4 : Below w2.heap.size w2 w4 := g3.trans (k4.below g3.size fun k hk e => by omega)
    have hv4 := hv2.below G4
    refine hb_st0 hv4 (by simp [rvC]) fun w5 e5 k5 => hb_st e5 (by simp [rvC]) fun w6 e6 k6 => hb_st e6 (by simp [rvC]) fun w7 e7 k7 => hb_st e7 (by simp [rvC]) fun w8 e8 k8 => ?_
    have kk := ((k5.trans k6).trans k7).trans k8
    have e8 : HB w8 b (rvC v') TRd := e8
    have hm8 : DM w8 B r' (doD d ops[i]) := (hm2.below G4).keeps kk fun j hj e => hnb' (e ▸ hj)
    have hr8 : RM w8 (fun k => FD r' k ∨ k = b) v' (doD d ops[i]) := ((hr2.belw G4).keeps kk fun k e => .inl (.inr e)).out fun k _ hk => hk.elim .inr fun h => .inl (.inr h)
    refine sel_f rfl (hb_ldS0 e8 (A := v'.A) (n := v'.n) (c := v'.c) rfl (hb_ldS (j := 1) e8 (A := v'.P) (n := v'.pn) (c := v'.pc) rfl (hb_ldI (j := 2) e8 (x := v'.st) rfl (hb_ldB (j := 3) e8 (x := v'.off) rfl ?_))))
    rw [← eD']
    refine (stands_ok hm8 hr8).mono ?_
    rintro _ w9 ⟨rfl, g9⟩
    refine ⟨_, rfl, sel_f rfl ?_⟩
    rw [wrs hlt ho.len]
    have KK : Keeps (fun k => B ≤ k) w w9 := ((((Keeps.of_below g1).trans KB2).trans (.of_below G4)).trans (kk.mono fun k _ e => by omega)).trans (.of_below g9)
    rw [eD']
    exact ih (i + 1) w9 r' _ v' (by omega) (by omega) eD' (e8.below g9) (hm8.below g9) (hr8.belw g9) hnb' (k.trans KK) (ho.keep KK)
end
theorem Plays_j0 {w : World} {A0 A1 : Option Addr} {n0 c0 c1 : Nat} {l0 : List Int} {l1 : List DOp} (r0 : RB w A0 l0) (e0 : n0 = l0.length) (hl0 : l0.length ≤ 20000) (h1 : RDo w w.heap.size A1 l1) {Kr : Bool → World → Prop} (kr : ∀ w', Below w.heap.size w w' → Kr true w') :
    f_law07_DiskPlays.j0 A0 n0 c0 A1 l1.length c1 w Kr := by
  subst e0
  unfold f_law07_DiskPlays.j0
  refine (Wide_ok r0 rfl (by omega)).mono ?_
  rintro _ w1 ⟨A2, c2, rfl, o1, g1⟩
  have s1 := g1.size
  have ll : (l0 ++ padL 64).length = l0.length + 64 := by rw [List.length_append, padL_len]
  have cc := OwnE.cap' o1
  refine ⟨_, _, _, rfl, req_intro (by simp; omega) ?_⟩
  rw [slA00]
  have r1 : RB w1 A2 l0 := by
    have := (OwnE.rb o1).take l0.length
    rwa [List.take_left] at this
  refine (Load_ok r1 (by omega) (by omega) (by omega) (fun a ha _ => (o1.block a ha).2)).mono ?_
  rintro _ w2 ⟨r, rfl, h2, g2⟩
  have s2 := g2.size
  refine ⟨_, rfl, sel_f rfl ((Intact_ok (OwnE.rb (o1.below g2)) rfl ((r0.belw g1).belw g2) rfl (by omega)).mono ?_)⟩
  rintro _ w3 ⟨rfl, g3⟩
  have s3 := g3.size
  refine ⟨_, rfl, sel_f rfl ((Spoil_ok (.of_own ((o1.below g2).below g3)) rfl (by omega)).mono ?_)⟩
  rintro _ w4 ⟨rfl, -, k4⟩
  have s4 := k4.size
  have fA : ∀ k, Ob A2 k → w.heap.size ≤ k ∧ k < w1.heap.size := fun k ⟨a, ha, e⟩ => by have := o1.block a ha; omega
  have G3 : Below w.heap.size w w3 := (g1.trans (g2.mono s1)).trans (g3.mono (by omega))
  have G4 : Below w.heap.size w w4 := G3.trans (k4.below (by omega) fun k hk h => by have := fA k h; omega)
  have h4 : DM w4 w1.heap.size r (loadD l0) := (h2.below g3).keeps k4 fun b hb hk => by have := (h2.lt b hb).2; have := fA _ hk; omega
  refine ⟨rfl, (RLoad_ok (N := FD r) (r0.belw G4) rfl (by omega) (fun k hk => (h4.lt k hk).1)).mono ?_⟩
  rintro _ w5 ⟨v, rfl, h5, g5⟩
  have s5 := g5.size
  refine ⟨_, _, _, _, _, _, _, _, rfl, al_new fun w6 b6 e6 s6 hb6 g6 => ?_⟩
  refine hb_st0 hb6 (by decide) fun w7 e7 k7 => hb_st e7 (by simp) fun w8 e8 k8 => hb_st e8 (by simp) fun w9 e9 k9 => hb_st e9 (by simp) fun w10 e10 k10 => ?_
  have kk := ((k7.trans k8).trans k9).trans k10
  have e10 : HB w10 b6 (rvC v) TRd := e10
  have G10 : Below w5.heap.size w5 w10 := g6.trans (kk.below g6.size fun k hk e => by omega)
  have s10 := G10.size
  have h10 : DM w10 w1.heap.size r (loadD l0) := (h4.below g5).below G10
  have nb : ¬ FD r b6 := fun hf => by have := (h4.lt _ hf).1; omega
  have r10 : RM w10 (fun k => FD r k ∨ k = b6) v (loadD l0) := (h5.out (N' := fun k => FD r k ∨ k = b6) fun k hk h => h.elim id fun h => by omega).belw G10
  have GG : Below w.heap.size w w10 := (G4.trans (g5.mono G4.size)).trans (G10.mono (by have := G4.size; omega))
  have q1 : RDo w10 w1.heap.size A1 l1 := (h1.mono s1).keep (.of_below GG)
  refine ⟨_, Plays_l1 (w0 := w10) (B := w1.heap.size) (D := r.D) (by omega) (by omega) (fun w11 r' d' v' eD hb hm hr k11 => ?_) l1.length 0 w10 r (loadD l0) v rfl (by omega) rfl e10 h10 r10 nb (.refl _ _) q1⟩
  intro _
  refine hb_ldS0 hb (A := v'.A) (n := v'.n) (c := v'.c) rfl (hb_ldS (j := 1) hb (A := v'.P) (n := v'.pn) (c := v'.pc) rfl (hb_ldI (j := 2) hb (x := v'.st) rfl (hb_ldB (j := 3) hb (x := v'.off) rfl ?_)))
  rw [← eD]
  refine (stands_ok hm hr).mono ?_
  rintro _ w12 ⟨rfl, g12⟩
  exact ⟨_, rfl, kr _ ((GG.trans (k11.below GG.size fun k hk e => by omega)).trans (g12.mono (by have := GG.size; have := k11.size; omega)))⟩
theorem DiskPlays_row {w : World} {A0 A1 : Option Addr} {n0 c0 c1 : Nat} {zs : List Int} {l1 : List DOp} (h0 : IsRow .u8 w A0 n0 c0 zs) (s0 : n0 * 1 ≤ 140737488351232) (h1 : RDo w w.heap.size A1 l1) :
    Calls Try.prog 6 #[.slice A0 n0 c0, .slice A1 l1.length c1] w fun e w' => e = .returned (.bool true) ∧ Below w.heap.size w w' := by
  obtain ⟨l0, e0, r0, b0, _, cc⟩ := rb_row h0
  subst e0
  apply f_law07_DiskPlays.ok
  unfold f_law07_DiskPlays.wp
  refine (alive_ok w).mono ?_
  rintro _ w1 ⟨rfl, g1⟩
  have q1 : RDo w1 w1.heap.size A1 l1 := (h1.mono g1.size).keep (.of_below g1)
  refine ⟨_, rfl, sel_f rfl ?_⟩
  by_cases hc : 20000 < l0.length
  · refine sel_t (by simp; omega) (req_intro (by simp; omega) ?_)
    rw [slA00]
    have tk : (l0.take 20000).length = 20000 := by rw [List.length_take]; omega
    exact Plays_j0 ((r0.belw g1).take 20000) (by rw [tk]) (by omega) q1 fun w' g' _ => ⟨rfl, g1.trans (g'.mono g1.size)⟩
  · exact sel_f (by simp; omega) (Plays_j0 (r0.belw g1) rfl (by omega) q1 fun w' g' _ => ⟨rfl, g1.trans (g'.mono g1.size)⟩)
end Go.Proofs.Ythekjlglnmhlaaa.Rd
