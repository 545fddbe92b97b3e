/- The statement DiskLoad: the walk. Conditions: none. -/
import Derived.Test.YthekjlglnmhlaaaDkW
namespace Go.Proofs.Ythekjlglnmhlaaa.Rd
open Go.Dn Go.RowKit Go.Shelf
set_option linter.unusedVariables false
set_option linter.unusedSimpArgs false
set_option maxRecDepth 100000
theorem Same_l0 {A1 A2 : Option Addr} {l1 l2 : List Int} {c1 c2 : Nat} (hlen : l1.length = l2.length) (hmax : l1.length ≤ 17592186044416) {w0 : World} (r1 : RI w0 A1 l1) (r2 : RI w0 A2 l2) {K0 : World → Prop} {Kr : Bool → World → Prop}
    (h0 : l1 = l2 → ∀ w', Below w0.heap.size w0 w' → K0 w') (h1 : l1 ≠ l2 → ∀ w', Below w0.heap.size w0 w' → Kr false w') : ∀ (m i : Nat) (w : World), l1.length - i = m → i ≤ l1.length → l1.take i = l2.take i → Below w0.heap.size w0 w →
    f_ref01_SameInts.l0 (m + 1) A1 l1.length c1 A2 l2.length c2 (i : Int) w K0 Kr := by
  intro m
  induction m with
  | zero =>
    intro i w hm hi ht hb
    have : i = l1.length := by omega
    subst this
    unfold f_ref01_SameInts.l0
    refine sel_f (by simp) (h0 ?_ w hb)
    rw [List.take_length, hlen, List.take_length] at ht; exact ht
  | succ m ih =>
    intro i w hm hi ht hb
    have hlt : i < l1.length := by omega
    have hlt2 : i < l2.length := by omega
    have hbd := hb.drew
    obtain ⟨a1, rfl, q1⟩ := (r1.below hbd (Nat.le_refl _)) i hlt
    obtain ⟨a2, rfl, q2⟩ := (r2.below hbd (Nat.le_refl _)) i hlt2
    unfold f_ref01_SameInts.l0
    refine sel_t (by simpa using hlt) (drW_intro (optB_some rfl (req_intro (by simp; omega) (ldI_intro (x := l1[i]) (by rw [Int.toNat_natCast, Nat.mul_one]; exact q1) (optB_some rfl (req_intro (by simp; omega) (ldI_intro (x := l2[i]) (by rw [Int.toNat_natCast, Nat.mul_one]; exact q2) ?_)))))))
    by_cases e : l1[i] = l2[i]
    · refine sel_f (by simp [e]) ?_
      rw [w64_in (by omega), show (i : Int) + 1 = ((i + 1 : Nat) : Int) by omega]
      exact ih (i + 1) _ (by omega) (by omega) (by rw [List.take_succ_eq_append_getElem hlt, List.take_succ_eq_append_getElem hlt2, ht, e]) hbd
    · refine sel_t (by simp [e]) (h1 ?_ _ hbd)
      intro he; subst he; exact e rfl
theorem SameInts_ok {w : World} {A1 A2 : Option Addr} {l1 l2 : List Int} {n1 n2 c1 c2 : Nat} (r1 : RI w A1 l1) (e1 : n1 = l1.length) (r2 : RI w A2 l2) (e2 : n2 = l2.length) (hmax : l1.length ≤ 17592186044416) :
    Calls Try.prog 28 #[.slice A1 n1 c1, .slice A2 n2 c2] w fun e w' => e = .returned (.bool (decide (l1 = l2))) ∧ Below w.heap.size w w' := by
  subst e1; subst e2
  apply f_ref01_SameInts.ok
  unfold f_ref01_SameInts.wp
  by_cases hl : l1.length = l2.length
  · refine sel_f (by simp [hl]) ⟨_, Same_l0 hl hmax r1 r2 ?_ ?_ l1.length 0 w rfl (by omega) (by simp) (Below.refl _ _)⟩
    · intro e w' hb _; exact ⟨by simp [e], hb⟩
    · intro e w' hb _; exact ⟨by simp [e], hb⟩
  · refine sel_t (by simp only [bne_iff_ne, ne_eq]; omega) ⟨?_, Below.refl _ _⟩
    have : l1 ≠ l2 := fun e => hl (by rw [e])
    simp [this]
section
variable {w w' : World} {B : Nat} {d : Dk}
theorem Load_l0' {A : Option Addr} {c : Nat} {ops : List DOp} {D : Nat} {w0 : World} (hB : B ≤ w0.heap.size) {K0 : World → Prop}
    (k0 : ∀ w r, r.D = D → DM w B r (doAll d ops) → Keeps (fun k => B ≤ k) w0 w → RDo w B A ops → K0 w) :
    ∀ (m i : Nat) (w : World) (r : RD), ops.length - i = m → i ≤ ops.length → r.D = D → DM w B r (doAll d (ops.take i)) → Keeps (fun k => B ≤ k) w0 w → RDo w B A ops →
      f_law07_DiskLoad.l0 (m + 1) (some ⟨D, 0, none⟩) A ops.length c (ops.length : Int) (i : Int) w K0 := by
  intro m
  induction m with
  | zero =>
    intro i w r hm hi eD h k ho
    have : i = ops.length := by omega
    subst this
    rw [List.take_length] at h
    unfold f_law07_DiskLoad.l0
    exact sel_f (by simp) (k0 w r eD h k ho)
  | succ m ih =>
    intro i w r hm hi eD h k ho
    have hlt : i < ops.length := by omega
    have hmem : ops[i] ∈ ops := List.getElem_mem hlt
    unfold f_law07_DiskLoad.l0
    refine sel_t (by simpa using hlt) (op_ld ho.row hlt (op_box fun b w1 e1 h1 g1 => ?_))
    have kb : Keeps (fun k => B ≤ k) w w1 := .of_below g1
    refine hb_ldI0 h1 rfl (hb_ldI (j := 1) h1 rfl (hb_ldS (j := 2) h1 rfl (hb_ldS (j := 3) h1 rfl (hb_ldS (j := 4) h1 rfl ?_))))
    subst eD
    have := k.size
    have := g1.size
    refine (do_ok (h.below g1) ((ho.ok _ hmem).keep kb) (by omega)).mono ?_
    rintro _ w2 ⟨rfl, r', e', h2, k2⟩
    rw [wrs hlt ho.len]
    exact ⟨rfl, ih (i + 1) w2 r' (by omega) (by omega) e' (by rw [doAll_snoc d ops hlt]; exact h2) ((k.trans kb).trans k2) (ho.keep (kb.trans k2))⟩

theorem bytes_le {w : World} {B : Nat} {r : RD} {d : Dk} (h : DM w B r d) : (bytesOf (allD d)).length ≤ 140737488355328 ∧ (bytesOf d.safe).length ≤ 140737488355328 ∧ (looseD d).length ≤ 17592186044416 := by
  have := h.sl
  refine ⟨by rw [bytesOf_len, allD_len]; omega, by rw [bytesOf_len]; omega, ?_⟩
  have : (looseD d).length ≤ d.safe.length := by unfold looseD; exact Nat.le_trans (List.length_filter_le _ _) (by simp)
  omega
theorem Load_l1 {A : Option Addr} {c : Nat} {ops : List DOp} {D X Bx : Nat} {w0 : World} (hB : B ≤ w0.heap.size) (hBx : Bx ≤ w0.heap.size) (hBB : B ≤ Bx) {K0 : World → Prop} {Kr : Bool → World → Prop}
    (k0 : ∀ w r d r' x, r.D = D → r'.D = X → DM w B r d → DM w Bx r' x → (∀ k, FD r k → ¬ FD r' k) → Keeps (fun k => B ≤ k) w0 w → K0 w) :
    ∀ (m i : Nat) (w : World) (r : RD) (d : Dk) (r' : RD) (x : Dk), ops.length - i = m → i ≤ ops.length → r.D = D → r'.D = X → DM w B r d → DM w Bx r' x → (∀ k, FD r k → ¬ FD r' k) → Like d x → Keeps (fun k => B ≤ k) w0 w → RDo w B A ops →
      f_law07_DiskLoad.l1 (m + 1) (some ⟨D, 0, none⟩) (some ⟨X, 0, none⟩) A ops.length c (ops.length : Int) (i : Int) w K0 Kr := by
  intro m
  induction m with
  | zero =>
    intro i w r d r' x hm hi e1 e2 h hx dis hL k ho
    unfold f_law07_DiskLoad.l1
    exact sel_f (by simp; omega) (k0 w r d r' x e1 e2 h hx dis k)
  | succ m ih =>
    intro i w r d r' x hm hi e1 e2 h hx dis hL k ho
    have hlt : i < ops.length := by omega
    have hmem : ops[i] ∈ ops := List.getElem_mem hlt
    unfold f_law07_DiskLoad.l1
    refine sel_t (by simpa using hlt) (op_ld ho.row hlt (op_box fun b w1 eb hb g1 => ?_))
    have kb : Keeps (fun k => B ≤ k) w w1 := .of_below g1
    have s0 := k.size
    have s1 := g1.size
    subst e1 e2
    rw [wrs hlt ho.len]
    have h1 := h.below g1
    have hx1 := hx.below g1
    have ho1 := ho.keep kb
    refine hb_ldI0 hb rfl ?_
    by_cases c5 : ops[i].kind = 5
    · exact sel_t (by simpa using c5) (ih (i + 1) w1 r d r' x (by omega) (by omega) rfl rfl h1 hx1 dis hL (k.trans kb) ho1)
    refine sel_f (by simpa using c5) (hb_ldI0 hb rfl (hb_ldI (j := 1) hb rfl (hb_ldS (j := 2) hb rfl (hb_ldS (j := 3) hb rfl (hb_ldS (j := 4) hb rfl ((do_ok2 h1 (ho1.ok _ hmem) (by omega)).mono ?_))))))
    rintro _ w2 ⟨rfl, r2, e2, h2, k2, f2⟩
    have hx2 : DM w2 Bx r' x := hx1.keeps k2 fun b hb' hf => dis b hf hb'
    have hbn : ¬ FD r b := fun hf => by have := (h.lt b hf).1; omega
    have hb2 := hb.keeps k2 hbn
    have kB2 : Keeps (fun k => B ≤ k) w1 w2 := k2.mono fun i hi ho => (h1.lt i ho).2
    have ho2 := ho1.keep kB2
    have s2 := k2.size
    refine ⟨rfl, hb_ldI0 hb2 rfl (hb_ldI (j := 1) hb2 rfl (hb_ldS (j := 2) hb2 rfl (hb_ldS (j := 3) hb2 rfl (hb_ldS (j := 4) hb2 rfl ((do_ok2 hx2 ((ho2.mono hBB).ok _ hmem) (by omega)).mono ?_)))))⟩
    rintro _ w3 ⟨rfl, r3, e3, hx3, k3, f3⟩
    have h3 : DM w3 B r2 (doD d ops[i]) := h2.keeps k3 fun b hb' hf => by
      rcases f2 b hb' with h' | h'
      · exact dis b h' hf
      · have := (hx1.lt b hf).1; omega
    have dis3 : ∀ k, FD r2 k → ¬ FD r3 k := fun k hk hf => by
      rcases f3 k hf with h' | h'
      · rcases f2 k hk with h'' | h''
        · exact dis k h'' h'
        · have := (hx1.lt k h').1; omega
      · have := (h2.lt k hk).1; omega
    have kB3 : Keeps (fun k => B ≤ k) w2 w3 := k3.mono fun i hi ho => Nat.le_trans hBB (hx2.lt i ho).2
    have ho3 := ho2.keep kB3
    have L3 := hL.doD (o := ops[i]) c5
    rw [← e2, ← e3]
    obtain ⟨l1, l2, l3⟩ := bytes_le h3
    refine ⟨rfl, (All_ok h3).mono ?_⟩
    rintro _ w4 ⟨A4, c4, rfl, o4, g4⟩
    have h4 := h3.below g4
    have hx4 := hx3.below g4
    refine ⟨_, _, _, rfl, (All_ok hx4).mono ?_⟩
    rintro _ w5 ⟨A5, c5', rfl, o5, g5⟩
    have h5 := h4.below g5
    have hx5 := hx4.below g5
    rw [← L3.all] at o5 ⊢
    refine ⟨_, _, _, rfl, (BSame_ok ((OwnE.rb o4).belw g5) rfl (OwnE.rb o5) rfl l1).mono ?_⟩
    rintro _ w6 ⟨rfl, g6⟩
    have h6 := h5.below g6
    have hx6 := hx5.below g6
    refine ⟨_, rfl, sel_f (by simp) ((Safe_ok h6).mono ?_)⟩
    rintro _ w7 ⟨A7, c7, rfl, o7, g7⟩
    have h7 := h6.below g7
    have hx7 := hx6.below g7
    refine ⟨_, _, _, rfl, (Safe_ok hx7).mono ?_⟩
    rintro _ w8 ⟨A8, c8, rfl, o8, g8⟩
    have h8 := h7.below g8
    have hx8 := hx7.below g8
    rw [← L3.1] at o8 ⊢
    refine ⟨_, _, _, rfl, (BSame_ok ((OwnE.rb o7).belw g8) rfl (OwnE.rb o8) rfl l2).mono ?_⟩
    rintro _ w9 ⟨rfl, g9⟩
    have h9 := h8.below g9
    have hx9 := hx8.below g9
    refine ⟨_, rfl, sel_f (by simp) ((Loose_ok h9).mono ?_)⟩
    rintro _ w10 ⟨A10, c10, rfl, o10, g10⟩
    have h10 := h9.below g10
    have hx10 := hx9.below g10
    refine ⟨_, _, _, rfl, (Loose_ok hx10).mono ?_⟩
    rintro _ w11 ⟨A11, c11, rfl, o11, g11⟩
    have h11 := h10.below g11
    have hx11 := hx10.below g11
    rw [← L3.loose] at o11 ⊢
    refine ⟨_, _, _, rfl, (SameInts_ok (RI.blw (OwnI.reads o10) g11) rfl (OwnI.reads o11) rfl l3).mono ?_⟩
    rintro _ w12 ⟨rfl, g12⟩
    have kk : Keeps (fun k => B ≤ k) w3 w12 := (((((((((Keeps.of_below g4).trans (.of_below g5)).trans (.of_below g6)).trans (.of_below g7)).trans (.of_below g8)).trans (.of_below g9)).trans (.of_below g10)).trans (.of_below g11)).trans (.of_below g12))
    refine ⟨true, by simp, sel_f rfl ?_⟩
    have hA := h11.below g12
    have hC := hx11.below g12
    have kz := (((k.trans kb).trans kB2).trans kB3).trans kk
    have oz := ho3.keep kk
    generalize doD d ops[i] = d' at hA L3
    generalize doD x ops[i] = x' at hC L3
    rw [e2, e3]
    exact ih (i + 1) w12 r2 d' r3 x' (by omega) (by omega) e2 e3 hA hC dis3 L3 kz oz
end
end Go.Proofs.Ythekjlglnmhlaaa.Rd
