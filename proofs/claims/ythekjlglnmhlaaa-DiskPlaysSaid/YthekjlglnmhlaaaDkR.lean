/- The statement DiskSafe: what was safe stays. Conditions: none. -/
import Derived.Test.YthekjlglnmhlaaaDkQ
import Derived.Test.YthekjlglnmhlaaaRdL4
namespace Go.Proofs.Ythekjlglnmhlaaa.Rd
open Go.Dn Go.RowKit Go.Shelf
set_option linter.unusedVariables false
set_option linter.unusedSimpArgs false
set_option maxRecDepth 100000
/-! ### the plain law -/
structure Inv (n : Nat) (at_ : Int) (s : Sec) (d : Dk) : Prop where
  len : d.safe.length = n
  sf : d.safe.getD at_.toNat z0 = s
  pd : lk d.pend at_ = none
theorem Inv.has {n : Nat} {at_ : Int} {s : Sec} {d : Dk} (h : Inv n at_ s d) : hasS d at_ = s := by unfold hasS; rw [h.pd]; exact h.sf
theorem stepD_P {P : Dk → Prop} {d : Dk} {act : Dk → Dk} (h1 : ∀ s, P { d with steps := s }) (h2 : ∀ s, P { d with steps := s, off := true }) (h3 : ∀ s, P (act { d with steps := s })) (h4 : ∀ s, P { act { d with steps := s } with off := true }) : P (stepD d act) := by
  unfold stepD
  simp only
  split
  · exact h1 _
  · split
    · exact h2 _
    · split
      · exact h4 _
      · exact h3 _
theorem Inv.doD {n : Nat} {at_ : Int} {s : Sec} {d : Dk} (h : Inv n at_ s d) (h0 : 0 ≤ at_) (h1 : at_ < n) {o : DOp} (ho : o.kind ≠ 2 ∨ o.i ≠ at_) : Inv n at_ s (doD d o) := by
  have hl := h.len
  have hh := h.has
  have hat : ((at_.toNat : Nat) : Int) = at_ := by omega
  unfold Rd.doD
  split
  · rename_i hk
    have hi : o.i ≠ at_ := by rcases ho with ho | ho; exact absurd hk ho; exact ho
    unfold wrD
    split
    · exact h
    · split
      · exact h
      · have hp : lk (putK d.pend o.i (secOf o.data)) at_ = none := by rw [lk_putK]; rw [if_neg hi]; exact h.pd
        exact stepD_P (fun _ => ⟨h.len, h.sf, h.pd⟩) (fun _ => ⟨h.len, h.sf, h.pd⟩) (fun _ => ⟨h.len, h.sf, hp⟩) (fun _ => ⟨h.len, h.sf, hp⟩)
  · split
    · unfold syD
      split
      · exact h
      · have hs : ∀ st, (flushed { d with steps := st } []).getD at_.toNat z0 = s := fun st => by
          rw [List.getD_eq_getElem?_getD, List.getElem?_eq_getElem (by rw [flushed_len]; show at_.toNat < d.safe.length; omega), Option.getD_some, flushed_get, hat]
          simp only [hasK, List.any_nil, Bool.false_eq_true, if_false]
          exact hh
        exact stepD_P (fun _ => ⟨h.len, h.sf, h.pd⟩) (fun _ => ⟨h.len, h.sf, h.pd⟩) (fun st => ⟨(flushed_len _ _).trans h.len, hs st, rfl⟩) (fun st => ⟨(flushed_len _ _).trans h.len, hs st, rfl⟩)
    · split
      · refine ⟨(kept_len _ _).trans h.len, ?_, rfl⟩
        show (kept d o.keeps).getD at_.toNat z0 = s
        rw [List.getD_eq_getElem?_getD, List.getElem?_eq_getElem (by rw [kept_len]; omega), Option.getD_some, kept_get, hat]
        split
        · exact hh
        · exact h.sf
      · split
        · exact ⟨h.len, h.sf, h.pd⟩
        · exact h
/-! ### the script in memory -/
structure RDo (w : World) (B : Nat) (A : Option Addr) (ops : List DOp) : Prop where
  row : RowE dopE 5 w A ops
  lt : ops ≠ [] → ∀ a, A = some a → a.block < B
  ok : ∀ o ∈ ops, OkD w B o
  len : ops.length ≤ 140737488355328
theorem RDo.keep {w w' : World} {B : Nat} {A : Option Addr} {ops : List DOp} (h : RDo w B A ops) (k : Keeps (fun k => B ≤ k) w w') : RDo w' B A ops := by
  refine ⟨?_, h.lt, fun o ho => (h.ok o ho).keep k, h.len⟩
  by_cases h0 : ops = []
  · rw [h0]; exact RowE.nil _ _ _ _
  · exact h.row.keeps Edop k fun a ha hb => by have := h.lt h0 a ha; omega
def doAll (d : Dk) (ops : List DOp) : Dk := ops.foldl doD d
theorem doAll_snoc (d : Dk) (ops : List DOp) {i : Nat} (h : i < ops.length) : doAll d (ops.take (i + 1)) = doD (doAll d (ops.take i)) ops[i] := by
  unfold doAll
  rw [List.take_succ_eq_append_getElem h, List.foldl_append]
  rfl
/-- a call's cells out of the row -/
theorem op_ld {w : World} {A : Option Addr} {ops : List DOp} (h : RowE dopE 5 w A ops) {i : Nat} (hi : i < ops.length) {K : Int → Int → Option Addr → Nat → Nat → Option Addr → Nat → Nat → Option Addr → Nat → Nat → Prop}
    (hk : K ops[i].kind ops[i].i ops[i].A1 ops[i].data.length ops[i].c1 ops[i].A2 ops[i].keeps.length ops[i].c2 ops[i].A3 ops[i].fates.length ops[i].c3) :
    optB A fun a => req (decide (0 ≤ (i : Int) ∧ (i : Int) < (ops.length : Int))) <| ldI w (a.add ((i : Int).toNat * 5)) .i64 fun x8 => ldI w ((a.add ((i : Int).toNat * 5)).add 1) .i64 fun x9 =>
      ldS w ((a.add ((i : Int).toNat * 5)).add 2) fun A10 n10 c10 => ldS w ((a.add ((i : Int).toNat * 5)).add 3) fun A11 n11 c11 => ldS w ((a.add ((i : Int).toNat * 5)).add 4) fun A12 n12 c12 => K x8 x9 A10 n10 c10 A11 n11 c11 A12 n12 c12 := by
  obtain ⟨a, rfl, hc⟩ := h i hi
  rw [show ((i : Int).toNat) = i by omega]
  refine optB_some rfl (req_intro (by simp; omega) ?_)
  refine ldI_intro (x := ops[i].kind) (by have := h.c0 Edop hi; rw [this]; rfl) (ldI_intro (x := ops[i].i) (by have := h.cj hi (j := 1) (by decide); rw [this]; rfl) ?_)
  refine ldS_intro (A := ops[i].A1) (n := ops[i].data.length) (c := ops[i].c1) (by have := h.cj hi (j := 2) (by decide); rw [this]; rfl) ?_
  refine ldS_intro (A := ops[i].A2) (n := ops[i].keeps.length) (c := ops[i].c2) (by have := h.cj hi (j := 3) (by decide); rw [this]; rfl) ?_
  exact ldS_intro (A := ops[i].A3) (n := ops[i].fates.length) (c := ops[i].c3) (by have := h.cj hi (j := 4) (by decide); rw [this]; rfl) hk
/-- a call laid into a box of its own -/
theorem op_box {w : World} {o : DOp} {K : Nat → World → Prop} (hk : ∀ b w', b = w.heap.size → HB w' b (dopE o).toArray 41 → Below w.heap.size w w' → K b w') :
    alW w (.cells #[.int .i64 (0 : Int), .int .i64 (0 : Int), .slice none 0 0, .slice none 0 0, .slice none 0 0] 41) fun b w14 =>
    stW w14 (⟨b, 0, Option.none⟩ : Addr) (.int .i64 o.kind) fun w15 =>
    stW w15 ((⟨b, 0, Option.none⟩ : Addr).add 1) (.int .i64 o.i) fun w16 =>
    stW w16 ((⟨b, 0, Option.none⟩ : Addr).add 2) (.slice o.A1 o.data.length o.c1) fun w17 =>
    stW w17 ((⟨b, 0, Option.none⟩ : Addr).add 3) (.slice o.A2 o.keeps.length o.c2) fun w18 =>
    stW w18 ((⟨b, 0, Option.none⟩ : Addr).add 4) (.slice o.A3 o.fates.length o.c3) fun w19 => K b w19 := by
  refine al_new fun w1 b e s h g => hb_st0 h (by simp) fun w2 h2 k2 => hb_st h2 (by simp) fun w3 h3 k3 => hb_st h3 (by simp) fun w4 h4 k4 => hb_st h4 (by simp) fun w5 h5 k5 => hb_st h5 (by simp) fun w6 h6 k6 => ?_
  exact hk b w6 e h6 (g.trans (((((k2.trans k3).trans k4).trans k5).trans k6).below g.size fun i hi e' => by omega))
section
variable {w w' : World} {B : Nat} {d : Dk}
theorem Safe_l0 {A : Option Addr} {c : Nat} {ops : List DOp} {D : Nat} {w0 : World} (hB : B ≤ w0.heap.size) {K0 : World → Prop}
    (k0 : ∀ w r, r.D = D → DM w B r (doAll d ops) → Keeps (fun k => B ≤ k) w0 w → RDo w B A ops → K0 w) :
    ∀ (m i : Nat) (w : World) (r : RD), ops.length - i = m → i ≤ ops.length → r.D = D → DM w B r (doAll d (ops.take i)) → Keeps (fun k => B ≤ k) w0 w → RDo w B A ops →
      f_law07_DiskSafe.l0 (m + 1) (some ⟨D, 0, none⟩) A ops.length c (ops.length : Int) (i : Int) w K0 := by
  intro m
  induction m with
  | zero =>
    intro i w r hm hi eD h k ho
    have : i = ops.length := by omega
    subst this
    rw [List.take_length] at h
    unfold f_law07_DiskSafe.l0
    exact sel_f (by simp) (k0 w r eD h k ho)
  | succ m ih =>
    intro i w r hm hi eD h k ho
    have hlt : i < ops.length := by omega
    have hmem : ops[i] ∈ ops := List.getElem_mem hlt
    unfold f_law07_DiskSafe.l0
    refine sel_t (by simpa using hlt) (op_ld ho.row hlt (op_box fun b w1 e1 h1 g1 => ?_))
    have kb : Keeps (fun k => B ≤ k) w w1 := .of_below g1
    refine hb_ldI0 h1 rfl (hb_ldI (j := 1) h1 rfl (hb_ldS (j := 2) h1 rfl (hb_ldS (j := 3) h1 rfl (hb_ldS (j := 4) h1 rfl ?_))))
    subst eD
    have := k.size
    have := g1.size
    refine (do_ok (h.below g1) ((ho.ok _ hmem).keep kb) (by omega)).mono ?_
    rintro _ w2 ⟨rfl, r', e', h2, k2⟩
    rw [wrs hlt ho.len]
    exact ⟨rfl, ih (i + 1) w2 r' (by omega) (by omega) e' (by rw [doAll_snoc d ops hlt]; exact h2) ((k.trans kb).trans k2) (ho.keep (kb.trans k2))⟩
end
end Go.Proofs.Ythekjlglnmhlaaa.Rd
