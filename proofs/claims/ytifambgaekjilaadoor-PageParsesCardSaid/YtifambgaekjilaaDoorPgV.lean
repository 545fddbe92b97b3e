/- page: is a page as the document has it. Conditions: a page that can be. -/
import Derived.Test.YtifambgaekjilaaDoorPgU
namespace Go.Proofs.YtifambgaekjilaaDoor.Rd
open Go.Dn Go.RowKit
set_option linter.unusedVariables false
set_option linter.unusedSimpArgs false
set_option maxRecDepth 100000
section
variable {w w0 : World} {b lo hi c : Nat} {A : Option Addr} {p : Pg} {x0 x1 x2 : Int}
theorem RUsed_ok {n : Nat} (hn : n = p.items.length) (hp : PgOk p) (h : BBs w lo hi A p.items) :
    Calls Tryd.prog 63 #[.agg #[.int .i64 x0, .int .u8 x1, .int .u32 x2, .slice A n c]] w fun e w' => e = .returned (.int .i64 ((18 + 2 * p.items.length + lensL p.items : Nat) : Int)) ∧ Below w.heap.size w w' := by
  subst hn
  have hn := hp.n
  have hu := hp.u
  refine f_ref08_Used.ok _ _ _ _ _ _ _ _ ?_
  unfold f_ref08_Used.wp
  refine al_new fun w1 b e1 s1 h1 g1 => ⟨p.items.length + 1, ?_⟩
  have i1 : HB w1 b (r4 x0 x1 x2 A p.items.length c) TRp := h1
  have bb := h.below g1
  have main : ∀ (m i : Nat), m + i = p.items.length → f_ref08_Used.l0 (m + 1) ⟨b, 0, none⟩ ((18 + 2 * i + lensL (p.items.take i) : Nat) : Int) (i : Int) w1 (fun (x7 : Int) (w8 : World) => ∀ _ : Fr, (Ending.returned (.int .i64 x7)) = .returned (.int .i64 ((18 + 2 * p.items.length + lensL p.items : Nat) : Int)) ∧ Below w.heap.size w w8) := by
    intro m
    induction m with
    | zero =>
      intro i hi
      unfold f_ref08_Used.l0
      refine hb_ldS i1 (j := 3) (A := A) (n := p.items.length) (c := c) rfl (sel_f (by simp; omega) fun _ => ⟨?_, g1⟩)
      rw [List.take_of_length_le (by omega), show i = p.items.length by omega]
    | succ m ih =>
      intro i hi
      have hlt : i < p.items.length := by omega
      have ht := lensL_take p.items hlt
      have hle := lensL_le p.items (i + 1)
      unfold f_ref08_Used.l0
      refine hb_ldS i1 (j := 3) (A := A) (n := p.items.length) (c := c) rfl (sel_t (by simp; omega) (hb_ldS i1 (j := 3) (A := A) (n := p.items.length) (c := c) rfl (bbs_ld bb hlt rfl fun A6 c6 r6 => ?_)))
      rw [w64_in (x := ((18 + 2 * i + lensL (p.items.take i) : Nat) : Int) + 2) (by omega), w64_in (by omega), w64_in (by omega)]
      have := ih (i + 1) (by omega)
      rw [show (((18 + 2 * i + lensL (p.items.take i) : Nat) : Int) + 2 + (p.items[i].length : Int)) = ((18 + 2 * (i + 1) + lensL (p.items.take (i + 1)) : Nat) : Int) by omega]
      exact this
  have := main p.items.length 0 (by omega)
  simpa [lensL] using this
theorem RRoom_ok {n : Nat} (hn : n = p.items.length) (hp : PgOk p) (h : BBs w lo hi A p.items) :
    Calls Tryd.prog 38 #[.agg #[.int .i64 x0, .int .u8 x1, .int .u32 x2, .slice A n c]] w fun e w' => e = .returned (.int .i64 (roomL p)) ∧ Below w.heap.size w w' := by
  subst hn
  have hn := hp.n
  have hu := hp.u
  refine f_ref08_Room.ok _ _ _ _ _ _ _ _ ?_
  unfold f_ref08_Room.wp
  refine al_new fun w1 b e1 s1 h1 g1 => ?_
  have i1 : HB w1 b (r4 x0 x1 x2 A p.items.length c) TRp := h1
  refine ldR i1 ((RUsed_ok rfl hp (h.below g1)).mono ?_)
  rintro _ w2 ⟨rfl, g2⟩
  have g02 := g1.trans (g2.mono g1.size)
  refine ⟨_, rfl, hb_ldS (i1.below g2) (j := 3) (A := A) (n := p.items.length) (c := c) rfl ?_⟩
  rw [w64_in (x := (512 : Int) - ((18 + 2 * p.items.length + lensL p.items : Nat) : Int)) (by omega), w64_in (by omega)]
  have ef : (512 : Int) - ((18 + 2 * p.items.length + lensL p.items : Nat) : Int) - 2 = freeL p - 2 := by unfold freeL; omega
  have hf : -2 ≤ freeL p - 2 := by unfold freeL; omega
  rw [ef]
  unfold roomL
  by_cases q : 100 ≤ p.items.length
  · rw [if_pos q]
    exact sel_t (by simp; omega) ⟨rfl, g02⟩
  rw [if_neg q]
  refine sel_f (by simp; omega) ?_
  by_cases q1 : freeL p - 2 < 0
  · refine sel_t (by simpa using q1) ⟨?_, g02⟩
    congr 2
    split
    · rfl
    · rw [if_neg (by omega)]; omega
  refine sel_f (by simpa using q1) ?_
  rw [if_neg (by omega)]
  by_cases q2 : 200 < freeL p - 2
  · rw [if_pos q2]
    exact sel_t (by simpa using q2) ⟨rfl, g02⟩
  · rw [if_neg q2]
    exact sel_f (by simpa using q2) ⟨rfl, g02⟩
theorem Stands_ok {B : Nat} {X : Nat → Prop} {ρ : RPg} {n : Nat} (hn : n = p.items.length) (hp : PM w B X ρ p) (h : BBs w lo hi A p.items) :
    Calls Tryd.prog 13 #[.pointer (some ⟨ρ.P, 0, none⟩), .agg #[.int .i64 (p.lsn : Int), .int .u8 (p.kind.toNat : Int), .int .u32 (p.extra : Int), .slice A n c]] w fun e w' => e = .returned (.bool true) ∧ Below w.heap.size w w' := by
  subst hn
  refine f_law08_stands.ok _ _ _ _ _ _ _ _ _ ?_
  unfold f_law08_stands.wp
  refine al_new fun w1 b e1 s1 h1 g1 => drW_intro ?_
  have i1 : HB w1 b (r4 p.lsn p.kind.toNat p.extra A p.items.length c) TRp := h1
  have gd : Below w1.heap.size w1 w1.drew := (Below.refl _ _).drew
  have g2 : Below w.heap.size w w1.drew := g1.trans (gd.mono g1.size)
  have i2 := i1.below gd
  have hp2 := hp.below g2
  have bb2 := h.below g2
  obtain ⟨w2, hw2⟩ : ∃ w2, w1.drew = w2 := ⟨_, rfl⟩
  rw [hw2] at g2 i2 hp2 bb2 ⊢
  obtain ⟨S, hS⟩ : ∃ S : World → Prop, S = fun W => HB W b (r4 p.lsn p.kind.toNat p.extra A p.items.length c) TRp := ⟨_, rfl⟩
  have hs : ∀ W, S W → HB W b (r4 p.lsn p.kind.toNat p.extra A p.items.length c) TRp := fun W h => by rw [hS] at h; exact h
  have s0 : ∀ {W}, HB W b (r4 p.lsn p.kind.toNat p.extra A p.items.length c) TRp → S W := fun h => by rw [hS]; exact h
  have ld0 : ∀ {K : Int → Prop}, K p.lsn → hdI S (⟨b, 0, Option.none⟩ : Addr) .i64 K := fun hk => ⟨_, fun w h => ((hs w h).cell 0).trans rfl, hk⟩
  have ld1 : ∀ {K : Int → Prop}, K p.kind.toNat → hdI S ((⟨b, 0, Option.none⟩ : Addr).add 1) .u8 K := fun hk => ⟨_, fun w h => ((hs w h).cell 1).trans rfl, hk⟩
  have ld2 : ∀ {K : Int → Prop}, K p.extra → hdI S ((⟨b, 0, Option.none⟩ : Addr).add 2) .u32 K := fun hk => ⟨_, fun w h => ((hs w h).cell 2).trans rfl, hk⟩
  have ld3 : ∀ {K : Option Addr → Nat → Nat → Prop}, K A p.items.length c → hdS S ((⟨b, 0, Option.none⟩ : Addr).add 3) K := fun hk => ⟨_, _, _, fun w h => ((hs w h).cell 3).trans rfl, hk⟩
  have hk := p.kind.toNat_lt
  refine ⟨S, s0 i2, ld3 ((Len_pg hp2).mono ?_)⟩
  rintro _ w2 ⟨rfl, rfl⟩
  refine ⟨_, rfl, s0 i2, sel_t (by simp) (ld0 (ld1 (ld2 (ld3 ((Room_pg hp2).mono ?_)))))⟩
  rintro _ w2 ⟨rfl, rfl⟩
  refine ⟨_, rfl, s0 i2, (RRoom_ok rfl hp2.ok bb2).mono ?_⟩
  rintro _ w3 ⟨rfl, g3⟩
  have i3 := i2.below g3
  have hp3 := hp2.below g3
  refine ⟨_, rfl, s0 i3, sel_t (by simp) (ld1 ((Kind_pg hp3).mono ?_))⟩
  rintro _ w3 ⟨rfl, rfl⟩
  refine ⟨_, rfl, s0 i3, sel_t (by rw [w64_in (by omega)]; simp) (ld2 ((Extra_pg hp3).mono ?_))⟩
  rintro _ w3 ⟨rfl, rfl⟩
  refine ⟨_, rfl, s0 i3, sel_t (by simp) (ld0 ((LSN_pg hp3).mono ?_))⟩
  rintro _ w3 ⟨rfl, rfl⟩
  refine ⟨_, rfl, s0 i3, sel_t (by simp) (ld0 (ld1 (ld2 (ld3 ((Bytes_pg hp3).mono ?_)))))⟩
  rintro _ w4 ⟨A4, c4, rfl, o4, l4, g4⟩
  have g34 := g3.trans (g4.mono g3.size)
  refine ⟨_, _, _, rfl, s0 (i3.below g4), (RBytes_ok hp3.ok (bb2.below g34)).mono ?_⟩
  rintro _ w5 ⟨A5, c5, rfl, o5, g5⟩
  refine ⟨_, _, _, rfl, (Same_ok (o4.keep g5).reads o5.reads l4.symm rfl (by rw [l4]; decide)).mono ?_⟩
  rintro _ w6 ⟨rfl, g6⟩
  have g35 := g34.trans (g5.mono g34.size)
  exact ⟨_, rfl, by simp, (g2.trans (g35.mono g2.size)).trans (g6.mono (by have := g2.size; have := g35.size; omega))⟩
end
/-! ### a number read -/
theorem Rvalue_ok {w : World} {A : Option Addr} {n c : Nat} {b : List UInt8} {at_ k : Nat} (hr : Go.Dn.RB w A b) (hn : n = b.length) (hk : k ≤ 8) (ha : at_ + k ≤ b.length) (hl : b.length ≤ 140737488355000) :
    Calls Tryd.prog 36 #[.slice A n c, .int .i64 (at_ : Int), .int .i64 (k : Int)] w fun e w' => e = .returned (.int .u64 (valS ((b.drop at_).take k).reverse : Int)) ∧ w' = w := by
  subst hn
  apply f_ref08_value.ok
  unfold f_ref08_value.wp
  refine ⟨k + 1, ?_⟩
  rw [w64_in (x := (at_ : Int) + (k : Int)) (by omega), w64_in (by omega)]
  obtain ⟨l, hl'⟩ : ∃ l, (b.drop at_).take k = l := ⟨_, rfl⟩
  rw [hl']
  have hll : l.length = k := by rw [← hl', List.length_take, List.length_drop]; omega
  have hb : ∀ j, j < k → bAt b (at_ + j) = bAt l j := fun j hj => by rw [← hl', bAt_take _ _ _ hj, bAt_drop]
  have main : ∀ (m : Nat), m ≤ k → f_ref08_value.l0 (m + 1) A b.length c (at_ : Int) (valS (l.drop m).reverse : Int) (((at_ + m : Nat) : Int) - 1) w (fun (x3 : Int) (w4 : World) => ∀ _ : Fr, (Ending.returned (.int .u64 x3)) = .returned (.int .u64 (valS l.reverse : Int)) ∧ w4 = w) := by
    intro m
    induction m with
    | zero =>
      intro hm
      unfold f_ref08_value.l0
      exact sel_f (by simp; omega) fun _ => ⟨by rw [List.drop_zero], rfl⟩
    | succ m ih =>
      intro hm
      have hlt : m < l.length := by omega
      unfold f_ref08_value.l0
      have ez : (((at_ + (m + 1) : Nat) : Int) - 1) = ((at_ + m : Nat) : Int) := by omega
      rw [ez]
      obtain ⟨a, ea, hc⟩ := rb_at hr (j := at_ + m) (by omega)
      refine sel_t (by simp; omega) (optB_some ea (req_intro (by simp; omega) ?_))
      rw [Int.toNat_natCast]
      refine ldI_intro (x := ((bAt b (at_ + m)).toNat : Int)) hc ?_
      have e1 : l.drop m = bAt l m :: l.drop (m + 1) := by rw [List.drop_eq_getElem_cons hlt, bAt_get hlt]
      have e2 : valS (l.drop m).reverse = valS (l.drop (m + 1)).reverse * 256 + (bAt l m).toNat := by rw [e1, List.reverse_cons, valS_snoc]
      have e3 : valS (l.drop m).reverse < 18446744073709551616 := valS_lt8 _ (by rw [List.length_reverse, List.length_drop]; omega)
      have hv := (bAt l m).toNat_lt
      rw [hb m (by omega), u64v (x := (valS (l.drop (m + 1)).reverse : Int) * 256) (by omega), u64v (x := ((bAt l m).toNat : Int)) (by omega), u64v (by omega), w64_in (by omega)]
      have := ih (by omega)
      rw [e2] at this
      have ec : ((valS (l.drop (m + 1)).reverse * 256 + (bAt l m).toNat : Nat) : Int) = (valS (l.drop (m + 1)).reverse : Int) * 256 + ((bAt l m).toNat : Int) := by omega
      rw [ec] at this
      exact this
  have := main k (Nat.le_refl _)
  rw [List.drop_of_length_le (by omega)] at this
  have ez : ((at_ + k : Nat) : Int) - 1 = (at_ : Int) + (k : Int) - 1 := by omega
  have e0 : ((valS ([] : List UInt8).reverse : Nat) : Int) = 0 := rfl
  rw [ez, e0] at this
  exact this
end Go.Proofs.YtifambgaekjilaaDoor.Rd
