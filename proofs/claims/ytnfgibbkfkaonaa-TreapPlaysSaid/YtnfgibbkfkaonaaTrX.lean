/- What a rope tells, against the document. Conditions: none. -/
import Derived.Test.YtnfgibbkfkaonaaTrW
namespace Go.Proofs.Ytnfgibbkfkaonaa.Rd
open Go.Dn Go.RowKit
set_option linter.unusedVariables false
set_option maxRecDepth 100000

theorem RefAt.nAt' {w : World} {d : Doc} {m : MS} (h : RefAt w d m) (hn : m.n ≤ 65537) {x : Nat} (hx : 0 < x ∧ x < m.n) : IntKind.i64.wrap ((x : Int) - 1) = ((x - 1 : Nat) : Int) ∧ (∃ a, d.A1 = some a ∧ w.cell? (a.add ((IntKind.i64.wrap ((x : Int) - 1)).toNat * 1)) = some (.int .i64 (m.V x).1)) ∧ ∃ a, d.A2 = some a ∧ w.cell? (a.add ((IntKind.i64.wrap ((x : Int) - 1)).toNat * 1)) = some (.int .i64 (m.V x).2) := by
  have ew : IntKind.i64.wrap ((x : Int) - 1) = ((x - 1 : Nat) : Int) := by rw [w64_in (by omega)]; omega
  rw [ew, Int.toNat_natCast, Nat.mul_one]
  exact ⟨rfl, h.nAt hx, h.mAt hx⟩
/-- the call's record, at its place -/
def opCs (o : OpV) : Array Value := #[.int .i64 o.k, .int .i64 o.a, .int .i64 o.b, .int .i64 o.v, .int .u8 o.m]
theorem tells_good {w0 w : World} {r : RC} {m : MS} {d : Doc} {o : OpV} {x b1 b3 : Nat} {A : Option Addr} {c : Nat} (h : LS w0 w r m) (hd : RefAt w d m) (hb1 : HB w b1 (d.cs m) 34) (hb3 : HB w b3 (opCs o) 30) (hx : 0 < x ∧ x < m.n) (ea : o.a = (x : Int)) (hl : LI w A c (zs (rowOf m.rows x)))
    {Kr : Bool → World → Prop} (hK : ∀ w', Below w.heap.size w w' → Kr true w') :
    f_law15_tells.j0 ⟨r.R, 0, none⟩ (⟨b1, 0, none⟩ : Addr) (⟨b3, 0, none⟩ : Addr) false A (rowOf m.rows x).length c w Kr := by
  obtain ⟨rok, hn, hpos⟩ := h.rok
  obtain ⟨lx, ndx, xm, rng⟩ := rok.rlen hx
  have hxg := nat_good hx
  unfold f_law15_tells.j0
  refine hb_ldS0 hb1 rfl (hb_ldS (j := 1) hb1 rfl (hb_ldS (j := 2) hb1 rfl ((RSums_ok hd hl.reads rfl (by omega) hn rng).mono ?_)))
  rintro e w1 ⟨rfl, q⟩
  have h := h.below q; have hd := hd.below q; have hb1 := hb1.below q; have hb3 := hb3.below q; have hl := hl.below q
  refine ⟨_, _, rfl, hb_ldI0 hb3 rfl ?_⟩
  by_cases k5 : o.k = 5
  · refine sel_t (by simp [k5]) (hb_ldI (j := 1) hb3 rfl (hb_ldI (j := 2) hb3 rfl ((h.same _ _).mono ?_)))
    rintro e w2 ⟨rfl, h, q2⟩
    have q := al_below q2 q; have hb1 := hb1.below q2; have hb3 := hb3.below q2; have hl := hl.below q2
    rw [ea]
    refine ⟨_, _, rfl, sel_f rfl (hb_ldS0 hb1 rfl (hb_ldS (j := 1) hb1 rfl (hb_ldS (j := 2) hb1 rfl (hb_ldI (j := 2) hb3 rfl ((RBad_ok _ _ _ _ _ _ _ _ _ _ _).mono ?_)))))⟩
    rintro e w3 ⟨rfl, q3⟩
    rw [bad_Bd hpos]
    have q := al_below q3 q; have hb3 := hb3.below q3; have hl := hl.below q3
    refine ⟨_, rfl, ?_⟩
    cases hb : Bd m.n o.b with
    | true =>
      have es : sameE m.n m.rows (x : Int) o.b = (false, 150) := by simp [sameE, hb]
      rw [es]
      exact sel_t rfl (sel_t rfl (hK _ q))
    | false =>
      obtain ⟨y, ey, ey', hy⟩ := Bd_nat hb
      have es : sameE m.n m.rows (x : Int) o.b = (decide (rowOf m.rows x = rowOf m.rows y), 0) := by simp [sameE, hxg, hb, ey']
      rw [es]
      refine sel_f rfl (sel_t rfl (hb_ldI (j := 2) hb3 rfl ((Has_ok hl.reads rfl _ (by omega)).mono ?_)))
      rintro e w4 ⟨rfl, rfl⟩
      have eb : o.b = (y : Int) := ey
      have : (decide (rowOf m.rows x = rowOf m.rows y) == decide ((o.b) ∈ zs (rowOf m.rows x))) = true := by
        rw [eb]
        simp only [beq_iff_eq, decide_eq_decide, mem_zs]
        constructor
        · intro e; rw [e]; exact (rok.rowOf_mem hy).2
        · intro e; rw [rowOf_of rok hx e]
      refine ⟨_, rfl, ?_⟩
      rw [this]; exact hK _ q
  refine sel_f (by simpa using k5) ?_
  by_cases k6 : o.k = 6
  · refine sel_t (by simp [k6]) (hb_ldI (j := 1) hb3 rfl ((h.index _).mono ?_))
    rintro e w2 ⟨rfl, h, q2⟩
    have q := al_below q2 q; have hb1 := hb1.below q2; have hb3 := hb3.below q2; have hd := hd.below q2
    have es : indexE m.n m.rows o.a = (((rowOf m.rows x).idxOf x : Int), 0) := by rw [ea]; simp [indexE, hxg]
    rw [es]
    refine ⟨_, _, rfl, sel_f rfl (sel_t rfl (sel_t rfl (hb_ldS0 hb1 rfl (hb_ldS (j := 1) hb1 rfl (hb_ldS (j := 2) hb1 rfl (hb_ldI (j := 1) hb3 rfl ?_))))))⟩
    rw [ea]
    refine (RIndex_ok hd rok hn hpos hx).mono ?_
    rintro e w3 ⟨rfl, q3⟩
    refine ⟨_, rfl, ?_⟩
    rw [show (((((rowOf m.rows x).idxOf x : Nat) : Int)) == (((rowOf m.rows x).idxOf x : Nat) : Int)) = true by simp]
    exact hK _ (al_below q3 q)
  refine sel_f (by simpa using k6) ?_
  by_cases k7 : o.k = 7
  · refine sel_t (by simp [k7]) (hb_ldI (j := 1) hb3 rfl (hb_ldI (j := 2) hb3 rfl ((h.at _ _).mono ?_)))
    rintro e w2 ⟨rfl, h, q2⟩
    have q := al_below q2 q; have hb3 := hb3.below q2; have hl := hl.below q2
    rw [ea]
    refine ⟨_, _, rfl, sel_f rfl (hb_ldI (j := 2) hb3 rfl ?_)⟩
    by_cases hneg : o.b < 0
    · have es : atE m.n m.rows (x : Int) o.b = (0, 1) := by simp [atE, hxg, hneg]
      rw [es]
      exact sel_t (by simpa using hneg) (sel_t rfl (sel_f rfl (sel_t rfl (hK _ q))))
    · refine sel_f (by simpa using hneg) (hb_ldI (j := 2) hb3 rfl ?_)
      by_cases hge : o.b ≥ ((rowOf m.rows x).length : Int)
      · have es : atE m.n m.rows (x : Int) o.b = (0, 1) := by
          simp only [atE, hxg, Bool.false_eq_true, if_false, Int.toNat_natCast]
          rw [if_pos (.inr hge)]
        rw [es]
        exact sel_t (by simpa using hge) (sel_t rfl (sel_f rfl (sel_t rfl (hK _ q))))
      · obtain ⟨i, ei⟩ : ∃ i : Nat, o.b = (i : Int) := ⟨o.b.toNat, by omega⟩
        have hi : i < (rowOf m.rows x).length := by omega
        have es : atE m.n m.rows (x : Int) o.b = (((rowOf m.rows x)[i] : Int), 0) := by
          have : ¬ ((i : Int) < 0 ∨ (i : Int) ≥ ((rowOf m.rows x).length : Int)) := by omega
          simp only [atE, hxg, Bool.false_eq_true, if_false, Int.toNat_natCast, ei, if_neg this]
          simp [List.getD_eq_getElem?_getD, hi]
        rw [es]
        obtain ⟨a, ha, hc⟩ := hl.reads i (by rw [zs_len]; exact hi)
        have hz : (zs (rowOf m.rows x))[i]'(by rw [zs_len]; exact hi) = ((rowOf m.rows x)[i] : Int) := by simp [zs]
        rw [hz] at hc
        refine sel_f (by simpa using hge) (sel_t rfl (hb_ldI (j := 2) hb3 rfl (optB_some ha (req_intro (by simp; omega) (ldI_intro (by rw [ei, Int.toNat_natCast, Nat.mul_one]; exact hc) ?_)))))
        rw [show ((((rowOf m.rows x)[i] : Nat) : Int) == (((rowOf m.rows x)[i] : Nat) : Int)) = true by simp]
        exact hK _ q
  refine sel_f (by simpa using k7) ?_
  by_cases k8 : o.k = 8
  · refine sel_t (by simp [k8]) (hb_ldI (j := 1) hb3 rfl ?_)
    rw [ea]
    refine (h.list _).mono ?_
    rintro e w2 ⟨A2, c2, rfl, l2, h, q2⟩
    rw [listE_good hx] at l2 ⊢
    have q := al_below q2 q; have hl := hl.below q2
    refine ⟨_, _, _, _, rfl, (SameI h l2.reads rfl hl.reads rfl (by show (rowOf m.rows x).length ≤ _; omega)).mono ?_⟩
    rintro e w3 ⟨rfl, h, q3⟩
    exact ⟨_, rfl, sel_t (by simp) (sel_t rfl (sel_t rfl (hK _ (al_below q3 q))))⟩
  refine sel_f (by simpa using k8) ?_
  by_cases k9 : o.k = 9
  · refine sel_t (by simp [k9]) (hb_ldI (j := 1) hb3 rfl ?_)
    rw [ea]
    refine (h.all _).mono ?_
    rintro e w2 ⟨rfl, h, q2⟩
    have q := al_below q2 q; have hb3 := hb3.below q2
    have es : allE m.n m.rows m.V (x : Int) = ((sm m.V (rowOf m.rows x)).1, (sm m.V (rowOf m.rows x)).2, 0) := by simp [allE, hxg]
    rw [es]
    refine ⟨_, _, _, rfl, al_new fun w3 b e z h3 q3 => hb_st0 h3 (by simp) fun w4 h4 k4 => hb_st (j := 1) h4 (by simp) fun w5 h5 k5 => ?_⟩
    have hbl := hb3.lt
    have ob := h.out (b := b) (by omega)
    have hw0 := h.bel.size
    have hs1 := q.size
    have k45 := k4.trans k5
    have h := (h.below q3).beside k45 ob (by omega)
    have hb3 := (hb3.below q3).keeps k45 (by omega)
    have q := hb_below k45 (al_below q3 q) (by omega)
    refine hb_ldI (j := 1) hb3 rfl ?_
    rw [ea]
    refine (h.size _).mono ?_
    rintro e w6 ⟨rfl, h, q6⟩
    have et : sizeE m.n m.rows (x : Int) = (((rowOf m.rows x).length : Int), 0) := by simp [sizeE, hxg]
    rw [et]
    have h5 := h5.below q6
    exact ⟨_, _, rfl, hb_ldI0 h5 rfl (sel_t (by simp) (hb_ldI (j := 1) h5 rfl (sel_t (by simp) (sel_t (by simp) (sel_t rfl (sel_t rfl (sel_t rfl (hK _ (al_below q6 q)))))))))⟩
  refine sel_f (by simpa using k9) ?_
  by_cases k10 : o.k = 10
  · refine sel_t (by simp [k10]) (hb_ldI (j := 1) hb3 rfl ?_)
    rw [ea]
    refine (h.seek _).mono ?_
    rintro e w2 ⟨rfl, h, q2⟩
    have q := al_below q2 q; have hb1 := hb1.below q2; have hd := hd.below q2; have hl := hl.below q2
    have es : seekE m.n m.rows m.V (x : Int) = ((firstM m.V (rowOf m.rows x) : Int), 0) := by simp [seekE, hxg]
    rw [es]
    refine ⟨_, _, rfl, hb_ldS0 hb1 rfl (hb_ldS (j := 1) hb1 rfl (hb_ldS (j := 2) hb1 rfl ((RFirst_ok hd hl.reads rfl (by omega) hn rng).mono ?_)))⟩
    rintro e w3 ⟨rfl, q3⟩
    exact ⟨_, rfl, sel_t (by simp) (sel_t rfl (sel_t rfl (hK _ (al_below q3 q))))⟩
  refine sel_f (by simpa using k10) ?_
  by_cases k11 : o.k = 11
  · refine sel_t (by simp [k11]) (hb_ldI (j := 1) hb3 rfl ?_)
    rw [ea]
    refine (h.value _).mono ?_
    rintro e w2 ⟨rfl, h, q2⟩
    have q := al_below q2 q; have hb1 := hb1.below q2; have hb3 := hb3.below q2; have hd := hd.below q2
    have es : valueE m.n m.V (x : Int) = ((m.V x).1, (m.V x).2, 0) := by simp [valueE, hxg]
    rw [es]
    refine ⟨_, _, _, rfl, al_new fun w3 b e z h3 q3 => hb_st0 h3 (by simp) fun w4 h4 k4 => hb_st (j := 1) h4 (by simp) fun w5 h5 k5 => drW_intro ?_⟩
    have hbl3 := hb3.lt; have hbl1 := hb1.lt
    have hs1 := q.size
    have k45 := k4.trans k5
    have bd : Below w5.heap.size w5 w5.drew := (Below.refl _ _).drew
    have hb3 := ((hb3.below q3).keeps k45 (by omega)).below bd; have hb1 := ((hb1.below q3).keeps k45 (by omega)).below bd
    have hd := (((hd.below q3).st k4 h3 (by decide) (by decide) (by decide)).st k5 h4 (by decide) (by decide) (by decide)).below bd
    have h5 := h5.below bd
    have q := al_below bd (hb_below k45 (al_below q3 q) (by omega))
    obtain ⟨ew, ⟨p1, hp1, hn1⟩, ⟨p2, hp2, hm2⟩⟩ := hd.nAt' hn hx
    refine sel_f rfl (sel_t rfl (sel_t rfl (hb_ldI0 h5 rfl (hb_ldI (j := 1) h5 rfl (hb_ldS (j := 1) hb1 rfl (hb_ldI (j := 1) hb3 rfl ?_))))))
    rw [ea]
    refine optB_some hp1 (req_intro (by rw [ew]; simp; omega) (ldI_intro hn1 (hb_ldS (j := 2) hb1 rfl (hb_ldI (j := 1) hb3 rfl ?_))))
    rw [ea]
    refine optB_some hp2 (req_intro (by rw [ew]; simp; omega) (ldI_intro hm2 ?_))
    rw [show (((m.V x).1 == (m.V x).1) && (((m.V x).2 == (m.V x).2) && true)) = true by simp]
    exact hK _ q
  exact sel_f (by simpa using k11) (hK _ q)
theorem tells_bad {w0 w : World} {r : RC} {m : MS} {d : Doc} {o : OpV} {b1 b3 : Nat} {A : Option Addr} {c : Nat} (h : LS w0 w r m) (hd : RefAt w d m) (hb1 : HB w b1 (d.cs m) 34) (hb3 : HB w b3 (opCs o) 30) (ha : Bd m.n o.a = true)
    {Kr : Bool → World → Prop} (hK : ∀ w', Below w.heap.size w w' → Kr true w') :
    f_law15_tells.j0 ⟨r.R, 0, none⟩ (⟨b1, 0, none⟩ : Addr) (⟨b3, 0, none⟩ : Addr) true A 0 c w Kr := by
  obtain ⟨rok, hn, hpos⟩ := h.rok
  unfold f_law15_tells.j0
  refine hb_ldS0 hb1 rfl (hb_ldS (j := 1) hb1 rfl (hb_ldS (j := 2) hb1 rfl ((RSums_ok (l := []) hd (RI.nil _ _) rfl (by simp) hn (by simp)).mono ?_)))
  rintro e w1 ⟨rfl, q⟩
  rw [sm_nil]
  have h := h.below q; have hd := hd.below q; have hb1 := hb1.below q; have hb3 := hb3.below q
  refine ⟨_, _, rfl, hb_ldI0 hb3 rfl ?_⟩
  by_cases k5 : o.k = 5
  · refine sel_t (by simp [k5]) (hb_ldI (j := 1) hb3 rfl (hb_ldI (j := 2) hb3 rfl ((h.same _ _).mono ?_)))
    rintro e w2 ⟨rfl, h, q2⟩
    have es : sameE m.n m.rows o.a o.b = (false, 150) := by simp [sameE, ha]
    rw [es]
    exact ⟨_, _, rfl, sel_t rfl (sel_t rfl (hK _ (al_below q2 q)))⟩
  refine sel_f (by simpa using k5) ?_
  by_cases k6 : o.k = 6
  · refine sel_t (by simp [k6]) (hb_ldI (j := 1) hb3 rfl ((h.index _).mono ?_))
    rintro e w2 ⟨rfl, h, q2⟩
    have es : indexE m.n m.rows o.a = (0, 150) := by simp [indexE, ha]
    rw [es]
    exact ⟨_, _, rfl, sel_t rfl (sel_t rfl (sel_t rfl (hK _ (al_below q2 q))))⟩
  refine sel_f (by simpa using k6) ?_
  by_cases k7 : o.k = 7
  · refine sel_t (by simp [k7]) (hb_ldI (j := 1) hb3 rfl (hb_ldI (j := 2) hb3 rfl ((h.at _ _).mono ?_)))
    rintro e w2 ⟨rfl, h, q2⟩
    have es : atE m.n m.rows o.a o.b = (0, 150) := by simp [atE, ha]
    rw [es]
    exact ⟨_, _, rfl, sel_t rfl (sel_t rfl (sel_t rfl (sel_t rfl (hK _ (al_below q2 q)))))⟩
  refine sel_f (by simpa using k7) ?_
  by_cases k8 : o.k = 8
  · refine sel_t (by simp [k8]) (hb_ldI (j := 1) hb3 rfl ((h.list _).mono ?_))
    rintro e w2 ⟨A2, c2, rfl, l2, h, q2⟩
    have es : listE m.n m.rows o.a = ([], 150) := by simp [listE, ha]
    rw [es] at l2 ⊢
    have q := al_below q2 q
    refine ⟨_, _, _, _, rfl, (SameI (l2 := []) h l2.reads rfl (RI.nil _ _) rfl (by simp)).mono ?_⟩
    rintro e w3 ⟨rfl, h, q3⟩
    exact ⟨_, rfl, sel_t rfl (sel_t rfl (sel_f rfl (hK _ (al_below q3 q))))⟩
  refine sel_f (by simpa using k8) ?_
  by_cases k9 : o.k = 9
  · refine sel_t (by simp [k9]) (hb_ldI (j := 1) hb3 rfl ((h.all _).mono ?_))
    rintro e w2 ⟨rfl, h, q2⟩
    have q := al_below q2 q; have hb3 := hb3.below q2
    have es : allE m.n m.rows m.V o.a = (0, 0, 150) := by simp [allE, ha]
    rw [es]
    refine ⟨_, _, _, rfl, al_new fun w3 b e z h3 q3 => hb_st0 h3 (by simp) fun w4 h4 k4 => hb_st (j := 1) h4 (by simp) fun w5 h5 k5 => ?_⟩
    have hbl := hb3.lt
    have ob := h.out (b := b) (by omega)
    have hw0 := h.bel.size
    have hs1 := q.size
    have k45 := k4.trans k5
    have h := (h.below q3).beside k45 ob (by omega)
    have hb3 := (hb3.below q3).keeps k45 (by omega)
    have q := hb_below k45 (al_below q3 q) (by omega)
    refine hb_ldI (j := 1) hb3 rfl ((h.size _).mono ?_)
    rintro e w6 ⟨rfl, h, q6⟩
    have et : sizeE m.n m.rows o.a = (0, 150) := by simp [sizeE, ha]
    rw [et]
    have h5 := h5.below q6
    exact ⟨_, _, rfl, hb_ldI0 h5 rfl (sel_t rfl (hb_ldI (j := 1) h5 rfl (sel_t rfl (sel_t rfl (sel_t rfl (sel_t rfl (sel_f rfl (hK _ (al_below q6 q)))))))))⟩
  refine sel_f (by simpa using k9) ?_
  by_cases k10 : o.k = 10
  · refine sel_t (by simp [k10]) (hb_ldI (j := 1) hb3 rfl ((h.seek _).mono ?_))
    rintro e w2 ⟨rfl, h, q2⟩
    have q := al_below q2 q; have hb1 := hb1.below q2; have hd := hd.below q2
    have es : seekE m.n m.rows m.V o.a = (0, 150) := by simp [seekE, ha]
    rw [es]
    refine ⟨_, _, rfl, hb_ldS0 hb1 rfl (hb_ldS (j := 1) hb1 rfl (hb_ldS (j := 2) hb1 rfl ((RFirst_ok (l := []) hd (RI.nil _ _) rfl (by simp) hn (by simp)).mono ?_)))⟩
    rintro e w3 ⟨rfl, q3⟩
    exact ⟨_, rfl, sel_t rfl (sel_t rfl (sel_f rfl (hK _ (al_below q3 q))))⟩
  refine sel_f (by simpa using k10) ?_
  by_cases k11 : o.k = 11
  · refine sel_t (by simp [k11]) (hb_ldI (j := 1) hb3 rfl ((h.value _).mono ?_))
    rintro e w2 ⟨rfl, h, q2⟩
    have q := al_below q2 q
    have es : valueE m.n m.V o.a = (0, 0, 150) := by simp [valueE, ha]
    rw [es]
    refine ⟨_, _, _, rfl, al_new fun w3 b e z h3 q3 => hb_st0 h3 (by simp) fun w4 h4 k4 => hb_st (j := 1) h4 (by simp) fun w5 h5 k5 => drW_intro ?_⟩
    have hs1 := q.size
    have k45 := k4.trans k5
    have bd : Below w5.heap.size w5 w5.drew := (Below.refl _ _).drew
    have h5 := h5.below bd
    exact sel_t rfl (hb_ldI0 h5 rfl (hb_ldI (j := 1) h5 rfl (sel_t rfl (sel_t rfl (hK _ (al_below bd (hb_below k45 (al_below q3 q) (by omega))))))))
  exact sel_f (by simpa using k11) (hK _ q)
theorem tells_ok {w0 w : World} {r : RC} {m : MS} {d : Doc} (h : LS w0 w r m) (hd : RefAt w d m) (o : OpV) :
    Calls Try.prog 26 #[.pointer (some ⟨r.R, 0, none⟩), docV d m, .agg (opCs o)] w fun e w' => e = .returned (.bool true) ∧ LS w0 w' r m ∧ Below w.heap.size w w' := by
  obtain ⟨rok, hn, hpos⟩ := h.rok
  apply f_law15_tells.ok
  unfold f_law15_tells.wp
  refine al_new fun wa b1 e1 z1 h1 q1 => al_new fun wb b3 e3 z3 h3 q3 => ?_
  have h1 : HB wb b1 (d.cs m) 34 := h1.below q3
  have h3 : HB wb b3 (opCs o) 30 := h3
  have q := al_below q3 q1
  refine hb_ldS0 h1 rfl (hb_ldS (j := 1) h1 rfl (hb_ldS (j := 2) h1 rfl (hb_ldI (j := 1) h3 rfl ((RBad_ok _ _ _ _ _ _ _ _ _ _ _).mono ?_))))
  rintro e wc ⟨rfl, q2⟩
  rw [bad_Bd hpos]
  have q := al_below q2 q; have h1 := h1.below q2; have h3 := h3.below q2
  refine ⟨_, rfl, al_new fun wd b12 e12 z12 h12 q12 => ?_⟩
  have q := al_below q12 q; have h1 := h1.below q12; have h3 := h3.below q12
  cases hb : Bd m.n o.a with
  | true =>
    exact sel_f rfl (tells_bad (h.below q) (hd.below q) h1 h3 hb fun w' q' _ => ⟨rfl, h.below (al_below q' q), al_below q' q⟩)
  | false =>
    obtain ⟨x, ex, ex', hx⟩ := Bd_nat hb
    refine sel_t rfl (drW_intro ?_)
    have bd : Below wd.heap.size wd wd.drew := (Below.refl _ _).drew
    have q := al_below bd q; have h1 := h1.below bd; have h3 := h3.below bd
    generalize wd.drew = wd at *
    have hd := hd.below q
    refine ⟨fun w' => Below wd.heap.size wd w', Below.refl _ _, _, _, _, fun w' h' => (h1.below h').cell 0, _, _, _, fun w' h' => (h1.below h').cell 0, _, _, _, fun w' h' => (h1.below h').cell 1, _, _, _, fun w' h' => (h1.below h').cell 2, _, fun w' h' => (h3.below h').cell 1, ?_⟩
    rw [ex]
    refine (Row_ok hd rok hn hpos hx).mono ?_
    rintro e we ⟨ix, rfl, ⟨hi, er⟩, q5⟩
    obtain ⟨a, A, c, ha, hc, hl⟩ := hd.row hi
    refine ⟨_, rfl, q5, optB_some ha (req_intro (by simp; omega) ⟨A, _, c, fun w' h' => by rw [Int.toNat_natCast, Nat.mul_one]; exact cell_tr hc h', ?_⟩)⟩
    have q := al_below q5 q
    rw [er] at hl ⊢
    exact tells_good (h.below q) (hd.below q5) (h1.below q5) (h3.below q5) hx ex (hl.below q5) fun w' q' _ => ⟨rfl, h.below (al_below q' q), al_below q' q⟩
end Go.Proofs.Ytnfgibbkfkaonaa.Rd
