/- The walk of TreapSeams: a cut and a join undo one another. Conditions: none. -/
import Derived.Test.YtnfgibbkfkaonaaTrQ
import Derived.Test.YtnfgibbkfkaonaaRdL6
namespace Go.Proofs.Ytnfgibbkfkaonaa.Rd
open Go.Dn Go.RowKit
set_option linter.unusedVariables false
set_option maxRecDepth 100000

theorem Seams_l0 {w0 : World} {A : Option Addr} {len cap : Nat} {f : Nat → Nat → Int} (hf : IsRecs ks5 w0 A len cap f) {R : Nat} {K0 : World → Prop} (hK : ∀ w' r' m', LS w0 w' r' m' → r'.R = R → K0 w') :
    ∀ (d i : Nat) (w : World) (r : RC) (m : MS), len - i = d → i ≤ len → LS w0 w r m → r.R = R → f_law15_TreapSeams.l0 (d + 1) (some ⟨R, 0, none⟩) A len cap (len : Int) (i : Int) w K0 := by
  intro d
  induction d with
  | zero =>
    intro i w r m h1 h2 h3 h4
    have : i = len := by omega
    subst this
    unfold f_law15_TreapSeams.l0
    exact sel_f (by simp) (hK w r m h3 h4)
  | succ d ih =>
    intro i w r m h1 h2 h3 h4
    have hle := hf.le
    unfold f_law15_TreapSeams.l0
    refine sel_t (by simp; omega) (op_rd (hf.below h3.bel) (by omega) fun w1 b e hb q1 => ?_)
    subst h4
    refine (changes0_ok (h3.below q1) (hf.opOk (i := i) (by omega))).mono ?_
    rintro e w2 ⟨A0, n0, c0, A1, n1, c1, A2, n2, c2, bb, rfl, r', hL, hm, hk⟩
    refine ⟨_, _, _, _, _, _, _, _, _, _, rfl, ?_⟩
    rw [w64_in (by omega), show (i : Int) + 1 = ((i + 1 : Nat) : Int) by omega]
    exact ih (i + 1) w2 r' _ (by omega) (by omega) hL hm.R

theorem _root_.Go.Dn.RI.slA {w : World} {A : Option Addr} {l : List Int} {c : Nat} (h : RI w A l) (hc : l.length ≤ c) (k : Nat) : RI w (Go.Dn.slA A k c 1) (l.drop k) := by
  unfold Go.Dn.slA
  split
  · rename_i e
    have : l.drop k = [] := by rw [List.drop_eq_nil_iff]; omega
    rw [this]; exact RI.nil _ _
  · cases A with
    | none =>
      intro i hi
      rw [List.length_drop] at hi
      obtain ⟨a, ha, _⟩ := h i (by omega)
      cases ha
    | some a => rw [Nat.mul_one]; exact h.drop k
/-! ### plain: a row cut and joined again -/
theorem nat_good {n x : Nat} (h : 0 < x ∧ x < n) : Bd n (x : Int) = false := by simp [Bd]; omega
theorem listE_good {n : Nat} {rows : List (List Nat)} {x : Nat} (h : 0 < x ∧ x < n) : listE n rows (x : Int) = (rowOf rows x, 0) := by simp [listE, nat_good h]
theorem rowOf_of {n : Nat} {rows : List (List Nat)} (h : RowsOk n rows) {x y : Nat} (hx : 0 < x ∧ x < n) (hy : y ∈ rowOf rows x) : rowOf rows y = rowOf rows x := h.rowOf_eq (h.rowOf_mem hx).1 hy
/-- behind a cut: the cut row's two pieces -/
theorem cut_row {n : Nat} {rows : List (List Nat)} (h : RowsOk n rows) {x : Nat} (hx : 0 < x ∧ x < n) : rowOf (cutR rows x) x = (rowOf rows x).drop ((rowOf rows x).idxOf x) := by
  obtain ⟨m1, m2⟩ := h.rowOf_mem hx
  refine (h.cut x).rowOf_eq (List.mem_flatMap.2 ⟨_, m1, ?_⟩) ?_
  · unfold pieces
    rw [if_pos m2]
    split
    · rename_i h0; simp [h0]
    · simp
  · have hi := idx_lt m2
    rw [List.drop_eq_getElem_cons hi]
    simp
theorem cut_ahead {n : Nat} {rows : List (List Nat)} (h : RowsOk n rows) {x y : Nat} (hx : 0 < x ∧ x < n) (hy : y ∈ (rowOf rows x).take ((rowOf rows x).idxOf x)) : rowOf (cutR rows x) y = (rowOf rows x).take ((rowOf rows x).idxOf x) := by
  obtain ⟨m1, m2⟩ := h.rowOf_mem hx
  refine (h.cut x).rowOf_eq (List.mem_flatMap.2 ⟨_, m1, ?_⟩) hy
  unfold pieces
  rw [if_pos m2]
  split
  · rename_i h0; rw [h0] at hy; simp at hy
  · simp
theorem cut_other {n : Nat} {rows : List (List Nat)} (h : RowsOk n rows) {x y : Nat} (hy : 0 < y ∧ y < n) (hxy : x ∉ rowOf rows y) : rowOf (cutR rows x) y = rowOf rows y := by
  obtain ⟨m1, m2⟩ := h.rowOf_mem hy
  refine (h.cut x).rowOf_eq (List.mem_flatMap.2 ⟨_, m1, ?_⟩) m2
  unfold pieces
  rw [if_neg hxy]; simp
theorem join_row {n : Nat} {rows : List (List Nat)} (h : RowsOk n rows) {a b : Nat} (ha : 0 < a ∧ a < n) (hb : 0 < b ∧ b < n) (hab : rowOf rows a ≠ rowOf rows b) {y : Nat} (hy : y ∈ rowOf rows a ∨ y ∈ rowOf rows b) : rowOf (joinR rows a b) y = rowOf rows a ++ rowOf rows b :=
  (h.join ha hb hab).rowOf_eq (by simp [joinR]) (List.mem_append.2 hy)
theorem join_other {n : Nat} {rows : List (List Nat)} (h : RowsOk n rows) {a b : Nat} (ha : 0 < a ∧ a < n) (hb : 0 < b ∧ b < n) (hab : rowOf rows a ≠ rowOf rows b) {y : Nat} (hy : 0 < y ∧ y < n) (h1 : a ∉ rowOf rows y) (h2 : b ∉ rowOf rows y) : rowOf (joinR rows a b) y = rowOf rows y := by
  obtain ⟨m1, m2⟩ := h.rowOf_mem hy
  exact (h.join ha hb hab).rowOf_eq (by simp [joinR, m1, h1, h2]) m2
theorem zs_inj {l m : List Nat} : zs l = zs m ↔ l = m := by
  constructor
  · intro h
    apply List.ext_getElem?
    intro i
    have := congrArg (fun l => l[i]?) h
    simp only [zs, List.getElem?_map] at this
    cases h1 : l[i]? <;> cases h2 : m[i]? <;> simp [h1, h2] at this ⊢
    omega
  · rintro rfl; rfl

theorem Seams_l1 {w0 : World} {r : RC} {m : MS} {A : Option Addr} {c : Nat} {x : Nat} (hx : 0 < x ∧ x < m.n) {K2 : World → Prop} {Kr : Bool → World → Prop}
    (hK : ∀ w', LS w0 w' r m → LI w' A c (zs (rowOf m.rows x)) → K2 w') :
    ∀ (d i : Nat) (w : World), (rowOf m.rows x).length - i = d → i ≤ (rowOf m.rows x).length → LS w0 w r m → LI w A c (zs (rowOf m.rows x)) →
    f_law15_TreapSeams.l1 (d + 1) (x : Int) (some ⟨r.R, 0, none⟩) A (rowOf m.rows x).length c ((rowOf m.rows x).length : Int) (i : Int) w K2 Kr := by
  intro d
  induction d with
  | zero =>
    intro i w h1 h2 h3 h4
    have : i = (rowOf m.rows x).length := by omega
    subst this
    unfold f_law15_TreapSeams.l1
    exact sel_f (by simp) (hK w h3 h4)
  | succ d ih =>
    intro i w h1 h2 h3 h4
    have hi : i < (rowOf m.rows x).length := by omega
    obtain ⟨rok, hn, hpos⟩ := h3.rok
    obtain ⟨len1, nd1, xm, rng⟩ := rok.rlen hx
    unfold f_law15_TreapSeams.l1
    obtain ⟨a, rfl, hc⟩ := h4.reads i (by rw [zs_len]; exact hi)
    have hz : (zs (rowOf m.rows x))[i]'(by rw [zs_len]; exact hi) = ((rowOf m.rows x)[i] : Int) := by simp [zs]
    rw [hz] at hc
    have hy := rng _ (List.getElem_mem hi)
    have hry := rowOf_of rok hx (List.getElem_mem hi)
    refine sel_t (by simp; omega) (optB_some rfl (req_intro (by simp; omega) (ldI_intro (by rw [Int.toNat_natCast, Nat.mul_one]; exact hc) ((h3.index _).mono ?_))))
    rintro e w1 ⟨rfl, hL1, q1⟩
    have e1 : indexE m.n m.rows ((rowOf m.rows x)[i] : Int) = ((i : Int), 0) := by
      simp only [indexE, nat_good hy, Bool.false_eq_true, if_false, Int.toNat_natCast, hry]
      rw [List.Nodup.idxOf_getElem nd1]
    rw [e1]
    refine ⟨_, _, rfl, (hL1.at _ _).mono ?_⟩
    rintro e w2 ⟨rfl, hL2, q2⟩
    have e2 : atE m.n m.rows (x : Int) (i : Int) = (((rowOf m.rows x)[i] : Int), 0) := by
      have : ¬ ((i : Int) < 0 ∨ (i : Int) ≥ ((rowOf m.rows x).length : Int)) := by omega
      simp only [atE, nat_good hx, Bool.false_eq_true, if_false, Int.toNat_natCast, if_neg this]
      simp [List.getD_eq_getElem?_getD, hi]
    rw [e2]
    refine ⟨_, _, rfl, sel_f rfl (sel_f rfl (sel_f (by simp) (sel_f (by simp) ?_)))⟩
    rw [w64_in (by omega), show (i : Int) + 1 = ((i + 1 : Nat) : Int) by omega]
    exact ih (i + 1) w2 (by omega) (by omega) hL2 ((h4.below q1).below q2)

theorem zs_head {l : List Nat} {y : Nat} {t : List Nat} (e : l = y :: t) {w : World} {A : Option Addr} (h : RI w A (zs l)) : ∃ a, A = some a ∧ w.cell? (a.add ((0 : Int).toNat * 1)) = some (.int .i64 (y : Int)) := by
  subst e
  obtain ⟨a, rfl, hc⟩ := h 0 (by simp [zs])
  exact ⟨a, rfl, by simpa [zs] using hc⟩
theorem cut_behind {n : Nat} {rows : List (List Nat)} (h : RowsOk n rows) {x y : Nat} (hx : 0 < x ∧ x < n) (hy : y ∈ (rowOf rows x).drop ((rowOf rows x).idxOf x)) : rowOf (cutR rows x) y = (rowOf rows x).drop ((rowOf rows x).idxOf x) := by
  rw [← cut_row h hx] at hy ⊢
  exact rowOf_of (h.cut x) hx hy
theorem joinE_good {n : Nat} {rows : List (List Nat)} {a b : Nat} (ha : 0 < a ∧ a < n) (hb : 0 < b ∧ b < n) (hab : rowOf rows a ≠ rowOf rows b) : joinE n rows (a : Int) (b : Int) = 0 ∧ joinS n rows (a : Int) (b : Int) = joinR rows a b := by
  simp [joinE, joinS, nat_good ha, nat_good hb, hab]
theorem Seams_j2 {w0 w : World} {r : RC} {m : MS} (h : LS w0 w r m) {x : Nat} (hx : 0 < x ∧ x < m.n) {A : Option Addr} {c : Nat} (hl : LI w A c (zs (rowOf m.rows x))) (b : Int) {Kr : Bool → World → Prop} (hK : ∀ w', Below w0.heap.size w0 w' → Kr true w') :
    f_law15_TreapSeams.j2 (x : Int) b (some ⟨r.R, 0, none⟩) A (rowOf m.rows x).length c w Kr := by
  obtain ⟨rok, hn, hpos⟩ := h.rok
  obtain ⟨len1, nd1, xm, rng⟩ := rok.rlen hx
  have fin : ∀ {w w' : World} {r : RC} {m : MS}, LS w0 w r m → Below w.heap.size w w' → Kr true w' := fun h b => hK _ (h.bel.trans (b.mono h.bel.size))
  unfold f_law15_TreapSeams.j2
  refine (h.list _).mono ?_
  rintro e w1 ⟨A1, c1, rfl, l1, h1, q1⟩
  rw [listE_good hx] at l1 ⊢
  refine ⟨_, _, _, _, rfl, sel_f rfl ((SameInts_ok l1.reads (by rw [zs_len]) (hl.below q1).reads (by rw [zs_len]) (by rw [zs_len]; show (rowOf m.rows x).length ≤ _; omega)).mono ?_)⟩
  rintro e w2 ⟨rfl, q2⟩
  have hl := (hl.below q1).below q2
  refine ⟨_, rfl, sel_f (by simp) (((h1.below q2).list b).mono ?_)⟩
  rintro e w3 ⟨A3, c3, rfl, l3, h3, q3⟩
  have hl := hl.below q3
  refine ⟨_, _, _, _, rfl, (h3.same _ _).mono ?_⟩
  rintro e w4 ⟨rfl, h4, q4⟩
  have hl := hl.below q4; have l3 := l3.below q4
  refine ⟨_, _, rfl, ?_⟩
  cases hbd : Bd m.n b with
  | true =>
    have e1 : listE m.n m.rows b = ([], 150) := by simp [listE, hbd]
    rw [e1]
    exact sel_t rfl (sel_t rfl (hK _ h4.bel))
  | false =>
    obtain ⟨y, rfl, ey, hy⟩ := Bd_nat hbd
    obtain ⟨len2, nd2, ym, rng2⟩ := rok.rlen hy
    rw [listE_good hy] at l3 ⊢
    have es : (sameE m.n m.rows (x : Int) (y : Int)).1 = decide (rowOf m.rows x = rowOf m.rows y) := by simp [sameE, nat_good hx, hbd]
    rw [es]
    refine sel_f rfl ?_
    by_cases hxy : rowOf m.rows x = rowOf m.rows y
    · refine sel_t (by simpa using hxy) (sel_f rfl ((SameInts_ok l3.reads (by rw [zs_len]) hl.reads (by rw [zs_len]) (by rw [zs_len]; show (rowOf m.rows y).length ≤ _; omega)).mono ?_))
      rintro e w5 ⟨rfl, q5⟩
      refine ⟨_, rfl, ?_⟩
      have : decide (zs (rowOf m.rows y, (0 : Int)).1 = zs (rowOf m.rows x)) = true := by simp [hxy]
      rw [this]; exact fin h4 q5
    · refine sel_f (by simpa using hxy) ((h4.join _ _).mono ?_)
      rintro e w5 ⟨rfl, h5, k5⟩
      have hl := hl.rope h4 k5; have l3 := l3.rope h4 k5
      obtain ⟨ej, sj⟩ := joinE_good hx hy hxy
      rw [ej]
      rw [sj] at h5
      have rok5 := rok.join hx hy hxy
      have hrx : rowOf (joinR m.rows x y) x = rowOf m.rows x ++ rowOf m.rows y := join_row rok hx hy hxy (.inl xm)
      have hry : rowOf (joinR m.rows x y) y = rowOf m.rows x ++ rowOf m.rows y := join_row rok hx hy hxy (.inr ym)
      obtain ⟨z, t, ez⟩ : ∃ z t, rowOf m.rows y = z :: t := by
        cases hh : rowOf m.rows y with
        | nil => rw [hh] at ym; simp at ym
        | cons z t => exact ⟨z, t, rfl⟩
      have zm : z ∈ rowOf m.rows y := by rw [ez]; simp
      have hz := rng2 z zm
      obtain ⟨a3, e3, hc3⟩ := zs_head ez l3.reads
      have hzn : z ∉ rowOf m.rows x := fun hh => hxy (by rw [← rowOf_of rok hx hh, rowOf_of rok hy zm])
      have hrz : rowOf (joinR m.rows x y) z = rowOf m.rows x ++ rowOf m.rows y := join_row rok hx hy hxy (.inr zm)
      have hiz : (rowOf m.rows x ++ rowOf m.rows y).idxOf z = (rowOf m.rows x).length := by rw [idx_r _ hzn, ez]; simp
      refine ⟨_, rfl, sel_f rfl (optB_some e3 (req_intro (by rw [ez]; simp) (ldI_intro hc3 ((h5.cut _).mono ?_))))⟩
      rintro e w6 ⟨rfl, h6, k6⟩
      have hl := hl.rope h5 k6; have l3 := l3.rope h5 k6
      have ec : cutE m.n (z : Int) = 0 := by simp [cutE, nat_good hz]
      have sc : cutS m.n (joinR m.rows x y) (z : Int) = cutR (joinR m.rows x y) z := by simp [cutS, nat_good hz]
      rw [sc] at h6
      rw [ec]
      have e7 : rowOf (cutR (joinR m.rows x y) z) x = rowOf m.rows x := by
        rw [cut_ahead rok5 hz (by rw [hrz, hiz, List.take_left]; exact xm), hrz, hiz, List.take_left]
      have e8 : rowOf (cutR (joinR m.rows x y) z) y = rowOf m.rows y := by
        rw [cut_behind rok5 hz (by rw [hrz, hiz, List.drop_left]; exact ym), hrz, hiz, List.drop_left]
      refine ⟨_, rfl, sel_f rfl ((h6.list _).mono ?_)⟩
      rintro e w7 ⟨A7, c7, rfl, l7, h7, q7⟩
      have hl := hl.below q7; have l3 := l3.below q7
      refine ⟨_, _, _, _, rfl, (h7.list _).mono ?_⟩
      rintro e w8 ⟨A8, c8, rfl, l8, h8, q8⟩
      have hl := hl.below q8; have l3 := l3.below q8; have l7 := l7.below q8
      rw [listE_good (show 0 < x ∧ x < m.n from hx)] at l7 ⊢
      rw [listE_good (show 0 < y ∧ y < m.n from hy)] at l8 ⊢
      simp only [e7] at l7 ⊢
      simp only [e8] at l8 ⊢
      refine ⟨_, _, _, _, rfl, ?_⟩
      unfold f_law15_TreapSeams.j3
      refine (SameInts_ok l7.reads (by rw [zs_len]) hl.reads (by rw [zs_len]) (by rw [zs_len]; omega)).mono ?_
      rintro e w9 ⟨rfl, q9⟩
      refine ⟨_, rfl, sel_t (by simp) ((SameInts_ok (l8.below q9).reads (by rw [zs_len]) (l3.below q9).reads (by rw [zs_len]) (by rw [zs_len]; omega)).mono ?_)⟩
      rintro e w10 ⟨rfl, q10⟩
      refine ⟨_, rfl, fun _ => ?_⟩
      have : decide (zs (rowOf m.rows y) = zs (rowOf m.rows y)) = true := by simp
      rw [this]
      exact fin (h8.below q9) q10
theorem TreapSeams_walk {w : World} {A0 A1 : Option Addr} {n0 n1 c0 c1 : Nat} {sl : List Int} {f : Nat → Nat → Int} (hr : RI w A0 sl) (hn : n0 = sl.length) (hc0 : A0 = none → sl.length = 0 ∧ c0 = 0) (hlen : sl.length ≤ 17592186044416) (hf : IsRecs ks5 w A1 n1 c1 f) (a b : Int) :
    Calls Try.prog 6 #[.slice A0 n0 c0, .slice A1 n1 c1, .int .i64 a, .int .i64 b] w fun e w' => e = .returned (.bool true) ∧ Below w.heap.size w w' := by
  apply f_law15_TreapSeams.ok
  unfold f_law15_TreapSeams.wp
  refine (LS.new (w0 := w) (Below.refl _ _) hr hn hc0 hlen).mono ?_
  rintro e w1 ⟨r, rfl, hS, hB, hb⟩
  refine ⟨_, rfl, sel_f rfl ((alive_ok w1).mono ?_)⟩
  rintro e w2 ⟨rfl, q2⟩
  refine ⟨_, rfl, sel_f rfl ⟨_, Seams_l0 hf ?_ n1 0 w2 r _ rfl (by omega) (hS.below q2) rfl⟩⟩
  intro w3 r3 m hS hR _
  rw [← hR]
  obtain ⟨rok, hle, hpos⟩ := hS.rok
  refine (hS.list a).mono ?_
  rintro e w4 ⟨A4, c4, rfl, l4, hS4, q4⟩
  cases hbd : Bd m.n a with
  | true =>
    have e1 : listE m.n m.rows a = ([], 150) := by simp [listE, hbd]
    have e2 : cutE m.n a = 150 := by simp [cutE, hbd]
    rw [e1]
    refine ⟨_, _, _, _, rfl, sel_t rfl (sel_t rfl ((hS4.cut a).mono ?_))⟩
    rintro e w5 ⟨rfl, h5, k5⟩
    rw [e2]
    exact ⟨_, rfl, rfl, h5.bel⟩
  | false =>
    obtain ⟨x, rfl, ex, hx⟩ := Bd_nat hbd
    obtain ⟨len1, nd1, xm, rng⟩ := rok.rlen hx
    rw [listE_good hx] at l4 ⊢
    refine ⟨_, _, _, _, rfl, sel_f rfl ⟨_, Seams_l1 hx ?_ (rowOf m.rows x).length 0 w4 rfl (by omega) hS4 l4⟩⟩
    intro w5 h5 l5 _
    refine (h5.cut _).mono ?_
    rintro e w6 ⟨rfl, h6, k6⟩
    have l6 := l5.rope h5 k6
    have ec : cutE m.n (x : Int) = 0 := by simp [cutE, hbd]
    have sc : cutS m.n m.rows (x : Int) = cutR m.rows x := by simp [cutS, hbd]
    rw [sc] at h6
    rw [ec]
    have rok6 := rok.cut x
    have ed := cut_row rok hx
    have hk := idx_lt xm
    refine ⟨_, rfl, sel_f rfl ((h6.list _).mono ?_)⟩
    rintro e w7 ⟨A7, c7, rfl, l7, h7, q7⟩
    have l6 := l6.below q7
    refine ⟨_, _, _, _, rfl, (h7.index _).mono ?_⟩
    rintro e w8 ⟨rfl, h8, q8⟩
    have l6 := l6.below q8; have l7 := l7.below q8
    rw [listE_good (show 0 < x ∧ x < m.n from hx)] at l7 ⊢
    simp only [ed] at l7 ⊢
    have ei : indexE m.n (cutR m.rows x) (x : Int) = (0, 0) := by
      simp only [indexE, hbd, Bool.false_eq_true, if_false, Int.toNat_natCast, ed]
      rw [List.drop_eq_getElem_cons hk]
      simp
    show ∃ _ _, _ ∧ _
    simp only [ei]
    have ld : ((rowOf m.rows x).drop ((rowOf m.rows x).idxOf x)).length = (rowOf m.rows x).length - (rowOf m.rows x).idxOf x := List.length_drop
    have wr : IntKind.i64.wrap (((rowOf m.rows x).length : Int) - (((rowOf m.rows x).drop ((rowOf m.rows x).idxOf x)).length : Int)) = ((rowOf m.rows x).idxOf x : Int) := by
      rw [ld, w64_in (by omega)]; omega
    refine ⟨_, _, rfl, sel_f rfl (sel_f rfl (sel_f rfl (sel_f (by rw [ld]; simp) (req_intro (by rw [wr]; simp; omega) ?_))))⟩
    rw [wr, Int.toNat_natCast]
    have hsl := (LI.reads l6).slA (OwnI.le l6) ((rowOf m.rows x).idxOf x)
    rw [show (zs (rowOf m.rows x)).drop ((rowOf m.rows x).idxOf x) = zs ((rowOf m.rows x).drop ((rowOf m.rows x).idxOf x)) by simp [zs]] at hsl
    refine (SameInts_ok l7.reads (by rw [zs_len]) hsl (by rw [zs_len, ld]) (by rw [zs_len, ld]; omega)).mono ?_
    rintro e w9 ⟨rfl, q9⟩
    have l6 := l6.below q9; have h9 := h8.below q9
    refine ⟨_, rfl, sel_f (by simp) ?_⟩
    by_cases hk0 : (rowOf m.rows x).idxOf x = 0
    · refine sel_f (by rw [ld]; simp; omega) ?_
      have er : rowOf m.rows x = rowOf (cutR m.rows x) x := by rw [ed, hk0, List.drop_zero]
      rw [er] at l6 ⊢
      exact Seams_j2 (m := ⟨m.n, cutR m.rows x, m.V⟩) h9 hx l6 b fun w' hb _ => ⟨rfl, hb⟩
    · obtain ⟨z, t, ez⟩ : ∃ z t, rowOf m.rows x = z :: t := by
        cases hh : rowOf m.rows x with
        | nil => rw [hh] at xm; simp at xm
        | cons z t => exact ⟨z, t, rfl⟩
      have zt : z ∈ (rowOf m.rows x).take ((rowOf m.rows x).idxOf x) := by
        obtain ⟨k, hk'⟩ : ∃ k, (rowOf m.rows x).idxOf x = k + 1 := ⟨(rowOf m.rows x).idxOf x - 1, by omega⟩
        rw [hk', ez]; simp
      have hz := rng z (by rw [ez]; simp)
      obtain ⟨a6, e6, hc6⟩ := zs_head ez (LI.reads l6)
      have erz := cut_ahead rok hx zt
      have hne : rowOf (cutR m.rows x) z ≠ rowOf (cutR m.rows x) x := by
        rw [erz, ed]
        intro e
        have h1 := nd1
        rw [← List.take_append_drop ((rowOf m.rows x).idxOf x) (rowOf m.rows x), List.nodup_append] at h1
        exact h1.2.2 z zt z (e ▸ zt) rfl
      obtain ⟨ej, sj⟩ := joinE_good (n := m.n) hz hx hne
      refine sel_t (by rw [ld]; simp; omega) (optB_some e6 (req_intro (by rw [ez]; simp) (ldI_intro hc6 ((h9.join _ _).mono ?_))))
      rintro e w10 ⟨rfl, h10, k10⟩
      have l10 := l6.rope h9 k10
      rw [ej]
      rw [sj] at h10
      have er : rowOf m.rows x = rowOf (joinR (cutR m.rows x) z x) x := by
        rw [join_row rok6 hz hx hne (.inr (rok6.rowOf_mem hx).2), erz, ed, List.take_append_drop]
      refine ⟨_, rfl, sel_f rfl ?_⟩
      rw [er] at l10 ⊢
      exact Seams_j2 (m := ⟨m.n, joinR (cutR m.rows x) z x, m.V⟩) h10 hx l10 b fun w' hb _ => ⟨rfl, hb⟩
theorem TreapSeams_row {w : World} {A0 A1 : Option Addr} {n0 n1 c0 c1 : Nat} {za : List Int} {f : Nat → Nat → Int} {a b : Int} (h0 : IsRow .i64 w A0 n0 c0 za) (s0 : n0 * 8 ≤ 140737488351232) (h1 : IsRecs ks5 w A1 n1 c1 f) (wa : (Lit.int .i64 a).wf = true) (wb : (Lit.int .i64 b).wf = true) :
    Calls Try.prog 6 #[.slice A0 n0 c0, .slice A1 n1 c1, .int .i64 a, .int .i64 b] w fun e w' => e = .returned (.bool true) ∧ Below w.heap.size w w' := by
  obtain ⟨l, hr, e1, e2, e3⟩ := row_ints h0 s0
  exact TreapSeams_walk hr e1 e2 e3 h1 a b
end Go.Proofs.Ytnfgibbkfkaonaa.Rd
