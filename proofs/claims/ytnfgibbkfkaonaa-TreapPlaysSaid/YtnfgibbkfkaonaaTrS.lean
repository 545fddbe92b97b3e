/- The walk of TreapRows: each node stands in just one row; a join is one list behind the other. Conditions: none. -/
import Derived.Test.YtnfgibbkfkaonaaTrR
import Derived.Test.YtnfgibbkfkaonaaRdL4
namespace Go.Proofs.Ytnfgibbkfkaonaa.Rd
open Go.Dn Go.RowKit
set_option linter.unusedVariables false
set_option maxRecDepth 100000

/-! ### the plain law: the rows' lengths together -/
theorem ne_of_mem_nd {l : List Nat} {x a : Nat} (h : x ∈ l) (k : a ∉ l) : x ≠ a := fun e => k (e ▸ h)
theorem nodup_sub : ∀ {l m : List Nat}, l.Nodup → (∀ x ∈ l, x ∈ m) → l.length ≤ m.length
  | [], _, _, _ => by simp
  | a :: l, m, nd, h => by
    rw [List.nodup_cons] at nd
    have ha : a ∈ m := h a (by simp)
    have := nodup_sub (l := l) (m := m.erase a) nd.2 fun x hx => (List.mem_erase_of_ne (ne_of_mem_nd hx nd.1)).2 (h x (by simp [hx]))
    rw [List.length_erase_of_mem ha] at this
    have := List.length_pos_of_mem ha
    simp only [List.length_cons]; omega
theorem flat_nodup : ∀ {rows : List (List Nat)}, (∀ l ∈ rows, l.Nodup) → rows.Pairwise Disj → rows.flatten.Nodup
  | [], _, _ => by simp
  | l :: rows, h, d => by
    rw [List.pairwise_cons] at d
    rw [List.flatten_cons, List.nodup_append]
    refine ⟨h l (by simp), flat_nodup (fun m hm => h m (by simp [hm])) d.2, fun a ha b hb e => ?_⟩
    obtain ⟨m, hm, hbm⟩ := List.mem_flatten.1 hb
    exact d.1 m hm a ha (e ▸ hbm)
theorem rows_len {n : Nat} {rows : List (List Nat)} (h : RowsOk n rows) (hn : 0 < n) : (rows.map List.length).sum = n - 1 := by
  rw [← List.length_flatten]
  have nd := flat_nodup h.nd h.dj
  have e : ∀ i, i ∈ rows.flatten ↔ 0 < i ∧ i < n := fun i => by
    rw [← h.mem i, List.mem_flatten]
  have h1 := nodup_sub (l := rows.flatten) (m := List.range' 1 (n - 1)) nd fun i hi => by
    have := (e i).1 hi
    rw [List.mem_range'_1]; omega
  have h2 := nodup_sub (l := List.range' 1 (n - 1)) (m := rows.flatten) List.nodup_range' fun i hi => by
    rw [List.mem_range'_1] at hi
    exact (e _).2 (by omega)
  rw [List.length_range'] at h1 h2; omega
/-- what the loop adds at a node: its row's length, if it is the row's first -/
def addH (rows : List (List Nat)) (n : Nat) : Nat := if (rowOf rows n).head? = some n then (rowOf rows n).length else 0
def sumH (rows : List (List Nat)) : Nat → Nat
  | 0 => 0
  | k + 1 => sumH rows k + addH rows (k + 1)
def gH (rows : List (List Nat)) (n : Nat) : Nat := (rows.map fun l => if l.head? = some n then l.length else 0).sum
theorem gH_zero : ∀ {rows : List (List Nat)} {n : Nat}, (∀ l ∈ rows, n ∉ l) → gH rows n = 0
  | [], _, _ => rfl
  | l :: rows, n, h => by
    have h1 := gH_zero (rows := rows) (n := n) fun m hm => h m (by simp [hm])
    unfold gH at h1 ⊢
    rw [List.map_cons, List.sum_cons, h1, if_neg]
    intro e
    exact h l (by simp) (List.mem_of_mem_head? (by rw [e]; rfl))
theorem gH_one : ∀ {rows : List (List Nat)} {n : Nat} {l : List Nat}, rows.Pairwise Disj → l ∈ rows → n ∈ l → gH rows n = if l.head? = some n then l.length else 0
  | [], _, _, _, h, _ => absurd h (by simp)
  | m :: rows, n, l, d, hl, hn => by
    rw [List.pairwise_cons] at d
    unfold gH
    rw [List.map_cons, List.sum_cons]
    rcases List.mem_cons.1 hl with rfl | hl
    · have := gH_zero (rows := rows) (n := n) fun m hm => d.1 m hm n hn
      unfold gH at this
      rw [this]; omega
    · have := gH_one d.2 hl hn
      unfold gH at this
      rw [this, if_neg]
      · omega
      · intro e
        exact d.1 l hl n (List.mem_of_mem_head? (by rw [e]; rfl)) hn
theorem addH_g {n : Nat} {rows : List (List Nat)} (h : RowsOk n rows) {x : Nat} (hx : 0 < x ∧ x < n) : addH rows x = gH rows x := by
  obtain ⟨h1, h2⟩ := h.rowOf_mem hx
  rw [gH_one h.dj h1 h2]; rfl
def sumG (rows : List (List Nat)) : Nat → Nat
  | 0 => 0
  | k + 1 => sumG rows k + gH rows (k + 1)
theorem sumG_nil : ∀ k, sumG [] k = 0
  | 0 => rfl
  | k + 1 => by simp [sumG, sumG_nil k, gH]
theorem sumG_cons (l : List Nat) (rows : List (List Nat)) : ∀ k, sumG (l :: rows) k = sumG [l] k + sumG rows k
  | 0 => rfl
  | k + 1 => by
    have := sumG_cons l rows k
    simp only [sumG, gH, List.map_cons, List.map_nil, List.sum_cons, List.sum_nil] at this ⊢
    omega
theorem sumG_one {l : List Nat} {h : Nat} (hh : l.head? = some h) : ∀ k, sumG [l] k = if 0 < h ∧ h ≤ k then l.length else 0
  | 0 => by simp [sumG]; omega
  | k + 1 => by
    have := sumG_one hh k
    simp only [sumG, this, gH, List.map_cons, List.map_nil, List.sum_cons, List.sum_nil, hh, Option.some.injEq]
    by_cases e : h = k + 1
    · subst e; simp; omega
    · rw [if_neg e]
      by_cases h1 : 0 < h ∧ h ≤ k
      · rw [if_pos h1, if_pos (by omega)]; rfl
      · rw [if_neg h1, if_neg (by omega)]; rfl
theorem sumG_all {n : Nat} (k : Nat) : ∀ {rows : List (List Nat)}, (∀ l ∈ rows, l ≠ []) → (∀ l ∈ rows, ∀ i ∈ l, 0 < i ∧ i ≤ k) → sumG rows k = (rows.map List.length).sum
  | [], _, _ => sumG_nil k
  | l :: rows, h1, h2 => by
    rw [sumG_cons, sumG_all (n := n) k (rows := rows) (fun m hm => h1 m (List.mem_cons_of_mem _ hm)) (fun m hm => h2 m (List.mem_cons_of_mem _ hm)), List.map_cons, List.sum_cons]
    cases l with
    | nil => exact absurd rfl (h1 [] (by simp))
    | cons a l =>
      have := h2 (a :: l) (by simp) a (by simp)
      rw [sumG_one (h := a) rfl, if_pos this]
theorem sumH_G {n : Nat} {rows : List (List Nat)} (h : RowsOk n rows) : ∀ k, k < n → sumH rows k = sumG rows k
  | 0, _ => rfl
  | k + 1, hk => by simp only [sumH, sumG, sumH_G h k (by omega), addH_g h (show 0 < k + 1 ∧ k + 1 < n by omega)]
theorem sumH_all {n : Nat} {rows : List (List Nat)} (h : RowsOk n rows) (hn : 0 < n) : sumH rows (n - 1) = n - 1 := by
  rw [sumH_G h (n - 1) (by omega), sumG_all (n := n) (n - 1) h.ne (fun l hl i hi => by have := (h.mem i).1 ⟨l, hl, hi⟩; omega), rows_len h hn]
theorem sumH_le {n : Nat} {rows : List (List Nat)} (h : RowsOk n rows) : ∀ k, k < n → sumH rows k ≤ k * n
  | 0, _ => by simp [sumH]
  | k + 1, hk => by
    have h1 := sumH_le h k (by omega)
    have h2 := (h.rlen (a := k + 1) ⟨by omega, hk⟩).1
    simp only [sumH, addH, Nat.add_mul, Nat.one_mul]
    split <;> omega

/-! ### the walk -/
def cntN (count : Nat) : Nat := if count ≤ 65536 then count + 1 else 65537
theorem Rows_l0 {w0 : World} {A : Option Addr} {len cap : Nat} {f : Nat → Nat → Int} (hf : IsRecs ks5 w0 A len cap f) {R : Nat} {K0 : Int → World → Prop} (hK : ∀ (count : Nat) w' r' m', count ≤ len → LS w0 w' r' m' → m'.n = cntN count → r'.R = R → K0 (count : Int) w') :
    ∀ (d i count : Nat) (w : World) (r : RC) (m : MS), len - i = d → i ≤ len → count ≤ i → LS w0 w r m → m.n = cntN count → r.R = R → f_law15_TreapRows.l0 (d + 1) (some ⟨R, 0, none⟩) (count : Int) A len cap (len : Int) (i : Int) w K0 := by
  intro d
  induction d with
  | zero =>
    intro i count w r m h1 h2 hc h3 hm h4
    have : i = len := by omega
    subst this
    unfold f_law15_TreapRows.l0
    exact sel_f (by simp) (hK count w r m hc h3 hm h4)
  | succ d ih =>
    intro i count w r m h1 h2 hc h3 hmn h4
    have hle := hf.le
    unfold f_law15_TreapRows.l0
    refine sel_t (by simp; omega) (op_rd (hf.below h3.bel) (by omega) fun w1 b e hb q1 => ?_)
    subst h4
    have ob := h3.out (b := b) (by omega)
    refine (changes0_ok (h3.below q1) (hf.opOk (i := i) (by omega))).mono ?_
    rintro e w2 ⟨A0, n0, c0, A1, n1, c1, A2, n2, c2, bb, rfl, r', hL, hm, hk⟩
    have hb2 := hb.keeps hk ob.no
    refine ⟨_, _, _, _, _, _, _, _, _, _, rfl, hb_ldI0 hb2 rfl ?_⟩
    rw [w64_in (x := (i : Int) + 1) (by omega), show (i : Int) + 1 = ((i + 1 : Nat) : Int) by omega]
    by_cases hk1 : f i 0 = 1
    · refine sel_t (by simpa using hk1) ?_
      rw [w64_in (by omega), show (count : Int) + 1 = ((count + 1 : Nat) : Int) by omega]
      refine ih (i + 1) (count + 1) w2 r' _ (by omega) (by omega) (by omega) hL ?_ hm.R
      have : (stepM m (opAt f i)).n = makeN m.n := by simp [stepM, opAt, hk1]
      rw [this, hmn]; unfold makeN cntN
      by_cases q1 : count ≤ 65535
      · rw [if_pos (show count ≤ 65536 by omega), if_pos (by omega), if_pos (by omega)]
      · by_cases q2 : count ≤ 65536
        · rw [if_pos q2, if_neg (by omega), if_neg (by omega)]; omega
        · rw [if_neg q2, if_neg (by omega), if_neg (by omega)]
    · refine sel_f (by simpa using hk1) ?_
      refine ih (i + 1) count w2 r' _ (by omega) (by omega) (by omega) hL ?_ hm.R
      have : (stepM m (opAt f i)).n = m.n := by
        unfold stepM
        rw [if_neg (by exact hk1)]
        split
        · rfl
        · split
          · rfl
          · split <;> rfl
      rw [this, hmn]
theorem Rows_l2 {w : World} {A : Option Addr} {c : Nat} {l : List Nat} (hl : RI w A (zs l)) (x : Nat) (hlen : l.length ≤ 65537) {K4 : Int → World → Prop} (hK : K4 ((l.count x : Nat) : Int) w) :
    ∀ (d i : Nat), l.length - i = d → i ≤ l.length → f_law15_TreapRows.l2 (d + 1) (x : Int) (((l.take i).count x : Nat) : Int) A l.length c (l.length : Int) (i : Int) w K4 := by
  intro d
  induction d with
  | zero =>
    intro i h1 h2
    have : i = l.length := by omega
    subst this
    unfold f_law15_TreapRows.l2
    rw [List.take_length]
    exact sel_f (by simp) hK
  | succ d ih =>
    intro i h1 h2
    have hi : i < l.length := by omega
    obtain ⟨a, rfl, hc⟩ := hl i (by rw [zs_len]; exact hi)
    have hz : (zs l)[i]'(by rw [zs_len]; exact hi) = (l[i] : Int) := by simp [zs]
    rw [hz] at hc
    have hcnt : (l.take i).count x ≤ i := by have := List.count_le_length (a := x) (l := l.take i); rw [List.length_take] at this; omega
    have e1 : (l.take (i + 1)).count x = (l.take i).count x + if l[i] = x then 1 else 0 := by
      rw [List.take_succ_eq_append_getElem hi, List.count_append]
      simp [List.count_cons]
    unfold f_law15_TreapRows.l2
    refine sel_t (by simp; omega) (optB_some rfl (req_intro (by simp; omega) (ldI_intro (by rw [Int.toNat_natCast, Nat.mul_one]; exact hc) ?_)))
    rw [w64_in (x := (i : Int) + 1) (by omega), show (i : Int) + 1 = ((i + 1 : Nat) : Int) by omega]
    by_cases hx : l[i] = x
    · refine sel_t (by simp [hx]) ?_
      rw [w64_in (by omega)]
      have := ih (i + 1) (by omega) (by omega)
      rw [e1, if_pos hx] at this
      exact this
    · refine sel_f (by rw [nat_beq]; simpa using hx) ?_
      have := ih (i + 1) (by omega) (by omega)
      rw [e1, if_neg hx] at this
      exact this
theorem Rows_l1 {w0 : World} {r : RC} {m : MS} {count : Nat} (hmn : m.n = cntN count) (hcl : count ≤ 9223372036854775807) {K2 : Int → World → Prop} {Kr : Bool → World → Prop} (hK : ∀ w', LS w0 w' r m → K2 ((sumH m.rows (min count 199) : Nat) : Int) w') :
    ∀ (d n : Nat) (w : World), 200 - n = d → n ≤ 200 → n ≤ count + 1 → 0 < n → LS w0 w r m → f_law15_TreapRows.l1 (d + 1) (some ⟨r.R, 0, none⟩) (count : Int) ((sumH m.rows (n - 1) : Nat) : Int) (n : Int) w K2 Kr := by
  intro d
  induction d with
  | zero =>
    intro n w h1 h2 h3 h4 hL
    have : n = 200 := by omega
    subst this
    unfold f_law15_TreapRows.l1
    have e : min count 199 = 200 - 1 := by omega
    rw [e] at hK
    by_cases hc : 200 ≤ count
    · exact sel_t (by simp; omega) (sel_f (by simp) (hK w hL))
    · exact sel_f (by simp; omega) (hK w hL)
  | succ d ih =>
    intro n w h1 h2 h3 h4 hL
    unfold f_law15_TreapRows.l1
    by_cases hc : n ≤ count
    · refine sel_t (by simpa using hc) (sel_t (by simp; omega) ((hL.list _).mono ?_))
      rintro e w1 ⟨A1, c1, rfl, l1, hL1, q1⟩
      obtain ⟨rok, hn, hpos⟩ := hL.rok
      have hx : 0 < n ∧ n < m.n := ⟨h4, by rw [hmn]; unfold cntN; split <;> omega⟩
      obtain ⟨len1, nd1, xm, rng⟩ := rok.rlen hx
      rw [listE_good hx] at l1 ⊢
      refine ⟨_, _, _, _, rfl, sel_f rfl ⟨_, Rows_l2 l1.reads n (by show (rowOf m.rows n).length ≤ _; omega) ?_ (rowOf m.rows n).length 0 rfl (by omega)⟩⟩
      intro _
      have hcnt : (rowOf m.rows n).count n = 1 := by rw [nd1.count, if_pos xm]
      show sel (((((rowOf m.rows n).count n : Nat) : Int)) != 1) _ _
      rw [hcnt]
      obtain ⟨z, t, ez⟩ : ∃ z t, rowOf m.rows n = z :: t := by
        cases hh : rowOf m.rows n with
        | nil => rw [hh] at xm; simp at xm
        | cons z t => exact ⟨z, t, rfl⟩
      obtain ⟨a1, e1, hc1⟩ := zs_head ez l1.reads
      have hsl := sumH_le rok (n - 1) (by omega)
      have hb1 : (n - 1) * m.n ≤ 199 * 65537 := Nat.mul_le_mul (by omega) hn
      have es : sumH m.rows n = sumH m.rows (n - 1) + addH m.rows n := by
        obtain ⟨k, rfl⟩ : ∃ k, n = k + 1 := ⟨n - 1, by omega⟩
        rfl
      refine sel_f rfl (optB_some e1 (req_intro (by rw [ez]; simp) (ldI_intro hc1 ?_)))
      rw [w64_in (x := (n : Int) + 1) (by omega), show (n : Int) + 1 = ((n + 1 : Nat) : Int) by omega]
      have goal := ih (n + 1) w1 (by omega) (by omega) (by omega) (by omega) hL1
      rw [Nat.add_sub_cancel, es] at goal
      by_cases hzn : z = n
      · have : addH m.rows n = (rowOf m.rows n).length := by unfold addH; rw [ez]; simp [hzn]
        rw [this] at goal
        refine sel_t (by rw [nat_beq]; simpa using hzn) ?_
        rw [w64_in (by simp only []; omega)]
        exact goal
      · have : addH m.rows n = 0 := by unfold addH; rw [ez]; simp [hzn]
        rw [this] at goal
        exact sel_f (by rw [nat_beq]; simpa using hzn) goal
    · have hcn : n - 1 = min count 199 := by omega
      rw [hcn]
      exact sel_f (by simp; omega) (hK w hL)
theorem SameI {w0 w : World} {r : RC} {m : MS} (hL : LS w0 w r m) {A1 A2 : Option Addr} {l1 l2 : List Nat} {n1 n2 c1 c2 : Nat} (r1 : RI w A1 (zs l1)) (e1 : n1 = l1.length) (r2 : RI w A2 (zs l2)) (e2 : n2 = l2.length) (hmax : l1.length ≤ 17592186044416) :
    Calls Try.prog 15 #[.slice A1 n1 c1, .slice A2 n2 c2] w fun e w' => e = .returned (.bool (decide (l1 = l2))) ∧ LS w0 w' r m ∧ Below w.heap.size w w' := by
  refine (SameInts_ok r1 (by rw [zs_len]; exact e1) r2 (by rw [zs_len]; exact e2) (by rw [zs_len]; exact hmax)).mono ?_
  rintro e w' ⟨rfl, q⟩
  refine ⟨?_, hL.below q, q⟩
  have : decide (zs l1 = zs l2) = decide (l1 = l2) := by
    by_cases h : l1 = l2
    · simp [h]
    · rw [decide_eq_false h, decide_eq_false (fun e => h (zs_inj.1 e))]
  rw [this]
theorem listE_len {n : Nat} {rows : List (List Nat)} (h : RowsOk n rows) (hn : n ≤ 65537) (a : Int) : (listE n rows a).1.length ≤ 65537 := by
  unfold listE
  cases hbd : Bd n a with
  | true => simp
  | false =>
    obtain ⟨x, ex, ex', hx⟩ := Bd_nat hbd
    have := (h.rlen hx).1
    simp only [Bool.false_eq_true, if_false, ex']; omega
theorem Rows_j3 {w0 w : World} {r : RC} {m : MS} (a b c : Int) (rok : RowsOk m.n m.rows) (hn : m.n ≤ 65537) (h : LS w0 w r ⟨m.n, joinS m.n m.rows a b, m.V⟩) {Ax Ay Az : Option Addr} {cx cy cz : Nat} (hx : LI w Ax cx (zs (listE m.n m.rows a).1)) (hy : LI w Ay cy (zs (listE m.n m.rows b).1)) (hz : LI w Az cz (zs (listE m.n m.rows c).1)) {Kr : Bool → World → Prop} (hK : ∀ w', Below w0.heap.size w0 w' → Kr true w') :
    f_law15_TreapRows.j3 a c (some ⟨r.R, 0, none⟩) Ax (listE m.n m.rows a).1.length cx (listE m.n m.rows a).2 Ay (listE m.n m.rows b).1.length cy (listE m.n m.rows b).2 Az (listE m.n m.rows c).1.length cz (sameE m.n m.rows a b).1 (sameE m.n m.rows a c).1 (sameE m.n m.rows b c).1 (joinE m.n m.rows a b) w Kr := by
  unfold f_law15_TreapRows.j3
  refine (h.list c).mono ?_
  rintro e w1 ⟨A1, c1, rfl, l1, h1, q1⟩
  have hx := hx.below q1; have hy := hy.below q1; have hz := hz.below q1
  refine ⟨_, _, _, _, rfl, ?_⟩
  -- nothing was joined: the same list
  have same : joinS m.n m.rows a b = m.rows → Calls Try.prog 15 #[.slice A1 (listE m.n (joinS m.n m.rows a b) c).1.length c1, .slice Az (listE m.n m.rows c).1.length cz] w1 fun e67 w68 => ∃ (b69 : Bool), e67 = .returned (.bool b69) ∧ Kr b69 w68 := by
    intro e
    refine (SameI h1 l1.reads rfl hz.reads rfl (by show (listE m.n (joinS m.n m.rows a b) c).1.length ≤ _; rw [e]; have := listE_len rok hn c; omega)).mono ?_
    rintro e' w2 ⟨rfl, h2, q2⟩
    refine ⟨_, rfl, ?_⟩
    have : decide ((listE m.n (joinS m.n m.rows a b) c).1 = (listE m.n m.rows c).1) = true := by rw [e]; simp
    rw [this]; exact hK _ h2.bel
  cases ha : Bd m.n a with
  | true =>
    have e1 : listE m.n m.rows a = ([], 150) := by simp [listE, ha]
    have e2 : joinE m.n m.rows a b = 150 := by simp [joinE, ha]
    have e3 : joinS m.n m.rows a b = m.rows := by simp [joinS, ha]
    rw [e1, e2]
    exact sel_t rfl (sel_t rfl (same e3))
  | false =>
    obtain ⟨x, rfl, ex, hxn⟩ := Bd_nat ha
    have ea : (listE m.n m.rows (x : Int)).2 = 0 := by rw [listE_good hxn]
    rw [ea]
    refine sel_f rfl ?_
    cases hb : Bd m.n b with
    | true =>
      have e1 : (listE m.n m.rows b).2 = 150 := by simp [listE, hb]
      have e2 : joinE m.n m.rows (x : Int) b = 150 := by simp [joinE, hb]
      have e3 : joinS m.n m.rows (x : Int) b = m.rows := by simp [joinS, hb]
      rw [e1, e2]
      exact sel_t rfl (sel_t rfl (same e3))
    | false =>
      obtain ⟨y, rfl, ey, hyn⟩ := Bd_nat hb
      have eb : (listE m.n m.rows (y : Int)).2 = 0 := by rw [listE_good hyn]
      rw [eb]
      refine sel_f rfl ?_
      have es : (sameE m.n m.rows (x : Int) (y : Int)).1 = decide (rowOf m.rows x = rowOf m.rows y) := by simp [sameE, ha, hb]
      rw [es]
      by_cases hxy : rowOf m.rows x = rowOf m.rows y
      · have e2 : joinE m.n m.rows (x : Int) (y : Int) = 151 := by simp [joinE, ha, hb, hxy]
        have e3 : joinS m.n m.rows (x : Int) (y : Int) = m.rows := by simp [joinS, ha, hb, hxy]
        rw [e2]
        exact sel_t (by simpa using hxy) (sel_t rfl (same e3))
      · obtain ⟨ej, sj⟩ := joinE_good hxn hyn hxy
        rw [ej]
        obtain ⟨lx, ndx, xm, rngx⟩ := rok.rlen hxn
        obtain ⟨ly, ndy, ym, rngy⟩ := rok.rlen hyn
        have elx : (listE m.n m.rows (x : Int)).1 = rowOf m.rows x := by rw [listE_good hxn]
        have ely : (listE m.n m.rows (y : Int)).1 = rowOf m.rows y := by rw [listE_good hyn]
        rw [elx] at hx ⊢
        rw [ely] at hy ⊢
        refine sel_f (by simpa using hxy) ((CopyInts_ok hx.reads (by rw [zs_len]) (by rw [zs_len]; omega)).mono ?_)
        rintro e w2 ⟨A2, c2, rfl, o2, q2⟩
        refine ⟨_, _, _, rfl, ?_⟩
        refine appI_runs TIn o2 rfl (hy.below q2).reads (by rw [zs_len]) (fun e => by
          subst e
          have := (OwnI.le hy); have h0 := OwnI.nil0 hy rfl
          rw [zs_len] at this; omega) q2.size (by rw [zs_len, zs_len]; omega) fun A3 c3 w3 o3 q3 _ _ => ?_
        have q23 : Below w1.heap.size w1 w3 := q2.trans q3
        have h3 := h1.below q23
        have l1 := l1.below q23; have hz := hz.below q23
        rw [← zs_app] at o3
        refine ⟨_, _, _, rfl, (h3.list _).mono ?_⟩
        rintro e w4 ⟨A4, c4, rfl, l4, h4, q4⟩
        have l1 := l1.below q4; have hz := hz.below q4
        have o4 := o3.reads.below q4 (Nat.le_refl _)
        have er : rowOf (joinR m.rows x y) x = rowOf m.rows x ++ rowOf m.rows y := join_row rok hxn hyn hxy (.inl xm)
        have el4 : listE m.n (joinS m.n m.rows (x : Int) (y : Int)) (x : Int) = (rowOf m.rows x ++ rowOf m.rows y, 0) := by rw [sj, listE_good hxn, er]
        simp only [el4] at l4 ⊢
        refine ⟨_, _, _, _, rfl, sel_t rfl (sel_t rfl ((SameI h4 l4.reads rfl o4 (by rw [← zs_app, zs_len]) (by simp; omega)).mono ?_))⟩
        rintro e w5 ⟨rfl, h5, q5⟩
        have l1 := l1.below q5; have hz := hz.below q5
        refine ⟨_, rfl, sel_t (by simp) ?_⟩
        cases hs1 : (sameE m.n m.rows (x : Int) c).1 with
        | true => exact sel_t rfl (hK _ h5.bel)
        | false =>
          refine sel_f rfl ?_
          cases hs2 : (sameE m.n m.rows (y : Int) c).1 with
          | true => exact sel_t rfl (hK _ h5.bel)
          | false =>
            have key : (listE m.n (joinS m.n m.rows (x : Int) (y : Int)) c).1 = (listE m.n m.rows c).1 := by
              rw [sj]
              cases hc : Bd m.n c with
              | true => simp [listE, hc]
              | false =>
                obtain ⟨z, rfl, ez, hzn⟩ := Bd_nat hc
                simp only [sameE, ha, hb, hc, Bool.or_self, Bool.false_eq_true, if_false, Int.toNat_natCast, decide_eq_false_iff_not] at hs1 hs2
                rw [listE_good hzn, listE_good hzn]
                exact join_other rok hxn hyn hxy hzn (fun hh => hs1 (rowOf_of rok hzn hh)) (fun hh => hs2 (rowOf_of rok hzn hh))
            refine sel_f rfl ((SameI h5 l1.reads rfl hz.reads rfl (by show (listE m.n (joinS m.n m.rows (x : Int) (y : Int)) c).1.length ≤ _; rw [key]; have := listE_len rok hn c; omega)).mono ?_)
            rintro e w6 ⟨rfl, h6, q6⟩
            refine ⟨_, rfl, ?_⟩
            rw [key, decide_eq_true rfl]; exact hK _ h6.bel

theorem TreapRows_walk {w : World} {A0 A1 : Option Addr} {n0 n1 c0 c1 : Nat} {sl : List Int} {f : Nat → Nat → Int} (hr : RI w A0 sl) (hn : n0 = sl.length) (hc0 : A0 = none → sl.length = 0 ∧ c0 = 0) (hlen : sl.length ≤ 17592186044416) (hf : IsRecs ks5 w A1 n1 c1 f) (a b c : Int) :
    Calls Try.prog 4 #[.slice A0 n0 c0, .slice A1 n1 c1, .int .i64 a, .int .i64 b, .int .i64 c] w fun e w' => e = .returned (.bool true) ∧ Below w.heap.size w w' := by
  apply f_law15_TreapRows.ok
  unfold f_law15_TreapRows.wp
  refine (LS.new (w0 := w) (Below.refl _ _) hr hn hc0 hlen).mono ?_
  rintro e w1 ⟨r, rfl, hS, hB, hb⟩
  refine ⟨_, rfl, sel_f rfl ((alive_ok w1).mono ?_)⟩
  rintro e w2 ⟨rfl, q2⟩
  have hle := hf.le
  refine ⟨_, rfl, sel_f rfl ⟨_, Rows_l0 hf ?_ n1 0 0 w2 r _ rfl (by omega) (by omega) (hS.below q2) rfl rfl⟩⟩
  intro count w3 r3 m hcl hS hmn hR _
  rw [← hR]
  obtain ⟨rok, hle65, hpos⟩ := hS.rok
  refine ⟨_, Rows_l1 (r := r3) hmn (by omega) ?_ 199 1 w3 rfl (by omega) (by omega) (by omega) hS⟩
  intro w4 hS _
  -- the tail, twice printed
  have tail : ∀ {Q : Bool → World → Prop}, (∀ w', Below w.heap.size w w' → Q true w') →
      Calls Try.prog 11 #[.pointer (some ⟨r3.R, 0, none⟩), .int .i64 a] w4 fun e43 w44 => ∃ (A45_0 : Option Addr) (n45_0 : Nat) (c45_0 : Nat) (x45_1 : Int), e43 = .returned (.tuple #[.slice A45_0 n45_0 c45_0, .int .i64 x45_1]) ∧ (
      Calls Try.prog 11 #[.pointer (some ⟨r3.R, 0, none⟩), .int .i64 b] w44 fun e46 w47 => ∃ (A48_0 : Option Addr) (n48_0 : Nat) (c48_0 : Nat) (x48_1 : Int), e46 = .returned (.tuple #[.slice A48_0 n48_0 c48_0, .int .i64 x48_1]) ∧ (
      Calls Try.prog 11 #[.pointer (some ⟨r3.R, 0, none⟩), .int .i64 c] w47 fun e49 w50 => ∃ (A51_0 : Option Addr) (n51_0 : Nat) (c51_0 : Nat) (x51_1 : Int), e49 = .returned (.tuple #[.slice A51_0 n51_0 c51_0, .int .i64 x51_1]) ∧ (
      Calls Try.prog 16 #[.pointer (some ⟨r3.R, 0, none⟩), .int .i64 a, .int .i64 b] w50 fun e52 w53 => ∃ (b54_0 : Bool) (x54_1 : Int), e52 = .returned (.tuple #[.bool b54_0, .int .i64 x54_1]) ∧ (
      Calls Try.prog 16 #[.pointer (some ⟨r3.R, 0, none⟩), .int .i64 a, .int .i64 c] w53 fun e55 w56 => ∃ (b57_0 : Bool) (x57_1 : Int), e55 = .returned (.tuple #[.bool b57_0, .int .i64 x57_1]) ∧ (
      Calls Try.prog 16 #[.pointer (some ⟨r3.R, 0, none⟩), .int .i64 b, .int .i64 c] w56 fun e58 w59 => ∃ (b60_0 : Bool) (x60_1 : Int), e58 = .returned (.tuple #[.bool b60_0, .int .i64 x60_1]) ∧ (
      Calls Try.prog 17 #[.pointer (some ⟨r3.R, 0, none⟩), .int .i64 a, .int .i64 b] w59 fun e61 w62 => ∃ (x63 : Int), e61 = .returned (.int .i64 x63) ∧ (
      f_law15_TreapRows.j3 a c (some ⟨r3.R, 0, none⟩) A45_0 n45_0 c45_0 x45_1 A48_0 n48_0 c48_0 x48_1 A51_0 n51_0 c51_0 b54_0 b57_0 b60_0 x63 w62 (fun (b91 : Bool) (w92 : World) => ∀ _ : Fr, Q b91 w92)))))))) := by
    intro Q hQ
    refine (hS.list a).mono ?_
    rintro e w5 ⟨A5, c5, rfl, l5, h5, q5⟩
    refine ⟨_, _, _, _, rfl, (h5.list b).mono ?_⟩
    rintro e w6 ⟨A6, c6, rfl, l6, h6, q6⟩
    refine ⟨_, _, _, _, rfl, (h6.list c).mono ?_⟩
    rintro e w7 ⟨A7, c7, rfl, l7, h7, q7⟩
    refine ⟨_, _, _, _, rfl, (h7.same a b).mono ?_⟩
    rintro e w8 ⟨rfl, h8, q8⟩
    refine ⟨_, _, rfl, (h8.same a c).mono ?_⟩
    rintro e w9 ⟨rfl, h9, q9⟩
    refine ⟨_, _, rfl, (h9.same b c).mono ?_⟩
    rintro e w10 ⟨rfl, h10, q10⟩
    refine ⟨_, _, rfl, (h10.join a b).mono ?_⟩
    rintro e w11 ⟨rfl, h11, k11⟩
    have l5 := (((((l5.below q6).below q7).below q8).below q9).below q10).rope h10 k11
    have l6 := ((((l6.below q7).below q8).below q9).below q10).rope h10 k11
    have l7 := (((l7.below q8).below q9).below q10).rope h10 k11
    exact ⟨_, rfl, Rows_j3 a b c rok hle65 h11 l5 l6 l7 fun w' hb _ => hQ w' hb⟩
  by_cases h200 : count < 200
  · refine sel_t (by simp; omega) ?_
    have e1 : min count 199 = m.n - 1 := by rw [hmn]; unfold cntN; split <;> omega
    have e2 : m.n - 1 = count := by rw [hmn]; unfold cntN; split <;> omega
    rw [e1, sumH_all rok hpos, e2]
    exact sel_f (by simp) (tail fun w' hb => ⟨rfl, hb⟩)
  · exact sel_f (by simp; omega) (tail fun w' hb => ⟨rfl, hb⟩)
theorem TreapRows_row {w : World} {A0 A1 : Option Addr} {n0 n1 c0 c1 : Nat} {za : List Int} {f : Nat → Nat → Int} {a b c : Int} (h0 : IsRow .i64 w A0 n0 c0 za) (s0 : n0 * 8 ≤ 140737488351232) (h1 : IsRecs ks5 w A1 n1 c1 f) (wa : (Lit.int .i64 a).wf = true) (wb : (Lit.int .i64 b).wf = true) (wc : (Lit.int .i64 c).wf = true) :
    Calls Try.prog 4 #[.slice A0 n0 c0, .slice A1 n1 c1, .int .i64 a, .int .i64 b, .int .i64 c] w fun e w' => e = .returned (.bool true) ∧ Below w.heap.size w w' := by
  obtain ⟨l, hr, e1, e2, e3⟩ := row_ints h0 s0
  exact TreapRows_walk hr e1 e2 e3 h1 a b c
end Go.Proofs.Ytnfgibbkfkaonaa.Rd
