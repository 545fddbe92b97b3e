/- The order of bytes, and the document's Big. Conditions: none. -/
import Derived.Test.YtakgoekfnhkgaaaDoorKnE
namespace Go.Proofs.YtakgoekfnhkgaaaDoor.Rd
open Go.Dn Go.RowKit
set_option linter.unusedVariables false
set_option linter.unusedSimpArgs false

theorem u8_ofNat (c : UInt8) (n : Nat) (h : n % 256 = c.toNat) : UInt8.ofNat n = c := by
  apply UInt8.toNat.inj
  rw [UInt8.toNat_ofNat']; exact h
/-! ### plain laws -/
/-- which of two lists stands ahead -/
def ordL : List UInt8 → List UInt8 → Int
  | [], [] => 0
  | [], _ :: _ => -1
  | _ :: _, [] => 1
  | a :: x, b :: y => if a.toNat < b.toNat then -1 else if b.toNat < a.toNat then 1 else ordL x y
theorem valB_cons (a : UInt8) (x : List UInt8) : valB (a :: x) = a.toNat * 256 ^ x.length + valB x := by
  have key : ∀ (x : List UInt8) (n : Nat), x.foldl (fun u b => u * 256 + b.toNat) n = n * 256 ^ x.length + valB x := by
    intro x
    induction x with
    | nil => intro n; simp [valB]
    | cons b x ih =>
      intro n
      unfold valB
      rw [List.foldl_cons, List.foldl_cons, ih, ih (0 * 256 + b.toNat), List.length_cons, Nat.pow_succ, Nat.add_mul, Nat.zero_mul, Nat.zero_add, Nat.mul_assoc, Nat.mul_comm 256, Nat.add_assoc]
  unfold valB
  rw [List.foldl_cons, key x]
  simp [valB]
theorem ordL_val : ∀ (x y : List UInt8), x.length = y.length → ordL x y = if valB x < valB y then -1 else if valB y < valB x then 1 else 0
  | [], [], _ => by simp [ordL, valB]
  | [], _ :: _, h => by simp at h
  | _ :: _, [], h => by simp at h
  | a :: x, b :: y, h => by
    have h' : x.length = y.length := by simpa using h
    have hx := valB_lt x
    have hy := valB_lt y
    rw [valB_cons, valB_cons]
    rw [h'] at hx ⊢
    unfold ordL
    generalize 256 ^ y.length = q at *
    by_cases h1 : a.toNat < b.toNat
    · rw [if_pos h1, if_pos]
      have : (a.toNat + 1) * q ≤ b.toNat * q := Nat.mul_le_mul_right _ h1
      rw [Nat.add_mul] at this; omega
    · rw [if_neg h1]
      by_cases h2 : b.toNat < a.toNat
      · have : (b.toNat + 1) * q ≤ a.toNat * q := Nat.mul_le_mul_right _ h2
        rw [Nat.add_mul] at this
        rw [if_pos h2, if_neg (by omega), if_pos (by omega)]
      · have he : a.toNat = b.toNat := by omega
        rw [if_neg h2, ordL_val x y h', he]
        simp only [Nat.add_lt_add_iff_left]
theorem be8_length (u : Nat) : (be8 u).length = 8 := rfl
theorem valB_be8 (u : Nat) (h : u < 18446744073709551616) : valB (be8 u) = u := by
  unfold be8 valB bB
  simp only [List.foldl_cons, List.foldl_nil, UInt8.toNat_ofNat']
  simp
  omega
theorem be8_valB (b0 b1 b2 b3 b4 b5 b6 b7 : UInt8) : be8 (valB [b0, b1, b2, b3, b4, b5, b6, b7]) = [b0, b1, b2, b3, b4, b5, b6, b7] := by
  have h0 := b0.toNat_lt; have h1 := b1.toNat_lt; have h2 := b2.toNat_lt; have h3 := b3.toNat_lt
  have h4 := b4.toNat_lt; have h5 := b5.toNat_lt; have h6 := b6.toNat_lt; have h7 := b7.toNat_lt
  unfold be8 valB bB
  simp only [List.foldl_cons, List.foldl_nil]
  simp only [List.cons.injEq, and_true]
  refine ⟨u8_ofNat _ _ ?_, u8_ofNat _ _ ?_, u8_ofNat _ _ ?_, u8_ofNat _ _ ?_, u8_ofNat _ _ ?_, u8_ofNat _ _ ?_, u8_ofNat _ _ ?_, u8_ofNat _ _ ?_⟩ <;> simp <;> omega

/-! ### Order -/
theorem Order_l0 {w0 : World} {A : Option Addr} {c : Nat} {A1 : Option Addr} {c1 : Nat} {l l1 : List UInt8} (hr : RB w0 A l) (hr1 : RB w0 A1 l1) (hlen : l.length ≤ 140737488355328)
    {K : World → Prop} {Kr : Int → World → Prop} (r : Int) (hK : ∀ w', Below w0.heap.size w0 w' → r = (if (l.length : Int) < l1.length then -1 else if (l1.length : Int) < l.length then 1 else 0) → K w') (hKr : ∀ w', Below w0.heap.size w0 w' → Kr r w') :
    ∀ (m k i : Nat) (w : World), l.length - i = m → i ≤ l.length → i ≤ l1.length → m < k → ordL (l.drop i) (l1.drop i) = r → Below w0.heap.size w0 w → f_ref01_Order.l0 k A l.length c A1 l1.length c1 (i : Int) w K Kr := by
  intro m
  induction m with
  | zero =>
    intro k i w hm hi hi1 hk ho hb
    obtain ⟨k, rfl⟩ : ∃ j, k = j + 1 := ⟨k - 1, by omega⟩
    simp only [f_ref01_Order.l0]
    refine sel_f (by simp; omega) (hK w hb ?_)
    rw [List.drop_eq_nil_of_le (by omega)] at ho
    rcases Nat.lt_or_ge i l1.length with h | h
    · rw [List.drop_eq_getElem_cons h] at ho
      rw [← ho, if_pos (by omega)]; rfl
    · rw [List.drop_eq_nil_of_le h] at ho
      rw [← ho, if_neg (by omega), if_neg (by omega)]; rfl
  | succ m ih =>
    intro k i w hm hi hi1 hk ho hb
    obtain ⟨k, rfl⟩ : ∃ j, k = j + 1 := ⟨k - 1, by omega⟩
    have hlt : i < l.length := by omega
    simp only [f_ref01_Order.l0]
    refine sel_t (by simp; omega) ?_
    rcases Nat.lt_or_ge i l1.length with hlt1 | h
    · refine sel_t (by simp; omega) (drW_intro ?_)
      have hb1 := hb.trans (Below.drw (B := w0.heap.size) (w := w))
      obtain ⟨a, rfl, hc⟩ := (hr.below hb1 (Nat.le_refl _)) i hlt
      obtain ⟨a1, rfl, hc1⟩ := (hr1.below hb1 (Nat.le_refl _)) i hlt1
      rw [List.drop_eq_getElem_cons hlt, List.drop_eq_getElem_cons hlt1] at ho
      unfold ordL at ho
      refine optB_some rfl (req_intro (by simp; omega) ?_)
      refine ldI_intro (x := (l[i].toNat : Int)) (by rw [Int.toNat_natCast, Nat.mul_one]; exact hc) ?_
      refine optB_some rfl (req_intro (by simp; omega) ?_)
      refine ldI_intro (x := (l1[i].toNat : Int)) (by rw [Int.toNat_natCast, Nat.mul_one]; exact hc1) ?_
      by_cases h1 : l[i].toNat < l1[i].toNat
      · rw [if_pos h1] at ho
        refine sel_t (by simp; omega) ?_
        rw [ho]; exact hKr _ hb1
      · rw [if_neg h1] at ho
        refine sel_f (by simp; omega) (drW_intro ?_)
        have hb2 := hb1.trans (Below.drw (B := w0.heap.size) (w := w.drew))
        have hc' := (hr.below hb2 (Nat.le_refl _)) i hlt
        have hc1' := (hr1.below hb2 (Nat.le_refl _)) i hlt1
        obtain ⟨_, ha, hc'⟩ := hc'
        obtain ⟨_, ha1, hc1'⟩ := hc1'
        injection ha with ha; injection ha1 with ha1; subst ha; subst ha1
        refine optB_some rfl (req_intro (by simp; omega) ?_)
        refine ldI_intro (x := (l[i].toNat : Int)) (by rw [Int.toNat_natCast, Nat.mul_one]; exact hc') ?_
        refine optB_some rfl (req_intro (by simp; omega) ?_)
        refine ldI_intro (x := (l1[i].toNat : Int)) (by rw [Int.toNat_natCast, Nat.mul_one]; exact hc1') ?_
        by_cases h2 : l1[i].toNat < l[i].toNat
        · rw [if_pos h2] at ho
          refine sel_t (by simp; omega) ?_
          rw [ho]; exact hKr _ hb2
        · rw [if_neg h2] at ho
          refine sel_f (by simp; omega) ?_
          rw [w64_in (by omega), show (i : Int) + 1 = ((i + 1 : Nat) : Int) by omega]
          exact ih k (i + 1) _ (by omega) (by omega) (by omega) (by omega) ho hb2
    · refine sel_f (by simp; omega) (hK w hb ?_)
      rw [List.drop_eq_getElem_cons hlt, List.drop_eq_nil_of_le h] at ho
      rw [← ho, if_neg (by omega), if_pos (by omega)]; rfl
theorem Order_ok {w : World} {A : Option Addr} {n c : Nat} {l : List UInt8} {A1 : Option Addr} {n1 c1 : Nat} {l1 : List UInt8} (hr : RB w A l) (hr1 : RB w A1 l1) (hn : n = l.length) (hn1 : n1 = l1.length) (hlen : l.length ≤ 140737488355328) :
    Calls Tryd.prog 23 #[.slice A n c, .slice A1 n1 c1] w fun e w' => e = .returned (.int .i64 (ordL l l1)) ∧ Below w.heap.size w w' := by
  subst hn; subst hn1
  apply f_ref01_Order.ok
  unfold f_ref01_Order.wp
  refine ⟨l.length + 1, ?_⟩
  refine Order_l0 (w0 := w) hr hr1 hlen (ordL l l1) ?_ ?_ l.length _ 0 w (by omega) (by omega) (by omega) (by omega) rfl (Below.refl _ _)
  · intro w' hb he _
    by_cases h1 : (l.length : Int) < l1.length
    · rw [if_pos h1] at he
      exact sel_t (by simpa using h1) ⟨by rw [he], hb⟩
    · rw [if_neg h1] at he
      refine sel_f (by simpa using h1) ?_
      by_cases h2 : (l1.length : Int) < l.length
      · rw [if_pos h2] at he
        exact sel_t (by simpa using h2) ⟨by rw [he], hb⟩
      · rw [if_neg h2] at he
        exact sel_f (by simpa using h2) ⟨by rw [he], hb⟩
  · intro w' hb _; exact ⟨rfl, hb⟩

/-! ### the document's Big -/
theorem RBig_l0 {w0 : World} {B g u : Nat} (hu : u < 18446744073709551616) {K : World → Prop} (hK : ∀ w', OwnB w' B 5 (some ⟨g, 0, none⟩) 8 (be8 u) → w0.grownBy w' (some g) → K w') :
    ∀ (j k : Nat) (w : World) (l : List UInt8), j ≤ 8 → j < k → l.length = j → OwnB w B 5 (some ⟨g, 0, none⟩) 8 (l ++ (be8 u).drop j) → w0.grownBy w (some g) →
      f_ref01_Big.l0 k ((u / 256 ^ (8 - j) : Nat) : Int) (some ⟨g, 0, none⟩) 8 8 ((j : Int) - 1) w K := by
  intro j
  induction j with
  | zero =>
    intro k w l hj hk hl ho hg
    obtain ⟨k, rfl⟩ : ∃ i, k = i + 1 := ⟨k - 1, by omega⟩
    simp only [f_ref01_Big.l0]
    obtain rfl : l = [] := List.length_eq_zero_iff.mp hl
    exact sel_f (by decide) (hK w ho hg)
  | succ j ih =>
    intro k w l hj hk hl ho hg
    obtain ⟨k, rfl⟩ : ∃ i, k = i + 1 := ⟨k - 1, by omega⟩
    simp only [f_ref01_Big.l0]
    have hj2 : ((j + 1 : Nat) : Int) - 1 = (j : Int) := by omega
    rw [hj2]
    refine sel_t (by simp) (optB_some rfl (req_intro (by simp; omega) ?_))
    rw [Int.toNat_natCast, Nat.mul_one, add_mk, Nat.zero_add]
    have hL : (l ++ (be8 u).drop (j + 1)).length = 8 := by rw [List.length_append, List.length_drop, be8_length]; omega
    have ho2 : w.ownsRow B 5 1 (.slice (some ⟨g, 0, none⟩) 8 8) 8 ((l ++ (be8 u).drop (j + 1)).map byteV) := by
      have := ho; unfold OwnB at this; rw [hL] at this; exact this
    have hval : IntKind.u8.wrap (((u / 256 ^ (8 - (j + 1)) : Nat) : Int).tmod 256) = ((bB u j).toNat : Int) := by
      unfold bB
      rw [Int.tmod_eq_emod_of_nonneg (Int.natCast_nonneg _), u8w, UInt8.toNat_ofNat']
      have : 256 ^ (8 - (j + 1)) = 2 ^ (56 - 8 * j) := by
        rw [show (256 : Nat) = 2 ^ 8 from rfl, ← Nat.pow_mul]; congr 1; omega
      rw [this]; omega
    rw [hval]
    obtain ⟨_, ha, hc⟩ := ho.reads j (by omega)
    injection ha with ha; subst ha
    rw [add_mk, Nat.zero_add] at hc
    obtain ⟨hs, hgs⟩ := World.ownsRow.stored ho2 j (byteV (bB u j))
    refine stW_intro ⟨⟨_, hc⟩, World.ownsRow.frozenAt ho2 j⟩ ?_
    have e1 : IntKind.u64.wrap (((u / 256 ^ (8 - (j + 1)) : Nat) : Int).tdiv 256) = ((u / 256 ^ (8 - j) : Nat) : Int) := by
      have h1 : u / 256 ^ (8 - (j + 1)) / 256 = u / 256 ^ (8 - j) := by
        rw [Nat.div_div_eq_div_mul, ← Nat.pow_succ]; congr 2; omega
      have h2 : u / 256 ^ (8 - (j + 1)) ≤ u := Nat.div_le_self _ _
      rw [← h1, Int.tdiv_eq_ediv_of_nonneg (Int.natCast_nonneg _), u64w]
      generalize u / 256 ^ (8 - (j + 1)) = q at *
      omega
    rw [e1, w64_in (by omega)]
    refine ih k _ (l.take j) (by omega) (by omega) (by rw [List.length_take]; omega) ?_ (gb_trans hg hgs)
    unfold OwnB
    have e : (((l ++ (be8 u).drop (j + 1)).map byteV).set j (byteV (bB u j))) = (l.take j ++ (be8 u).drop j).map byteV := by
      rw [← List.map_set]
      congr 1
      have hjlt : j < (be8 u).length := by rw [be8_length]; omega
      rw [List.set_append_left _ _ (by omega), List.drop_eq_getElem_cons hjlt]
      have hbj : (be8 u)[j] = bB u j := by
        unfold be8
        match j, hjlt with
        | 0, _ | 1, _ | 2, _ | 3, _ | 4, _ | 5, _ | 6, _ | 7, _ => rfl
      rw [hbj]
      have hll : l.set j (bB u j) = l.take j ++ [bB u j] := by
        rw [List.set_eq_take_append_cons_drop, if_pos (by omega), List.drop_eq_nil_of_le (by omega)]
      rw [hll, List.append_assoc]; rfl
    rw [e] at hs
    have hL2 : (l.take j ++ (be8 u).drop j).length = 8 := by rw [List.length_append, List.length_take, List.length_drop, be8_length]; omega
    rw [hL2]; exact hs
theorem RBig_ok {w : World} (v : Int) (h : -9223372036854775808 ≤ v ∧ v ≤ 9223372036854775807) :
    Calls Tryd.prog 46 #[.int .i64 v] w fun e w' => ∃ A', e = .returned (.slice A' 8 8) ∧ OwnB w' w.heap.size 5 A' 8 (be8 (v + 9223372036854775808).toNat) ∧ Below w.heap.size w w' := by
  apply f_ref01_Big.ok
  unfold f_ref01_Big.wp
  have e0 : IntKind.u64.wrap (IntKind.u64.wrap v + 9223372036854775808) = (((v + 9223372036854775808).toNat : Nat) : Int) := by rw [u64w, u64w]; omega
  rw [e0]
  have hu : (v + 9223372036854775808).toNat < 18446744073709551616 := by omega
  generalize (v + 9223372036854775808).toNat = u at *
  refine alW_intro ⟨9, ?_⟩
  have h0 := OwnB.lit (w := w) (B := w.heap.size) (e := 5) [0, 0, 0, 0, 0, 0, 0, 0] (cs := #[.int .u8 0, .int .u8 0, .int .u8 0, .int .u8 0, .int .u8 0, .int .u8 0, .int .u8 0, .int .u8 0]) rfl (Nat.le_refl _) (by simp)
  have hg0 : w.grownBy (w.alloc (.cells #[.int .u8 0, .int .u8 0, .int .u8 0, .int .u8 0, .int .u8 0, .int .u8 0, .int .u8 0, .int .u8 0] 5)) (some w.heap.size) := World.grownBy_alloc _ _ _
  have := RBig_l0 (w0 := w) (B := w.heap.size) (g := w.heap.size) (u := u) hu (K := fun w5 => ∀ _ : Fr, (∃ A', Ending.returned (.slice (some ⟨w.heap.size, 0, none⟩) 8 8) = .returned (.slice A' 8 8) ∧ OwnB w5 w.heap.size 5 A' 8 (be8 u) ∧ Below w.heap.size w w5)) ?_ 8 9 _ [0, 0, 0, 0, 0, 0, 0, 0] (by omega) (by omega) rfl h0 hg0
  · simpa using this
  intro w' ho hg _
  exact ⟨_, rfl, ho, below_gb hg (Nat.le_refl _) (fun k hk => by injection hk with hk; omega)⟩
end Go.Proofs.YtakgoekfnhkgaaaDoor.Rd
