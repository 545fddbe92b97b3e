/- Plain laws of layer 1's numbers, and the statement NumOnly, walked. -/
import Derived.Test.YtkimodpighdgeaaNumF
namespace Go.Proofs.Ytkimodpighdgeaa.Rd
open Go.Dn Go.RowKit
set_option linter.unusedVariables false
set_option linter.unusedSimpArgs false

/-! ### plain laws -/
theorem u8_ofNat (c : UInt8) (n : Nat) (h : n % 256 = c.toNat) : UInt8.ofNat n = c := by
  apply UInt8.toNat.inj
  rw [UInt8.toNat_ofNat']; exact h
theorem putF_small {k u : Nat} (h : u < 128) : putF k u = [UInt8.ofNat u] := by
  cases k with
  | zero => rfl
  | succ k => unfold putF; rw [if_pos h]
/-- what is read is what was put -/
theorem getR_put : ∀ (k u i acc : Nat) (tail : List UInt8), i + k = 9 → u < 128 ^ (k + 1) → (i = 0 ∨ u ≠ 0) → (k = 0 → u ≤ 1) → u < 2 * 128 ^ k →
    getR (putF k u ++ tail) i acc = (acc + u * 128 ^ i, i + (putF k u).length, 0) := by
  intro k
  induction k with
  | zero =>
    intro u i acc tail hik hu h0 h1 h2
    have h1 := h1 rfl
    rw [putF_small (by omega)]
    have ht : (UInt8.ofNat u).toNat = u := by rw [UInt8.toNat_ofNat']; omega
    simp only [List.cons_append, List.nil_append, getR, ht]
    rw [if_neg (by omega), if_neg (by omega), if_neg (by omega), Nat.mod_eq_of_lt (by omega)]
    rfl
  | succ k ih =>
    intro u i acc tail hik hu h0 h1 h2
    by_cases h : u < 128
    · rw [putF_small h]
      have ht : (UInt8.ofNat u).toNat = u := by rw [UInt8.toNat_ofNat']; omega
      simp only [List.cons_append, List.nil_append, getR, ht]
      rw [if_neg (by omega), if_neg (by omega), if_neg (by omega), Nat.mod_eq_of_lt (by omega)]
      rfl
    · have hp : putF (k + 1) u = UInt8.ofNat (u % 128 + 128) :: putF k (u / 128) := by
        show (if u < 128 then [UInt8.ofNat u] else UInt8.ofNat (u % 128 + 128) :: putF k (u / 128)) = _
        rw [if_neg h]
      have ht : (UInt8.ofNat (u % 128 + 128)).toNat = u % 128 + 128 := by rw [UInt8.toNat_ofNat']; omega
      rw [hp]
      simp only [List.cons_append, getR, ht]
      rw [if_neg (by omega), if_pos (by omega), show (u % 128 + 128) % 128 = u % 128 by omega]
      have hd : u / 128 < 2 * 128 ^ k := by
        apply Nat.div_lt_of_lt_mul
        rw [Nat.pow_succ] at h2; omega
      rw [ih (u / 128) (i + 1) _ tail (by omega) (by
          apply Nat.div_lt_of_lt_mul; rw [Nat.pow_succ] at hu; omega) (.inr (by omega)) (fun hk => by subst hk; omega) hd]
      have e : acc + u % 128 * 128 ^ i + u / 128 * 128 ^ (i + 1) = acc + u * 128 ^ i := by
        rw [Nat.pow_succ, Nat.mul_comm (128 ^ i) 128, ← Nat.mul_assoc, Nat.add_assoc, ← Nat.add_mul]
        congr 2; omega
      rw [e, List.length_cons, show i + 1 + (putF k (u / 128)).length = i + ((putF k (u / 128)).length + 1) by omega]
theorem getR_putL (u : Nat) (hu : u < 18446744073709551616) (tail : List UInt8) : getR (putL u ++ tail) 0 0 = (u, (putL u).length, 0) := by
  unfold putL
  rw [getR_put 9 u 0 0 tail rfl (by omega) (.inl rfl) (by omega) (by omega)]
  simp
theorem putF_ne (k u : Nat) : putF k u ≠ [] := by
  cases k with
  | zero => simp [putF]
  | succ k => unfold putF; split <;> simp
theorem getR_cut : ∀ (k u i acc : Nat), i + k ≤ 9 → getR (putF k u).dropLast i acc = (0, 0, 2) := by
  intro k
  induction k with
  | zero => intro u i acc h; rfl
  | succ k ih =>
    intro u i acc h
    by_cases hu : u < 128
    · rw [putF_small hu]; rfl
    · have hp : putF (k + 1) u = UInt8.ofNat (u % 128 + 128) :: putF k (u / 128) := by
        show (if u < 128 then [UInt8.ofNat u] else UInt8.ofNat (u % 128 + 128) :: putF k (u / 128)) = _
        rw [if_neg hu]
      have ht : (UInt8.ofNat (u % 128 + 128)).toNat = u % 128 + 128 := by rw [UInt8.toNat_ofNat']; omega
      rw [hp, List.dropLast_cons_of_ne_nil (putF_ne _ _)]
      simp only [getR, ht]
      rw [if_neg (by omega), if_pos (by omega)]
      exact ih _ _ _ (by omega)
theorem getR_only : ∀ (l : List UInt8) (i acc : Nat), i ≤ 9 → (getR l i acc).2.2 = 0 →
    ∃ u, (getR l i acc).1 = acc + u * 128 ^ i ∧ l.take ((getR l i acc).2.1 - i) = putF (9 - i) u ∧ (0 < i → u ≠ 0) ∧ i < (getR l i acc).2.1
  | [], i, acc, hi, h => by simp [getR] at h
  | c :: r, i, acc, hi, h => by
    have hc := c.toNat_lt
    unfold getR at h ⊢
    by_cases h9 : i = 9 ∧ 1 < c.toNat
    · rw [if_pos h9] at h; simp at h
    · rw [if_neg h9] at h ⊢
      by_cases h1 : 128 ≤ c.toNat
      · rw [if_pos h1] at h ⊢
        obtain ⟨u, e1, e2, e3, e4⟩ := getR_only r (i + 1) _ (by omega) h
        have e3 := e3 (by omega)
        refine ⟨c.toNat % 128 + 128 * u, ?_, ?_, fun _ => by omega, by omega⟩
        · rw [e1, Nat.pow_succ, Nat.add_mul, Nat.add_assoc]
          congr 2
          rw [Nat.mul_comm 128 u, Nat.mul_assoc, Nat.mul_comm 128 (128 ^ i)]
        · obtain ⟨m, hm⟩ : ∃ m, (getR r (i + 1) (acc + c.toNat % 128 * 128 ^ i)).2.1 - i = m + 1 := ⟨(getR r (i + 1) (acc + c.toNat % 128 * 128 ^ i)).2.1 - i - 1, by omega⟩
          have hm' : (getR r (i + 1) (acc + c.toNat % 128 * 128 ^ i)).2.1 - (i + 1) = m := by omega
          rw [hm, List.take_succ_cons]
          rw [hm'] at e2
          rw [e2]
          obtain ⟨k, hk⟩ : ∃ k, 9 - i = k + 1 := ⟨8 - i, by omega⟩
          rw [hk, show 9 - (i + 1) = k by omega]
          show _ = (if c.toNat % 128 + 128 * u < 128 then [UInt8.ofNat (c.toNat % 128 + 128 * u)] else UInt8.ofNat ((c.toNat % 128 + 128 * u) % 128 + 128) :: putF k ((c.toNat % 128 + 128 * u) / 128))
          rw [if_neg (by omega), u8_ofNat c _ (by omega), show (c.toNat % 128 + 128 * u) / 128 = u by omega]
      · rw [if_neg h1] at h ⊢
        by_cases h0 : c.toNat = 0 ∧ 0 < i
        · rw [if_pos h0] at h; simp at h
        · rw [if_neg h0] at h ⊢
          refine ⟨c.toNat, ?_, ?_, fun hi0 hc0 => h0 ⟨hc0, hi0⟩, by show i < i + 1; omega⟩
          · show acc + c.toNat % 128 * 128 ^ i = _
            rw [Nat.mod_eq_of_lt (by omega)]
          · show (c :: r).take (i + 1 - i) = _
            rw [show i + 1 - i = 0 + 1 by omega, List.take_succ_cons, List.take_zero, putF_small (by omega), u8_ofNat c _ (by omega)]
/-- bytes that are read are the only ones -/
theorem getL_only {l : List UInt8} {a : Int} (h : (getL l a).2.2 = 0) : ∃ p : Nat, a = (p : Int) ∧ p < (getL l a).2.1 ∧ (getL l a).2.1 ≤ l.length ∧ (l.take (getL l a).2.1).drop p = putL (getL l a).1 := by
  rcases getL_form l a with hf | hf
  · obtain ⟨p, rfl⟩ := Int.eq_ofNat_of_zero_le hf.2.2.2.1
    refine ⟨p, rfl, by omega, hf.2.2.1, ?_⟩
    have hle : p ≤ l.length := by omega
    rw [getL_in hle] at h hf ⊢
    have h2 : (getR (l.drop p) 0 0).2.2 = 0 := by
      unfold getP at h
      by_cases he : (getR (l.drop p) 0 0).2.2 = 0
      · exact he
      · rw [if_neg he] at h; exact h
    unfold getP
    rw [if_pos h2]
    obtain ⟨u, e1, e2, _, _⟩ := getR_only (l.drop p) 0 0 (by omega) h2
    rw [Nat.pow_zero, Nat.mul_one, Nat.zero_add] at e1
    simp only
    rw [List.drop_take, show p + (getR (l.drop p) 0 0).2.1 - p = (getR (l.drop p) 0 0).2.1 - 0 by omega, e2, e1]
    rfl
  · exact absurd h hf.1
theorem fold_unf (u : Nat) : fold (unf u) = u := by
  unfold fold unf
  split <;> split <;> omega
theorem unf_fold (v : Int) : unf (fold v) = v := by
  unfold fold unf
  split <;> split <;> omega
theorem unf_i64 (u : Nat) (h : u < 18446744073709551616) : -9223372036854775808 ≤ unf u ∧ unf u ≤ 9223372036854775807 := by
  unfold unf; split <;> omega

theorem NumOnly_j0 {w0 w : World} {A : Option Addr} {c : Nat} {a : Int} {l : List UInt8} (hr : RB w0 A l) (hb0 : Below w0.heap.size w0 w) (hlen : l.length ≤ 140737488351232) {Kr : Bool → World → Prop}
    (hK : ∀ w', Below w0.heap.size w0 w' → Kr true w') : f_law01_NumOnly.j0 A l.length c a w Kr := by
  unfold f_law01_NumOnly.j0
  refine (Copy_ok (hr.below hb0 (Nat.le_refl _)) (by omega)).mono ?_
  rintro e w1 ⟨A1, c1, rfl, ho1, hb1⟩
  refine ⟨_, _, _, rfl, ?_⟩
  have hb01 := hb0.trans (hb1.mono hb0.size)
  refine (GetText_ok (a := a) (most := (l.length : Int)) ho1.reads rfl (by omega) ho1.le (by omega)).mono ?_
  rintro e w2 ⟨A2, c2, rfl, ho2, hb2⟩
  have hb02 := hb01.trans (hb2.mono hb01.size)
  refine ⟨_, _, _, _, _, rfl, ?_⟩
  have key : ((textL l a l.length).2.2 ≠ 0 ∧ (textL l a l.length).1 = [] ∧ (textL l a l.length).2.1 = 0) ∨
      ((textL l a l.length).2.2 = 0 ∧ (textL l a l.length).2.1 ≤ l.length ∧ ∃ p : Nat, a = (p : Int) ∧ p ≤ (textL l a l.length).2.1 ∧ putT (textL l a l.length).1 = (l.take (textL l a l.length).2.1).drop p) := by
    unfold textL
    simp only
    by_cases he : (getL l a).2.2 = 0
    · obtain ⟨p, hp, h1, h2, h3⟩ := getL_only he
      rw [if_neg (by simp [he])]
      by_cases hlong : max (l.length : Int) 0 < ((getL l a).1 : Int)
      · rw [if_pos hlong]; exact .inl ⟨by simp, rfl, rfl⟩
      · rw [if_neg hlong]
        by_cases hs : l.length - (getL l a).2.1 < (getL l a).1
        · rw [if_pos hs]; exact .inl ⟨by simp, rfl, rfl⟩
        · rw [if_neg hs]
          refine .inr ⟨rfl, by show _ + _ ≤ _; omega, p, hp, by show p ≤ _ + _; omega, ?_⟩
          simp only
          unfold putT
          have hl : ((l.drop (getL l a).2.1).take (getL l a).1).length = (getL l a).1 := by rw [List.length_take, List.length_drop]; omega
          rw [hl, ← h3, List.take_add, List.drop_append_of_le_length (by rw [List.length_take]; omega)]
    · rw [if_pos he]; exact .inl ⟨he, rfl, rfl⟩
  have htl : (textL l a l.length).1.length ≤ l.length := by
    unfold textL
    simp only
    split
    · simp
    · split
      · simp
      · split
        · simp
        · simp; omega
  rcases key with ⟨h1, h2, h3⟩ | ⟨h1, h2, p, hp, hp2, h3⟩
  · refine sel_t (by simp; omega) (sel_t (by rw [h2]; simp) ?_)
    rw [h3]; exact hK _ hb02
  · refine sel_f (by simp; omega) (sel_t (by simp; omega) ?_)
    refine (PutText_ok ho2.reads rfl ho2.nil0 (by omega)).mono ?_
    rintro e w3 ⟨A3, c3, rfl, ho3, hb3⟩
    have hb03 := hb02.trans (hb3.mono hb02.size)
    refine ⟨_, _, _, rfl, ?_⟩
    subst hp
    refine (Piece_ok (hr.below hb03 (Nat.le_refl _)) rfl (by omega) h2 hp2).mono ?_
    rintro e w4 ⟨A4, c4, rfl, ho4, hb4⟩
    have hb04 := hb03.trans (hb4.mono hb03.size)
    refine ⟨_, _, _, rfl, ?_⟩
    have := putT_len (textL l p l.length).1
    refine (Same_ok (ho3.keep hb4).reads ho4.reads rfl rfl (by omega)).mono ?_
    rintro e w5 ⟨rfl, hb5⟩
    refine ⟨_, rfl, ?_⟩
    rw [decide_eq_true h3]
    exact hK _ (hb04.trans (hb5.mono hb04.size))
theorem NumOnly_walk {w : World} {A : Option Addr} {n c : Nat} {a : Int} {l : List UInt8} (hr : RB w A l) (hn : n = l.length) (hlen : l.length ≤ 140737488351232) :
    Calls Try.prog 10 #[.slice A n c, .int .i64 a] w fun e w' => e = .returned (.bool true) ∧ Below w.heap.size w w' := by
  subst hn
  apply f_law01_NumOnly.ok
  unfold f_law01_NumOnly.wp
  refine (alive_ok w).mono ?_
  rintro e w1 ⟨rfl, hb1⟩
  refine ⟨_, rfl, sel_f rfl ?_⟩
  refine (Copy_ok (hr.below hb1 (Nat.le_refl _)) (by omega)).mono ?_
  rintro e w2 ⟨A2, c2, rfl, ho2, hb2⟩
  have hb02 := hb1.trans (hb2.mono hb1.size)
  refine ⟨_, _, _, rfl, ?_⟩
  refine (Get_ok (a := a) ho2.reads rfl (by omega)).mono ?_
  rintro e w3 ⟨rfl, rfl⟩
  refine ⟨_, _, _, rfl, ?_⟩
  have hpl := putL_len (getL l a).1
  have hlt := getL_lt l a
  by_cases he : (getL l a).2.2 = 0
  · obtain ⟨p, hp, h1, h2, h3⟩ := getL_only he
    refine sel_t (by simp; omega) (sel_f (by simp; omega) (sel_f (by simp; omega) ?_))
    refine (Put_ok _ hlt).mono ?_
    rintro e w4 ⟨A4, c4, rfl, ho4, hb4⟩
    have hb04 := hb02.trans (hb4.mono hb02.size)
    refine ⟨_, _, _, rfl, ?_⟩
    rw [hp]
    refine (Piece_ok (hr.below hb04 (Nat.le_refl _)) rfl (by omega) (by rw [← hp]; exact h2) (by rw [← hp]; omega)).mono ?_
    rw [← hp]
    rintro e w5 ⟨A5, c5, rfl, ho5, hb5⟩
    have hb05 := hb04.trans (hb5.mono hb04.size)
    refine ⟨_, _, _, rfl, ?_⟩
    refine (Same_ok (ho4.keep hb5).reads ho5.reads rfl rfl (by omega)).mono ?_
    rintro e w6 ⟨rfl, hb6⟩
    have hb06 := hb05.trans (hb6.mono hb05.size)
    refine ⟨_, rfl, sel_f (by rw [h3]; simp) (sel_f (by simp; omega) ?_)⟩
    refine (Copy_ok (hr.below hb06 (Nat.le_refl _)) (by omega)).mono ?_
    rintro e w7 ⟨A7, c7, rfl, ho7, hb7⟩
    have hb07 := hb06.trans (hb7.mono hb06.size)
    refine ⟨_, _, _, rfl, ?_⟩
    refine (GetS_ok (a := a) ho7.reads rfl (by omega)).mono ?_
    rintro e w8 ⟨rfl, rfl⟩
    refine ⟨_, _, _, rfl, sel_t (by simp; omega) ?_⟩
    refine (PutS_ok _ (unf_i64 _ hlt)).mono ?_
    rw [fold_unf]
    rintro e w9 ⟨A9, c9, rfl, ho9, hb9⟩
    have hb09 := hb07.trans (hb9.mono hb07.size)
    refine ⟨_, _, _, rfl, ?_⟩
    have hpc := Piece_ok (w := w9) (A := A) (c := c) (p := p) (q := (getL l a).2.1) (hr.below hb09 (Nat.le_refl _)) rfl (by omega) h2 (by omega)
    rw [← hp] at hpc
    refine hpc.mono ?_
    rintro e w10 ⟨A10, c10, rfl, ho10, hb10⟩
    have hb010 := hb09.trans (hb10.mono hb09.size)
    refine ⟨_, _, _, rfl, ?_⟩
    refine (Same_ok (ho9.keep hb10).reads ho10.reads rfl rfl (by omega)).mono ?_
    rintro e w11 ⟨rfl, hb11⟩
    have hb011 := hb010.trans (hb11.mono hb010.size)
    refine ⟨_, rfl, sel_f (by rw [h3]; simp) (sel_f (by simp) (sel_f (by simp) ?_))⟩
    exact NumOnly_j0 hr hb011 hlen fun w' h _ => ⟨rfl, h⟩
  · obtain ⟨h1, h2⟩ : (getL l a).1 = 0 ∧ (getL l a).2.1 = 0 := by
      rcases getL_form l a with h | h
      · exact absurd h.1 he
      · exact h.2.2
    refine sel_f (by simp; omega) (sel_t (by simp; omega) (sel_f (by rw [h1]; simp) (sel_f (by rw [h2]; simp) ?_)))
    refine (Copy_ok (hr.below hb02 (Nat.le_refl _)) (by omega)).mono ?_
    rintro e w7 ⟨A7, c7, rfl, ho7, hb7⟩
    have hb07 := hb02.trans (hb7.mono hb02.size)
    refine ⟨_, _, _, rfl, ?_⟩
    refine (GetS_ok (a := a) ho7.reads rfl (by omega)).mono ?_
    rintro e w8 ⟨rfl, rfl⟩
    refine ⟨_, _, _, rfl, sel_f (by simp; omega) (sel_f (by simp) (sel_f (by simp) ?_))⟩
    exact NumOnly_j0 hr hb07 hlen fun w' h _ => ⟨rfl, h⟩
theorem NumOnly_row {w : World} {A : Option Addr} {n c : Nat} {zs : List Int} {a : Int} (h : IsRow .u8 w A n c zs) (hs : n * 1 ≤ 140737488351232) (ha : (Lit.int .i64 a).wf = true) :
    Calls Try.prog 10 #[.slice A n c, .int .i64 a] w fun e w' => e = .returned (.bool true) ∧ Below w.heap.size w w' := by
  obtain ⟨l, hr, hn, _, _⟩ := rb_of_row h
  exact NumOnly_walk hr hn (by omega)
end Go.Proofs.Ytkimodpighdgeaa.Rd
