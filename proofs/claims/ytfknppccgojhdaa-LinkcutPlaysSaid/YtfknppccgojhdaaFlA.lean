/- Whole numbers as floats: sums of whole numbers below 2^53 are exact. Conditions: none. -/
import Derived.Test.YtfknppccgojhdaaBase
import Derived.Laws.ComplexArith
import Ieee.Arith
namespace Go.Dn
set_option linter.unusedVariables false
set_option maxRecDepth 20000
open Ieee

/-- the float of a whole number -/
def fb (n : Int) : Nat := FloatKind.f64.nearest n
theorem fb_def (n : Int) : fb n = Ieee.double.nearest (decide (n < 0)) n.natAbs 0 := rfl
theorem p52 : (2 : Nat) ^ 52 = 4503599627370496 := by decide
theorem p53 : (2 : Nat) ^ 53 = 9007199254740992 := by decide
theorem p63 : (2 : Nat) ^ 63 = 9223372036854775808 := by decide
theorem cut_exact (neg : Bool) (k drop : Nat) (h : drop ≤ (k * 2 ^ drop).log2 + 2) : Toward.even.cut neg (k * 2 ^ drop) drop = k := by
  unfold Toward.cut
  simp only [Nat.min_eq_left h, Nat.one_shiftLeft, Nat.mul_mod_left, Nat.mul_div_cancel _ (Nat.two_pow_pos drop)]
  have hp := Nat.two_pow_pos drop
  have h1 : decide (2 ^ drop < 2 * 0) = false := by simp
  have h2 : (2 ^ drop == 2 * 0) = false := by simp
  rw [h1, h2]; simp
/-- the digits that are kept of s, 0 < s < 2^53: all of them, wherever they stand -/
theorem nearest_shift (neg : Bool) (s t : Nat) (h0 : 0 < s) (h1 : s < 2 ^ 53) : Ieee.double.nearest neg (s * 2 ^ t) (-(t : Int)) = Ieee.double.word neg ((s.log2 + 1022) * 2 ^ 52 + s * 2 ^ (52 - s.log2)) := by
  have hL : s.log2 ≤ 52 := by
    have := (Nat.log2_lt (n := s) (k := 53) (by omega)).2 h1; omega
  have hlog : (s * 2 ^ t).log2 = s.log2 + t := by
    rw [← Nat.shiftLeft_eq]
    have := Nat.log2_self_le (n := s) (by omega)
    have h2 := Nat.lt_log2_self (n := s)
    rw [Nat.log2_eq_iff (by rw [Nat.shiftLeft_eq]; exact Nat.ne_of_gt (Nat.mul_pos h0 (Nat.two_pow_pos t)))]
    rw [Nat.shiftLeft_eq]
    constructor
    · rw [Nat.pow_add]; exact Nat.mul_le_mul_right _ this
    · rw [show s.log2 + t + 1 = s.log2 + 1 + t by omega, Nat.pow_add]; exact (Nat.mul_lt_mul_right (Nat.two_pow_pos t)).2 h2
  have hne : s * 2 ^ t ≠ 0 := Nat.ne_of_gt (Nat.mul_pos h0 (Nat.two_pow_pos t))
  unfold Format.nearest
  rw [if_neg hne, hlog]
  have hlp : Ieee.double.leastPlace = -1074 := by decide
  have hfb : Ieee.double.fractionBits = 52 := rfl
  have hbn : Ieee.double.binade = 2 ^ 52 := rfl
  have hir : Ieee.double.infRung = 2047 * 2 ^ 52 := by decide
  simp only [hlp, hfb, hbn, hir]
  have hlast : max (-(t : Int) + ((s.log2 + t : Nat) : Int) - ((52 : Nat) : Int)) (-1074) = (s.log2 : Int) - 52 := by omega
  rw [hlast]
  have hkept : Toward.even.cut neg ((s * 2 ^ t) <<< (-(t : Int) - ((s.log2 : Int) - 52)).toNat) ((s.log2 : Int) - 52 - -(t : Int)).toNat = s * 2 ^ (52 - s.log2) := by
    by_cases ht : t ≤ 52 - s.log2
    · have e1 : (-(t : Int) - ((s.log2 : Int) - 52)).toNat = 52 - s.log2 - t := by omega
      have e2 : ((s.log2 : Int) - 52 - -(t : Int)).toNat = 0 := by omega
      rw [e1, e2, Nat.shiftLeft_eq, Nat.mul_assoc, ← Nat.pow_add, show t + (52 - s.log2 - t) = 52 - s.log2 by omega]
      have := cut_exact neg (s * 2 ^ (52 - s.log2)) 0 (by omega)
      simpa using this
    · have e1 : (-(t : Int) - ((s.log2 : Int) - 52)).toNat = 0 := by omega
      have e2 : ((s.log2 : Int) - 52 - -(t : Int)).toNat = t - (52 - s.log2) := by omega
      rw [e1, e2, Nat.shiftLeft_zero]
      have e3 : s * 2 ^ t = s * 2 ^ (52 - s.log2) * 2 ^ (t - (52 - s.log2)) := by
        rw [Nat.mul_assoc, ← Nat.pow_add, show 52 - s.log2 + (t - (52 - s.log2)) = t by omega]
      rw [e3]
      apply cut_exact
      rw [← e3, hlog]; omega
  rw [hkept]
  have e4 : ((s.log2 : Int) - 52 - -1074).toNat = s.log2 + 1022 := by omega
  rw [e4]
  have hs : s * 2 ^ (52 - s.log2) < 2 ^ 53 := by
    have h2 := Nat.lt_log2_self (n := s)
    have h3 : s * 2 ^ (52 - s.log2) < 2 ^ (s.log2 + 1) * 2 ^ (52 - s.log2) := (Nat.mul_lt_mul_right (Nat.two_pow_pos _)).2 h2
    rw [← Nat.pow_add, show s.log2 + 1 + (52 - s.log2) = 53 by omega] at h3
    exact h3
  rw [Nat.min_eq_left]
  rw [p53] at hs
  rw [p52]
  omega
theorem nearest_zero (neg : Bool) (s : Nat) (h0 : 0 < s) (h1 : s < 2 ^ 53) : Ieee.double.nearest neg s 0 = Ieee.double.word neg ((s.log2 + 1022) * 2 ^ 52 + s * 2 ^ (52 - s.log2)) := by
  have := nearest_shift neg s 0 h0 h1
  rw [Nat.pow_zero, Nat.mul_one] at this
  exact this
theorem fb_zero : fb 0 = 0 := by decide
theorem read_word (neg : Bool) (L k : Nat) (hL : L ≤ 52) (hk : 2 ^ 52 ≤ k ∧ k < 2 ^ 53) : Ieee.double.read (Ieee.double.word neg ((L + 1022) * 2 ^ 52 + k)) = .number neg k ((L : Int) - 52) := by
  have hsw : Ieee.double.signWeight = 9223372036854775808 := by decide
  have hlp : Ieee.double.leastPlace = -1074 := by decide
  have hbn : Ieee.double.binade = 4503599627370496 := by decide
  have hir : Ieee.double.infRung = 9218868437227405312 := by decide
  rw [p52] at *
  rw [p53] at hk
  generalize hR : (L + 1022) * 4503599627370496 + k = R
  have hr : R < 9223372036854775808 := by omega
  have hw : Ieee.double.word neg R / 9223372036854775808 % 2 = neg.toNat ∧ Ieee.double.word neg R % 9223372036854775808 = R := by
    unfold Format.word
    rw [hsw]
    cases neg
    · simp only [Bool.false_eq_true, if_false, Bool.toNat_false]; omega
    · simp only [if_true, Bool.toNat_true]; omega
  have hb : (neg.toNat == 1) = neg := by cases neg <;> rfl
  have h1 : ¬ R < 4503599627370496 := by omega
  have h2 : R < 9218868437227405312 := by omega
  have hdiv : R / 4503599627370496 = L + 1023 := by omega
  have hmod : 4503599627370496 + R % 4503599627370496 = k := by omega
  have hplace : (-1074 : Int) + ((L + 1023 - 1 : Nat) : Int) = (L : Int) - 52 := by omega
  have key : ∀ (S Bn Ir : Nat) (lp : Int) (W : Nat), S = Ieee.double.signWeight → Bn = Ieee.double.binade → Ir = Ieee.double.infRung → lp = Ieee.double.leastPlace → W / S % 2 = neg.toNat → W % S = R → ¬ R < Bn → R < Ir → R / Bn = L + 1023 → Bn + R % Bn = k → lp + ((L + 1023 - 1 : Nat) : Int) = (L : Int) - 52 →
      Ieee.double.read W = .number neg k ((L : Int) - 52) := by
    intro S Bn Ir lp W e1 e2 e3 e4 w1 w2 c1 c2 c3 c4 c5
    unfold Format.read
    simp only [← e1, ← e2, ← e3, ← e4, w1, w2, hb, if_neg c1, if_pos c2, c3, c4, c5]
  exact key _ _ _ _ _ hsw.symm hbn.symm hir.symm hlp.symm hw.1 hw.2 h1 h2 hdiv hmod hplace
theorem kept_range (s : Nat) (h0 : 0 < s) (h1 : s < 2 ^ 53) : s.log2 ≤ 52 ∧ 2 ^ 52 ≤ s * 2 ^ (52 - s.log2) ∧ s * 2 ^ (52 - s.log2) < 2 ^ 53 := by
  have hL : s.log2 ≤ 52 := by
    have := (Nat.log2_lt (n := s) (k := 53) (by omega)).2 h1; omega
  refine ⟨hL, ?_, ?_⟩
  · have := Nat.log2_self_le (n := s) (by omega)
    have h3 : 2 ^ s.log2 * 2 ^ (52 - s.log2) ≤ s * 2 ^ (52 - s.log2) := Nat.mul_le_mul_right _ this
    rw [← Nat.pow_add, show s.log2 + (52 - s.log2) = 52 by omega] at h3
    exact h3
  · have h2 := Nat.lt_log2_self (n := s)
    have h3 : s * 2 ^ (52 - s.log2) < 2 ^ (s.log2 + 1) * 2 ^ (52 - s.log2) := (Nat.mul_lt_mul_right (Nat.two_pow_pos _)).2 h2
    rw [← Nat.pow_add, show s.log2 + 1 + (52 - s.log2) = 53 by omega] at h3
    exact h3
def In53 (n : Int) : Prop := -9007199254740992 < n ∧ n < 9007199254740992
/-- what a whole number's float stands for: sign, magnitude times a power of two that is not positive -/
theorem fb_read {n : Int} (h : In53 n) : ∃ t : Nat, Ieee.double.read (fb n) = .number (decide (n < 0)) (n.natAbs * 2 ^ t) (-(t : Int)) := by
  by_cases h0 : n = 0
  · subst h0
    have h1 : Ieee.double.read 0 = .number false 0 (-1074) := by decide
    obtain ⟨t, ht⟩ : ∃ t : Nat, (t : Int) = 1074 := ⟨1074, rfl⟩
    refine ⟨t, ?_⟩
    rw [fb_zero, h1, Int.natAbs_zero, Nat.zero_mul, ht]; rfl
  · have hp : 0 < n.natAbs := by omega
    have hl : n.natAbs < 2 ^ 53 := by have := h.1; have := h.2; omega
    obtain ⟨hL, hk1, hk2⟩ := kept_range n.natAbs hp hl
    refine ⟨52 - n.natAbs.log2, ?_⟩
    rw [fb_def, nearest_zero _ _ hp hl, read_word _ _ _ hL ⟨hk1, hk2⟩]
    congr 1; omega
theorem signed_val (n : Int) (u : Nat) : signed (decide (n < 0)) n.natAbs u = n * (2 ^ u : Nat) := by
  unfold signed
  rw [Nat.shiftLeft_eq]
  by_cases h : n < 0
  · rw [decide_eq_true h]
    simp only [if_true]
    have : (n.natAbs : Int) = -n := by omega
    rw [Int.natCast_mul, this, Int.neg_mul, Int.neg_neg]
  · rw [decide_eq_false h]
    simp only [Bool.false_eq_true, if_false]
    have : (n.natAbs : Int) = n := by omega
    rw [Int.natCast_mul, this]
/-- sums are exact -/
theorem fb_add {a b : Int} (ha : In53 a) (hb : In53 b) (hs : In53 (a + b)) : Ieee.double.add (fb a) (fb b) = some (fb (a + b)) := by
  obtain ⟨t, et⟩ := fb_read ha
  obtain ⟨u, eu⟩ := fb_read hb
  unfold Format.add
  rw [et, eu]
  simp only [Datum.sum, Option.map_some]
  congr 1
  have hbase : min (-(t : Int)) (-(u : Int)) = -((max t u : Nat) : Int) := by omega
  have e1 : (-(t : Int) - min (-(t : Int)) (-(u : Int))).toNat = max t u - t := by omega
  have e2 : (-(u : Int) - min (-(t : Int)) (-(u : Int))).toNat = max t u - u := by omega
  have s1 : signed (decide (a < 0)) (a.natAbs * 2 ^ t) (max t u - t) = a * (2 ^ (max t u) : Nat) := by
    have : signed (decide (a < 0)) (a.natAbs * 2 ^ t) (max t u - t) = signed (decide (a < 0)) a.natAbs (max t u) := by
      unfold signed
      rw [Nat.shiftLeft_eq, Nat.shiftLeft_eq, Nat.mul_assoc, ← Nat.pow_add, show t + (max t u - t) = max t u by omega]
    rw [this, signed_val]
  have s2 : signed (decide (b < 0)) (b.natAbs * 2 ^ u) (max t u - u) = b * (2 ^ (max t u) : Nat) := by
    have : signed (decide (b < 0)) (b.natAbs * 2 ^ u) (max t u - u) = signed (decide (b < 0)) b.natAbs (max t u) := by
      unfold signed
      rw [Nat.shiftLeft_eq, Nat.shiftLeft_eq, Nat.mul_assoc, ← Nat.pow_add, show u + (max t u - u) = max t u by omega]
    rw [this, signed_val]
  rw [e1, e2, s1, s2, ← Int.add_mul, hbase]
  have hpos : (0 : Int) < (2 ^ (max t u) : Nat) := by exact_mod_cast Nat.two_pow_pos _
  by_cases h0 : a + b = 0
  · rw [h0, Int.zero_mul]
    simp only [if_true, Int.natAbs_zero]
    have hz : ∀ neg, Ieee.double.write (.number neg 0 (-((max t u : Nat) : Int))) = Ieee.double.word neg 0 := fun neg => by
      simp [Format.write, Format.nearest]
    rw [hz, fb_zero]
    have : (decide (a < 0) && decide (b < 0)) = false := by
      by_cases h : a < 0
      · simp; omega
      · simp [h]
    rw [this]; rfl
  · have hm : (a + b) * ((2 ^ (max t u) : Nat) : Int) ≠ 0 := Int.mul_ne_zero h0 (by omega)
    rw [if_neg hm]
    have hneg : decide ((a + b) * ((2 ^ (max t u) : Nat) : Int) < 0) = decide (a + b < 0) := by
      rw [decide_eq_decide]
      constructor
      · intro h
        rcases Int.lt_or_le (a + b) 0 with h1 | h1
        · exact h1
        · exact absurd h (Int.not_lt.2 (Int.mul_nonneg h1 (Int.le_of_lt hpos)))
      · intro h; exact Int.mul_neg_of_neg_of_pos h hpos
    have habs : ((a + b) * ((2 ^ (max t u) : Nat) : Int)).natAbs = (a + b).natAbs * 2 ^ (max t u) := by rw [Int.natAbs_mul]; rfl
    rw [hneg, habs]
    have hp : 0 < (a + b).natAbs := by omega
    have hl : (a + b).natAbs < 2 ^ 53 := by have := hs.1; have := hs.2; omega
    show Ieee.double.nearest _ _ _ = _
    rw [nearest_shift _ _ _ hp hl, fb_def, nearest_zero _ _ hp hl]
/-- a complex sum of whole numbers -/
theorem csum_ok {a b c d : Int} (h1 : In53 a) (h2 : In53 b) (h3 : In53 c) (h4 : In53 d) (h5 : In53 (a + c)) (h6 : In53 (b + d)) : cSumBits .add .f64 (fb a) (fb b) (fb c) (fb d) = some (fb (a + c), fb (b + d)) := by
  unfold cSumBits floatBits
  show (Ieee.double.add (fb a) (fb c)).bind _ = _
  rw [fb_add h1 h3 h5]
  show (Ieee.double.add (fb b) (fb d)).bind _ = _
  rw [fb_add h2 h4 h6]
  rfl
end Go.Dn
