/- Numbers are read. Conditions: lengths at most 2^46. -/
import Derived.Test.YtakgoekfnhkgaaaDoorKnA
import Derived.Test.YtakgoekfnhkgaaaDoorHelpC
namespace Go.Proofs.YtakgoekfnhkgaaaDoor.Rd
open Go.Dn Go.RowKit
set_option linter.unusedVariables false
set_option linter.unusedSimpArgs false

/-- what a reading answers, out of 'getR' at place p -/
def getP (r : Nat × Nat × Nat) (p : Nat) : Nat × Nat × Nat := if r.2.2 = 0 then (r.1, p + r.2.1, 0) else (0, 0, r.2.2)
theorem getL_in {l : List UInt8} {p : Nat} (h : p ≤ l.length) : getL l (p : Int) = getP (getR (l.drop p) 0 0) p := by
  unfold getL getP
  rw [if_neg (by omega), if_neg (by omega), Int.toNat_natCast]
theorem getL_out {l : List UInt8} {a : Int} (h : a < 0 ∨ (l.length : Int) < a) : getL l a = (0, 0, 1) := by
  unfold getL
  rcases h with h | h
  · rw [if_pos h]
  · by_cases h0 : a < 0
    · rw [if_pos h0]
    · rw [if_neg h0, if_pos h]

theorem Get_j1 {w : World} {A : Option Addr} {c : Nat} {l : List UInt8} {p i u : Nat} (hr : RB w A l) (hlen : l.length ≤ 140737488355328) (hpi : p + i ≤ l.length) (hi : i ≤ 9) (hu : u < 128 ^ i)
    {Kg : Int → Int → World → Prop} {Kr : Int → Int → Int → World → Prop}
    (hg : ∀ b r, l.drop (p + i) = b :: r → i ≤ 8 → getR (l.drop (p + i)) i u = getR (l.drop (p + (i + 1))) (i + 1) (u + b.toNat % 128 * 128 ^ i) → u + b.toNat % 128 * 128 ^ i < 128 ^ (i + 1) → p + (i + 1) ≤ l.length →
      Kg ((u + b.toNat % 128 * 128 ^ i : Nat) : Int) ((i + 1 : Nat) : Int) w)
    (hk : Kr ((getP (getR (l.drop (p + i)) i u) p).1 : Int) ((getP (getR (l.drop (p + i)) i u) p).2.1 : Int) ((getP (getR (l.drop (p + i)) i u) p).2.2 : Int) w) :
    f_num_Get.j1 A l.length c (p : Int) (u : Int) (i : Int) w Kg Kr := by
  unfold f_num_Get.j1
  rw [w64_in (x := (l.length : Int) - p) (by omega), w64_in (x := (p : Int) + i) (by omega), w64_in (x := (i : Int) + 1) (by omega)]
  by_cases hend : p + i = l.length
  · refine sel_t (by simp; omega) ?_
    rw [List.drop_eq_nil_of_le (by omega)] at hk
    exact hk
  · have hlt : p + i < l.length := by omega
    have hd : l.drop (p + i) = l[p + i] :: l.drop (p + i + 1) := List.drop_eq_getElem_cons hlt
    refine sel_f (by simp; omega) ?_
    obtain ⟨a, rfl, hc⟩ := hr (p + i) hlt
    refine optB_some rfl (req_intro (by simp; omega) ?_)
    refine ldI_intro (x := (l[p + i].toNat : Int)) (by rw [show ((p : Int) + i).toNat = p + i by omega, Nat.mul_one]; exact hc) ?_
    have hb256 := (l[p + i]).toNat_lt
    by_cases h9 : i = 9 ∧ 1 < l[p + i].toNat
    · refine sel_t (by simp; omega) (sel_t (by simp; omega) ?_)
      rw [hd] at hk
      simp only [getR, if_pos h9] at hk
      exact hk
    · refine (fun t => sel_intro (fun e => sel_f (by simp at e; simp; omega) t) (fun _ => t)) ?_
      refine req_intro (by rw [w64_in (by omega), u64w]; simp; omega) ?_
      rw [add_bits i u l[p + i].toNat hi hu (by omega) h9]
      have hb : u + l[p + i].toNat % 128 * 128 ^ i < 128 ^ (i + 1) := by
        have h1 : l[p + i].toNat % 128 * 128 ^ i ≤ 127 * 128 ^ i := Nat.mul_le_mul_right _ (by omega)
        have h2 : 128 ^ (i + 1) = 128 ^ i * 128 := Nat.pow_succ ..
        omega
      by_cases hc1 : 128 ≤ l[p + i].toNat
      · refine sel_t (by simp; omega) ?_
        have := hg l[p + i] _ hd (by omega) (by rw [hd, show p + (i + 1) = p + i + 1 by omega]; simp only [getR, if_neg h9, if_pos hc1]) hb (by omega)
        rw [show (i : Int) + 1 = ((i + 1 : Nat) : Int) by omega]
        exact this
      · refine sel_f (by simp; omega) ?_
        rw [hd] at hk
        simp only [getR, if_neg h9, if_neg hc1] at hk
        by_cases h0 : l[p + i].toNat = 0 ∧ 0 < i
        · refine sel_t (by simp; omega) (sel_t (by simp; omega) ?_)
          simp only [if_pos h0] at hk
          exact hk
        · simp only [if_neg h0, getP, if_pos] at hk
          rw [w64_in (by omega), show (p : Int) + ((i : Int) + 1) = ((p + (i + 1) : Nat) : Int) by omega]
          refine sel_intro (fun e => sel_f (by simp at e; simp; omega) hk) (fun _ => hk)
theorem Get_g0 {w : World} {A : Option Addr} {c : Nat} {l : List UInt8} {p : Nat} (hr : RB w A l) (hlen : l.length ≤ 140737488355328) {Kr : Int → Int → Int → World → Prop} :
    ∀ (k i u : Nat), p + i ≤ l.length → i ≤ 9 → u < 128 ^ i → 10 ≤ k + i → 0 < k →
      Kr ((getP (getR (l.drop (p + i)) i u) p).1 : Int) ((getP (getR (l.drop (p + i)) i u) p).2.1 : Int) ((getP (getR (l.drop (p + i)) i u) p).2.2 : Int) w →
      f_num_Get.g0 k A l.length c (p : Int) (u : Int) (i : Int) w Kr := by
  intro k
  induction k with
  | zero => intro i u _ _ _ _ h; omega
  | succ k ih =>
    intro i u hpi hi hu hk _ hK
    simp only [f_num_Get.g0]
    refine Get_j1 hr hlen hpi hi hu ?_ hK
    intro b r hd hi8 he hb hp1 _
    exact ih (i + 1) _ hp1 (by omega) hb (by omega) (by omega) (by rw [← he]; exact hK)
theorem Get_ok {w : World} {A : Option Addr} {n c : Nat} {l : List UInt8} {a : Int} (hr : RB w A l) (hn : n = l.length) (hlen : l.length ≤ 140737488355328) :
    Calls Tryd.prog 57 #[.slice A n c, .int .i64 a] w fun e w' => e = .returned (.tuple #[.int .u64 ((getL l a).1 : Int), .int .i64 ((getL l a).2.1 : Int), .int .i64 ((getL l a).2.2 : Int)]) ∧ w' = w := by
  subst hn
  apply f_num_Get.ok
  unfold f_num_Get.wp f_num_Get.s0
  by_cases h0 : a < 0
  · refine sel_t (by simp; exact h0) fun _ => ?_
    rw [getL_out (.inl h0)]; exact ⟨rfl, rfl⟩
  · by_cases h1 : (l.length : Int) < a
    · refine sel_f (by simp; omega) (sel_t (by simp; omega) fun _ => ?_)
      rw [getL_out (.inr h1)]; exact ⟨rfl, rfl⟩
    · refine sel_f (by simp; omega) (sel_f (by simp; omega) ?_)
      obtain ⟨p, rfl⟩ := Int.eq_ofNat_of_zero_le (show 0 ≤ a by omega)
      rw [getL_in (by omega)]
      refine Get_j1 (i := 0) (u := 0) hr hlen (by omega) (by omega) (by decide) ?_ ?_
      · intro b r hd _ he hb hp1 _
        refine ⟨9, Get_g0 hr hlen 9 (0 + 1) _ hp1 (by omega) hb (by omega) (by omega) ?_⟩
        intro _
        rw [← he]
        exact ⟨rfl, rfl⟩
      · intro _ _; exact ⟨rfl, rfl⟩

set_option maxRecDepth 8000 in
theorem getL_form (l : List UInt8) (a : Int) : ((getL l a).2.2 = 0 ∧ (getL l a).1 < 18446744073709551616 ∧ (getL l a).2.1 ≤ l.length ∧ 0 ≤ a ∧ a < ((getL l a).2.1 : Int)) ∨ ((getL l a).2.2 ≠ 0 ∧ (getL l a).2.2 < 11 ∧ (getL l a).1 = 0 ∧ (getL l a).2.1 = 0) := by
  by_cases h : a < 0 ∨ (l.length : Int) < a
  · rw [getL_out h]; exact .inr ⟨by decide, by decide, rfl, rfl⟩
  · obtain ⟨p, rfl⟩ := Int.eq_ofNat_of_zero_le (show 0 ≤ a by omega)
    rw [getL_in (by omega)]
    unfold getP
    rcases getR_form (l.drop p) 0 0 (by omega) (by decide) with h1 | h1
    · rw [if_pos h1.1]
      have := h1.2.2.1
      rw [List.length_drop] at this
      exact .inl ⟨rfl, h1.2.1, by show p + _ ≤ _; omega, by omega, by show (p : Int) < ((p + _ : Nat) : Int); omega⟩
    · rw [if_neg h1.1]
      exact .inr ⟨h1.1, h1.2.1, rfl, rfl⟩
theorem getL_lt (l : List UInt8) (a : Int) : (getL l a).1 < 18446744073709551616 := by
  rcases getL_form l a with h | h
  · exact h.2.1
  · rw [h.2.2.1]; decide
end Go.Proofs.YtakgoekfnhkgaaaDoor.Rd
