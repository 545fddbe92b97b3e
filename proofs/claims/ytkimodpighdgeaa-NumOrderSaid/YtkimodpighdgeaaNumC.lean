/- Contracts of layer 1: signed numbers and texts are read. Conditions: lengths at most 2^46. -/
import Derived.Test.YtkimodpighdgeaaNumB
import Derived.Test.YtkimodpighdgeaaHelpC
namespace Go.Proofs.Ytkimodpighdgeaa.Rd
open Go.Dn Go.RowKit
set_option linter.unusedVariables false
set_option linter.unusedSimpArgs false

/-- a sign unfolded -/
def unf (u : Nat) : Int := if u % 2 = 0 then ((u / 2 : Nat) : Int) else -((u / 2 : Nat) : Int) - 1
theorem band64_1 (n : Nat) (h : n < 18446744073709551616) : band .u64 (n : Int) 1 = ((n % 2 : Nat) : Int) := by
  unfold band
  show IntKind.u64.wrap (((BitVec.ofInt 64 (n : Int)) &&& BitVec.ofInt 64 ((1 : Nat) : Int)).toNat : Int) = _
  rw [BitVec.toNat_and, bv64 n h, bv64 1 (by decide), Nat.and_one_is_mod, u64w]; omega
theorem bxor_i64_0 (n : Nat) (h : n < 9223372036854775808) : bxor .i64 (n : Int) 0 = (n : Int) := by
  unfold bxor
  show IntKind.i64.wrap (((BitVec.ofInt 64 (n : Int)) ^^^ BitVec.ofInt 64 ((0 : Nat) : Int)).toNat : Int) = _
  rw [BitVec.toNat_xor, bv64 n (by omega), bv64 0 (by decide), Nat.xor_zero, i64w]; omega
theorem bxor_i64_m1 (n : Nat) (h : n < 9223372036854775808) : bxor .i64 (n : Int) (-1) = -(n : Int) - 1 := by
  unfold bxor
  show IntKind.i64.wrap (((BitVec.ofInt 64 (n : Int)) ^^^ BitVec.ofInt 64 (-1)).toNat : Int) = _
  rw [BitVec.toNat_xor, bv64 n (by omega), show (BitVec.ofInt 64 (-1)).toNat = 18446744073709551615 by decide, xor_ones _ (by omega), i64w]; omega
theorem unf_ok (u : Nat) (h : u < 18446744073709551616) : bxor .i64 (IntKind.i64.wrap ((u : Int).fdiv (2 ^ 1))) (IntKind.i64.wrap (0 - (IntKind.i64.wrap (band .u64 (u : Int) (1 : Int))))) = unf u := by
  rw [band64_1 u h, Int.fdiv_eq_ediv_of_nonneg _ (by decide), show IntKind.i64.wrap ((u : Int) / 2 ^ 1) = ((u / 2 : Nat) : Int) by rw [i64w]; omega]
  unfold unf
  rcases Nat.mod_two_eq_zero_or_one u with h2 | h2
  · rw [h2, if_pos rfl, show IntKind.i64.wrap (0 - IntKind.i64.wrap ((0 : Nat) : Int)) = 0 by decide, bxor_i64_0 _ (by omega)]
  · rw [h2, if_neg (by decide), show IntKind.i64.wrap (0 - IntKind.i64.wrap ((1 : Nat) : Int)) = -1 by decide, bxor_i64_m1 _ (by omega)]
theorem getL_form (l : List UInt8) (a : Int) : ((getL l a).2.2 = 0 ∧ (getL l a).1 < 18446744073709551616 ∧ (getL l a).2.1 ≤ l.length ∧ 0 ≤ a ∧ a < ((getL l a).2.1 : Int)) ∨ ((getL l a).2.2 ≠ 0 ∧ (getL l a).2.2 < 11 ∧ (getL l a).1 = 0 ∧ (getL l a).2.1 = 0) := by
  by_cases h : a < 0 ∨ (l.length : Int) < a
  · rw [getL_out h]; exact .inr ⟨by decide, by decide, rfl, rfl⟩
  · obtain ⟨p, rfl⟩ := Int.eq_ofNat_of_zero_le (show 0 ≤ a by omega)
    rw [getL_in (by omega)]
    unfold getP
    rcases getR_form (l.drop p) 0 0 (by omega) (by decide) with h1 | h1
    · rw [if_pos h1.1]
      have := h1.2.2.1
      rw [List.length_drop] at this
      exact .inl ⟨rfl, h1.2.1, by show p + _ ≤ _; omega, by omega, by show (p : Int) < ((p + _ : Nat) : Int); omega⟩
    · rw [if_neg h1.1]
      exact .inr ⟨h1.1, h1.2.1, rfl, rfl⟩
theorem getL_lt (l : List UInt8) (a : Int) : (getL l a).1 < 18446744073709551616 := by
  rcases getL_form l a with h | h
  · exact h.2.1
  · rw [h.2.2.1]; decide
theorem GetS_ok {w : World} {A : Option Addr} {n c : Nat} {l : List UInt8} {a : Int} (hr : RB w A l) (hn : n = l.length) (hlen : l.length ≤ 140737488355328) :
    Calls Try.prog 30 #[.slice A n c, .int .i64 a] w fun e w' => e = .returned (.tuple #[.int .i64 (unf (getL l a).1), .int .i64 ((getL l a).2.1 : Int), .int .i64 ((getL l a).2.2 : Int)]) ∧ w' = w := by
  apply f_num_GetS.ok
  unfold f_num_GetS.wp
  refine (Get_ok hr hn hlen).mono ?_
  rintro e w1 ⟨rfl, rfl⟩
  refine ⟨_, _, _, rfl, ?_⟩
  rw [unf_ok _ (getL_lt l a)]
  exact ⟨rfl, rfl⟩
theorem Unfold_ok {w : World} (u : Nat) (h : u < 18446744073709551616) :
    Calls Try.prog 48 #[.int .u64 (u : Int)] w fun e w' => e = .returned (.int .i64 (unf u)) ∧ w' = w := by
  apply f_ref01_Unfold.ok
  unfold f_ref01_Unfold.wp unf
  rw [Int.tmod_eq_emod_of_nonneg (by omega), Int.tdiv_eq_ediv_of_nonneg (by omega)]
  by_cases h2 : u % 2 = 0
  · refine sel_t (by simp; omega) ⟨?_, rfl⟩
    rw [if_pos h2]; congr 2; rw [u64w, i64w]; omega
  · refine sel_f (by simp; omega) ⟨?_, rfl⟩
    rw [if_neg h2]; congr 2; rw [u64w, i64w (((u : Int) / 2) % 18446744073709551616), i64w (0 - _), i64w]; omega
theorem RGetS_ok {w : World} {A : Option Addr} {n c : Nat} {l : List UInt8} {a : Int} (hr : RB w A l) (hn : n = l.length) (hlen : l.length ≤ 140737488355328) :
    Calls Try.prog 33 #[.slice A n c, .int .i64 a] w fun e w' => e = .returned (.tuple #[.int .i64 (unf (getL l a).1), .int .i64 ((getL l a).2.1 : Int), .int .i64 ((getL l a).2.2 : Int)]) ∧ w' = w := by
  apply f_ref01_GetS.ok
  unfold f_ref01_GetS.wp
  refine (RGet_ok hr hn hlen).mono ?_
  rintro e w1 ⟨rfl, rfl⟩
  refine ⟨_, _, _, rfl, ?_⟩
  rcases getL_form l a with h | h
  · refine sel_f (by simp; omega) ?_
    refine (Unfold_ok _ h.2.1).mono ?_
    rintro e w2 ⟨rfl, rfl⟩
    exact ⟨_, rfl, by rw [h.1]; rfl, rfl⟩
  · refine sel_t (by simp; omega) ⟨?_, rfl⟩
    rw [h.2.2.1, h.2.2.2]; rfl

/-- a text from a place on -/
def textL (l : List UInt8) (a most : Int) : List UInt8 × Nat × Nat :=
  let r := getL l a
  if r.2.2 ≠ 0 then ([], 0, r.2.2) else if max most 0 < (r.1 : Int) then ([], 0, 4) else if l.length - r.2.1 < r.1 then ([], 0, 2) else ((l.drop r.2.1).take r.1, r.2.1 + r.1, 0)
theorem GetText_ok {w : World} {A : Option Addr} {n c : Nat} {l : List UInt8} {a most : Int} (hr : RB w A l) (hn : n = l.length) (hlen : l.length ≤ 140737488355000) (hc : l.length ≤ c) (hm : -9223372036854775808 ≤ most ∧ most ≤ 9223372036854775807) :
    Calls Try.prog 31 #[.slice A n c, .int .i64 a, .int .i64 most] w fun e w' => ∃ A' c', e = .returned (.tuple #[.slice A' (textL l a most).1.length c', .int .i64 ((textL l a most).2.1 : Int), .int .i64 ((textL l a most).2.2 : Int)]) ∧ OwnB w' w.heap.size 5 A' c' (textL l a most).1 ∧ Below w.heap.size w w' := by
  subst hn
  apply f_num_GetText.ok
  unfold f_num_GetText.wp
  refine (Get_ok hr rfl (by omega)).mono ?_
  rintro e w1 ⟨rfl, rfl⟩
  refine ⟨_, _, _, rfl, ?_⟩
  have hf := getL_form l a
  have hmax : IntKind.u64.wrap (if (0 : Int) > most then (0 : Int) else most) = max most 0 := by
    rw [u64w]; split <;> omega
  rw [hmax]
  unfold textL
  generalize getL l a = r at *
  obtain ⟨u, nx, er⟩ := r
  simp only at hf ⊢
  by_cases he : er = 0
  · subst he
    have hf : u < 18446744073709551616 ∧ nx ≤ l.length := by
      rcases hf with h | h
      · exact ⟨h.2.1, h.2.2.1⟩
      · exact absurd rfl h.1
    rw [if_neg (by simp)]
    refine sel_f (by simp) ?_
    by_cases hlong : max most 0 < (u : Int)
    · rw [if_pos hlong]
      exact sel_t (by simpa using hlong) ⟨none, 0, rfl, World.ownsRow_nil _ _ _ _, Below.refl _ _⟩
    · rw [if_neg hlong]
      refine sel_f (by simp; omega) ?_
      have hd : IntKind.u64.wrap (IntKind.i64.wrap ((l.length : Int) - (nx : Int))) = ((l.length - nx : Nat) : Int) := by rw [w64_in (by omega), u64w]; omega
      rw [hd]
      by_cases hshort : l.length - nx < u
      · rw [if_pos hshort]
        exact sel_t (by simp; omega) ⟨none, 0, rfl, World.ownsRow_nil _ _ _ _, Below.refl _ _⟩
      · rw [if_neg hshort]
        refine sel_f (by simp; omega) ?_
        have hw : IntKind.i64.wrap ((nx : Int) + IntKind.i64.wrap (u : Int)) = ((nx + u : Nat) : Int) := by rw [w64_in (x := (u : Int)) (by omega), w64_in (by omega)]; omega
        rw [hw]
        refine req_intro (by simp; omega) (req_intro (by simp; omega) ?_)
        rw [Int.toNat_natCast, Int.toNat_natCast]
        have hrs : RB w1 (slA A nx c 1) ((l.drop nx).take u) := (RB.slA hr hc nx).take u
        have hln : ((l.drop nx).take u).length = u := by rw [List.length_take, List.length_drop]; omega
        refine (Clone_ok hrs (by rw [hln]; omega) (by rw [hln]; omega)).mono ?_
        rintro e w2 ⟨A2, c2, rfl, ho, -, hb⟩
        exact ⟨_, _, _, rfl, A2, c2, rfl, ho, hb⟩
  · rw [if_pos he]
    exact sel_t (by simp; omega) ⟨none, 0, rfl, World.ownsRow_nil _ _ _ _, Below.refl _ _⟩
theorem RGetText_j0 {w : World} {A : Option Addr} {c : Nat} {l : List UInt8} {mx : Int} {u nx : Nat} (hr : RB w A l) (hlen : l.length ≤ 140737488355000) (hmx : 0 ≤ mx ∧ mx ≤ 9223372036854775807) (hu : u < 18446744073709551616) (hnx : nx ≤ l.length)
    {Kr : (Option Addr) → Nat → Nat → Int → Int → World → Prop}
    (h1 : mx < (u : Int) → Kr none 0 0 0 4 w) (h2 : (u : Int) ≤ mx → l.length - nx < u → Kr none 0 0 0 2 w)
    (h3 : (u : Int) ≤ mx → u ≤ l.length - nx → ∀ A' c' w', OwnB w' w.heap.size 5 A' c' ((l.drop nx).take u) → Below w.heap.size w w' → Kr A' ((l.drop nx).take u).length c' ((nx + u : Nat) : Int) 0 w') :
    f_ref01_GetText.j0 A l.length c mx (u : Int) (nx : Int) w Kr := by
  unfold f_ref01_GetText.j0
  rw [show IntKind.u64.wrap mx = mx by rw [u64w]; omega]
  by_cases hlong : mx < (u : Int)
  · exact sel_t (by simpa using hlong) (h1 hlong)
  · refine sel_f (by simp; omega) ?_
    have hd : IntKind.u64.wrap (IntKind.i64.wrap ((l.length : Int) - (nx : Int))) = ((l.length - nx : Nat) : Int) := by rw [w64_in (by omega), u64w]; omega
    rw [hd]
    by_cases hshort : l.length - nx < u
    · exact sel_t (by simp; omega) (h2 (by omega) hshort)
    · refine sel_f (by simp; omega) ?_
      have hw : IntKind.i64.wrap ((nx : Int) + IntKind.i64.wrap (u : Int)) = ((nx + u : Nat) : Int) := by rw [w64_in (x := (u : Int)) (by omega), w64_in (by omega)]; omega
      rw [hw]
      refine (Piece_ok (p := nx) (q := nx + u) hr rfl (by omega) (by omega) (by omega)).mono ?_
      rintro e w2 ⟨A2, c2, rfl, ho, hb⟩
      have e : (l.take (nx + u)).drop nx = (l.drop nx).take u := by rw [List.drop_take]; congr 1; omega
      rw [e] at ho ⊢
      exact ⟨_, _, _, rfl, h3 (by omega) (by omega) A2 c2 w2 ho hb⟩
theorem RGetText_ok {w : World} {A : Option Addr} {n c : Nat} {l : List UInt8} {a most : Int} (hr : RB w A l) (hn : n = l.length) (hlen : l.length ≤ 140737488355000) (hm : -9223372036854775808 ≤ most ∧ most ≤ 9223372036854775807) :
    Calls Try.prog 34 #[.slice A n c, .int .i64 a, .int .i64 most] w fun e w' => ∃ A' c', e = .returned (.tuple #[.slice A' (textL l a most).1.length c', .int .i64 ((textL l a most).2.1 : Int), .int .i64 ((textL l a most).2.2 : Int)]) ∧ OwnB w' w.heap.size 5 A' c' (textL l a most).1 ∧ Below w.heap.size w w' := by
  subst hn
  apply f_ref01_GetText.ok
  unfold f_ref01_GetText.wp
  refine (RGet_ok hr rfl (by omega)).mono ?_
  rintro e w1 ⟨rfl, rfl⟩
  refine ⟨_, _, _, rfl, ?_⟩
  have hf := getL_form l a
  unfold textL
  generalize getL l a = r at *
  obtain ⟨u, nx, er⟩ := r
  simp only at hf ⊢
  by_cases he : er = 0
  · subst he
    have hf : u < 18446744073709551616 ∧ nx ≤ l.length := by
      rcases hf with h | h
      · exact ⟨h.2.1, h.2.2.1⟩
      · exact absurd rfl h.1
    rw [if_neg (by simp)]
    refine sel_f (by simp) ?_
    by_cases h0 : most < 0
    · refine sel_t (by simp; exact h0) (RGetText_j0 hr hlen (by decide) hf.1 hf.2 ?_ ?_ ?_)
      · intro h _; rw [if_pos (by omega)]; exact ⟨none, 0, rfl, World.ownsRow_nil _ _ _ _, Below.refl _ _⟩
      · intro h h' _; rw [if_neg (by omega), if_pos h']; exact ⟨none, 0, rfl, World.ownsRow_nil _ _ _ _, Below.refl _ _⟩
      · intro h h' A' c' w' ho hb _; rw [if_neg (by omega), if_neg (by omega)]; exact ⟨A', c', rfl, ho, hb⟩
    · refine sel_f (by simp; omega) (RGetText_j0 hr hlen (by omega) hf.1 hf.2 ?_ ?_ ?_)
      · intro h _; rw [if_pos (by omega)]; exact ⟨none, 0, rfl, World.ownsRow_nil _ _ _ _, Below.refl _ _⟩
      · intro h h' _; rw [if_neg (by omega), if_pos h']; exact ⟨none, 0, rfl, World.ownsRow_nil _ _ _ _, Below.refl _ _⟩
      · intro h h' A' c' w' ho hb _; rw [if_neg (by omega), if_neg (by omega)]; exact ⟨A', c', rfl, ho, hb⟩
  · rw [if_pos he]
    exact sel_t (by simp; omega) ⟨none, 0, rfl, World.ownsRow_nil _ _ _ _, Below.refl _ _⟩
end Go.Proofs.Ytkimodpighdgeaa.Rd
