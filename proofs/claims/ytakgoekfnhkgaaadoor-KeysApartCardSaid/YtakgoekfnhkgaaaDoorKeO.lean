/- Keys in order, and apart: plain laws. Conditions: none. -/
import Derived.Test.YtakgoekfnhkgaaaDoorKeL
namespace Go.Proofs.YtakgoekfnhkgaaaDoor.Rd
open Go.Dn Go.RowKit
set_option linter.unusedVariables false
set_option linter.unusedSimpArgs false
set_option maxRecDepth 100000
theorem ordL_same (b : UInt8) (x y : List UInt8) : ordL (b :: x) (b :: y) = ordL x y := by
  show (if b.toNat < b.toNat then (-1 : Int) else if b.toNat < b.toNat then 1 else ordL x y) = _
  rw [if_neg (by omega), if_neg (by omega)]
theorem ordL_lt {a b : UInt8} (h : a.toNat < b.toNat) (x y : List UInt8) : ordL (a :: x) (b :: y) = -1 := by
  show (if a.toNat < b.toNat then (-1 : Int) else if b.toNat < a.toNat then 1 else ordL x y) = _
  rw [if_pos h]
theorem ordL_gt {a b : UInt8} (h : b.toNat < a.toNat) (x y : List UInt8) : ordL (a :: x) (b :: y) = 1 := by
  show (if a.toNat < b.toNat then (-1 : Int) else if b.toNat < a.toNat then 1 else ordL x y) = _
  rw [if_neg (by omega), if_pos h]
theorem ordL_app (p x y : List UInt8) : ordL (p ++ x) (p ++ y) = ordL x y := by
  induction p with
  | nil => rfl
  | cons b p ih => rw [List.cons_append, List.cons_append, ordL_same, ih]
theorem ordL_zero : ∀ x y : List UInt8, ordL x y = 0 ↔ x = y
  | [], [] => ⟨fun _ => rfl, fun _ => rfl⟩
  | [], _ :: _ => ⟨fun h => (by cases h), fun h => (by cases h)⟩
  | _ :: _, [] => ⟨fun h => (by cases h), fun h => (by cases h)⟩
  | a :: x, b :: y => by
    by_cases h1 : a.toNat < b.toNat
    · rw [ordL_lt h1]
      exact ⟨fun h => (by cases h), fun h => (by injection h with h _; subst h; omega)⟩
    · by_cases h2 : b.toNat < a.toNat
      · rw [ordL_gt h2]
        exact ⟨fun h => (by cases h), fun h => (by injection h with h _; subst h; omega)⟩
      · have e : a = b := UInt8.toNat_inj.1 (by omega)
        subst e
        rw [ordL_same, ordL_zero x y]
        exact ⟨fun h => by rw [h], fun h => by injection h⟩
theorem u8_pos {d : UInt8} (h : d ≠ 0) : (0 : UInt8).toNat < d.toNat := by
  rcases Nat.eq_zero_or_pos d.toNat with h0 | h0
  · exact absurd (UInt8.toNat_inj.1 (by show d.toNat = 0; exact h0)) h
  · exact h0
theorem escL_cons (c : UInt8) (l : List UInt8) : escL (c :: l) = if c = 0 then 0 :: 255 :: escL l else c :: escL l := rfl
theorem escL_head {c : UInt8} (l : List UInt8) : ∃ r, escL (c :: l) = c :: r := by
  rw [escL_cons]
  by_cases h : c = 0
  · rw [if_pos h, h]; exact ⟨_, rfl⟩
  · rw [if_neg h]; exact ⟨_, rfl⟩
theorem ord_vers (z1 z2 : List UInt8) : ∀ k l : List UInt8, ordL (escL k ++ [0, 0] ++ z1) (escL l ++ [0, 0] ++ z2) = if k = l then ordL z1 z2 else ordL k l
  | [], [] => by
    rw [if_pos rfl]
    show ordL (0 :: 0 :: z1) (0 :: 0 :: z2) = _
    rw [ordL_same, ordL_same]
  | [], d :: l => by
    rw [if_neg (by simp)]
    show ordL (0 :: 0 :: z1) _ = -1
    rw [escL_cons]
    by_cases h : d = 0
    · rw [if_pos h]
      show ordL (0 :: 0 :: z1) (0 :: 255 :: _) = -1
      rw [ordL_same]
      exact ordL_lt (by decide) _ _
    · rw [if_neg h]
      exact ordL_lt (u8_pos h) _ _
  | c :: k, [] => by
    rw [if_neg (by simp)]
    show ordL _ (0 :: 0 :: z2) = 1
    rw [escL_cons]
    by_cases h : c = 0
    · rw [if_pos h]
      show ordL (0 :: 255 :: _) (0 :: 0 :: z2) = 1
      rw [ordL_same]
      exact ordL_gt (by decide) _ _
    · rw [if_neg h]
      exact ordL_gt (u8_pos h) _ _
  | c :: k, d :: l => by
    have ih := ord_vers z1 z2 k l
    by_cases h : c = d
    · subst h
      have e : (if c :: k = c :: l then ordL z1 z2 else ordL (c :: k) (c :: l)) = if k = l then ordL z1 z2 else ordL k l := by
        rw [ordL_same]
        by_cases hk : k = l
        · rw [if_pos (by rw [hk]), if_pos hk]
        · rw [if_neg (fun h => hk (by injection h)), if_neg hk]
      rw [e, ← ih, escL_cons, escL_cons]
      by_cases h0 : c = 0
      · rw [if_pos h0, if_pos h0]
        exact ordL_app [0, 255] _ _
      · rw [if_neg h0, if_neg h0]
        exact ordL_same c _ _
    · rw [if_neg (fun h' => h (by injection h'))]
      obtain ⟨r1, e1⟩ := escL_head (c := c) k
      obtain ⟨r2, e2⟩ := escL_head (c := d) l
      rw [e1, e2]
      have hne : c.toNat ≠ d.toNat := fun e => h (UInt8.toNat_inj.1 e)
      rcases Nat.lt_or_gt_of_ne hne with h1 | h1
      · rw [ordL_lt h1]
        exact ordL_lt h1 _ _
      · rw [ordL_gt h1]
        exact ordL_gt h1 _ _
theorem ord_big {s t : Int} (hs : ¬ badT s) (ht : ¬ badT t) : ordL (bigL s) (bigL t) = if t < s then -1 else if s < t then 1 else 0 := by
  unfold badT at hs ht
  unfold bigL
  rw [ordL_val (be8 (-s + 9223372036854775808).toNat) (be8 (-t + 9223372036854775808).toNat) (by rw [be8_length, be8_length]), valB_be8 _ (by omega), valB_be8 _ (by omega)]
  by_cases h1 : t < s
  · rw [if_pos h1, if_pos (by omega)]
  · rw [if_neg h1, if_neg (by omega)]
    by_cases h2 : s < t
    · rw [if_pos h2, if_pos (by omega)]
    · rw [if_neg h2, if_neg (by omega)]
theorem be4_val {n : Nat} (h : n < 4294967296) : valB (be4 n) = n := by
  unfold be4 valB
  simp only [List.foldl_cons, List.foldl_nil, UInt8.toNat_ofNat']
  omega
theorem be4_inj {m n : Nat} (hm : m < 4294967296) (hn : n < 4294967296) (h : be4 m = be4 n) : m = n := by
  rw [← be4_val hm, ← be4_val hn, h]
theorem cls_inj {a b : Bool} (h : cls a = cls b) : a = b := by
  cases a <;> cases b
  · rfl
  · exact absurd h (by decide)
  · exact absurd h (by decide)
  · rfl
theorem ord_elem {e1 e2 : Bool} {x1 x2 : Int} (h1 : ¬ badId x1) (h2 : ¬ badId x2) :
    decide (ordL (elemL e1 x1).1 (elemL e2 x2).1 < 0) = (!e1 && e2 || e1 == e2 && decide (x1 < x2)) ∧ decide ((elemL e1 x1).1 = (elemL e2 x2).1) = (e1 == e2 && x1 == x2) := by
  unfold elemL
  rw [if_neg h1, if_neg h2]
  unfold badId at h1 h2
  obtain ⟨m, rfl⟩ : ∃ m : Nat, x1 = (m : Int) := ⟨x1.toNat, by omega⟩
  obtain ⟨n, rfl⟩ : ∃ n : Nat, x2 = (n : Int) := ⟨x2.toNat, by omega⟩
  rw [Int.toNat_natCast, Int.toNat_natCast]
  simp only
  have hb : decide (ordL (be4 m) (be4 n) < 0) = decide ((m : Int) < (n : Int)) := by
    rw [ordL_val (be4 m) (be4 n) (by simp [be4]), be4_val (by omega), be4_val (by omega), decide_eq_decide]
    split
    · simp; omega
    · split
      · simp; omega
      · simp; omega
  have hi : be4 m = be4 n ↔ (m : Int) = (n : Int) := ⟨fun h => by rw [be4_inj (by omega) (by omega) h], fun h => by rw [show m = n by omega]⟩
  constructor
  · cases e1 <;> cases e2
    · show decide (ordL (1 :: be4 m) (1 :: be4 n) < 0) = _
      rw [ordL_same, hb]; rfl
    · show decide (ordL (1 :: be4 m) (2 :: be4 n) < 0) = _
      rw [ordL_lt (by decide)]; rfl
    · show decide (ordL (2 :: be4 m) (1 :: be4 n) < 0) = _
      rw [ordL_gt (by decide)]; rfl
    · show decide (ordL (2 :: be4 m) (2 :: be4 n) < 0) = _
      rw [ordL_same, hb]; rfl
  · cases e1 <;> cases e2
    · show decide ((1 : UInt8) :: be4 m = 1 :: be4 n) = ((m : Int) == (n : Int))
      rw [show ((m : Int) == (n : Int)) = decide ((m : Int) = (n : Int)) from rfl, decide_eq_decide, ← hi]
      exact ⟨fun h => by injection h, fun h => by rw [h]⟩
    · exact decide_eq_false fun h => by injection h with h _; exact absurd h (by decide)
    · exact decide_eq_false fun h => by injection h with h _; exact absurd h (by decide)
    · show decide ((2 : UInt8) :: be4 m = 2 :: be4 n) = ((m : Int) == (n : Int))
      rw [show ((m : Int) == (n : Int)) = decide ((m : Int) = (n : Int)) from rfl, decide_eq_decide, ← hi]
      exact ⟨fun h => by injection h, fun h => by rw [h]⟩
/-! ### apart -/
theorem propL_inj {e1 e2 : Bool} {x1 x2 : Int} {n1 n2 : List UInt8} (h1 : ¬ badId x1) (h2 : ¬ badId x2) (i1 : isName n1 = true) (i2 : isName n2 = true) :
    (propL e1 x1 n1).1 = (propL e2 x2 n2).1 ↔ (e1 = e2 ∧ x1 = x2) ∧ n1 = n2 := by
  unfold propL
  rw [if_neg h1, if_neg h2, if_pos i1, if_pos i2]
  unfold badId at h1 h2
  obtain ⟨m, rfl⟩ : ∃ m : Nat, x1 = (m : Int) := ⟨x1.toNat, by omega⟩
  obtain ⟨n, rfl⟩ : ∃ n : Nat, x2 = (n : Int) := ⟨x2.toNat, by omega⟩
  rw [Int.toNat_natCast, Int.toNat_natCast]
  constructor
  · intro h
    have h : 3 :: cls e1 :: (be4 m ++ n1) = 3 :: cls e2 :: (be4 n ++ n2) := h
    injection h with _ h
    injection h with hc h
    obtain ⟨ha, hb⟩ := List.append_inj h rfl
    exact ⟨⟨cls_inj hc, by rw [be4_inj (by omega) (by omega) ha]⟩, hb⟩
  · rintro ⟨⟨rfl, h⟩, rfl⟩
    rw [show m = n by omega]
theorem prop_elem {e1 e2 : Bool} {x1 x2 : Int} {n1 : List UInt8} (h1 : ¬ badId x1) (h2 : ¬ badId x2) (i1 : isName n1 = true) : (propL e1 x1 n1).1 ≠ (elemL e2 x2).1 := by
  unfold propL elemL
  rw [if_neg h1, if_neg h2, if_pos i1]
  intro h
  have h : 3 :: cls e1 :: (be4 x1.toNat ++ n1) = (1 + cls e2) :: be4 x2.toNat := h
  injection h with h _
  cases e2
  · exact absurd h (by decide)
  · exact absurd h (by decide)
/-- no escaped key begins another's with its end -/
theorem esc_prefix (z : List UInt8) : ∀ k l : List UInt8, (escL k ++ [0, 0]) <+: (escL l ++ [0, 0] ++ z) → k = l
  | [], [], _ => rfl
  | [], d :: l, h => by
    exfalso
    rw [escL_cons] at h
    by_cases h0 : d = 0
    · rw [if_pos h0] at h
      have h : [0, 0] <+: ((0 : UInt8) :: 255 :: (escL l ++ [0, 0] ++ z)) := h
      have h := (List.cons_prefix_cons.1 h).2
      exact absurd (List.cons_prefix_cons.1 h).1 (by decide)
    · rw [if_neg h0] at h
      have h : [0, 0] <+: (d :: (escL l ++ [0, 0] ++ z)) := h
      exact h0 (List.cons_prefix_cons.1 h).1.symm
  | c :: k, [], h => by
    exfalso
    rw [escL_cons] at h
    by_cases h0 : c = 0
    · rw [if_pos h0] at h
      have h : ((0 : UInt8) :: 255 :: (escL k ++ [0, 0])) <+: (0 :: 0 :: z) := h
      have h := (List.cons_prefix_cons.1 h).2
      exact absurd (List.cons_prefix_cons.1 h).1 (by decide)
    · rw [if_neg h0] at h
      have h : (c :: (escL k ++ [0, 0])) <+: (0 :: 0 :: z) := h
      exact h0 (List.cons_prefix_cons.1 h).1
  | c :: k, d :: l, h => by
    obtain ⟨r1, e1⟩ := escL_head (c := c) k
    obtain ⟨r2, e2⟩ := escL_head (c := d) l
    have hcd : c = d := by
      rw [e1, e2] at h
      exact (List.cons_prefix_cons.1 h).1
    subst hcd
    have ih := esc_prefix z k l
    rw [escL_cons, escL_cons] at h
    by_cases h0 : c = 0
    · rw [if_pos h0, if_pos h0] at h
      have h := (List.cons_prefix_cons.1 (List.cons_prefix_cons.1 h).2).2
      rw [ih h]
    · rw [if_neg h0, if_neg h0] at h
      rw [ih (List.cons_prefix_cons.1 h).2]
theorem versL_ok {k : List UInt8} {t : Int} (h : ¬ badT t) : versL k t = (escL k ++ [0, 0] ++ bigL t, 0) := by unfold versL; rw [if_neg h]
theorem versL_bad {k : List UInt8} {t : Int} (h : badT t) : versL k t = ([], 1) := by unfold versL; rw [if_pos h]
/-- whether a version begins with another one's key -/
theorem begins_iff {k l : List UInt8} {s t : Int} (n : Nat) (hn : n = (escL k ++ [0, 0] ++ bigL s).length - 8) :
    (n ≤ (escL l ++ [0, 0] ++ bigL t).length ∧ (escL l ++ [0, 0] ++ bigL t).take n = (escL k ++ [0, 0] ++ bigL s).take n) ↔ k = l := by
  have hl : n = (escL k ++ [0, 0]).length := by rw [hn, List.length_append, bigL_len]; omega
  have e : (escL k ++ [0, 0] ++ bigL s).take n = escL k ++ [0, 0] := by rw [hl]; exact List.take_left
  rw [e]
  constructor
  · rintro ⟨_, h⟩
    refine esc_prefix (bigL t) k l ?_
    rw [← h]
    exact List.take_prefix _ _
  · rintro rfl
    refine ⟨by rw [hl]; simp, ?_⟩
    rw [hl]; exact List.take_left
theorem bigL_inj {s t : Int} (hs : ¬ badT s) (ht : ¬ badT t) : bigL s = bigL t ↔ s = t := by
  rw [← ordL_zero, ord_big hs ht]
  constructor
  · intro h
    split at h
    · cases h
    · split at h
      · cases h
      · omega
  · rintro rfl
    rw [if_neg (by omega), if_neg (by omega)]
theorem vers_same {k l : List UInt8} {s t : Int} (hs : ¬ badT s) (ht : ¬ badT t) : (escL k ++ [0, 0] ++ bigL s = escL l ++ [0, 0] ++ bigL t) ↔ k = l ∧ s = t := by
  constructor
  · intro h
    have hk : k = l := by
      refine esc_prefix (bigL t) k l ?_
      rw [← h]
      exact List.prefix_append _ _
    subst hk
    exact ⟨rfl, (bigL_inj hs ht).1 (List.append_cancel_left h)⟩
  · rintro ⟨rfl, rfl⟩; rfl
end Go.Proofs.YtakgoekfnhkgaaaDoor.Rd
