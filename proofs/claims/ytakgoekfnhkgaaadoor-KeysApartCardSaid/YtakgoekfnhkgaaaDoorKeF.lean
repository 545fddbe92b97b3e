/- Keys escaped and brought back: plain laws. Conditions: none. -/
import Derived.Lib.CountLaws
import Derived.Test.YtakgoekfnhkgaaaDoorKeE
namespace Go.Proofs.YtakgoekfnhkgaaaDoor.Rd
open Go.Dn Go.RowKit Go.Lib
set_option linter.unusedVariables false
set_option linter.unusedSimpArgs false
set_option maxRecDepth 100000
/-- cut at the escaped noughts -/
def cutE : List UInt8 → List (List UInt8) × List UInt8
  | [] => ([], [])
  | [c] => ([], [c])
  | c :: d :: l => if c = 0 ∧ d = 255 then ([] :: (cutE l).1, (cutE l).2) else match (cutE (d :: l)).1 with
    | [] => ([], c :: (cutE (d :: l)).2)
    | s :: r => ((c :: s) :: r, (cutE (d :: l)).2)
abbrev EO : List UInt8 := [0, 255]
def unescL (l : List UInt8) : List UInt8 := J [0] (cutE l).1 (cutE l).2
theorem pre_EO (c : UInt8) (l : List UInt8) : EO.isPrefixOf (c :: l) = true ↔ c = 0 ∧ ∃ r, l = 255 :: r := by
  cases l with
  | nil => simp [List.isPrefixOf]
  | cons d r =>
    show ((0 : UInt8) == c && ((255 : UInt8) == d && true)) = true ↔ _
    rw [Bool.and_true, Bool.and_eq_true, beq_iff_eq, beq_iff_eq]
    constructor
    · rintro ⟨rfl, rfl⟩; exact ⟨rfl, r, rfl⟩
    · rintro ⟨rfl, r', h⟩; injection h with h _; exact ⟨rfl, h.symm⟩
theorem cutE_hit (c d : UInt8) (l : List UInt8) (q : c = 0 ∧ d = 255) : cutE (c :: d :: l) = ([] :: (cutE l).1, (cutE l).2) := by
  rw [cutE, if_pos q]
theorem cutE_miss (c d : UInt8) (l : List UInt8) (q : ¬ (c = 0 ∧ d = 255)) : cutE (c :: d :: l) = match (cutE (d :: l)).1 with
    | [] => ([], c :: (cutE (d :: l)).2)
    | s :: r => ((c :: s) :: r, (cutE (d :: l)).2) := by
  rw [cutE, if_neg q]
/-- what cutE says -/
theorem cutE_spec : ∀ l : List UInt8, J EO (cutE l).1 (cutE l).2 = l ∧ count l EO = (cutE l).1.length ∧
    (match (cutE l).1 with | [] => index l EO = -1 | s :: r => index l EO = (s.length : Int))
  | [] => ⟨rfl, rfl, rfl⟩
  | [c] => ⟨rfl, by
      have : index [c] EO = -1 := by
        unfold index
        rw [if_neg (by rw [pre_EO]; rintro ⟨_, r, h⟩; cases h)]; rfl
      exact count_miss this, by
      show index [c] EO = -1
      unfold index
      rw [if_neg (by rw [pre_EO]; rintro ⟨_, r, h⟩; cases h)]; rfl⟩
  | c :: d :: l => by
    unfold cutE
    by_cases q : c = 0 ∧ d = 255
    · obtain ⟨rfl, rfl⟩ := q
      obtain ⟨h1, h2, h3⟩ := cutE_spec l
      rw [if_pos ⟨rfl, rfl⟩]
      have hi : index (0 :: 255 :: l) EO = ((0 : Nat) : Int) := by
        unfold index
        rw [if_pos (by rw [pre_EO]; exact ⟨rfl, l, rfl⟩)]; rfl
      refine ⟨?_, ?_, hi⟩
      · show [] ++ (EO ++ J EO (cutE l).1 (cutE l).2) = _
        rw [h1]; rfl
      · rw [count_hit (by simp) hi]
        show 1 + count l EO = _
        rw [h2, List.length_cons]; omega
    · rw [if_neg q]
      obtain ⟨h1, h2, h3⟩ := cutE_spec (d :: l)
      have hp : ¬ EO.isPrefixOf (c :: d :: l) = true := by
        rw [pre_EO]
        rintro ⟨rfl, r, h⟩
        injection h with h _
        exact q ⟨rfl, h⟩
      have hix : index (c :: d :: l) EO = if index (d :: l) EO == -1 then -1 else index (d :: l) EO + 1 := by
        conv => lhs; unfold index
        rw [if_neg hp]
      cases hs : (cutE (d :: l)).1 with
      | nil =>
        rw [hs] at h1 h2 h3
        simp only at h3 ⊢
        have hm : index (c :: d :: l) EO = -1 := by rw [hix, h3]; rfl
        refine ⟨?_, count_miss hm, hm⟩
        show c :: (cutE (d :: l)).2 = _
        have : (cutE (d :: l)).2 = d :: l := h1
        rw [this]
      | cons s r =>
        rw [hs] at h1 h2 h3
        simp only at h3 ⊢
        have hm : index (c :: d :: l) EO = ((s.length + 1 : Nat) : Int) := by
          rw [hix, h3, if_neg (by rw [beq_iff_eq]; omega)]; omega
        refine ⟨?_, ?_, by rw [hm, List.length_cons]⟩
        · show c :: (s ++ (EO ++ J EO r (cutE (d :: l)).2)) = _
          have : s ++ (EO ++ J EO r (cutE (d :: l)).2) = d :: l := h1
          rw [this]
        · rw [count_hit (by simp) hm]
          have h2' := count_hit (s := d :: l) (sub := EO) (by simp) h3
          rw [h2] at h2'
          have e : (c :: d :: l).drop (s.length + 1 + EO.length) = (d :: l).drop (s.length + EO.length) := by
            rw [show s.length + 1 + EO.length = (s.length + EO.length) + 1 by omega, List.drop_succ_cons]
          rw [e]
          simp only [List.length_cons] at h2' ⊢
          omega
theorem cutE_tail : ∀ (n : Nat) (l : List UInt8), l.length = n → ∀ s r, (cutE l).1 = s :: r → cutE (l.drop (s.length + 2)) = (r, (cutE l).2) := by
  intro n
  induction n using Nat.strongRecOn with
  | ind n ih =>
    intro l hl s r h
    match l, hl, h with
    | [], _, h => cases h
    | [c], _, h => cases h
    | c :: d :: l, hl, h =>
      by_cases q : c = 0 ∧ d = 255
      · rw [cutE_hit c d l q] at h ⊢
        injection h with h1 h2
        subst h1; subst h2
        rfl
      · rw [cutE_miss c d l q] at h ⊢
        cases hs : (cutE (d :: l)).1 with
        | nil => rw [hs] at h; cases h
        | cons s' r' =>
          rw [hs] at h
          simp only at h ⊢
          injection h with h1 h2
          subst h1; subst h2
          have := ih (d :: l).length (by rw [← hl]; simp) (d :: l) rfl s' r' hs
          rw [List.length_cons, show s'.length + 1 + 2 = (s'.length + 2) + 1 by omega, List.drop_succ_cons]
          exact this
theorem cutE_suf : ∀ (segs : List (List UInt8)) (l : List UInt8), (cutE l).1 = segs → ∀ r, r <:+ segs → ∃ p, p ≤ l.length ∧ cutE (l.drop p) = (r, (cutE l).2) := by
  intro segs
  induction segs with
  | nil =>
    intro l h r hr
    have : r = [] := List.suffix_nil.1 hr
    subst this
    refine ⟨0, Nat.zero_le _, ?_⟩
    rw [List.drop_zero, ← h]
  | cons s segs ih =>
    intro l h r hr
    rcases List.suffix_cons_iff.1 hr with rfl | hr
    · exact ⟨0, Nat.zero_le _, by rw [List.drop_zero, ← h]⟩
    · have ht := cutE_tail l.length l rfl s segs h
      obtain ⟨p, hp, e⟩ := ih (l.drop (s.length + 2)) (by rw [ht]) r hr
      have hle : s.length + 2 ≤ l.length := by
        have h1 := (cutE_spec l).1
        rw [h] at h1
        have := congrArg List.length h1
        simp only [J, List.length_append, List.length_cons, List.length_nil] at this
        omega
      refine ⟨s.length + 2 + p, ?_, ?_⟩
      · rw [List.length_drop] at hp; omega
      · rw [← List.drop_drop, e, ht]
/-- a rest that J tells is cut so -/
theorem cutE_J {l : List UInt8} {r : List (List UInt8)} {p : Nat} (hr : r <:+ (cutE l).1) (h : l.drop p = J EO r (cutE l).2) : cutE (l.drop p) = (r, (cutE l).2) := by
  obtain ⟨p', _, e⟩ := cutE_suf _ l rfl r hr
  have h1 := (cutE_spec (l.drop p')).1
  rw [e] at h1
  have h1 : J EO r (cutE l).2 = l.drop p' := h1
  rw [h, h1, e]
theorem unescL_len (l : List UInt8) : (unescL l).length ≤ l.length := by
  have h1 := congrArg List.length (cutE_spec l).1
  rw [J_len] at h1
  unfold unescL
  rw [J_len]
  simp only [List.length_cons, List.length_nil] at h1 ⊢
  omega
/-! ### the document's way -/
def decL : List UInt8 → Option (List UInt8)
  | [] => some []
  | [c] => if c = 0 then none else some [c]
  | c :: d :: l => if c = 0 then (if d = 255 then (decL l).map (0 :: ·) else none) else (decL (d :: l)).map (c :: ·)
theorem decL_esc : ∀ k : List UInt8, decL (escL k) = some k
  | [] => rfl
  | c :: k => by
    have ih := decL_esc k
    unfold escL
    by_cases q : c = 0
    · subst q
      rw [if_pos rfl]
      unfold decL
      rw [if_pos rfl, if_pos rfl, ih]; rfl
    · rw [if_neg q]
      cases hk : escL k with
      | nil =>
        rw [hk] at ih
        have : k = [] := by
          have h : decL [] = some k := ih
          injection h with h
          exact h.symm
        subst this
        unfold decL
        rw [if_neg q]
      | cons d l =>
        rw [hk] at ih
        unfold decL
        rw [if_neg q, ih]; rfl
theorem esc_decL : ∀ (n : Nat) (l k : List UInt8), l.length = n → decL l = some k → escL k = l ∧ unescL l = k := by
  intro n
  induction n using Nat.strongRecOn with
  | ind n ih =>
    intro l k hl h
    match l, hl, h with
    | [], _, h => injection h with h; subst h; exact ⟨rfl, rfl⟩
    | [c], _, h =>
      unfold decL at h
      by_cases q : c = 0
      · rw [if_pos q] at h; cases h
      · rw [if_neg q] at h
        injection h with h
        subst h
        refine ⟨?_, rfl⟩
        show (if c = 0 then _ else c :: escL []) = _
        rw [if_neg q]; rfl
    | c :: d :: l, hl, h =>
      unfold decL at h
      by_cases q : c = 0
      · rw [if_pos q] at h
        by_cases q2 : d = 255
        · rw [if_pos q2] at h
          obtain ⟨k', hk, rfl⟩ := Option.map_eq_some_iff.1 h
          obtain ⟨e1, e2⟩ := ih l.length (by rw [← hl]; simp only [List.length_cons]; omega) l k' rfl hk
          subst q; subst q2
          refine ⟨?_, ?_⟩
          · show (if (0 : UInt8) = 0 then 0 :: 255 :: escL k' else _) = _
            rw [if_pos rfl, e1]
          · unfold unescL cutE
            rw [if_pos ⟨rfl, rfl⟩]
            show [] ++ ([0] ++ J [0] (cutE l).1 (cutE l).2) = _
            have : J [0] (cutE l).1 (cutE l).2 = k' := e2
            rw [this]; rfl
        · rw [if_neg q2] at h; cases h
      · rw [if_neg q] at h
        obtain ⟨k', hk, rfl⟩ := Option.map_eq_some_iff.1 h
        obtain ⟨e1, e2⟩ := ih (d :: l).length (by rw [← hl]; simp) (d :: l) k' rfl hk
        refine ⟨?_, ?_⟩
        · show (if c = 0 then _ else c :: escL k') = _
          rw [if_neg q, e1]
        · unfold unescL cutE
          rw [if_neg fun h => q h.1]
          have e2 : J [0] (cutE (d :: l)).1 (cutE (d :: l)).2 = k' := e2
          cases hs : (cutE (d :: l)).1 with
          | nil =>
            rw [hs] at e2
            simp only
            show c :: (cutE (d :: l)).2 = _
            rw [← e2]; rfl
          | cons s r =>
            rw [hs] at e2
            simp only
            show c :: (s ++ ([0] ++ J [0] r (cutE (d :: l)).2)) = _
            rw [← e2]; rfl
theorem unesc_esc (k : List UInt8) : unescL (escL k) = k := (esc_decL _ _ _ rfl (decL_esc k)).2
theorem esc_iff (l : List UInt8) : escL (unescL l) = l ↔ decL l = some (unescL l) := by
  constructor
  · intro h
    have := decL_esc (unescL l)
    rw [h] at this; exact this
  · intro h
    exact (esc_decL _ _ _ rfl h).1
theorem decL_none (l : List UInt8) (h : decL l = none) : escL (unescL l) ≠ l := fun e => by
  rw [esc_iff, h] at e; cases e
end Go.Proofs.YtakgoekfnhkgaaaDoor.Rd
