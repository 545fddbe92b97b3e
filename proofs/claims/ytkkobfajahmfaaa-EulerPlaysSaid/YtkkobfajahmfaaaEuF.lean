/- Rows of nodes, in plain terms: each node stands in one row; what a join, a cut and a new node make of the rows. Conditions: none. -/
import Derived.Test.YtkkobfajahmfaaaEuE
namespace Go.Dn
set_option linter.unusedVariables false

def Disj (s t : List Nat) : Prop := ∀ x, x ∈ s → x ∉ t
theorem one_of {α : Type} {f : α → List Nat} : ∀ {L : List α}, L.Pairwise (fun s t => Disj (f s) (f t)) → ∀ {s t : α} {x : Nat}, s ∈ L → t ∈ L → x ∈ f s → x ∈ f t → s = t
  | [], _, s, t, x, hs, _, _, _ => absurd hs (by simp)
  | u :: L, h, s, t, x, hs, ht, xs, xt => by
    rw [List.pairwise_cons] at h
    rcases List.mem_cons.1 hs with e1 | hs <;> rcases List.mem_cons.1 ht with e2 | ht
    · rw [e1, e2]
    · rw [e1] at xs; exact absurd xt (h.1 t ht x xs)
    · rw [e2] at xt; exact absurd xs (h.1 s hs x xt)
    · exact one_of h.2 hs ht xs xt
structure RowsOk (n : Nat) (rows : List (List Nat)) : Prop where
  nd : ∀ l ∈ rows, l.Nodup
  ne : ∀ l ∈ rows, l ≠ []
  dj : rows.Pairwise Disj
  mem : ∀ i, (∃ l ∈ rows, i ∈ l) ↔ 0 < i ∧ i < n
def rowOf (rows : List (List Nat)) (a : Nat) : List Nat := (rows.find? fun l => decide (a ∈ l)).getD []
theorem RowsOk.one {n : Nat} {rows : List (List Nat)} (h : RowsOk n rows) {s t : List Nat} {x : Nat} (hs : s ∈ rows) (ht : t ∈ rows) (xs : x ∈ s) (xt : x ∈ t) : s = t := one_of (f := id) h.dj hs ht xs xt
theorem RowsOk.rowOf_mem {n : Nat} {rows : List (List Nat)} (h : RowsOk n rows) {a : Nat} (ha : 0 < a ∧ a < n) : rowOf rows a ∈ rows ∧ a ∈ rowOf rows a := by
  obtain ⟨l, hl, hal⟩ := (h.mem a).2 ha
  unfold rowOf
  cases hf : rows.find? fun l => decide (a ∈ l) with
  | none => rw [List.find?_eq_none] at hf; exact absurd (hf l hl) (by simpa using hal)
  | some m => exact ⟨List.mem_of_find?_eq_some hf, by simpa using List.find?_some hf⟩
theorem RowsOk.rowOf_eq {n : Nat} {rows : List (List Nat)} (h : RowsOk n rows) {a : Nat} {l : List Nat} (hl : l ∈ rows) (ha : a ∈ l) : rowOf rows a = l := by
  have hm := h.rowOf_mem ((h.mem a).1 ⟨l, hl, ha⟩)
  exact h.one hm.1 hl hm.2 ha
def joinR (rows : List (List Nat)) (a b : Nat) : List (List Nat) := rows.filter (fun l => decide (a ∉ l ∧ b ∉ l)) ++ [rowOf rows a ++ rowOf rows b]
def pieces (a : Nat) (l : List Nat) : List (List Nat) := if a ∈ l then (if l.idxOf a = 0 then [l] else [l.take (l.idxOf a), l.drop (l.idxOf a)]) else [l]
def cutR (rows : List (List Nat)) (a : Nat) : List (List Nat) := rows.flatMap (pieces a)
theorem RowsOk.join {n : Nat} {rows : List (List Nat)} (h : RowsOk n rows) {a b : Nat} (ha : 0 < a ∧ a < n) (hb : 0 < b ∧ b < n) (hab : rowOf rows a ≠ rowOf rows b) : RowsOk n (joinR rows a b) := by
  obtain ⟨ma, aa⟩ := h.rowOf_mem ha
  obtain ⟨mb, bb⟩ := h.rowOf_mem hb
  have dj : Disj (rowOf rows a) (rowOf rows b) := fun x h1 h2 => hab (h.one ma mb h1 h2)
  have mf : ∀ l, l ∈ joinR rows a b ↔ (l ∈ rows ∧ a ∉ l ∧ b ∉ l) ∨ l = rowOf rows a ++ rowOf rows b := fun l => by simp [joinR]
  refine ⟨?_, ?_, ?_, ?_⟩
  · intro l hl
    rcases (mf l).1 hl with ⟨hl, -⟩ | rfl
    · exact h.nd l hl
    · exact List.nodup_append.2 ⟨h.nd _ ma, h.nd _ mb, fun x h1 y h2 e => dj x h1 (e ▸ h2)⟩
  · intro l hl
    rcases (mf l).1 hl with ⟨hl, -⟩ | rfl
    · exact h.ne l hl
    · intro e; rw [List.append_eq_nil_iff] at e; exact h.ne _ ma e.1
  · refine List.pairwise_append.2 ⟨h.dj.filter _, List.pairwise_singleton _ _, ?_⟩
    intro s hs t ht
    simp only [List.mem_singleton] at ht; subst ht
    simp only [List.mem_filter, decide_eq_true_eq] at hs
    intro x xs xt
    rcases List.mem_append.1 xt with xt | xt
    · exact hs.2.1 (h.one hs.1 ma xs xt ▸ aa)
    · exact hs.2.2 (h.one hs.1 mb xs xt ▸ bb)
  · intro i
    rw [← h.mem i]
    constructor
    · rintro ⟨l, hl, hi⟩
      rcases (mf l).1 hl with ⟨hl, -⟩ | rfl
      · exact ⟨l, hl, hi⟩
      · rcases List.mem_append.1 hi with hi | hi
        · exact ⟨_, ma, hi⟩
        · exact ⟨_, mb, hi⟩
    · rintro ⟨l, hl, hi⟩
      by_cases h1 : a ∈ l
      · exact ⟨_, (mf _).2 (.inr rfl), List.mem_append.2 (.inl (by rw [h.rowOf_eq hl h1]; exact hi))⟩
      by_cases h2 : b ∈ l
      · exact ⟨_, (mf _).2 (.inr rfl), List.mem_append.2 (.inr (by rw [h.rowOf_eq hl h2]; exact hi))⟩
      exact ⟨l, (mf l).2 (.inl ⟨hl, h1, h2⟩), hi⟩
theorem pieces_flat (a : Nat) (l : List Nat) : (pieces a l).flatten = l := by
  unfold pieces
  split
  · split <;> simp
  · simp
theorem pieces_ne {a : Nat} {l p : List Nat} (hl : l ≠ []) (hp : p ∈ pieces a l) : p ≠ [] := by
  unfold pieces at hp
  split at hp
  · rename_i ha
    have := idxOf_lt ha
    split at hp
    · simp at hp; subst hp; exact hl
    · simp at hp
      rcases hp with rfl | rfl
      · intro e; have := congrArg List.length e; rw [List.length_take, List.length_nil] at this; omega
      · intro e; have := congrArg List.length e; rw [List.length_drop, List.length_nil] at this; omega
  · simp at hp; subst hp; exact hl
where idxOf_lt {a : Nat} {l : List Nat} (h : a ∈ l) : l.idxOf a < l.length := List.idxOf_lt_length_of_mem h
theorem RowsOk.cut {n : Nat} {rows : List (List Nat)} (h : RowsOk n rows) (a : Nat) : RowsOk n (cutR rows a) := by
  have sub : ∀ l p, p ∈ pieces a l → p.Sublist l := fun l p hp => by
    unfold pieces at hp
    split at hp
    · split at hp
      · simp at hp; subst hp; exact List.Sublist.refl _
      · simp at hp
        rcases hp with rfl | rfl
        · exact List.take_sublist _ _
        · exact List.drop_sublist _ _
    · simp at hp; subst hp; exact List.Sublist.refl _
  refine ⟨?_, ?_, ?_, ?_⟩
  · intro p hp
    obtain ⟨l, hl, hp⟩ := List.mem_flatMap.1 hp
    exact (h.nd l hl).sublist (sub l p hp)
  · intro p hp
    obtain ⟨l, hl, hp⟩ := List.mem_flatMap.1 hp
    exact pieces_ne (h.ne l hl) hp
  · refine List.pairwise_flatMap.2 ⟨?_, ?_⟩
    · intro l hl
      unfold pieces
      split
      · split
        · exact List.pairwise_singleton _ _
        · rw [List.pairwise_cons]
          refine ⟨fun t ht => ?_, List.pairwise_singleton _ _⟩
          simp only [List.mem_singleton] at ht; subst ht
          intro x hx hy
          have hz := h.nd l hl
          rw [← List.take_append_drop (l.idxOf a) l, List.nodup_append] at hz
          exact hz.2.2 x hx x hy rfl
      · exact List.pairwise_singleton _ _
    · exact h.dj.imp fun hd p hp q hq x hx hy => hd x ((sub _ _ hp).subset hx) ((sub _ _ hq).subset hy)
  · intro i
    rw [← h.mem i]
    constructor
    · rintro ⟨p, hp, hi⟩
      obtain ⟨l, hl, hp⟩ := List.mem_flatMap.1 hp
      exact ⟨l, hl, (sub l p hp).subset hi⟩
    · rintro ⟨l, hl, hi⟩
      rw [← pieces_flat a l, List.mem_flatten] at hi
      obtain ⟨p, hp, hi⟩ := hi
      exact ⟨p, List.mem_flatMap.2 ⟨l, hl, hp⟩, hi⟩
theorem RowsOk.make {n : Nat} {rows : List (List Nat)} (h : RowsOk n rows) (hn : 0 < n) : RowsOk (n + 1) (rows ++ [[n]]) := by
  refine ⟨?_, ?_, ?_, ?_⟩
  · intro l hl
    rcases List.mem_append.1 hl with hl | hl
    · exact h.nd l hl
    · simp at hl; subst hl; simp
  · intro l hl
    rcases List.mem_append.1 hl with hl | hl
    · exact h.ne l hl
    · simp at hl; subst hl; simp
  · refine List.pairwise_append.2 ⟨h.dj, List.pairwise_singleton _ _, fun s hs t ht => ?_⟩
    simp only [List.mem_singleton] at ht; subst ht
    intro x hx hy
    simp at hy; subst hy
    have := (h.mem x).1 ⟨s, hs, hx⟩; omega
  · intro i
    constructor
    · rintro ⟨l, hl, hi⟩
      rcases List.mem_append.1 hl with hl | hl
      · have := (h.mem i).1 ⟨l, hl, hi⟩; omega
      · simp at hl; subst hl; simp at hi; omega
    · rintro ⟨h1, h2⟩
      by_cases e : i = n
      · exact ⟨[n], by simp, by simp [e]⟩
      · obtain ⟨l, hl, hi⟩ := (h.mem i).2 ⟨h1, by omega⟩
        exact ⟨l, by simp [hl], hi⟩
end Go.Dn
