/- Transactions, plainly: all that there ever were, the last time; what each call makes of them. Conditions: none. -/
import Derived.Test.YtbfcjnbjhpfdfaaMapG
namespace Go.Dn
set_option linter.unusedVariables false
abbrev Rf := Bool × Int
structure Tx where
  start : Int
  tk : List Rf
  live : Bool
  at_ : Int
structure Tb where
  txs : List Tx
  last : Int
abbrev mxT : Int := 1099511627776
/-- the n-th, if it is under way -/
def Tb.get (t : Tb) (n : Int) : Option Tx := if 1 ≤ n then (match t.txs[(n - 1).toNat]? with | some x => if x.live then some x else none | none => none) else none
def Tb.put (t : Tb) (n : Int) (x : Tx) : Tb := ⟨t.txs.set (n - 1).toNat x, t.last⟩
def liveF (i : Nat) : List Tx → List Int
  | [] => []
  | x :: r => if x.live then ((i : Int) + 1) :: liveF (i + 1) r else liveF (i + 1) r
def Tb.lives (t : Tb) : List Int := liveF 0 t.txs
def horF (h : Int) : List Tx → Int
  | [] => h
  | x :: r => horF (if x.live = true ∧ x.start < h then x.start else h) r
def Tb.hor (t : Tb) : Int := horF t.last t.txs
def common (a b : List Rf) : Bool := a.any fun x => b.contains x
def Tb.clash (t : Tb) (x : Tx) : Bool := t.txs.any fun y => decide (y.at_ > x.start) && common y.tk x.tk
def Tb.begin (t : Tb) : Tb × Int × Int := if 8 ≤ t.lives.length then (t, 0, 142) else (⟨t.txs ++ [⟨t.last, [], true, -1⟩], t.last⟩, (t.txs.length : Int) + 1, 0)
def Tb.touch (t : Tb) (n : Int) (l : List Rf) : Tb × Int := match t.get n with
  | none => (t, 141)
  | some x => (t.put n { x with tk := x.tk ++ l }, 0)
def Tb.try_ (t : Tb) (n : Int) : Int := match t.get n with
  | none => 141
  | some x => if t.clash x then 140 else if x.tk ≠ [] ∧ mxT ≤ t.last then 4 else 0
def Tb.commit (t : Tb) (n : Int) : Tb × Int × Int := match t.get n with
  | none => (t, 0, 141)
  | some x => if t.try_ n ≠ 0 then (t.put n { x with live := false }, 0, t.try_ n)
    else if x.tk = [] then (t.put n { x with live := false }, x.start, 0)
    else (⟨(t.put n { x with live := false, at_ := t.last + 1 }).txs, t.last + 1⟩, t.last + 1, 0)
def Tb.abort (t : Tb) (n : Int) : Tb × Int := match t.get n with
  | none => (t, 141)
  | some x => (t.put n { x with live := false }, 0)
def Tb.startOf (t : Tb) (n : Int) : Int × Int := match t.get n with
  | none => (0, 141)
  | some x => (x.start, 0)
def Tb.new (l : Int) : Tb := ⟨[], if mxT < (if 0 > l then 0 else l) then mxT else (if 0 > l then 0 else l)⟩
/-! ### the n-th -/
theorem Tb.get_some {t : Tb} {n : Int} {x : Tx} (h : t.get n = some x) : 1 ≤ n ∧ t.txs[(n - 1).toNat]? = some x ∧ x.live = true := by
  unfold Tb.get at h
  split at h
  · rename_i h1
    split at h
    · rename_i y hy
      split at h
      · rename_i hl
        injection h with h; subst h; exact ⟨h1, hy, hl⟩
      · cases h
    · cases h
  · cases h
theorem Tb.get_of {t : Tb} {n : Int} {x : Tx} (h1 : 1 ≤ n) (h2 : t.txs[(n - 1).toNat]? = some x) (h3 : x.live = true) : t.get n = some x := by
  unfold Tb.get
  rw [if_pos h1, h2]; simp [h3]
theorem Tb.get_iff {t : Tb} {n : Int} {x : Tx} : t.get n = some x ↔ 1 ≤ n ∧ t.txs[(n - 1).toNat]? = some x ∧ x.live = true := ⟨Tb.get_some, fun ⟨a, b, c⟩ => Tb.get_of a b c⟩
theorem Tb.get_mem {t : Tb} {n : Int} {x : Tx} (h : t.get n = some x) : x ∈ t.txs := List.mem_of_getElem? (Tb.get_some h).2.1
theorem Tb.get_le {t : Tb} {n : Int} {x : Tx} (h : t.get n = some x) : n ≤ t.txs.length := by
  obtain ⟨h1, h2, _⟩ := Tb.get_some h
  have := (List.getElem?_eq_some_iff.1 h2).1
  omega
theorem Tb.get_put {t : Tb} {n : Int} {x y : Tx} (h : t.get n = some x) (m : Int) : (t.put n y).get m = if m = n then (if y.live then some y else none) else t.get m := by
  obtain ⟨h1, h2, h3⟩ := Tb.get_some h
  have hlt := (List.getElem?_eq_some_iff.1 h2).1
  by_cases e : m = n
  · subst e
    rw [if_pos rfl]
    unfold Tb.get Tb.put
    simp only
    rw [if_pos h1, List.getElem?_set_self hlt]
  · rw [if_neg e]
    unfold Tb.get Tb.put
    simp only
    by_cases hm : 1 ≤ m
    · rw [if_pos hm, if_pos hm, List.getElem?_set_ne (by omega)]
    · rw [if_neg hm, if_neg hm]
theorem Tb.mem_put {t : Tb} {n : Int} {x y z : Tx} (h : t.get n = some x) (hz : z ∈ (t.put n y).txs) : z = y ∨ z ∈ t.txs := by
  unfold Tb.put at hz
  exact (List.mem_or_eq_of_mem_set hz).symm
/-- the others stay -/
theorem Tb.put_mem {t : Tb} {n : Int} {x y z : Tx} (h : t.get n = some x) (hz : z ∈ t.txs) (hne : z.at_ ≠ x.at_) : z ∈ (t.put n y).txs := by
  obtain ⟨h1, h2, h3⟩ := Tb.get_some h
  obtain ⟨j, hj, rfl⟩ := List.getElem_of_mem hz
  unfold Tb.put
  have : (n - 1).toNat ≠ j := fun e => hne (by rw [e, List.getElem?_eq_getElem hj] at h2; injection h2 with h2; rw [h2])
  refine List.mem_iff_getElem?.2 ⟨j, ?_⟩
  rw [List.getElem?_set_ne this, List.getElem?_eq_getElem hj]
theorem Tb.put_self {t : Tb} {n : Int} {x y : Tx} (h : t.get n = some x) : y ∈ (t.put n y).txs := by
  obtain ⟨h1, h2, h3⟩ := Tb.get_some h
  have hlt := (List.getElem?_eq_some_iff.1 h2).1
  refine List.mem_iff_getElem?.2 ⟨(n - 1).toNat, ?_⟩
  unfold Tb.put
  rw [List.getElem?_set_self hlt]
/-! ### who is under way -/
theorem mem_liveF {n : Int} : ∀ {l : List Tx} {i : Nat}, n ∈ liveF i l ↔ ∃ x, (i : Int) + 1 ≤ n ∧ l[(n - 1 - i).toNat]? = some x ∧ x.live = true
  | [], i => by simp [liveF]
  | y :: l, i => by
    have ih := mem_liveF (n := n) (l := l) (i := i + 1)
    have key : (∃ x, ((i + 1 : Nat) : Int) + 1 ≤ n ∧ l[(n - 1 - ((i + 1 : Nat) : Int)).toNat]? = some x ∧ x.live = true) ↔ ∃ x, (i : Int) + 1 < n ∧ (y :: l)[(n - 1 - i).toNat]? = some x ∧ x.live = true := by
      constructor
      · rintro ⟨x, h1, h2, h3⟩
        refine ⟨x, by omega, ?_, h3⟩
        rw [show (n - 1 - (i : Int)).toNat = (n - 1 - ((i + 1 : Nat) : Int)).toNat + 1 by omega, List.getElem?_cons_succ]; exact h2
      · rintro ⟨x, h1, h2, h3⟩
        refine ⟨x, by omega, ?_, h3⟩
        rw [show (n - 1 - (i : Int)).toNat = (n - 1 - ((i + 1 : Nat) : Int)).toNat + 1 by omega, List.getElem?_cons_succ] at h2; exact h2
    unfold liveF
    split
    · rename_i hy
      rw [List.mem_cons, ih, key]
      constructor
      · rintro (e | ⟨x, h1, h⟩)
        · subst e
          exact ⟨y, by omega, by simp, hy⟩
        · exact ⟨x, by omega, h⟩
      · rintro ⟨x, h1, h⟩
        by_cases e : n = i + 1
        · exact .inl e
        · exact .inr ⟨x, by omega, h⟩
    · rename_i hy
      rw [ih, key]
      constructor
      · rintro ⟨x, h1, h⟩; exact ⟨x, by omega, h⟩
      · rintro ⟨x, h1, h2, h3⟩
        refine ⟨x, ?_, h2, h3⟩
        by_cases e : n = i + 1
        · subst e
          rw [show ((i : Int) + 1 - 1 - i).toNat = 0 by omega, List.getElem?_cons_zero] at h2
          injection h2 with h2; subst h2; exact absurd h3 hy
        · omega
theorem Tb.mem_lives {t : Tb} {n : Int} : n ∈ t.lives ↔ ∃ x, t.get n = some x := by
  unfold Tb.lives
  rw [mem_liveF]
  constructor
  · rintro ⟨x, h1, h2, h3⟩
    exact ⟨x, Tb.get_of (by omega) (by rw [show (n - 1 : Int) = n - 1 - (0 : Nat) by omega]; exact h2) h3⟩
  · rintro ⟨x, h⟩
    obtain ⟨h1, h2, h3⟩ := Tb.get_some h
    exact ⟨x, by omega, by rw [show (n - 1 - ((0 : Nat) : Int)) = n - 1 by omega]; exact h2, h3⟩
theorem liveF_gt : ∀ {l : List Tx} {i : Nat}, ∀ n ∈ liveF i l, (i : Int) < n := by
  intro l i n h
  obtain ⟨x, h1, _⟩ := mem_liveF.1 h
  omega
theorem liveF_lt : ∀ {l : List Tx} {i : Nat}, (liveF i l).Pairwise (· < ·)
  | [], _ => .nil
  | x :: l, i => by
    unfold liveF
    split
    · refine List.pairwise_cons.2 ⟨fun n hn => ?_, liveF_lt⟩
      have := liveF_gt n hn
      omega
    · exact liveF_lt
theorem Tb.lives_lt (t : Tb) : t.lives.Pairwise (· < ·) := liveF_lt
theorem Tb.lives_nd (t : Tb) : t.lives.Nodup := t.lives_lt.imp fun h e => by omega
theorem length_of_iff {α : Type} [DecidableEq α] {l m : List α} (hl : l.Nodup) (hm : m.Nodup) (h : ∀ x, x ∈ l ↔ x ∈ m) : l.Perm m := (List.perm_ext_iff_of_nodup hl hm).2 h
/-! ### the horizon -/
structure IsHor (t : Tb) (h : Int) : Prop where
  le : h ≤ t.last
  all : ∀ n x, t.get n = some x → h ≤ x.start
  one : h = t.last ∨ ∃ n x, t.get n = some x ∧ x.start = h
theorem IsHor.uniq {t : Tb} {a b : Int} (h : IsHor t a) (k : IsHor t b) : a = b := by
  have h1 : a ≤ b := by
    rcases k.one with e | ⟨n, x, hx, e⟩
    · rw [e]; exact h.le
    · rw [← e]; exact h.all n x hx
  have h2 : b ≤ a := by
    rcases h.one with e | ⟨n, x, hx, e⟩
    · rw [e]; exact k.le
    · rw [← e]; exact k.all n x hx
  omega
theorem horF_spec : ∀ (l : List Tx) (h : Int), horF h l ≤ h ∧ (∀ x ∈ l, x.live = true → horF h l ≤ x.start) ∧ (horF h l = h ∨ ∃ x ∈ l, x.live = true ∧ x.start = horF h l)
  | [], h => ⟨Int.le_refl _, by simp, .inl rfl⟩
  | x :: l, h => by
    obtain ⟨h1, h2, h3⟩ := horF_spec l (if x.live = true ∧ x.start < h then x.start else h)
    unfold horF
    by_cases hc : x.live = true ∧ x.start < h
    · rw [if_pos hc] at h1 h2 h3 ⊢
      refine ⟨by omega, fun y hy hl => ?_, ?_⟩
      · rcases List.mem_cons.1 hy with rfl | hy
        · exact h1
        · exact h2 y hy hl
      · rcases h3 with h3 | ⟨y, hy, hl, e⟩
        · exact .inr ⟨x, by simp, hc.1, h3.symm⟩
        · exact .inr ⟨y, by simp [hy], hl, e⟩
    · rw [if_neg hc] at h1 h2 h3 ⊢
      refine ⟨h1, fun y hy hl => ?_, ?_⟩
      · rcases List.mem_cons.1 hy with rfl | hy
        · have : ¬ y.start < h := fun h4 => hc ⟨hl, h4⟩
          omega
        · exact h2 y hy hl
      · rcases h3 with h3 | ⟨y, hy, hl, e⟩
        · exact .inl h3
        · exact .inr ⟨y, by simp [hy], hl, e⟩
theorem Tb.hor_is (t : Tb) : IsHor t t.hor := by
  obtain ⟨h1, h2, h3⟩ := horF_spec t.txs t.last
  refine ⟨h1, fun n x hx => h2 x (Tb.get_mem hx) (Tb.get_some hx).2.2, ?_⟩
  rcases h3 with h3 | ⟨y, hy, hl, e⟩
  · exact .inl h3
  · obtain ⟨j, hj, rfl⟩ := List.getElem_of_mem hy
    exact .inr ⟨(j : Int) + 1, _, Tb.get_of (by omega) (by rw [show ((j : Int) + 1 - 1).toNat = j by omega]; exact List.getElem?_eq_getElem hj) hl, e⟩
/-! ### what holds of all that can come about -/
structure TbOk (t : Tb) : Prop where
  l0 : 0 ≤ t.last
  l1 : t.last ≤ mxT
  st : ∀ x ∈ t.txs, 0 ≤ x.start ∧ x.start ≤ t.last
  at_ : ∀ x ∈ t.txs, x.at_ ≤ t.last ∧ (x.live = true → x.at_ = -1)
  rf : ∀ x ∈ t.txs, ∀ r ∈ x.tk, W64 r.2
  le8 : t.lives.length ≤ 8
theorem TbOk.new (l : Int) : TbOk (Tb.new l) := by
  unfold Tb.new
  refine ⟨?_, ?_, by simp, by simp, by simp, by simp [Tb.lives, liveF]⟩ <;> simp only [mxT] <;> (repeat' split) <;> omega
theorem TbOk.hor0 {t : Tb} (h : TbOk t) : 0 ≤ t.hor := by
  rcases t.hor_is.one with e | ⟨n, x, hx, e⟩
  · rw [e]; exact h.l0
  · rw [← e]; exact (h.st x (Tb.get_mem hx)).1
/-- what is written down of commits, against all that there were -/
structure WOk (t : Tb) (W : List (Rf × Int)) : Prop where
  w1 : ∀ r a, lk W r = some a → 0 < a ∧ ∃ y ∈ t.txs, y.at_ = a ∧ r ∈ y.tk
  w2 : ∀ y ∈ t.txs, y.at_ > t.hor → ∀ r ∈ y.tk, ∃ a, lk W r = some a ∧ y.at_ ≤ a
theorem WOk.new (l : Int) : WOk (Tb.new l) [] := ⟨(fun r a h => by cases h), (fun y hy => by cases hy)⟩
theorem common_iff {a b : List Rf} : common a b = true ↔ ∃ r ∈ a, r ∈ b := by
  unfold common
  rw [List.any_eq_true]
  constructor
  · rintro ⟨x, hx, h⟩; exact ⟨x, hx, by simpa using h⟩
  · rintro ⟨x, hx, h⟩; exact ⟨x, hx, by simpa using h⟩
theorem Tb.clash_iff {t : Tb} {x : Tx} : t.clash x = true ↔ ∃ y ∈ t.txs, y.at_ > x.start ∧ ∃ r ∈ y.tk, r ∈ x.tk := by
  unfold Tb.clash
  rw [List.any_eq_true]
  constructor
  · rintro ⟨y, hy, h⟩
    simp only [Bool.and_eq_true, decide_eq_true_eq] at h
    exact ⟨y, hy, h.1, common_iff.1 h.2⟩
  · rintro ⟨y, hy, h1, h2⟩
    exact ⟨y, hy, by simp only [Bool.and_eq_true, decide_eq_true_eq]; exact ⟨h1, common_iff.2 h2⟩⟩
/-- what the code looks at tells the same -/
theorem WOk.clash {t : Tb} {W : List (Rf × Int)} (h : WOk t W) {n : Int} {x : Tx} (hx : t.get n = some x) : t.clash x = true ↔ ∃ r ∈ x.tk, ∃ a, lk W r = some a ∧ a > x.start := by
  rw [Tb.clash_iff]
  constructor
  · rintro ⟨y, hy, h1, r, h2, h3⟩
    have := t.hor_is.all n x hx
    obtain ⟨a, ha, hle⟩ := h.w2 y hy (by omega) r h2
    exact ⟨r, h3, a, ha, by omega⟩
  · rintro ⟨r, hr, a, ha, hgt⟩
    obtain ⟨h0, y, hy, e, hry⟩ := h.w1 r a ha
    exact ⟨y, hy, by omega, r, hry, hr⟩
/-! ### each call keeps it -/
theorem hor_append {t : Tb} {x : Tx} (hx : x.start = t.last) : (⟨t.txs ++ [x], t.last⟩ : Tb).hor = t.hor := by
  have : ∀ (l : List Tx) (h : Int), h ≤ t.last → horF h (l ++ [x]) = horF h l := by
    intro l
    induction l with
    | nil =>
      intro h hh
      simp only [List.nil_append, horF]
      rw [if_neg (by rintro ⟨_, h2⟩; omega)]
    | cons y l ih =>
      intro h hh
      simp only [List.cons_append, horF]
      refine ih _ ?_
      split <;> omega
  exact this t.txs t.last (Int.le_refl _)
theorem get_append {t : Tb} {x : Tx} (m : Int) : (⟨t.txs ++ [x], t.last⟩ : Tb).get m = if m = (t.txs.length : Int) + 1 then (if x.live then some x else none) else t.get m := by
  unfold Tb.get
  simp only
  by_cases e : m = (t.txs.length : Int) + 1
  · subst e
    rw [if_pos (by omega), if_pos rfl, show ((t.txs.length : Int) + 1 - 1).toNat = t.txs.length by omega, List.getElem?_concat_length]
  · rw [if_neg e]
    by_cases hm : 1 ≤ m
    · rw [if_pos hm, if_pos hm]
      by_cases hl : (m - 1).toNat < t.txs.length
      · rw [List.getElem?_append_left hl]
      · have : (t.txs ++ [x])[(m - 1).toNat]? = none := List.getElem?_eq_none (by simp; omega)
        rw [this, List.getElem?_eq_none (by omega)]
    · rw [if_neg hm, if_neg hm]
theorem lives_append {t : Tb} {x : Tx} (hx : x.live = true) : (⟨t.txs ++ [x], t.last⟩ : Tb).lives = t.lives ++ [(t.txs.length : Int) + 1] := by
  unfold Tb.lives
  have : ∀ (l : List Tx) (i : Nat), liveF i (l ++ [x]) = liveF i l ++ [(i : Int) + l.length + 1] := by
    intro l
    induction l with
    | nil => intro i; simp [liveF, hx]
    | cons y l ih =>
      intro i
      have e : (((i + 1 : Nat) : Int) + l.length + 1) = (i : Int) + (l.length + 1 : Nat) + 1 := by omega
      simp only [List.cons_append, liveF, List.length_cons]
      split
      · rw [ih, e]; rfl
      · rw [ih, e]
  rw [this]; simp
theorem lives_put_live {t : Tb} {n : Int} {x y : Tx} (h : t.get n = some x) (hy : y.live = true) : (t.put n y).lives = t.lives := by
  have hm : ∀ m, m ∈ (t.put n y).lives ↔ m ∈ t.lives := by
    intro m
    rw [Tb.mem_lives, Tb.mem_lives, Tb.get_put h]
    by_cases e : m = n
    · subst e; rw [if_pos rfl, if_pos hy]; exact ⟨fun _ => ⟨x, h⟩, fun _ => ⟨y, rfl⟩⟩
    · rw [if_neg e]
  have hp := length_of_iff (Tb.lives_nd _) t.lives_nd hm
  exact hp.eq_of_pairwise (fun a b _ _ h1 h2 => by omega) (Tb.lives_lt _) t.lives_lt
theorem lives_put_dead {t : Tb} {n : Int} {x y : Tx} (h : t.get n = some x) (hy : y.live = false) : (t.put n y).lives = t.lives.filter fun m => !decide (m = n) := by
  have hm : ∀ m, m ∈ (t.put n y).lives ↔ m ∈ t.lives.filter fun m => !decide (m = n) := by
    intro m
    rw [List.mem_filter, Tb.mem_lives, Tb.mem_lives, Tb.get_put h]
    by_cases e : m = n
    · subst e; rw [if_pos rfl, hy]; simp
    · rw [if_neg e]; simp [e]
  have hp := length_of_iff (Tb.lives_nd _) (t.lives_nd.filter _) hm
  exact hp.eq_of_pairwise (fun a b _ _ h1 h2 => by omega) (Tb.lives_lt _) (t.lives_lt.filter _)
end Go.Dn
