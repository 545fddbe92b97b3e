/- Trees in an arena, in plain terms: what left, right, up, size and sums of a node say, and what stays of it when other nodes turn. Conditions: none. -/
import Derived.Test.YtkkobfajahmfaaaEuB
namespace Go.Dn
set_option linter.unusedVariables false

inductive Tr where
  | nil
  | node (l : Tr) (a : Nat) (r : Tr)
def Tr.root : Tr → Nat
  | .nil => 0
  | .node _ a _ => a
def Tr.ids : Tr → List Nat
  | .nil => []
  | .node l a r => l.ids ++ a :: r.ids
theorem w64w (x : Int) : IntKind.i64.wrap x = (x + 9223372036854775808) % 18446744073709551616 - 9223372036854775808 := by
  rw [IntKind.wrap_i64]
theorem wrap_addl (x y : Int) : IntKind.i64.wrap (IntKind.i64.wrap x + y) = IntKind.i64.wrap (x + y) := by rw [w64w, w64w, w64w]; omega
theorem wrap_addr (x y : Int) : IntKind.i64.wrap (x + IntKind.i64.wrap y) = IntKind.i64.wrap (x + y) := by rw [w64w, w64w, w64w]; omega
def In64 (x : Int) : Prop := -9223372036854775808 ≤ x ∧ x ≤ 9223372036854775807
/-- what a list of nodes bears together -/
def tot (N : Nat → Nat → Int) (j : Nat) (l : List Nat) : Int := IntKind.i64.wrap (l.map fun i => N i j).sum
theorem tot_nil (N : Nat → Nat → Int) (j : Nat) : tot N j [] = 0 := by simp [tot, w64w]
theorem tot_one {N : Nat → Nat → Int} {j a : Nat} (h : In64 (N a j)) : tot N j [a] = N a j := by simp [tot]; exact w64_in h
theorem tot_app (N : Nat → Nat → Int) (j : Nat) (l m : List Nat) : tot N j (l ++ m) = IntKind.i64.wrap (tot N j l + tot N j m) := by
  simp only [tot, List.map_append, List.sum_append]; rw [wrap_addl, wrap_addr]
theorem tot_congr {N N' : Nat → Nat → Int} {j : Nat} {l : List Nat} (h : ∀ i ∈ l, N' i j = N i j) : tot N' j l = tot N j l := by
  unfold tot; rw [List.map_congr_left h]
/-- the nodes of a tree say so -/
def OkT (N : Nat → Nat → Int) (n : Nat) : Tr → Prop
  | .nil => True
  | .node l a r => 0 < a ∧ a < n ∧ N a 0 = (l.root : Int) ∧ N a 1 = (r.root : Int) ∧ N a 4 = ((l.ids.length + 1 + r.ids.length : Nat) : Int) ∧ N a 8 = tot N 5 (l.ids ++ a :: r.ids) ∧ N a 9 = tot N 6 (l.ids ++ a :: r.ids) ∧ N a 10 = tot N 7 (l.ids ++ a :: r.ids) ∧
    (l.root ≠ 0 → N l.root 2 = (a : Int)) ∧ (r.root ≠ 0 → N r.root 2 = (a : Int)) ∧ OkT N n l ∧ OkT N n r
theorem OkT.root_pos {N : Nat → Nat → Int} {n : Nat} : ∀ {t : Tr}, OkT N n t → (t.root = 0 ↔ t = .nil)
  | .nil, _ => by simp [Tr.root]
  | .node l a r, h => by simp [Tr.root]; have := h.1; omega
theorem Tr.root_mem {t : Tr} (h : t.root ≠ 0) : t.root ∈ t.ids := by
  cases t with
  | nil => exact absurd rfl h
  | node l a r => simp [Tr.ids, Tr.root]
theorem OkT.lt {N : Nat → Nat → Int} {n : Nat} : ∀ {t : Tr}, OkT N n t → ∀ i ∈ t.ids, 0 < i ∧ i < n
  | .nil, _ => by simp [Tr.ids]
  | .node l a r, h => by
    intro i hi
    simp only [Tr.ids, List.mem_append, List.mem_cons] at hi
    rcases hi with hi | rfl | hi
    · exact OkT.lt h.2.2.2.2.2.2.2.2.2.2.1 i hi
    · exact ⟨h.1, h.2.1⟩
    · exact OkT.lt h.2.2.2.2.2.2.2.2.2.2.2 i hi
theorem OkT.root_lt {N : Nat → Nat → Int} {n : Nat} {t : Tr} (h : OkT N n t) (hn : 0 < n) : t.root < n := by
  by_cases h0 : t.root = 0
  · omega
  · exact (h.lt _ (Tr.root_mem h0)).2
/-- a tree stays when its nodes stay, its root's up and all chances aside -/
theorem OkT.congr {N N' : Nat → Nat → Int} {n n' : Nat} (hn : n ≤ n') : ∀ {t : Tr}, t.ids.Nodup → OkT N n t → (∀ i ∈ t.ids, ∀ j, j ≠ 3 → (j ≠ 2 ∨ i ≠ t.root) → N' i j = N i j) → OkT N' n' t
  | .nil, _, _, _ => trivial
  | .node l a r, nd, h, hc => by
    obtain ⟨h1, h2, h3, h4, h5, h6, h7, h7b, h8, h9, hl, hr⟩ := h
    simp only [Tr.ids, List.nodup_append, List.nodup_cons, List.mem_cons] at nd
    obtain ⟨ndl, ⟨har, ndr⟩, hd⟩ := nd
    have hal : a ∉ l.ids := fun h => hd a h a (.inl rfl) rfl
    have ma : a ∈ (Tr.node l a r).ids := by simp [Tr.ids]
    have ml : ∀ i ∈ l.ids, i ∈ (Tr.node l a r).ids := fun i h => by simp [Tr.ids, h]
    have mr : ∀ i ∈ r.ids, i ∈ (Tr.node l a r).ids := fun i h => by simp [Tr.ids, h]
    have tc : ∀ j, j = 5 ∨ j = 6 ∨ j = 7 → tot N' j (l.ids ++ a :: r.ids) = tot N j (l.ids ++ a :: r.ids) := fun j hj => tot_congr fun i hi => hc i hi j (by omega) (.inl (by omega))
    refine ⟨h1, by omega, ?_, ?_, ?_, ?_, ?_, ?_, ?_, ?_, ?_, ?_⟩
    · rw [hc a ma 0 (by omega) (.inl (by omega))]; exact h3
    · rw [hc a ma 1 (by omega) (.inl (by omega))]; exact h4
    · rw [hc a ma 4 (by omega) (.inl (by omega))]; exact h5
    · rw [hc a ma 8 (by omega) (.inl (by omega)), tc 5 (.inl rfl)]; exact h6
    · rw [hc a ma 9 (by omega) (.inl (by omega)), tc 6 (.inr (.inl rfl))]; exact h7
    · rw [hc a ma 10 (by omega) (.inl (by omega)), tc 7 (.inr (.inr rfl))]; exact h7b
    · intro h0
      have := Tr.root_mem h0
      rw [hc _ (ml _ this) 2 (by omega) (.inr (fun e => hal (by have e : l.root = a := e; rw [← e]; exact this)))]; exact h8 h0
    · intro h0
      have := Tr.root_mem h0
      rw [hc _ (mr _ this) 2 (by omega) (.inr (fun e => har (by have e : r.root = a := e; rw [← e]; exact this)))]; exact h9 h0
    · exact OkT.congr hn ndl hl fun i hi j hj _ => hc i (ml i hi) j hj (.inr (fun e => by simp only [Tr.root] at e; rw [e] at hi; exact hal hi))
    · exact OkT.congr hn ndr hr fun i hi j hj _ => hc i (mr i hi) j hj (.inr (fun e => by simp only [Tr.root] at e; rw [e] at hi; exact har hi))
theorem OkT.sz {N : Nat → Nat → Int} {n : Nat} {t : Tr} (h : OkT N n t) (h0 : t.root ≠ 0) : N t.root 4 = (t.ids.length : Int) := by
  cases t with
  | nil => exact absurd rfl h0
  | node l a r => simp only [Tr.root, Tr.ids, List.length_append, List.length_cons]; rw [h.2.2.2.2.1]; congr 1; omega
theorem OkT.all8 {N : Nat → Nat → Int} {n : Nat} {t : Tr} (h : OkT N n t) (h0 : t.root ≠ 0) : N t.root 8 = tot N 5 t.ids := by
  cases t with
  | nil => exact absurd rfl h0
  | node l a r => exact h.2.2.2.2.2.1
theorem OkT.all9 {N : Nat → Nat → Int} {n : Nat} {t : Tr} (h : OkT N n t) (h0 : t.root ≠ 0) : N t.root 9 = tot N 6 t.ids := by
  cases t with
  | nil => exact absurd rfl h0
  | node l a r => exact h.2.2.2.2.2.2.1
theorem OkT.all10 {N : Nat → Nat → Int} {n : Nat} {t : Tr} (h : OkT N n t) (h0 : t.root ≠ 0) : N t.root 10 = tot N 7 t.ids := by
  cases t with
  | nil => exact absurd rfl h0
  | node l a r => exact h.2.2.2.2.2.2.2.1
/-- a list of numbers below n without a number twice is no longer than n -/
theorem nodup_le : ∀ (n : Nat) (l : List Nat), l.Nodup → (∀ i ∈ l, i < n) → l.length ≤ n
  | 0, l, _, h => by
    cases l with
    | nil => simp
    | cons a l => exact absurd (h a (by simp)) (by omega)
  | n + 1, l, nd, h => by
    by_cases hm : n ∈ l
    · have h1 := nodup_le n (l.erase n) (nd.erase n) (fun i hi => by
        have := h i (List.mem_of_mem_erase hi)
        have : i ≠ n := fun e => by rw [e] at hi; exact (List.Nodup.not_mem_erase nd) hi
        omega)
      rw [List.length_erase_of_mem hm] at h1; omega
    · have := nodup_le n l nd (fun i hi => by have := h i hi; have : i ≠ n := fun e => hm (e ▸ hi); omega)
      omega
/-- what turns outside of chances: only these nodes, and no node's own -/
structure Chg (ids : List Nat) (N N' : Nat → Nat → Int) : Prop where
  out : ∀ i, i ∉ ids → ∀ j, N' i j = N i j
  own : ∀ i j, j = 3 ∨ j = 5 ∨ j = 6 ∨ j = 7 → N' i j = N i j
theorem Chg.refl (ids : List Nat) (N : Nat → Nat → Int) : Chg ids N N := ⟨fun _ _ _ => rfl, fun _ _ _ => rfl⟩
theorem Chg.trans {ids : List Nat} {a b c : Nat → Nat → Int} (h : Chg ids a b) (k : Chg ids b c) : Chg ids a c := ⟨fun i hi j => (k.out i hi j).trans (h.out i hi j), fun i j hj => (k.own i j hj).trans (h.own i j hj)⟩
theorem Chg.mono {ids ids' : List Nat} {a b : Nat → Nat → Int} (h : Chg ids a b) (hs : ∀ i ∈ ids, i ∈ ids') : Chg ids' a b := ⟨fun i hi j => h.out i (fun x => hi (hs i x)) j, h.own⟩
theorem Chg.st {ids : List Nat} {N : Nat → Nat → Int} {i j : Nat} {v : Int} (hi : i ∈ ids) (hj : j ≠ 3 ∧ j ≠ 5 ∧ j ≠ 6 ∧ j ≠ 7) : Chg ids N (Dn.st N i j v) :=
  ⟨fun k hk l => st_i _ _ _ _ (fun e => hk (e ▸ hi)), fun k l hl => st_j _ _ _ _ (by omega)⟩

/-- what pull writes -/
def pull0 (N : Nat → Nat → Int) (a : Nat) : Nat → Nat → Int := st (st (st (st N a 4 1) a 8 (N a 5)) a 9 (N a 6)) a 10 (N a 7)
def pullL (N : Nat → Nat → Int) (a l : Nat) : Nat → Nat → Int :=
  if l = 0 then N else st (st (st (st (st N a 4 (IntKind.i64.wrap (N a 4 + N l 4))) a 8 (IntKind.i64.wrap (N l 8 + N a 8))) a 9 (IntKind.i64.wrap (N l 9 + N a 9))) a 10 (IntKind.i64.wrap (N l 10 + N a 10))) l 2 a
def pullR (N : Nat → Nat → Int) (a x : Nat) : Nat → Nat → Int :=
  if x = 0 then N else st (st (st (st (st N a 4 (IntKind.i64.wrap (N a 4 + N x 4))) a 8 (IntKind.i64.wrap (N a 8 + N x 8))) a 9 (IntKind.i64.wrap (N a 9 + N x 9))) a 10 (IntKind.i64.wrap (N a 10 + N x 10))) x 2 a
def pullF (N : Nat → Nat → Int) (a l x : Nat) : Nat → Nat → Int := pullR (pullL (pull0 N a) a l) a x
theorem pull_tree {N : Nat → Nat → Int} {n a : Nat} {tl tr : Tr} (hn : n ≤ 65537) (ha : 0 < a ∧ a < n) (hl : OkT N n tl) (hr : OkT N n tr) (nd : (tl.ids ++ a :: tr.ids).Nodup) (h0 : N a 0 = (tl.root : Int)) (h1 : N a 1 = (tr.root : Int))
    (hv : In64 (N a 5) ∧ In64 (N a 6) ∧ In64 (N a 7)) : OkT (pullF N a tl.root tr.root) n (.node tl a tr) ∧ Chg (tl.ids ++ a :: tr.ids) N (pullF N a tl.root tr.root) ∧ pullF N a tl.root tr.root a 2 = N a 2 := by
  have hlen : (tl.ids ++ a :: tr.ids).length ≤ n := nodup_le n _ nd fun i hi => by
    simp only [List.mem_append, List.mem_cons] at hi
    rcases hi with hi | rfl | hi
    · exact (hl.lt i hi).2
    · exact ha.2
    · exact (hr.lt i hi).2
  have nd' := nd
  simp only [List.nodup_append, List.nodup_cons, List.mem_cons] at nd
  obtain ⟨ndl, ⟨har, ndr⟩, hd⟩ := nd
  have hal : a ∉ tl.ids := fun h => hd a h a (.inl rfl) rfl
  simp only [List.length_append, List.length_cons] at hlen
  have c0 : Chg (tl.ids ++ a :: tr.ids) N (pull0 N a) := (((Chg.st (by simp) (by omega)).trans (Chg.st (by simp) (by omega))).trans (Chg.st (by simp) (by omega))).trans (Chg.st (by simp) (by omega))
  have cL : Chg (tl.ids ++ a :: tr.ids) (pull0 N a) (pullL (pull0 N a) a tl.root) := by
    unfold pullL
    split
    · exact Chg.refl _ _
    · rename_i h
      exact ((((Chg.st (by simp) (by omega)).trans (Chg.st (by simp) (by omega))).trans (Chg.st (by simp) (by omega))).trans (Chg.st (by simp) (by omega))).trans (Chg.st (by simp [Tr.root_mem h]) (by omega))
  have cR : Chg (tl.ids ++ a :: tr.ids) (pullL (pull0 N a) a tl.root) (pullF N a tl.root tr.root) := by
    unfold pullF pullR
    split
    · exact Chg.refl _ _
    · rename_i h
      exact ((((Chg.st (by simp) (by omega)).trans (Chg.st (by simp) (by omega))).trans (Chg.st (by simp) (by omega))).trans (Chg.st (by simp) (by omega))).trans (Chg.st (by simp [Tr.root_mem h]) (by omega))
  have cF := (c0.trans cL).trans cR
  have la : tl.root ≠ 0 → tl.root ≠ a := fun h e => hal (e ▸ Tr.root_mem h)
  have ra : tr.root ≠ 0 → tr.root ≠ a := fun h e => har (e ▸ Tr.root_mem h)
  have lr : tl.root ≠ 0 → tr.root ≠ 0 → tr.root ≠ tl.root := fun h h' e => hd _ (Tr.root_mem h) _ (.inr (Tr.root_mem h')) e.symm
  have a2 : pullF N a tl.root tr.root a 2 = N a 2 := by
    by_cases e1 : tl.root = 0 <;> by_cases e2 : tr.root = 0
    · simp [pullF, pullR, pullL, pull0, e1, e2, st]
    · simp [pullF, pullR, pullL, pull0, e1, e2, st, Ne.symm (ra e2)]
    · simp [pullF, pullR, pullL, pull0, e1, e2, st, Ne.symm (la e1)]
    · simp [pullF, pullR, pullL, pull0, e1, e2, st, Ne.symm (ra e2), Ne.symm (la e1)]
  have aj : ∀ i, i ≠ a → ∀ j, (j ≠ 2 ∨ (i ≠ tl.root ∧ i ≠ tr.root)) → pullF N a tl.root tr.root i j = N i j := by
    intro i hi j hj
    unfold pullF pullR pullL pull0
    split <;> split <;> simp [st, hi] <;> omega
  have a01 : ∀ j, j = 0 ∨ j = 1 → pullF N a tl.root tr.root a j = N a j := by
    intro j hj
    unfold pullF pullR pullL pull0
    split <;> split <;> simp [st] <;> omega
  have okl : OkT (pullF N a tl.root tr.root) n tl := hl.congr (Nat.le_refl _) ndl fun i hi j _ hj => aj i (fun e => hal (e ▸ hi)) j (by
    rcases hj with hj | hj
    · exact .inl hj
    · refine .inr ⟨hj, fun e => ?_⟩
      by_cases h : tr.root = 0
      · have := (hl.lt i hi).1; omega
      · exact hd i hi tr.root (.inr (Tr.root_mem h)) e)
  have okr : OkT (pullF N a tl.root tr.root) n tr := hr.congr (Nat.le_refl _) ndr fun i hi j _ hj => aj i (fun e => har (e ▸ hi)) j (by
    rcases hj with hj | hj
    · exact .inl hj
    · refine .inr ⟨fun e => ?_, hj⟩
      by_cases h : tl.root = 0
      · have := (hr.lt i hi).1; omega
      · exact hd tl.root (Tr.root_mem h) i (.inr hi) e.symm)
  have tc : ∀ j, j = 5 ∨ j = 6 ∨ j = 7 → tot (pullF N a tl.root tr.root) j (tl.ids ++ a :: tr.ids) = tot N j (tl.ids ++ a :: tr.ids) := fun j hj => tot_congr fun i _ => cF.own i j (by omega)
  have ts : ∀ j, In64 (N a j) → tot N j (tl.ids ++ a :: tr.ids) = IntKind.i64.wrap (IntKind.i64.wrap (tot N j tl.ids + N a j) + tot N j tr.ids) := by
    intro j hj
    rw [show tl.ids ++ a :: tr.ids = (tl.ids ++ [a]) ++ tr.ids by simp, tot_app, tot_app, tot_one hj]
  have s4 := @OkT.sz N n tl hl; have s8 := @OkT.all8 N n tl hl; have s9 := @OkT.all9 N n tl hl; have s10 := @OkT.all10 N n tl hl
  have r4 := @OkT.sz N n tr hr; have r8 := @OkT.all8 N n tr hr; have r9 := @OkT.all9 N n tr hr; have r10 := @OkT.all10 N n tr hr
  have nl : tl.root = 0 → tl.ids = [] := fun h => by rw [hl.root_pos.1 h]; rfl
  have nr : tr.root = 0 → tr.ids = [] := fun h => by rw [hr.root_pos.1 h]; rfl
  refine ⟨⟨ha.1, ha.2, by rw [a01 0 (.inl rfl)]; exact h0, by rw [a01 1 (.inr rfl)]; exact h1, ?_, ?_, ?_, ?_, ?_, ?_, okl, okr⟩, cF, a2⟩
  · by_cases e1 : tl.root = 0 <;> by_cases e2 : tr.root = 0
    · rw [nl e1, nr e2]
      simp [pullF, pullR, pullL, pull0, e1, e2, st]
    · rw [nl e1]
      simp [pullF, pullR, pullL, pull0, e1, e2, st, r4 e2, ra e2]
      rw [w64_in (by omega)]
    · rw [nr e2]
      simp [pullF, pullR, pullL, pull0, e1, e2, st, s4 e1, la e1]
      rw [w64_in (by omega)]; omega
    · simp [pullF, pullR, pullL, pull0, e1, e2, st, s4 e1, la e1, r4 e2, ra e2, Ne.symm (ra e2), Ne.symm (la e1)]
      rw [w64_in (x := 1 + (tl.ids.length : Int)) (by omega), w64_in (by omega)]; omega
  · rw [tc 5 (.inl rfl), ts 5 hv.1]
    by_cases e1 : tl.root = 0 <;> by_cases e2 : tr.root = 0
    · rw [nl e1, nr e2]
      simp [pullF, pullR, pullL, pull0, e1, e2, st, tot_nil]
      rw [w64_in hv.1, w64_in hv.1]
    · rw [nl e1]
      simp [pullF, pullR, pullL, pull0, e1, e2, st, r8 e2, ra e2, tot_nil]
      rw [w64_in hv.1]
    · rw [nr e2]
      simp [pullF, pullR, pullL, pull0, e1, e2, st, s8 e1, la e1, tot_nil]
      rw [w64w, w64w]; omega
    · simp [pullF, pullR, pullL, pull0, e1, e2, st, s8 e1, la e1, r8 e2, ra e2, Ne.symm (ra e2), Ne.symm (la e1)]
  · rw [tc 6 (.inr (.inl rfl)), ts 6 hv.2.1]
    by_cases e1 : tl.root = 0 <;> by_cases e2 : tr.root = 0
    · rw [nl e1, nr e2]
      simp [pullF, pullR, pullL, pull0, e1, e2, st, tot_nil]
      rw [w64_in hv.2.1, w64_in hv.2.1]
    · rw [nl e1]
      simp [pullF, pullR, pullL, pull0, e1, e2, st, r9 e2, ra e2, tot_nil]
      rw [w64_in hv.2.1]
    · rw [nr e2]
      simp [pullF, pullR, pullL, pull0, e1, e2, st, s9 e1, la e1, tot_nil]
      rw [w64w, w64w]; omega
    · simp [pullF, pullR, pullL, pull0, e1, e2, st, s9 e1, la e1, r9 e2, ra e2, Ne.symm (ra e2), Ne.symm (la e1)]
  · rw [tc 7 (.inr (.inr rfl)), ts 7 hv.2.2]
    by_cases e1 : tl.root = 0 <;> by_cases e2 : tr.root = 0
    · rw [nl e1, nr e2]
      simp [pullF, pullR, pullL, pull0, e1, e2, st, tot_nil]
      rw [w64_in hv.2.2, w64_in hv.2.2]
    · rw [nl e1]
      simp [pullF, pullR, pullL, pull0, e1, e2, st, r10 e2, ra e2, tot_nil]
      rw [w64_in hv.2.2]
    · rw [nr e2]
      simp [pullF, pullR, pullL, pull0, e1, e2, st, s10 e1, la e1, tot_nil]
      rw [w64w, w64w]; omega
    · simp [pullF, pullR, pullL, pull0, e1, e2, st, s10 e1, la e1, r10 e2, ra e2, Ne.symm (ra e2), Ne.symm (la e1)]
  · intro e1
    unfold pullF pullR
    by_cases e2 : tr.root = 0
    · simp [e2, pullL, e1, st]
    · simp [e2, pullL, e1, st, Ne.symm (lr e1 e2), la e1]
  · intro e2
    simp [pullF, pullR, e2, st]
end Go.Dn
