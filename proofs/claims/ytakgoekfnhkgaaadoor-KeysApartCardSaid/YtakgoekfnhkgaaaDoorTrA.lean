/- Words for arenas: rows of whole numbers, rows of nodes of k cells each, and which blocks a call may turn. Conditions: none. -/
import Derived.Test.YtakgoekfnhkgaaaDoorBase
namespace Go.Dn
open Go.RowKit
set_option linter.unusedVariables false

/-! ### which blocks may turn -/
structure Keeps (S : Nat → Prop) (w w' : World) : Prop where
  os : w'.os = w.os
  tape : w'.tape = w.tape
  output : w'.output = w.output
  size : w.heap.size ≤ w'.heap.size
  block : ∀ k, k < w.heap.size → ¬ S k → w'.heap[k]? = w.heap[k]?
theorem Keeps.refl (S : Nat → Prop) (w : World) : Keeps S w w := ⟨rfl, rfl, rfl, Nat.le_refl _, fun _ _ _ => rfl⟩
theorem Keeps.trans {S : Nat → Prop} {a b c : World} (h : Keeps S a b) (k : Keeps S b c) : Keeps S a c :=
  ⟨k.os.trans h.os, k.tape.trans h.tape, k.output.trans h.output, Nat.le_trans h.size k.size, fun i hi hn => (k.block i (Nat.lt_of_lt_of_le hi h.size) hn).trans (h.block i hi hn)⟩
theorem Keeps.mono {S S' : Nat → Prop} {w w' : World} (h : Keeps S w w') (hs : ∀ k, k < w.heap.size → S k → S' k) : Keeps S' w w' := ⟨h.os, h.tape, h.output, h.size, fun k hk hn => h.block k hk fun hS => hn (hs k hk hS)⟩
/-- what came since may turn too -/
theorem Keeps.trans' {S S' : Nat → Prop} {a b c : World} (h : Keeps S a b) (k : Keeps S' b c) (hs : ∀ k, k < a.heap.size → S' k → S k) : Keeps S a c :=
  ⟨k.os.trans h.os, k.tape.trans h.tape, k.output.trans h.output, Nat.le_trans h.size k.size, fun i hi hn => (k.block i (Nat.lt_of_lt_of_le hi h.size) fun hS => hn (hs i hi hS)).trans (h.block i hi hn)⟩
theorem Keeps.below {S : Nat → Prop} {B : Nat} {w w' : World} (h : Keeps S w w') (hB : B ≤ w.heap.size) (hS : ∀ k, k < B → ¬ S k) : Below B w w' :=
  ⟨h.os, h.tape, h.output, h.size, fun k hk => h.block k (Nat.lt_of_lt_of_le hk hB) (hS k hk)⟩
theorem Keeps.of_below {S : Nat → Prop} {w w' : World} (h : Below w.heap.size w w') : Keeps S w w' := ⟨h.os, h.tape, h.output, h.size, fun k hk _ => h.block k hk⟩
theorem Keeps.drew {S : Nat → Prop} {a w : World} (h : Keeps S a w) : Keeps S a w.drew := ⟨h.os, h.tape, h.output, h.size, h.block⟩
theorem Keeps.alloc {S : Nat → Prop} {a w : World} (h : Keeps S a w) (o : Obj) : Keeps S a (w.alloc o) :=
  h.trans (.of_below ((Below.refl _ _).alloc (Nat.le_refl _) _))
theorem Keeps.setCell {S : Nat → Prop} {a w : World} (h : Keeps S a w) {p : Addr} (hp : S p.block ∨ a.heap.size ≤ p.block) (u : Value) : Keeps S a (w.setCell p u) :=
  ⟨h.os, h.tape, h.output, by have := h.size; unfold World.setCell; simpa using this, fun k hk hn => by
    rw [Below.heap_setCell w p u k (fun e => by subst e; rcases hp with hp | hp; exact hn hp; omega)]
    exact h.block k hk hn⟩
theorem Keeps.cell {S : Nat → Prop} {w w' : World} (h : Keeps S w w') {p : Addr} {v : Value} (hc : w.cell? p = some v) (hp : ¬ S p.block) : w'.cell? p = some v :=
  (World.cell?_of_block (h.block p.block (World.block_lt_of_cell? w _ hc) hp)).trans hc
theorem Keeps.frozen {S : Nat → Prop} {w w' : World} (h : Keeps S w w') {p : Addr} {v : Value} (hc : w.cell? p = some v) (hp : ¬ S p.block) : w'.frozen? p = w.frozen? p :=
  World.frozen?_of_block (h.block p.block (World.block_lt_of_cell? w _ hc) hp)
theorem Keeps.own {S : Nat → Prop} {w w' : World} {B e sz n : Nat} {v : Value} {xs : List Value} (h : w.ownsRow B e sz v n xs) (hk : Keeps S w w') (hS : ∀ k, v.ownBlock = some k → ¬ S k) : w'.ownsRow B e sz v n xs := by
  obtain ⟨hl, h⟩ := h
  refine ⟨hl, ?_⟩
  rcases h with h | ⟨g, cap, cur, rfl, hb, hg, r⟩
  · exact .inl h
  · exact .inr ⟨g, cap, cur, rfl, hb, (hk.block g (Array.getElem?_eq_some_iff.1 hg).1 (hS g rfl)).trans hg, r⟩

/-! ### rows of whole numbers -/
/-- a slice at A reads these numbers -/
def RI (w : World) (A : Option Addr) (l : List Int) : Prop := ∀ i (h : i < l.length), ∃ a, A = some a ∧ w.cell? (a.add i) = some (.int .i64 l[i])
theorem RI.nil (w : World) (A : Option Addr) : RI w A [] := fun i h => absurd h (Nat.not_lt_zero _)
theorem RI.keeps {S : Nat → Prop} {w w' : World} {A : Option Addr} {l : List Int} (h : RI w A l) (hk : Keeps S w w') (hA : ∀ a, A = some a → ¬ S a.block) : RI w' A l := fun i hi => by
  obtain ⟨a, ha, hc⟩ := h i hi
  exact ⟨a, ha, hk.cell hc (by rw [add_block]; exact hA a ha)⟩
theorem RI.below {w w' : World} {A : Option Addr} {l : List Int} {B : Nat} (h : RI w A l) (hb : Below B w w') (hB : w.heap.size ≤ B) : RI w' A l := fun i hi => by
  obtain ⟨a, ha, hc⟩ := h i hi
  refine ⟨a, ha, ?_⟩
  rw [hb.cell (p := a.add i) (Nat.lt_of_lt_of_le (World.block_lt_of_cell? w _ hc) hB)]
  exact hc
theorem RI.drop {w : World} {a : Addr} {l : List Int} (h : RI w (some a) l) (n : Nat) : RI w (some (a.add n)) (l.drop n) := fun i hi => by
  rw [List.length_drop] at hi
  obtain ⟨a', ha, hc⟩ := h (n + i) (by omega)
  injection ha with ha; subst ha
  exact ⟨_, rfl, by rw [add_add, hc, List.getElem_drop]⟩
theorem RI.take {w : World} {A : Option Addr} {l : List Int} (h : RI w A l) (n : Nat) : RI w A (l.take n) := fun i hi => by
  have hi' : i < l.length := by rw [List.length_take] at hi; omega
  obtain ⟨a, ha, hc⟩ := h i hi'
  exact ⟨a, ha, by rw [hc, List.getElem_take]⟩
theorem RI.lit (w : World) (l : List Int) {cs : Array Value} (hcs : cs.toList = l.map (.int .i64)) (e : TypeId) : RI (w.alloc (.cells cs e)) (some ⟨w.heap.size, 0, none⟩) l := fun i hi => by
  refine ⟨_, rfl, ?_⟩
  rw [add_mk, Nat.zero_add, World.cell?_alloc_new]
  rw [← Array.getElem?_toList, hcs]
  simp [hi]
def OwnI (w : World) (B : Nat) (e : TypeId) (A : Option Addr) (c : Nat) (l : List Int) : Prop := w.ownsRow B e 1 (.slice A l.length c) l.length (l.map (.int .i64))
theorem OwnI.reads {w : World} {B e : Nat} {A : Option Addr} {c : Nat} {l : List Int} (h : OwnI w B e A c l) : RI w A l := by
  intro i hi
  obtain ⟨hl, h⟩ := h
  rcases h with ⟨_, h0⟩ | ⟨g, cap, cur, hv, hg, hh, hn, hm, hs, ht⟩
  · omega
  · injection hv with hA hn' hc
    refine ⟨_, hA, ?_⟩
    have hx := World.ownsRow.cellAt (w := w) (base := B) (e := e) (size := 1) (g := g) (n := l.length) (cap := cap) (xs := l.map (.int .i64)) ⟨hl, .inr ⟨g, cap, cur, rfl, hg, hh, hn, hm, hs, ht⟩⟩ i (by omega)
    rw [add_mk, Nat.zero_add, hx]
    simp [hi]
theorem OwnI.block {w : World} {B e : Nat} {A : Option Addr} {c : Nat} {l : List Int} (h : OwnI w B e A c l) : ∀ a, A = some a → B ≤ a.block ∧ a.block < w.heap.size := by
  intro a ha; subst ha
  exact World.ownsRow.lt h a.block rfl
theorem OwnI.keeps {S : Nat → Prop} {w w' : World} {B e : Nat} {A : Option Addr} {c : Nat} {l : List Int} (h : OwnI w B e A c l) (hk : Keeps S w w') (hA : ∀ a, A = some a → ¬ S a.block) : OwnI w' B e A c l :=
  Keeps.own h hk (fun k hk' => by
    cases A with
    | none => cases hk'
    | some a => injection hk' with hk'; subst hk'; exact hA a rfl)
theorem OwnI.le {w : World} {B e : Nat} {A : Option Addr} {c : Nat} {l : List Int} (h : OwnI w B e A c l) : l.length ≤ c := by
  obtain ⟨_, h⟩ := h
  rcases h with ⟨_, h⟩ | ⟨g, cap, cur, hv, hg, hh, hn, _⟩
  · omega
  · injection hv with _ _ hv; omega
theorem OwnI.nil0 {w : World} {B e : Nat} {A : Option Addr} {c : Nat} {l : List Int} (h : OwnI w B e A c l) : A = none → c = 0 := by
  intro hA; subst hA
  obtain ⟨_, h⟩ := h
  rcases h with ⟨h, _⟩ | ⟨g, cap, cur, hv, _⟩
  · injection h
  · injection hv with hv; cases hv
theorem OwnI.none (w : World) (B e : Nat) : OwnI w B e .none 0 [] := World.ownsRow_nil _ _ _ _
theorem OwnI.mono {w : World} {B B' e : Nat} {A : Option Addr} {c : Nat} {l : List Int} (h : OwnI w B e A c l) (hB : B' ≤ B) : OwnI w B' e A c l := by
  obtain ⟨hl, h⟩ := h
  refine ⟨hl, ?_⟩
  rcases h with h | ⟨g, cap, cur, hv, hg, r⟩
  · exact .inl h
  · exact .inr ⟨g, cap, cur, hv, Nat.le_trans hB hg, r⟩
theorem OwnI.lit {w : World} {B e : Nat} (l : List Int) {cs : Array Value} (hcs : cs.toList = l.map (.int .i64)) (hB : B ≤ w.heap.size) (hl : l.length ≤ 140737488355328) :
    OwnI (w.alloc (.cells cs e)) B e (some ⟨w.heap.size, 0, Option.none⟩) l.length l := by
  have h := World.ownsRow_lit (base := B) (e := e) (size := 1) w cs l.length hB (by unfold maxLen; omega) (by rw [← Array.length_toList, hcs]; simp)
  rw [hcs] at h
  exact h
structure IntTy (P : Program) (t e : TypeId) : Prop where
  und : P.underlying t = some (.slice e)
  row : (P.info? e).map (fun i => (i.zero, i.size, i.bytes)) = some (some (.int .i64 0), 1, 8)
theorem IntTy.info {P : Program} {t e : TypeId} (h : IntTy P t e) : ∃ i, P.info? e = some i ∧ i.zero = some (.int .i64 0) ∧ i.size = 1 ∧ i.bytes = 8 := by
  have := h.row
  cases hi : P.info? e with
  | none => rw [hi] at this; cases this
  | some i =>
    rw [hi] at this
    simp only [Option.map_some, Option.some.injEq, Prod.mk.injEq] at this
    exact ⟨i, rfl, this.1, this.2.1, this.2.2⟩
theorem int_one (l : List Int) : ∀ u ∈ l.map (Value.int .i64), u.oneCell' = true := by
  intro u hu
  obtain ⟨b, _, rfl⟩ := List.mem_map.1 hu
  rfl
theorem RI.news {w : World} {a : Addr} {l : List Int} (h : RI w (some a) l) : ∀ j u, (l.map (Value.int .i64))[j]? = some u → w.cell? (a.add j) = some u := fun j u hj => by
  rw [List.getElem?_map] at hj
  cases hx : l[j]? with
  | none => rw [hx] at hj; cases hj
  | some b =>
    rw [hx] at hj; injection hj with hj; subst hj
    obtain ⟨hlt, hb⟩ := List.getElem?_eq_some_iff.1 hx
    obtain ⟨a', ha, hc⟩ := h j hlt
    injection ha with ha; subst ha
    rw [hc, hb]
/-- appending numbers to a row of one's own -/
theorem appI_runs {P : Program} {t e : TypeId} (hT : IntTy P t e) {w : World} {B : Nat} {A : Option Addr} {n c : Nat} {l : List Int} {A2 : Option Addr} {m c2 : Nat} {l2 : List Int} {ty : TypeId}
    {K : Value → World → Prop} (ho : OwnI w B e A c l) (hn : n = l.length) (hr : RI w A2 l2) (hm : m = l2.length) (hc0 : A2 = none → m = 0 ∧ c2 = 0) (hB : B ≤ w.heap.size) (hlen : l.length + l2.length ≤ 17592186044416)
    (hK : ∀ A' c' w', OwnI w' B e A' c' (l ++ l2) → Below B w w' → w.heap.size ≤ w'.heap.size → (∀ k, k < w.heap.size → some k ≠ (Value.slice A n c).ownBlock → w'.heap[k]? = w.heap[k]?) → K (.slice A' (l ++ l2).length c') w') :
    Runs P (Builtin.append_ #[t, t] ty #[.slice A n c, .slice A2 m c2]) w K := by
  obtain ⟨i, hi, hz, hs, hby⟩ := hT.info
  subst hn; subst hm
  cases A2 with
  | none =>
    obtain ⟨h0, hc⟩ := hc0 rfl
    have hl2 : l2 = [] := List.length_eq_zero_iff.mp h0
    subst hl2; subst hc
    refine runs_of (run_append_owned_none w B t ty e i 1 hT.und hi _ _ _ ho) ?_
    have := hK A c w (by rw [List.append_nil]; exact ho) (Below.refl _ _) (Nat.le_refl _) (fun _ _ _ => rfl)
    rw [List.append_nil] at this
    exact this
  | some a =>
    obtain ⟨v', w', hrun, ho', hg, _⟩ := run_append_own w B t ty e i (.int .i64 0) 1 8 hT.und hi hz hs hby rfl (by decide) (.slice A l.length c) l.length (l.map (.int .i64)) ho a l2.length c2 (l2.map (.int .i64)) (by simp)
      hr.news (int_one l2) (by unfold maxLen; omega) (by omega) hB
    refine runs_of hrun ?_
    have hshape : ∃ A' c', v' = .slice A' (l ++ l2).length c' := by
      obtain ⟨_, h⟩ := ho'
      rcases h with ⟨h1, h2⟩ | ⟨g, cap, cur, hv, _⟩
      · exact ⟨none, 0, by rw [h1]; congr 1; rw [List.length_append]; omega⟩
      · exact ⟨_, _, by rw [hv, List.length_append]⟩
    obtain ⟨A', c', rfl⟩ := hshape
    refine hK A' c' w' ?_ ?_ hg.size hg.block
    · unfold OwnI
      rw [List.map_append]
      rw [List.length_append] at ho' ⊢
      exact ho'
    · refine (Below.refl B w).grown hg hB fun k hk => ?_
      exact (World.ownsRow.lt ho k hk).1

/-! ### rows that grow while others look at them: every prefix of the whole stays -/
structure Pre (B : Nat) (e : TypeId) (full : List Int) (w w' : World) : Prop where
  bel : Below B w w'
  row : ∀ A c l, l <+: full → OwnI w B e A c l → OwnI w' B e A c l
  one : ∀ (k : Nat) (v : Value), w.heap[k]? = some (Obj.cells #[v] e) → w'.heap[k]? = some (Obj.cells #[v] e)
theorem Pre.refl (B : Nat) (e : TypeId) (full : List Int) (w : World) : Pre B e full w w := ⟨Below.refl _ _, fun _ _ _ _ h => h, fun _ _ h => h⟩
theorem Pre.trans {B : Nat} {e : TypeId} {full : List Int} {a b c : World} (h : Pre B e full a b) (k : Pre B e full b c) : Pre B e full a c :=
  ⟨h.bel.trans k.bel, fun A c l hl ho => k.row A c l hl (h.row A c l hl ho), fun i v hi => k.one i v (h.one i v hi)⟩
theorem Pre.of_below {B : Nat} {e : TypeId} {full : List Int} {w w' : World} (h : Below w.heap.size w w') (hB : B ≤ w.heap.size) : Pre B e full w w' :=
  ⟨h.mono hB, fun A c l _ ho => ho.keeps (Keeps.of_below (S := fun _ => False) h) (fun _ _ h => h), fun k v hk => (h.block k (Array.getElem?_eq_some_iff.1 hk).1).trans hk⟩
/-- appending the next number of the whole -/
theorem appI_pre {P : Program} {t e : TypeId} (hT : IntTy P t e) {w : World} {B : Nat} {A : Option Addr} {n c : Nat} {l full : List Int} {a2 : Addr} {x : Int} {ty : TypeId}
    {K : Value → World → Prop} (ho : OwnI w B e A c l) (hn : n = l.length) (h0 : l = [] → A = none) (hr : w.cell? a2 = some (.int .i64 x)) (hB : B ≤ w.heap.size) (hp : l ++ [x] <+: full) (hlen : full.length ≤ 17592186044416)
    (hK : ∀ A' c' w', OwnI w' B e A' c' (l ++ [x]) → Pre B e full w w' → K (.slice A' (l ++ [x]).length c') w') :
    Runs P (Builtin.append_ #[t, t] ty #[.slice A n c, .slice (some a2) 1 1]) w K := by
  obtain ⟨i, hi, hz, hs, hby⟩ := hT.info
  subst hn
  have hlen' : l.length + 1 ≤ 17592186044416 := by have := hp.length_le; simp at this; omega
  have hr' : RI w (some a2) [x] := fun j hj => ⟨a2, rfl, by
    have : j = 0 := by simpa using hj
    subst this; rw [add_zero]; exact hr⟩
  have hwrap : ∀ (A' : Option Addr) (c' : Nat) (w' : World), w'.ownsRow B e 1 (.slice A' (l ++ [x]).length c') (l.length + 1) (l.map (.int .i64) ++ [x].map (.int .i64)) → OwnI w' B e A' c' (l ++ [x]) := by
    intro A' c' w' h
    unfold OwnI
    rw [List.map_append]
    rw [List.length_append] at h ⊢
    exact h
  have grow : ∀ (w' : World) (A' : Option Addr) (c' : Nat), w'.ownsRow B e 1 (.slice A' (l ++ [x]).length c') (l.length + 1) (l.map (.int .i64) ++ [x].map (.int .i64)) → Below w.heap.size w w' → OwnI w' B e A' c' (l ++ [x]) ∧ Pre B e full w w' :=
    fun w' A' c' h hb => ⟨hwrap _ _ _ h, Pre.of_below hb hB⟩
  rcases ho.2 with ⟨h1, h2⟩ | ⟨g, cap, cur, hv, hbg, hgg, hnc, hcm, hcs, htake⟩
  · injection h1 with h1 _ h3; subst h1; subst h3
    have hl : l = [] := List.length_eq_zero_iff.mp h2
    subst hl
    obtain ⟨v', w', hrun, ho', hg, _⟩ := run_append_own (P := P) w B t ty e i (.int .i64 0) 1 8 hT.und hi hz hs hby rfl (by decide) _ _ _ ho a2 1 1 ([x].map (.int .i64)) (by simp) hr'.news (int_one _) (by unfold maxLen; simp) (by simp) hB
    obtain ⟨A', c', rfl⟩ : ∃ A' c', v' = .slice A' (([] : List Int) ++ [x]).length c' := by
      obtain ⟨_, h⟩ := ho'
      rcases h with ⟨h1, h2⟩ | ⟨g, cap, cur, hv, _⟩
      · simp at h2
      · exact ⟨_, _, hv⟩
    have hb : Below w.heap.size w w' := ⟨hg.os, hg.tape, hg.output, hg.size, fun k hk => hg.block k hk (by simp [Value.ownBlock])⟩
    have h := grow w' A' c' ho' hb
    exact runs_of hrun (hK _ _ _ h.1 h.2)
  · injection hv with hA hn hc
    subst hA; subst hc
    have hne : l ≠ [] := fun h => by cases h0 h
    have hpos : 0 < l.length := List.length_pos_iff.2 hne
    by_cases hroom : l.length + 1 ≤ c
    · have hrun := run_append_room (P := P) w t ty e i hT.und hi g l.length c cur hgg a2 1 1 ([x].map (.int .i64)) (by simp [hs]) hr'.news (int_one _) hroom (by rw [hs, hcs]; simp; omega)
      rw [hs] at hrun
      simp only [Nat.mul_one, List.map_cons, List.map_nil, List.length_cons, List.length_nil] at hrun
      have htake' : cur.toList.take l.length = l.map (.int .i64) := by rw [← htake, Nat.mul_one]
      have hcl : cur.toList.length = c := by rw [Array.length_toList, hcs, Nat.mul_one]
      refine runs_of hrun ?_
      have hhp := setRow_heap w g cur (cur.toList.take l.length ++ [Value.int .i64 x] ++ cur.toList.drop (l.length + 1)).toArray e (0, 0) hgg
      have hot := setRow_other w g
      have key : ∀ w' : World, w'.os = w.os → w'.tape = w.tape → w'.output = w.output → w'.heap.size = w.heap.size → w'.heap[g]? = some (.cells (cur.toList.take l.length ++ [Value.int .i64 x] ++ cur.toList.drop (l.length + 1)).toArray e (0, 0)) →
          (∀ k, k ≠ g → w'.heap[k]? = w.heap[k]?) → K (.slice (some ⟨g, 0, none⟩) (l ++ [x]).length c) w' := by
        intro w' h1 h2 h3 h4 h5 h6
        have hsz : (cur.toList.take l.length ++ [Value.int .i64 x] ++ cur.toList.drop (l.length + 1)).length = c := by
          simp only [List.length_append, List.length_take, List.length_drop, hcl, List.length_cons, List.length_nil]; omega
        have hg : w.grownBy w' (some g) := ⟨h1, h2, h3, by omega, fun k _ hk => h6 k (fun e => hk (by rw [e]))⟩
        have ho2 : OwnI w' B e (some ⟨g, 0, none⟩) c (l ++ [x]) := by
          refine ⟨by simp, .inr ⟨g, c, _, rfl, hbg, h5, by simp; omega, hcm, by simp only [List.size_toArray, hsz]; omega, ?_⟩⟩
          rw [htake']
          simp only [Nat.mul_one, List.map_append, List.map_cons, List.map_nil]
          rw [List.take_append_of_le_length (by simp)]
          exact List.take_of_length_le (by simp)
        refine hK (some ⟨g, 0, none⟩) c w' ho2 ⟨(Below.refl B w).grown hg hB (fun k hk => by injection hk with hk; omega), ?_, ?_⟩
        · intro A1 c1 l1 hl1 ho1
          by_cases hA1 : ∀ a, A1 = some a → a.block ≠ g
          · exact OwnI.keeps (S := fun k => k = g) ho1 ⟨h1, h2, h3, by omega, fun k _ hn => h6 k hn⟩ (fun a ha => hA1 a ha)
          · obtain ⟨a, hA1, ha⟩ : ∃ a, A1 = some a ∧ a.block = g := by
              rcases Classical.em (∃ a, A1 = some a ∧ a.block = g) with h | h
              · exact h
              · exact absurd (fun a e1 e2 => h ⟨a, e1, e2⟩) hA1
            subst hA1
            obtain ⟨hl1', h1'⟩ := ho1
            rcases h1' with ⟨h1', _⟩ | ⟨g1, cap1, cur1, hv1, hbg1, hgg1, hnc1, hcm1, hcs1, htake1⟩
            · cases h1'
            · injection hv1 with hv1 hv2 hv3
              injection hv1 with hv1; subst hv1; subst ha; subst hv3
              rw [hgg] at hgg1; injection hgg1 with hgg1; injection hgg1 with hgg1; subst hgg1
              have hc1 : c1 = c := by omega
              subst hc1
              refine ⟨hl1', .inr ⟨g1, c1, _, rfl, hbg1, h5, hnc1, hcm1, by simp only [List.size_toArray, hsz]; omega, ?_⟩⟩
              simp only [Nat.mul_one] at htake1 ⊢
              by_cases hle : l1.length ≤ l.length
              · rw [List.append_assoc, List.take_append_of_le_length (by simp [hcl]; omega), List.take_take, Nat.min_eq_left hle]
                exact htake1
              · have hpre : l ++ [x] <+: l1 := List.prefix_of_prefix_length_le hp hl1 (by simp; omega)
                have hx : cur.toList[l.length]? = some (.int .i64 x) := by
                  have h7 : (cur.toList.take l1.length)[l.length]? = (l1.map (Value.int .i64))[l.length]? := by rw [htake1]
                  rw [List.getElem?_take, if_pos (by omega), List.getElem?_map] at h7
                  rw [h7]
                  obtain ⟨t, rfl⟩ := hpre
                  simp
                have hsame : cur.toList.take l.length ++ [Value.int .i64 x] ++ cur.toList.drop (l.length + 1) = cur.toList := by
                  obtain ⟨hlt, hx⟩ := List.getElem?_eq_some_iff.1 hx
                  rw [← hx, List.take_append_getElem, List.take_append_drop]
                rw [hsame]
                exact htake1
        · intro k v hk
          by_cases hkg : k = g
          · subst hkg
            rw [hgg] at hk; injection hk with hk; injection hk with hk; subst hk
            simp at hcs; omega
          · exact (h6 k hkg).trans hk
      have hlen2 : (l ++ [x]).length = l.length + 1 := by simp
      rw [hlen2] at key
      exact key _ rfl rfl rfl (by simp) hhp (fun k hk => hot k _ hk)
    · have hr2 := run_append_grow (P := P) w t ty e i (.int .i64 0) hT.und hi hz ⟨g, 0, none⟩ l.length c (l.map (.int .i64)) (by rw [hs]; simp) (ho.cells (g := g) rfl) a2 1 1 ([x].map (.int .i64)) (by rw [hs]; simp) hr'.news (by omega) (by omega)
        (by rw [hby]; exact growslice_fits (by omega) (by omega))
      obtain ⟨v', w', hrun, ho', hg, _⟩ := run_append_own (P := P) w B t ty e i (.int .i64 0) 1 8 hT.und hi hz hs hby rfl (by decide) _ _ _ ho a2 1 1 ([x].map (.int .i64)) (by simp) hr'.news (int_one _) (by unfold maxLen; omega) (by omega) hB
      rw [hr2] at hrun
      injection hrun with hv hw
      refine runs_of hr2 ?_
      have hb : Below w.heap.size w w' := by rw [← hw]; exact (Below.refl w.heap.size w).drew.alloc (Nat.le_refl _) _
      rw [← hv] at ho'
      have h := grow w' _ _ (by rw [List.length_append]; exact ho') hb
      have key := hK _ _ _ h.1 h.2
      rw [hw]
      rw [List.length_append] at key
      exact key
end Go.Dn
