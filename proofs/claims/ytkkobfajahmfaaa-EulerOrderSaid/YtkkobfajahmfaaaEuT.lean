/- slices.Sort and slices.Compact at whole numbers: the library's contracts laid at this program (printed by wip/laytxt.py), and what they make of a row of one's own. Conditions: none. -/
import Derived.Shelf.SortM.Plain
import Derived.Shelf.SortM.SortNone
import Derived.Shelf.SlicesG.CompactI
import Derived.Test.YtkkobfajahmfaaaEuQ
namespace Go.Proofs.Ytkkobfajahmfaaa.Rd
open Go.Dn Go.RowKit Go.Sort Go.Shelf
set_option linter.unusedVariables false
set_option maxRecDepth 100000
def sortA_ren : Go.Shelf.Ren := ⟨fun | 5 => 61 | 8 => 79 | 7 => 78 | 19 => 92 | 20 => 93 | 10 => 83 | 11 => 84 | 12 => 85 | 13 => 86 | 14 => 87 | 15 => 88 | 16 => 89 | 17 => 90 | 18 => 91 | 30 => 94 | 31 => 95 | 32 => 96 | 33 => 97 | 34 => 98 | 35 => 99 | 40 => 100 | n => n, fun | 23 => 22 | 25 => 3 | 3 => 3 | 32 => 116 | 22 => 22 | 0 => 0 | 44 => 132 | 46 => 107 | 4 => 4 | 36 => 124 | 35 => 123 | 41 => 129 | 5 => 5 | 9 => 9 | 53 => 134 | 57 => 137 | 63 => 139 | 64 => 104 | n => n, fun | n => n⟩
theorem sortA : Go.Proofs.SlLaysM.n5 Try.prog sortA_ren where
  mixed := by kernel_rfl
  f5 := ⟨Try.f61.name, by decide, Try.func61.trans (congrArg some (by kernel_rfl))⟩
  f7 := ⟨Try.f78.name, by decide, Try.func78.trans (congrArg some (by kernel_rfl))⟩
  f8 := Try.func79.trans (congrArg some (by kernel_rfl))
  f10 := ⟨Try.f83.name, by decide, Try.func83.trans (congrArg some (by kernel_rfl))⟩
  f11 := ⟨Try.f84.name, by decide, Try.func84.trans (congrArg some (by kernel_rfl))⟩
  f12 := ⟨Try.f85.name, by decide, Try.func85.trans (congrArg some (by kernel_rfl))⟩
  f13 := ⟨Try.f86.name, by decide, Try.func86.trans (congrArg some (by kernel_rfl))⟩
  f14 := ⟨Try.f87.name, by decide, Try.func87.trans (congrArg some (by kernel_rfl))⟩
  f15 := ⟨Try.f88.name, by decide, Try.func88.trans (congrArg some (by kernel_rfl))⟩
  f16 := ⟨Try.f89.name, by decide, Try.func89.trans (congrArg some (by kernel_rfl))⟩
  f17 := ⟨Try.f90.name, by decide, Try.func90.trans (congrArg some (by kernel_rfl))⟩
  f18 := ⟨Try.f91.name, by decide, Try.func91.trans (congrArg some (by kernel_rfl))⟩
  f19 := Try.func92.trans (congrArg some (by kernel_rfl))
  f20 := Try.func93.trans (congrArg some (by kernel_rfl))
  f30 := ⟨Try.f94.name, by decide, Try.func94.trans (congrArg some (by kernel_rfl))⟩
  f31 := Try.func95.trans (congrArg some (by kernel_rfl))
  f32 := Try.func96.trans (congrArg some (by kernel_rfl))
  f33 := ⟨Try.f97.name, by decide, Try.func97.trans (congrArg some (by kernel_rfl))⟩
  f34 := ⟨Try.f98.name, by decide, Try.func98.trans (congrArg some (by kernel_rfl))⟩
  f35 := ⟨Try.f99.name, by decide, Try.func99.trans (congrArg some (by kernel_rfl))⟩
  f40 := ⟨Try.f100.name, by decide, Try.func100.trans (congrArg some (by kernel_rfl))⟩
  t0 := Try.underlying0
  a0 := Try.isAgg0
  z0 := Try.sizeOf0
  v0 := Try.zeroValue0
  t3 := Try.underlying3
  a3 := Try.isAgg3
  z3 := Try.sizeOf3
  v3 := Try.zeroValue3
  t4 := Try.underlying4
  a4 := Try.isAgg4
  z4 := Try.sizeOf4
  v4 := Try.zeroValue4
  t5 := Try.underlying5
  a5 := Try.isAgg5
  z5 := Try.sizeOf5
  v5 := Try.zeroValue5
  t9 := Try.underlying9
  a9 := Try.isAgg9
  z9 := Try.sizeOf9
  v9 := Try.zeroValue9
  t22 := Try.underlying22
  a22 := Try.isAgg22
  z22 := Try.sizeOf22
  v22 := Try.zeroValue22
  t23 := Try.underlying22
  a23 := Try.isAgg22
  z23 := Try.sizeOf22
  v23 := Try.zeroValue22
  t25 := Try.underlying3
  a25 := Try.isAgg3
  z25 := Try.sizeOf3
  v25 := Try.zeroValue3
  t32 := Try.underlying116
  a32 := Try.isAgg116
  z32 := Try.sizeOf116
  v32 := Try.zeroValue116
  t35 := Try.underlying123
  a35 := Try.isAgg123
  z35 := Try.sizeOf123
  v35 := Try.zeroValue123
  t36 := Try.underlying124
  a36 := Try.isAgg124
  z36 := Try.sizeOf124
  v36 := Try.zeroValue124
  t41 := Try.underlying129
  a41 := Try.isAgg129
  z41 := Try.sizeOf129
  v41 := Try.zeroValue129
  t44 := Try.underlying132
  a44 := Try.isAgg132
  z44 := Try.sizeOf132
  v44 := Try.zeroValue132
  t46 := Try.underlying107
  a46 := Try.isAgg107
  z46 := Try.sizeOf107
  v46 := Try.zeroValue107
  t53 := Try.underlying134
  a53 := Try.isAgg134
  z53 := Try.sizeOf134
  v53 := Try.zeroValue134
  t57 := Try.underlying137
  a57 := Try.isAgg137
  z57 := Try.sizeOf137
  v57 := Try.zeroValue137
  t63 := Try.underlying139
  a63 := Try.isAgg139
  z63 := Try.sizeOf139
  v63 := Try.zeroValue139
  t64 := Try.underlying104
  a64 := Try.isAgg104
  z64 := Try.sizeOf104
  v64 := Try.zeroValue104
def compactA_ren : Go.Shelf.Ren := ⟨fun | 43 => 62 | n => n, fun | 22 => 22 | 23 => 3 | 3 => 3 | 4 => 4 | 0 => 0 | n => n, fun | n => n⟩
theorem compactA : Go.Proofs.SlLaysN.n43 Try.prog compactA_ren where
  mixed := by kernel_rfl
  f43 := ⟨Try.f62.name, by decide, Try.func62.trans (congrArg some (by kernel_rfl))⟩
  t0 := Try.underlying0
  a0 := Try.isAgg0
  z0 := Try.sizeOf0
  v0 := Try.zeroValue0
  t3 := Try.underlying3
  a3 := Try.isAgg3
  z3 := Try.sizeOf3
  v3 := Try.zeroValue3
  t4 := Try.underlying4
  a4 := Try.isAgg4
  z4 := Try.sizeOf4
  v4 := Try.zeroValue4
  t22 := Try.underlying22
  a22 := Try.isAgg22
  z22 := Try.sizeOf22
  v22 := Try.zeroValue22
  t23 := Try.underlying3
  a23 := Try.isAgg3
  z23 := Try.sizeOf3
  v23 := Try.zeroValue3
  i23 := by kernel_rfl
/-! ### what the shelf's words say of a row of one's own -/
theorem own_holds {w : World} {B g c : Nat} {l : List Int} (ho : OwnI w B TI (some ⟨g, 0, none⟩) c l) : Go.Sort.Holds (Value.int .i64) w g 0 l.toArray := by
  intro j hj
  have hj' : j < l.length := by simpa using hj
  have h1 := World.ownsRow.cellAt ho j (by omega)
  have h2 := World.ownsRow.frozenAt ho j
  rw [Nat.zero_add]
  refine ⟨?_, h2⟩
  rw [h1, List.getElem?_map, List.getElem?_eq_getElem hj', getElem!_pos l.toArray j hj]
  rfl
theorem putRow_heap (w : World) (n g : Nat) (d : Array Int) (cur : Array Value) (e : TypeId) (f : Nat × Nat) (h : w.heap[g]? = some (.cells cur e f)) : (putRow (Value.int .i64) (Go.Sort.ahead w n) g 0 d).heap[g]? = some (.cells (putCells (Value.int .i64) 0 d cur) e f) ∧ ∀ k, k ≠ g → (putRow (Value.int .i64) (Go.Sort.ahead w n) g 0 d).heap[k]? = w.heap[k]? := by
  constructor
  · show (w.heap.modify g _)[g]? = _
    rw [Array.getElem?_modify, if_pos rfl, h]; rfl
  · intro k hk
    show (w.heap.modify g _)[k]? = _
    rw [Array.getElem?_modify, if_neg (Ne.symm hk)]
theorem putCells_take (d : Array Int) (cur : Array Value) (h : d.size ≤ cur.size) : (putCells (Value.int .i64) 0 d cur).toList.take d.size = d.toList.map (Value.int .i64) := by
  apply List.ext_getElem?
  intro k
  rw [List.getElem?_take]
  split
  · rename_i hk
    rw [Array.getElem?_toList]
    unfold putCells
    rw [Array.getElem?_mapIdx, Array.getElem?_eq_getElem (by omega), Option.map_some, if_pos ⟨by omega, by omega⟩, List.getElem?_map, Array.getElem?_toList, Array.getElem?_eq_getElem hk, Nat.sub_zero, getElem!_pos d k hk]
    rfl
  · rename_i hk
    rw [List.getElem?_eq_none (by simp; omega)]
theorem own_put {w : World} {B g c : Nat} {l d : List Int} (ho : OwnI w B TI (some ⟨g, 0, none⟩) c l) (hd : d.length = l.length) (n : Nat) : OwnI (putRow (Value.int .i64) (Go.Sort.ahead w n) g 0 d.toArray) B TI (some ⟨g, 0, none⟩) c d ∧ Keeps (fun k => k = g) w (putRow (Value.int .i64) (Go.Sort.ahead w n) g 0 d.toArray) := by
  obtain ⟨hl, h⟩ := ho
  rcases h with ⟨h, _⟩ | ⟨g', cap, cur, hv, hb, hg, hn, hm, hs, ht⟩
  · cases h
  · injection hv with h1 h2 h3
    injection h1 with h1; injection h1 with h1; subst h1; subst h3
    obtain ⟨p1, p2⟩ := putRow_heap w n g d.toArray cur TI (0, 0) hg
    refine ⟨⟨by simp, .inr ⟨g, c, _, rfl, hb, p1, by omega, hm, by simp [putCells]; omega, ?_⟩⟩, rfl, rfl, rfl, by simp [Go.Sort.ahead], fun k _ hk => p2 k hk⟩
    have := putCells_take d.toArray cur (by simp; omega)
    rw [Nat.mul_one]
    simpa using this
theorem below_grow (w : World) (os : Array Obj) : Below w.heap.size w (grow w os) := ⟨rfl, rfl, rfl, by simp, fun k hk => heap_grow_old w os hk⟩
def srt (l : List Int) : List Int := l.mergeSort fun x y => decide (x ≤ y)
theorem OwnI.addr {w : World} {B c : Nat} {A : Option Addr} {l : List Int} (ho : OwnI w B TI A c l) : (A = none ∧ l = [] ∧ c = 0) ∨ ∃ g, A = some ⟨g, 0, none⟩ ∧ g < w.heap.size ∧ l.length ≤ c := by
  have ho' := ho
  obtain ⟨hl, h⟩ := ho
  rcases h with ⟨h, h0⟩ | ⟨g, cap, cur, hv, hb, hg, hn, hm, hs, ht⟩
  · injection h with h1 h2 h3
    exact .inl ⟨h1, List.length_eq_zero_iff.1 h0, h3⟩
  · injection hv with h1 h2 h3
    exact .inr ⟨g, h1, (Array.getElem?_eq_some_iff.1 hg).1, by omega⟩
theorem Sort_ok {w : World} {B c : Nat} {A : Option Addr} {l : List Int} {n : Nat} (ho : OwnI w B TI A c l) (hn : n = l.length) (hl : l.length ≤ 1000000) : Calls Try.prog 61 #[.slice A n c] w fun e w' => e = .returned (.tuple #[]) ∧ OwnI w' B TI A c (srt l) ∧ Keeps (Ob A) w w' := by
  subst hn
  rcases OwnI.addr ho with ⟨rfl, rfl, rfl⟩ | ⟨g, rfl, hg, hc⟩
  · refine (show Calls Try.prog 61 #[.slice none 0 0] w _ from (AnyM.slices_Sort_int_none sortA none 0 w)).mono ?_
    rintro e w' ⟨rfl, rfl⟩
    exact ⟨rfl, by simpa [srt] using ho, .refl _ _⟩
  · refine (show Calls Try.prog 61 #[.slice (some ⟨g, 0, none⟩) l.length c] w _ from (AnyM.slices_Sort_int sortA g 0 c l w (own_holds ho) hg (by omega))).mono ?_
    rintro e w' ⟨rfl, n, os, rfl⟩
    obtain ⟨o2, k2⟩ := own_put ho (d := srt l) (List.length_mergeSort l) n
    refine ⟨rfl, o2.keeps (S := fun _ => False) (.of_below (below_grow _ os)) fun _ _ => id, (k2.mono fun k _ hk => ⟨_, rfl, hk.symm⟩).trans (.of_below (below_grow _ os))⟩
def cmp (l : List Int) : List Int := Go.Lib.compact l
theorem compact_le (l : List Int) : (Go.Lib.compact l).length ≤ l.length := by
  unfold Go.Lib.compact Go.Lib.compactUpTo
  rw [List.length_map]
  exact Nat.le_trans (List.length_filter_le _ _) (by simp)
theorem Compact_ok {w : World} {B c : Nat} {A : Option Addr} {l : List Int} {n : Nat} (ho : OwnI w B TI A c l) (hn : n = l.length) (hl : l.length ≤ 1000000) : Calls Try.prog 62 #[.slice A n c] w fun e w' => e = .returned (.slice A (cmp l).length c) ∧ OwnI w' B TI A c (cmp l) ∧ Keeps (Ob A) w w' := by
  subst hn
  rcases OwnI.addr ho with ⟨rfl, rfl, rfl⟩ | ⟨g, rfl, hg, hc⟩
  · refine (show Calls Try.prog 62 #[.slice none 0 0] w _ from (AnyG.slices_Compact_int_empty compactA none 0 w)).mono ?_
    rintro e w' ⟨rfl, rfl⟩
    exact ⟨rfl, ho, .refl _ _⟩
  · refine (show Calls Try.prog 62 #[.slice (some ⟨g, 0, none⟩) l.length c] w _ from (AnyG.slices_Compact_int compactA g 0 c l w (own_holds ho) (by omega) hc)).mono ?_
    rintro e w' ⟨rfl, n, rfl⟩
    have hle := compact_le l
    obtain ⟨o2, k2⟩ := own_put ho (d := Go.Lib.compact l ++ List.replicate (l.length - (Go.Lib.compact l).length) 0) (by simp; omega) n
    refine ⟨rfl, ?_, k2.mono fun k _ hk => ⟨_, rfl, hk.symm⟩⟩
    generalize putRow (Value.int .i64) (Go.Sort.ahead w n) g 0 (Go.Lib.compact l ++ List.replicate (l.length - (Go.Lib.compact l).length) 0).toArray = w' at *
    have key : ∀ (m : Nat) (d : List Int), OwnI w' B TI (some ⟨g, 0, none⟩) c (d ++ List.replicate m 0) → OwnI w' B TI (some ⟨g, 0, none⟩) c d := by
      intro m
      induction m with
      | zero => intro d h; simpa using h
      | succ m ih =>
        intro d h
        rw [List.replicate_succ', ← List.append_assoc] at h
        exact ih d (OwnI.pop h)
    exact key _ _ o2
/-! ### sorted without repeats -/
theorem srt_perm (l : List Int) : (srt l).Perm l := List.mergeSort_perm l _
theorem srt_sorted (l : List Int) : (srt l).Pairwise (· ≤ ·) :=
  (List.pairwise_mergeSort (fun a b c h1 h2 => by simp only [decide_eq_true_eq] at *; omega) (fun a b => by simp only [Bool.or_eq_true, decide_eq_true_eq]; omega) l).imp fun h => by simpa using h
theorem cmp_sorted {l : List Int} (h : l.Pairwise (· ≤ ·)) : (cmp l).Pairwise (· < ·) ∧ ∀ x, x ∈ cmp l ↔ x ∈ l := by
  have ix : ∀ {i j : Nat} (hi : i < l.length) (hj : j < l.length), i ≤ j → l[i] ≤ l[j] := by
    intro i j hi hj hij
    rcases Nat.lt_or_eq_of_le hij with hlt | rfl
    · exact List.pairwise_iff_getElem.1 h i j hi hj hlt
    · exact Int.le_refl _
  have key : ∀ m, m ≤ l.length → (Go.Lib.compactUpTo l.toArray m).Pairwise (· < ·) ∧ ∀ x, x ∈ Go.Lib.compactUpTo l.toArray m ↔ x ∈ l.take m := by
    intro m
    induction m with
    | zero => intro _; simp [Go.Lib.compactUpTo]
    | succ m ih =>
      intro hm
      have hlt : m < l.length := by omega
      obtain ⟨i1, i2⟩ := ih (by omega)
      have gm : l.toArray[m]! = l[m] := by rw [getElem!_pos l.toArray m (by simpa using hlt)]; rfl
      rw [Go.Lib.compactUpTo_succ, gm, List.take_succ_eq_append_getElem hlt]
      by_cases h0 : m = 0
      · subst h0
        have : Go.Lib.keeps l.toArray 0 = true := by simp [Go.Lib.keeps]
        rw [this]
        simp [Go.Lib.compactUpTo]
      · have hp : m - 1 < l.length := by omega
        have gp : l.toArray[m - 1]! = l[m - 1] := by rw [getElem!_pos l.toArray (m - 1) (by simpa using hp)]; rfl
        have hmem : l[m - 1] ∈ l.take m := by
          rw [List.mem_take_iff_getElem]
          exact ⟨m - 1, by omega, rfl⟩
        have le' : ∀ x, x ∈ l.take m → x ≤ l[m - 1] := by
          intro x hx
          rw [List.mem_take_iff_getElem] at hx
          obtain ⟨i, hi, rfl⟩ := hx
          exact ix (by omega) hp (by omega)
        by_cases e : l[m] = l[m - 1]
        · have : Go.Lib.keeps l.toArray m = false := Go.Lib.keeps_neg (by omega) (by rw [gm, gp, e])
          rw [this]
          simp only [Bool.false_eq_true, if_false, List.append_nil]
          refine ⟨i1, fun x => ?_⟩
          rw [i2, List.mem_append, List.mem_singleton, e]
          exact ⟨.inl, fun hh => hh.elim id fun hh => hh ▸ hmem⟩
        · have : Go.Lib.keeps l.toArray m = true := Go.Lib.keeps_pos (by rw [gm, gp]; exact e)
          rw [this]
          simp only [if_true]
          refine ⟨List.pairwise_append.2 ⟨i1, List.pairwise_singleton _ _, fun x hx y hy => ?_⟩, fun x => ?_⟩
          · rw [List.mem_singleton] at hy; subst hy
            have a := le' x ((i2 x).1 hx)
            have b := ix hp hlt (by omega)
            omega
          · rw [List.mem_append, List.mem_append, i2]
  have := key l.length (Nat.le_refl _)
  unfold cmp Go.Lib.compact
  rw [List.take_length] at this
  exact this
theorem sorted_ext {l m : List Int} (h : l.Pairwise (· < ·)) (k : m.Pairwise (· < ·)) (e : ∀ x, x ∈ l ↔ x ∈ m) : l = m := by
  have p : l.Perm m := (List.perm_ext_iff_of_nodup (sorted_nodup h) (sorted_nodup k)).2 e
  exact p.eq_of_pairwise (le := fun x y => x < y) (fun a b _ _ h1 h2 => by omega) h k
end Go.Proofs.Ytkkobfajahmfaaa.Rd
