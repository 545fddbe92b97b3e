/- slices.Sorted(maps.Keys(m)) at whole numbers: the library's contracts laid at this program (printed by wip/laytxt.py), and what they say of a map of pairs. Conditions: none. -/
import Derived.Shelf.SlIterI.Nil
import Derived.Shelf.SortM.Plain
import Derived.Shelf.SortM.SortNone
import Derived.Test.YthekjlglnmhlaaaDkD
namespace Go.Proofs.Ythekjlglnmhlaaa.Rd
open Go.Dn Go.RowKit Go.Maps Go.Sort Go.Shelf
set_option linter.unusedVariables false
set_option maxRecDepth 100000
def keysA_ren : Go.Shelf.Ren := ⟨fun | 7 => 38 | 10 => 55 | n => n, fun | 23 => 66 | 26 => 3 | 3 => 76 | 28 => 73 | 0 => 0 | 27 => 72 | 33 => 91 | 4 => 4 | n => n, fun | n => n⟩
theorem keysA : Go.Proofs.SlLaysZI.n7 Try.prog keysA_ren where
  mixed := by kernel_rfl
  f7 := ⟨Try.f38.name, by decide, Try.func38.trans (congrArg some (by kernel_rfl))⟩
  f10 := ⟨Try.f55.name, by decide, Try.func55.trans (congrArg some (by kernel_rfl))⟩
  t0 := Try.underlying0
  a0 := Try.isAgg0
  z0 := Try.sizeOf0
  v0 := Try.zeroValue0
  t4 := Try.underlying4
  a4 := Try.isAgg4
  z4 := Try.sizeOf4
  v4 := Try.zeroValue4
  t23 := Try.underlying66
  a23 := Try.isAgg66
  z23 := Try.sizeOf66
  v23 := Try.zeroValue66
  t26 := Try.underlying3
  a26 := Try.isAgg3
  z26 := Try.sizeOf3
  v26 := Try.zeroValue3
  t27 := Try.underlying72
  a27 := Try.isAgg72
  z27 := Try.sizeOf72
  v27 := Try.zeroValue72
  t28 := Try.underlying73
  a28 := Try.isAgg73
  z28 := Try.sizeOf73
  v28 := Try.zeroValue73
  t33 := Try.underlying91
  a33 := Try.isAgg91
  z33 := Try.sizeOf91
  v33 := Try.zeroValue91
def sortedA_ren : Go.Shelf.Ren := ⟨fun | 6 => 37 | 8 => 53 | 9 => 54 | 11 => 62 | 13 => 64 | 12 => 63 | 23 => 75 | 24 => 76 | 14 => 66 | 15 => 67 | 16 => 68 | 17 => 69 | 18 => 70 | 19 => 71 | 20 => 72 | 21 => 73 | 22 => 74 | 25 => 77 | 26 => 78 | 27 => 79 | 28 => 80 | 29 => 81 | 30 => 82 | 31 => 83 | n => n, fun | 26 => 3 | 28 => 73 | 24 => 31 | 0 => 0 | 3 => 3 | 37 => 103 | 48 => 114 | 50 => 116 | 4 => 4 | 40 => 107 | 39 => 106 | 45 => 111 | 5 => 5 | 9 => 9 | 51 => 117 | 55 => 121 | 57 => 123 | 58 => 124 | 33 => 91 | n => n, fun | n => n⟩
theorem sortedA : Go.Proofs.SlLaysZI.n6 Try.prog sortedA_ren where
  mixed := by kernel_rfl
  f6 := ⟨Try.f37.name, by decide, Try.func37.trans (congrArg some (by kernel_rfl))⟩
  f8 := ⟨Try.f53.name, by decide, Try.func53.trans (congrArg some (by kernel_rfl))⟩
  f11 := ⟨Try.f62.name, by decide, Try.func62.trans (congrArg some (by kernel_rfl))⟩
  t0 := Try.underlying0
  a0 := Try.isAgg0
  z0 := Try.sizeOf0
  v0 := Try.zeroValue0
  t24 := Try.underlying31
  a24 := Try.isAgg31
  z24 := Try.sizeOf31
  v24 := Try.zeroValue31
  t26 := Try.underlying3
  a26 := Try.isAgg3
  z26 := Try.sizeOf3
  v26 := Try.zeroValue3
  t28 := Try.underlying73
  a28 := Try.isAgg73
  z28 := Try.sizeOf73
  v28 := Try.zeroValue73
  i26 := by kernel_rfl
def sortA_ren : Go.Shelf.Ren := ⟨fun | 5 => 54 | 8 => 64 | 7 => 63 | 19 => 75 | 20 => 76 | 10 => 66 | 11 => 67 | 12 => 68 | 13 => 69 | 14 => 70 | 15 => 71 | 16 => 72 | 17 => 73 | 18 => 74 | 30 => 77 | 31 => 78 | 32 => 79 | 33 => 80 | 34 => 81 | 35 => 82 | 40 => 83 | n => n, fun | 23 => 31 | 25 => 3 | 3 => 3 | 32 => 103 | 22 => 31 | 0 => 0 | 44 => 114 | 46 => 116 | 4 => 4 | 36 => 107 | 35 => 106 | 41 => 111 | 5 => 5 | 9 => 9 | 53 => 117 | 57 => 121 | 63 => 123 | 64 => 124 | n => n, fun | n => n⟩
theorem sortA : Go.Proofs.SlLaysM.n5 Try.prog sortA_ren where
  mixed := by kernel_rfl
  f5 := ⟨Try.f54.name, by decide, Try.func54.trans (congrArg some (by kernel_rfl))⟩
  f7 := ⟨Try.f63.name, by decide, Try.func63.trans (congrArg some (by kernel_rfl))⟩
  f8 := Try.func64.trans (congrArg some (by kernel_rfl))
  f10 := ⟨Try.f66.name, by decide, Try.func66.trans (congrArg some (by kernel_rfl))⟩
  f11 := ⟨Try.f67.name, by decide, Try.func67.trans (congrArg some (by kernel_rfl))⟩
  f12 := ⟨Try.f68.name, by decide, Try.func68.trans (congrArg some (by kernel_rfl))⟩
  f13 := ⟨Try.f69.name, by decide, Try.func69.trans (congrArg some (by kernel_rfl))⟩
  f14 := ⟨Try.f70.name, by decide, Try.func70.trans (congrArg some (by kernel_rfl))⟩
  f15 := ⟨Try.f71.name, by decide, Try.func71.trans (congrArg some (by kernel_rfl))⟩
  f16 := ⟨Try.f72.name, by decide, Try.func72.trans (congrArg some (by kernel_rfl))⟩
  f17 := ⟨Try.f73.name, by decide, Try.func73.trans (congrArg some (by kernel_rfl))⟩
  f18 := ⟨Try.f74.name, by decide, Try.func74.trans (congrArg some (by kernel_rfl))⟩
  f19 := Try.func75.trans (congrArg some (by kernel_rfl))
  f20 := Try.func76.trans (congrArg some (by kernel_rfl))
  f30 := ⟨Try.f77.name, by decide, Try.func77.trans (congrArg some (by kernel_rfl))⟩
  f31 := Try.func78.trans (congrArg some (by kernel_rfl))
  f32 := Try.func79.trans (congrArg some (by kernel_rfl))
  f33 := ⟨Try.f80.name, by decide, Try.func80.trans (congrArg some (by kernel_rfl))⟩
  f34 := ⟨Try.f81.name, by decide, Try.func81.trans (congrArg some (by kernel_rfl))⟩
  f35 := ⟨Try.f82.name, by decide, Try.func82.trans (congrArg some (by kernel_rfl))⟩
  f40 := ⟨Try.f83.name, by decide, Try.func83.trans (congrArg some (by kernel_rfl))⟩
  t0 := Try.underlying0
  a0 := Try.isAgg0
  z0 := Try.sizeOf0
  v0 := Try.zeroValue0
  t3 := Try.underlying3
  a3 := Try.isAgg3
  z3 := Try.sizeOf3
  v3 := Try.zeroValue3
  t4 := Try.underlying4
  a4 := Try.isAgg4
  z4 := Try.sizeOf4
  v4 := Try.zeroValue4
  t5 := Try.underlying5
  a5 := Try.isAgg5
  z5 := Try.sizeOf5
  v5 := Try.zeroValue5
  t9 := Try.underlying9
  a9 := Try.isAgg9
  z9 := Try.sizeOf9
  v9 := Try.zeroValue9
  t22 := Try.underlying31
  a22 := Try.isAgg31
  z22 := Try.sizeOf31
  v22 := Try.zeroValue31
  t23 := Try.underlying31
  a23 := Try.isAgg31
  z23 := Try.sizeOf31
  v23 := Try.zeroValue31
  t25 := Try.underlying3
  a25 := Try.isAgg3
  z25 := Try.sizeOf3
  v25 := Try.zeroValue3
  t32 := Try.underlying103
  a32 := Try.isAgg103
  z32 := Try.sizeOf103
  v32 := Try.zeroValue103
  t35 := Try.underlying106
  a35 := Try.isAgg106
  z35 := Try.sizeOf106
  v35 := Try.zeroValue106
  t36 := Try.underlying107
  a36 := Try.isAgg107
  z36 := Try.sizeOf107
  v36 := Try.zeroValue107
  t41 := Try.underlying111
  a41 := Try.isAgg111
  z41 := Try.sizeOf111
  v41 := Try.zeroValue111
  t44 := Try.underlying114
  a44 := Try.isAgg114
  z44 := Try.sizeOf114
  v44 := Try.zeroValue114
  t46 := Try.underlying116
  a46 := Try.isAgg116
  z46 := Try.sizeOf116
  v46 := Try.zeroValue116
  t53 := Try.underlying117
  a53 := Try.isAgg117
  z53 := Try.sizeOf117
  v53 := Try.zeroValue117
  t57 := Try.underlying121
  a57 := Try.isAgg121
  z57 := Try.sizeOf121
  v57 := Try.zeroValue121
  t63 := Try.underlying123
  a63 := Try.isAgg123
  z63 := Try.sizeOf123
  v63 := Try.zeroValue123
  t64 := Try.underlying124
  a64 := Try.isAgg124
  z64 := Try.sizeOf124
  v64 := Try.zeroValue124
theorem sortsA (m : Nat) : AnyZI.SortsIn Try.prog sortedA_ren Fence.wide m :=
  ⟨fun blk off cap ss W hH hblk hsz => callsIn_wide.2 (AnyM.slices_Sort_int sortA blk off cap ss W hH hblk hsz),
   fun p cap W => callsIn_wide.2 (AnyM.slices_Sort_int_none sortA p cap W)⟩
/-- how an element is read where nothing hangs on it -/
def rAny (v : Value) : Option (DataW Unit × List MemPlace) := some (.nil, [])
theorem gm_owns {β : Type} {eV : β → Value} {w : World} {b : Nat} {m : List (Int × β)} (h : GM w eI eV W64 b m) (hm : m.length ≤ 1000000) : ∃ D : DataW Unit, w.ownsMap Try.prog 3 rAny b m.length D ∧ (intKeys D).Perm (m.map (·.1)) ∧ Maps.size D = m.length := by
  obtain ⟨es, clock, hb, hst, he⟩ := h.dat
  have hlen := congrArg List.length he
  simp only [List.length_map, Array.length_toList] at hlen
  have hkey : ∀ x ∈ es.toList, ∃ n : Int, x.key = .int .i64 n ∧ W64 n := fun x hx => by
    obtain ⟨j, hj, rfl⟩ := List.getElem_of_mem hx
    obtain ⟨y, v, hmj, hk, _⟩ := at_pair he (List.getElem?_eq_getElem hj)
    exact ⟨y, hk, h.ok _ (List.mem_of_getElem? hmj)⟩
  have F : WideElems.Fit Try.prog 3 rAny es clock := ⟨by unfold maxLen; omega, hst, fun x hx => by
    obtain ⟨n, hn, hw⟩ := hkey x hx
    refine ⟨(.int .i64 n, .nil), ?_⟩
    unfold WideElems.rd
    rw [hn, Maps.keyOf_int_mk Kint hw.wf]; rfl⟩
  refine ⟨_, ⟨es, clock, hb, F, by omega, rfl⟩, ?_, ?_⟩
  · have e1 : (es.toList.map (WideElems.rg Try.prog 3 rAny)).map (fun p => Go.intOf p.1) = m.map (·.1) := by
      have e2 : (es.toList.map (WideElems.rg Try.prog 3 rAny)).map (fun p => Go.intOf p.1) = es.toList.map (fun e => match e.key with | .int _ n => n | _ => 0) := by
        rw [List.map_map]
        refine List.map_congr_left fun x hx => ?_
        obtain ⟨n, hn, hw⟩ := hkey x hx
        have : WideElems.rd (H := Unit) Try.prog 3 rAny x = some (.int .i64 n, .nil) := by
          unfold WideElems.rd
          rw [hn, Maps.keyOf_int_mk Kint hw.wf]; rfl
        show Go.intOf (WideElems.rg Try.prog 3 rAny x).1 = _
        rw [WideElems.rg_of this, hn]; rfl
      have e3 : es.toList.map (fun e => match e.key with | .int _ n => n | _ => 0) = (es.toList.map fun e => (e.key, e.val)).map (fun p : Value × Value => match p.1 with | .int _ n => n | _ => (0 : Int)) := by rw [List.map_map]; rfl
      rw [e2, e3, he, List.map_map]
      exact List.map_congr_left fun p _ => rfl
    rw [← e1]
    exact (WideShapes.sorted_perm _).map _
  · simp [Maps.size, length_sorted, hlen]
/-- the keys, sorted, in a row of one's own -/
theorem sorted_keys {β : Type} {eV : β → Value} {w : World} {b : Nat} {m : List (Int × β)} (h : GM w eI eV W64 b m) (hm : m.length ≤ 1000000) {l : List Int} (hl : l.Pairwise (· < ·)) (hp : l.Perm (m.map (·.1))) {Bm : Nat} (hB : HB w Bm #[.map (some b)] 66) :
    Calls Try.prog 37 #[.func (.func 55) #[] #[.pointer (some ⟨Bm, 0, none⟩)]] w fun e w' => ∃ A c, e = .returned (.slice A l.length c) ∧ OwnI w' w.heap.size 3 A c l ∧ Below w.heap.size w w' := by
  obtain ⟨D, ho, hk, hs⟩ := gm_owns h hm
  have hseq : SeqGives Fence.wide 2 Try.prog 55 #[.pointer (some ⟨Bm, 0, none⟩)] encZ (fun ss => ss.Perm (intKeys D)) (Maps.size D) w :=
    AnyZI.keys_gives (ρ := keysA_ren) { keysA with } Fence.wide _ trivial rfl (by omega) Bm b m.length D w hB.lt (hB.cell 0) ho
  have cS := AnyZI.sorted_in sortedA Fence.wide 5 trivial trivial trivial trivial rfl (by omega) (sortsA _) (enters_of Try.func54 (by kernel_rfl) rfl) 55 #[.pointer (some ⟨Bm, 0, none⟩)] trivial (enters_of Try.func55 (by kernel_rfl) rfl) _ _ (by rw [hs]; unfold maxLen; omega) (by rw [hs]; omega) w hseq
  change CallsIn _ _ Try.prog 37 _ _ _ at cS
  refine (callsIn_wide.1 cS).mono fun e w' he => ?_
  obtain ⟨v, ss, rfl, hS, hrow, hnil, hb⟩ := he
  have hrow : w'.ownsRow w.heap.size 3 1 v ss.length ((ss.mergeSort (fun x y => decide (x ≤ y))).map encZ) := hrow
  have hsort : ss.mergeSort (fun x y => decide (x ≤ y)) = l := by
    have p1 : (ss.mergeSort (fun x y => decide (x ≤ y))).Perm l := ((List.mergeSort_perm ss _).trans (hS.trans hk)).trans hp.symm
    have s1 : (ss.mergeSort (fun x y => decide (x ≤ y))).Pairwise (fun x y => decide (x ≤ y) = true) := List.pairwise_mergeSort (fun a b c h1 h2 => by simp only [decide_eq_true_eq] at *; omega) (fun a b => by simp only [Bool.or_eq_true, decide_eq_true_eq]; omega) ss
    exact p1.eq_of_pairwise (le := fun x y => x ≤ y) (fun a b _ _ h1 h2 => by omega) (s1.imp fun h => by simpa using h) (hl.imp fun h => by omega)
  have hlen : ss.length = l.length := by rw [← hsort]; exact (List.length_mergeSort ss).symm
  rw [hsort, hlen] at hrow
  obtain ⟨A, c, rfl⟩ : ∃ A c, v = .slice A l.length c := by
    rcases hrow.2 with ⟨h1, h2⟩ | ⟨g, cap, cur, h1, _⟩
    · exact ⟨none, 0, by rw [h1, h2]⟩
    · exact ⟨_, _, h1⟩
  exact ⟨A, c, rfl, hrow, hb⟩
end Go.Proofs.Ythekjlglnmhlaaa.Rd
