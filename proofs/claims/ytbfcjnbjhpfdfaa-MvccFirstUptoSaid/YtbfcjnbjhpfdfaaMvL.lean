/- slices.Sorted(maps.Keys(m)) at whole numbers: the library's contracts laid at this program (printed by wip/laytxt.py), and what they say of a map of pairs; Live. Conditions: none. -/
import Derived.Shelf.SlIterI.Nil
import Derived.Shelf.SortM.Plain
import Derived.Shelf.SortM.SortNone
import Derived.Test.YtbfcjnbjhpfdfaaMvF
namespace Go.Proofs.Ytbfcjnbjhpfdfaa.Rd
open Go.Dn Go.RowKit Go.Maps Go.Sort Go.Shelf
set_option linter.unusedVariables false
set_option maxRecDepth 100000
def keysA_ren : Go.Shelf.Ren := ⟨fun | 7 => 32 | 10 => 39 | n => n, fun | 23 => 57 | 26 => 3 | 3 => 78 | 28 => 76 | 0 => 0 | 27 => 75 | 33 => 86 | 4 => 4 | n => n, fun | n => n⟩
theorem keysA : Go.Proofs.SlLaysZI.n7 Try.prog keysA_ren := {
  mixed := by kernel_rfl
  f7 := ⟨Try.f32.name, by decide, Try.func32.trans (congrArg some (by kernel_rfl))⟩
  f10 := ⟨Try.f39.name, by decide, Try.func39.trans (congrArg some (by kernel_rfl))⟩
  t0 := Try.underlying0
  a0 := Try.isAgg0
  z0 := Try.sizeOf0
  v0 := Try.zeroValue0
  t4 := Try.underlying4
  a4 := Try.isAgg4
  z4 := Try.sizeOf4
  v4 := Try.zeroValue4
  t23 := Try.underlying57
  a23 := Try.isAgg57
  z23 := Try.sizeOf57
  v23 := Try.zeroValue57
  t26 := Try.underlying3
  a26 := Try.isAgg3
  z26 := Try.sizeOf3
  v26 := Try.zeroValue3
  t27 := Try.underlying75
  a27 := Try.isAgg75
  z27 := Try.sizeOf75
  v27 := Try.zeroValue75
  t28 := Try.underlying76
  a28 := Try.isAgg76
  z28 := Try.sizeOf76
  v28 := Try.zeroValue76
  t33 := Try.underlying86
  a33 := Try.isAgg86
  z33 := Try.sizeOf86
  v33 := Try.zeroValue86 }
def sortedA_ren : Go.Shelf.Ren := ⟨fun | 6 => 31 | 8 => 37 | 9 => 38 | 11 => 42 | 13 => 44 | 12 => 43 | 23 => 54 | 24 => 55 | 14 => 45 | 15 => 46 | 16 => 47 | 17 => 48 | 18 => 49 | 19 => 50 | 20 => 51 | 21 => 52 | 22 => 53 | 25 => 56 | 26 => 57 | 27 => 58 | 28 => 59 | 29 => 60 | 30 => 61 | 31 => 62 | n => n, fun | 26 => 3 | 28 => 76 | 24 => 35 | 0 => 0 | 3 => 3 | 37 => 92 | 48 => 103 | 50 => 105 | 4 => 4 | 40 => 95 | 39 => 94 | 45 => 100 | 5 => 5 | 9 => 9 | 51 => 106 | 55 => 110 | 57 => 112 | 58 => 113 | 33 => 86 | n => n, fun | n => n⟩
theorem sortedA : Go.Proofs.SlLaysZI.n6 Try.prog sortedA_ren := {
  mixed := by kernel_rfl
  f6 := ⟨Try.f31.name, by decide, Try.func31.trans (congrArg some (by kernel_rfl))⟩
  f8 := ⟨Try.f37.name, by decide, Try.func37.trans (congrArg some (by kernel_rfl))⟩
  f11 := ⟨Try.f42.name, by decide, Try.func42.trans (congrArg some (by kernel_rfl))⟩
  t0 := Try.underlying0
  a0 := Try.isAgg0
  z0 := Try.sizeOf0
  v0 := Try.zeroValue0
  t24 := Try.underlying35
  a24 := Try.isAgg35
  z24 := Try.sizeOf35
  v24 := Try.zeroValue35
  t26 := Try.underlying3
  a26 := Try.isAgg3
  z26 := Try.sizeOf3
  v26 := Try.zeroValue3
  t28 := Try.underlying76
  a28 := Try.isAgg76
  z28 := Try.sizeOf76
  v28 := Try.zeroValue76
  i26 := by kernel_rfl }
def sortA_ren : Go.Shelf.Ren := ⟨fun | 5 => 38 | 8 => 44 | 7 => 43 | 19 => 54 | 20 => 55 | 10 => 45 | 11 => 46 | 12 => 47 | 13 => 48 | 14 => 49 | 15 => 50 | 16 => 51 | 17 => 52 | 18 => 53 | 30 => 56 | 31 => 57 | 32 => 58 | 33 => 59 | 34 => 60 | 35 => 61 | 40 => 62 | n => n, fun | 23 => 35 | 25 => 3 | 3 => 3 | 32 => 92 | 22 => 35 | 0 => 0 | 44 => 103 | 46 => 105 | 4 => 4 | 36 => 95 | 35 => 94 | 41 => 100 | 5 => 5 | 9 => 9 | 53 => 106 | 57 => 110 | 63 => 112 | 64 => 113 | n => n, fun | n => n⟩
theorem sortA : Go.Proofs.SlLaysM.n5 Try.prog sortA_ren := {
  mixed := by kernel_rfl
  f5 := ⟨Try.f38.name, by decide, Try.func38.trans (congrArg some (by kernel_rfl))⟩
  f7 := ⟨Try.f43.name, by decide, Try.func43.trans (congrArg some (by kernel_rfl))⟩
  f8 := Try.func44.trans (congrArg some (by kernel_rfl))
  f10 := ⟨Try.f45.name, by decide, Try.func45.trans (congrArg some (by kernel_rfl))⟩
  f11 := ⟨Try.f46.name, by decide, Try.func46.trans (congrArg some (by kernel_rfl))⟩
  f12 := ⟨Try.f47.name, by decide, Try.func47.trans (congrArg some (by kernel_rfl))⟩
  f13 := ⟨Try.f48.name, by decide, Try.func48.trans (congrArg some (by kernel_rfl))⟩
  f14 := ⟨Try.f49.name, by decide, Try.func49.trans (congrArg some (by kernel_rfl))⟩
  f15 := ⟨Try.f50.name, by decide, Try.func50.trans (congrArg some (by kernel_rfl))⟩
  f16 := ⟨Try.f51.name, by decide, Try.func51.trans (congrArg some (by kernel_rfl))⟩
  f17 := ⟨Try.f52.name, by decide, Try.func52.trans (congrArg some (by kernel_rfl))⟩
  f18 := ⟨Try.f53.name, by decide, Try.func53.trans (congrArg some (by kernel_rfl))⟩
  f19 := Try.func54.trans (congrArg some (by kernel_rfl))
  f20 := Try.func55.trans (congrArg some (by kernel_rfl))
  f30 := ⟨Try.f56.name, by decide, Try.func56.trans (congrArg some (by kernel_rfl))⟩
  f31 := Try.func57.trans (congrArg some (by kernel_rfl))
  f32 := Try.func58.trans (congrArg some (by kernel_rfl))
  f33 := ⟨Try.f59.name, by decide, Try.func59.trans (congrArg some (by kernel_rfl))⟩
  f34 := ⟨Try.f60.name, by decide, Try.func60.trans (congrArg some (by kernel_rfl))⟩
  f35 := ⟨Try.f61.name, by decide, Try.func61.trans (congrArg some (by kernel_rfl))⟩
  f40 := ⟨Try.f62.name, by decide, Try.func62.trans (congrArg some (by kernel_rfl))⟩
  t0 := Try.underlying0
  a0 := Try.isAgg0
  z0 := Try.sizeOf0
  v0 := Try.zeroValue0
  t3 := Try.underlying3
  a3 := Try.isAgg3
  z3 := Try.sizeOf3
  v3 := Try.zeroValue3
  t4 := Try.underlying4
  a4 := Try.isAgg4
  z4 := Try.sizeOf4
  v4 := Try.zeroValue4
  t5 := Try.underlying5
  a5 := Try.isAgg5
  z5 := Try.sizeOf5
  v5 := Try.zeroValue5
  t9 := Try.underlying9
  a9 := Try.isAgg9
  z9 := Try.sizeOf9
  v9 := Try.zeroValue9
  t22 := Try.underlying35
  a22 := Try.isAgg35
  z22 := Try.sizeOf35
  v22 := Try.zeroValue35
  t23 := Try.underlying35
  a23 := Try.isAgg35
  z23 := Try.sizeOf35
  v23 := Try.zeroValue35
  t25 := Try.underlying3
  a25 := Try.isAgg3
  z25 := Try.sizeOf3
  v25 := Try.zeroValue3
  t32 := Try.underlying92
  a32 := Try.isAgg92
  z32 := Try.sizeOf92
  v32 := Try.zeroValue92
  t35 := Try.underlying94
  a35 := Try.isAgg94
  z35 := Try.sizeOf94
  v35 := Try.zeroValue94
  t36 := Try.underlying95
  a36 := Try.isAgg95
  z36 := Try.sizeOf95
  v36 := Try.zeroValue95
  t41 := Try.underlying100
  a41 := Try.isAgg100
  z41 := Try.sizeOf100
  v41 := Try.zeroValue100
  t44 := Try.underlying103
  a44 := Try.isAgg103
  z44 := Try.sizeOf103
  v44 := Try.zeroValue103
  t46 := Try.underlying105
  a46 := Try.isAgg105
  z46 := Try.sizeOf105
  v46 := Try.zeroValue105
  t53 := Try.underlying106
  a53 := Try.isAgg106
  z53 := Try.sizeOf106
  v53 := Try.zeroValue106
  t57 := Try.underlying110
  a57 := Try.isAgg110
  z57 := Try.sizeOf110
  v57 := Try.zeroValue110
  t63 := Try.underlying112
  a63 := Try.isAgg112
  z63 := Try.sizeOf112
  v63 := Try.zeroValue112
  t64 := Try.underlying113
  a64 := Try.isAgg113
  z64 := Try.sizeOf113
  v64 := Try.zeroValue113 }
theorem sortsA (m : Nat) : AnyZI.SortsIn Try.prog sortedA_ren Fence.wide m :=
  ⟨fun blk off cap ss W hH hblk hsz => callsIn_wide.2 (AnyM.slices_Sort_int sortA blk off cap ss W hH hblk hsz),
   fun p cap W => callsIn_wide.2 (AnyM.slices_Sort_int_none sortA p cap W)⟩
/-- how an element is read where nothing hangs on it -/
def rAny (v : Value) : Option (DataW Unit × List MemPlace) := some (.nil, [])
theorem gm_owns {β : Type} {eV : β → Value} {w : World} {b : Nat} {m : List (Int × β)} (h : GM w eI eV W64 b m) (hm : m.length ≤ 1000000) : ∃ D : DataW Unit, w.ownsMap Try.prog 3 rAny b m.length D ∧ (intKeys D).Perm (m.map (·.1)) ∧ Maps.size D = m.length := by
  obtain ⟨es, clock, hb, hst, he⟩ := h.dat
  have hlen := congrArg List.length he
  simp only [List.length_map, Array.length_toList] at hlen
  have hkey : ∀ x ∈ es.toList, ∃ n : Int, x.key = .int .i64 n ∧ W64 n := fun x hx => by
    obtain ⟨j, hj, rfl⟩ := List.getElem_of_mem hx
    obtain ⟨y, v, hmj, hk, _⟩ := at_pair he (List.getElem?_eq_getElem hj)
    exact ⟨y, hk, h.ok _ (List.mem_of_getElem? hmj)⟩
  have F : WideElems.Fit Try.prog 3 rAny es clock := ⟨by unfold maxLen; omega, hst, fun x hx => by
    obtain ⟨n, hn, hw⟩ := hkey x hx
    refine ⟨(.int .i64 n, .nil), ?_⟩
    unfold WideElems.rd
    rw [hn, Maps.keyOf_int_mk Kint hw.wf]; rfl⟩
  refine ⟨_, ⟨es, clock, hb, F, by omega, rfl⟩, ?_, ?_⟩
  · have e1 : (es.toList.map (WideElems.rg Try.prog 3 rAny)).map (fun p => Go.intOf p.1) = m.map (·.1) := by
      have e2 : (es.toList.map (WideElems.rg Try.prog 3 rAny)).map (fun p => Go.intOf p.1) = es.toList.map (fun e => match e.key with | .int _ n => n | _ => 0) := by
        rw [List.map_map]
        refine List.map_congr_left fun x hx => ?_
        obtain ⟨n, hn, hw⟩ := hkey x hx
        have : WideElems.rd (H := Unit) Try.prog 3 rAny x = some (.int .i64 n, .nil) := by
          unfold WideElems.rd
          rw [hn, Maps.keyOf_int_mk Kint hw.wf]; rfl
        show Go.intOf (WideElems.rg Try.prog 3 rAny x).1 = _
        rw [WideElems.rg_of this, hn]; rfl
      have e3 : es.toList.map (fun e => match e.key with | .int _ n => n | _ => 0) = (es.toList.map fun e => (e.key, e.val)).map (fun p : Value × Value => match p.1 with | .int _ n => n | _ => (0 : Int)) := by rw [List.map_map]; rfl
      rw [e2, e3, he, List.map_map]
      exact List.map_congr_left fun p _ => rfl
    rw [← e1]
    exact (WideShapes.sorted_perm _).map _
  · simp [Maps.size, length_sorted, hlen]
/-- the keys, sorted, in a row of one's own -/
theorem sorted_keys {β : Type} {eV : β → Value} {w : World} {b : Nat} {m : List (Int × β)} (h : GM w eI eV W64 b m) (hm : m.length ≤ 1000000) {l : List Int} (hl : l.Pairwise (· < ·)) (hp : l.Perm (m.map (·.1))) {Bm : Nat} (hB : HB w Bm #[.map (some b)] 57) :
    Calls Try.prog 31 #[.func (.func 39) #[] #[.pointer (some ⟨Bm, 0, none⟩)]] w fun e w' => ∃ A c, e = .returned (.slice A l.length c) ∧ OwnI w' w.heap.size 3 A c l ∧ Below w.heap.size w w' := by
  obtain ⟨D, ho, hk, hs⟩ := gm_owns h hm
  have hseq : SeqGives Fence.wide 2 Try.prog 39 #[.pointer (some ⟨Bm, 0, none⟩)] encZ (fun ss => ss.Perm (intKeys D)) (Maps.size D) w :=
    AnyZI.keys_gives (ρ := keysA_ren) { keysA with } Fence.wide _ trivial rfl (by omega) Bm b m.length D w hB.lt (hB.cell 0) ho
  have cS := AnyZI.sorted_in sortedA Fence.wide 5 trivial trivial trivial trivial rfl (by omega) (sortsA _) (enters_of Try.func38 (by kernel_rfl) rfl) 39 #[.pointer (some ⟨Bm, 0, none⟩)] trivial (enters_of Try.func39 (by kernel_rfl) rfl) _ _ (by rw [hs]; unfold maxLen; omega) (by rw [hs]; omega) w hseq
  change CallsIn _ _ Try.prog 31 _ _ _ at cS
  refine (callsIn_wide.1 cS).mono fun e w' he => ?_
  obtain ⟨v, ss, rfl, hS, hrow, hnil, hb⟩ := he
  have hrow : w'.ownsRow w.heap.size 3 1 v ss.length ((ss.mergeSort (fun x y => decide (x ≤ y))).map encZ) := hrow
  have hsort : ss.mergeSort (fun x y => decide (x ≤ y)) = l := by
    have p1 : (ss.mergeSort (fun x y => decide (x ≤ y))).Perm l := ((List.mergeSort_perm ss _).trans (hS.trans hk)).trans hp.symm
    have s1 : (ss.mergeSort (fun x y => decide (x ≤ y))).Pairwise (fun x y => decide (x ≤ y) = true) := List.pairwise_mergeSort (fun a b c h1 h2 => by simp only [decide_eq_true_eq] at *; omega) (fun a b => by simp only [Bool.or_eq_true, decide_eq_true_eq]; omega) ss
    exact p1.eq_of_pairwise (le := fun x y => x ≤ y) (fun a b _ _ h1 h2 => by omega) (s1.imp fun h => by simpa using h) (hl.imp fun h => by omega)
  have hlen : ss.length = l.length := by rw [← hsort]; exact (List.length_mergeSort ss).symm
  rw [hsort, hlen] at hrow
  obtain ⟨A, c, rfl⟩ : ∃ A c, v = .slice A l.length c := by
    rcases hrow.2 with ⟨h1, h2⟩ | ⟨g, cap, cur, h1, _⟩
    · exact ⟨none, 0, by rw [h1, h2]⟩
    · exact ⟨_, _, h1⟩
  exact ⟨A, c, rfl, hrow, hb⟩
variable {w : World} {F : Nat → Prop} {a : Nat} {t : Tb}
theorem Live_ok (h : TBL w F a t) : Calls Try.prog 12 #[eP a] w fun e w' => ∃ A c, e = .returned (.slice A t.lives.length c) ∧ OwnI w' w.heap.size 3 A c t.lives ∧ Below w.heap.size w w' := by
  obtain ⟨bl, bw, L, W, h, hF⟩ := h
  apply f_mvcc_Table_Live.ok
  unfold f_mvcc_Table_Live.wp
  refine hb_ldM (j := 2) h.tab rfl ?_
  have cK : Calls Try.prog 32 #[.map (some bl)] w fun e w' => ∃ B, e = .returned (.func (.func 39) #[] #[.pointer (some ⟨B, 0, none⟩)]) ∧ HB w' B #[.map (some bl)] 57 ∧ Below w.heap.size w w' := by
    apply f_mvcc_txn.ok
    exact al_new fun w1 b e s1 hb g1 => ⟨b, rfl, hb, g1⟩
  refine cK.mono fun e w1 he => ?_
  obtain ⟨B, rfl, hB, g1⟩ := he
  have m1 := h.below g1
  refine ⟨_, rfl, (sorted_keys m1.lv (by rw [List.length_map, h.len]; have := h.ok.le8; omega) t.lives_lt (by rw [List.map_map]; exact h.perm.symm) hB).mono fun e w2 he => ?_⟩
  obtain ⟨A, c, rfl, ho, g2⟩ := he
  have := g1.size
  exact ⟨A, t.lives.length, c, rfl, A, c, rfl, ho.mono this, g1.trans (g2.mono this)⟩
end Go.Proofs.Ytbfcjnbjhpfdfaa.Rd
