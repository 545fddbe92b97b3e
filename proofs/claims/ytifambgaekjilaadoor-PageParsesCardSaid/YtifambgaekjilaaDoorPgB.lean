/- slices.Delete and slices.Insert of one element, on a row of slices. Conditions: rows of at most 1000. -/
import Derived.Test.YtifambgaekjilaaDoorPgA
import Derived.Test.YtifambgaekjilaaDoorRd
import Derived.Laws.NewBlocks
import Derived.WalkKit
namespace Go.Proofs.YtifambgaekjilaaDoor.Rd
open Go.Dn Go.RowKit Go.Lib
set_option linter.unusedVariables false
set_option linter.unusedSimpArgs false
set_option maxRecDepth 100000
abbrev TB : TypeId := 22
abbrev TBB : TypeId := 30
theorem RTs : RecTy Tryd.prog TBB TB 1 24 := ⟨by kernel_rfl, by kernel_rfl⟩
theorem slA_some {g c i : Nat} (h : c ≠ i) : slA (some (⟨g, 0, none⟩ : Addr)) i c 1 = some ⟨g, i, none⟩ := by
  unfold slA
  rw [if_neg h, Option.map_some, add_mk]; simp
theorem vS_one (m : SM) : (vS m).oneCell' = true := rfl
theorem zeroB (w : World) : (zeroValue TB).run Tryd.prog w = .ok (.slice none 0 0) w := by kernel_rfl
section
variable {w : World} {B c : Nat}
theorem Delete_ok {A : Option Addr} {ms : List SM} (ho : OwnE eS 1 w B TB A c ms) {i : Nat} (hi : i < ms.length) (hl : ms.length ≤ 1000) :
    Calls Tryd.prog 45 #[.slice A ms.length c, .int .i64 (i : Int), .int .i64 ((i + 1 : Nat) : Int)] w fun e w' => e = .returned (.slice A (ms.length - 1) c) ∧ OwnE eS 1 w' B TB A c (ms.take i ++ ms.drop (i + 1)) ∧ Keeps (Ob A) w w' := by
  obtain ⟨a, rfl, _⟩ := (ho.reads ES) i hi
  obtain ⟨cur, ea, hB, hb, hs, hnc, hcm, hcur⟩ := ho.open1 rfl
  obtain ⟨g, hg⟩ : ∃ g, a.block = g := ⟨_, rfl⟩
  rw [hg] at ea hB hb
  subst ea
  apply f_slices_Delete_byte_byte_Del.ok
  unfold f_slices_Delete_byte_byte_Del.wp
  refine req_intro (by simp; omega) (req_intro (by simp; omega) (req_intro (by simp; omega) (sel_f (by simp; omega) (drW_intro (req_intro (by simp; omega) (req_intro (by simp; omega) ?_))))))
  have gd : Below w.heap.size w w.drew := (Below.refl _ _).drew
  have hb1 := hb.below gd
  obtain ⟨w1, hw1⟩ : ∃ w1, w.drew = w1 := ⟨_, rfl⟩
  rw [hw1] at hb1 gd ⊢
  obtain ⟨ti, z, hti, hz, hz1, hts, hbyt⟩ := RTs.info
  have o1 : OwnE eS 1 w1 B TB (some ⟨g, 0, none⟩) c (ms.take i) := OwnE.make1 hb1 hB hs (by rw [List.length_take]; omega) hcm fun j hj => by
    rw [List.length_take] at hj
    rw [List.getElem_take]; exact hcur j (by omega)
  have elt : (ms.take i).length = i := by rw [List.length_take]; omega
  have eld : (ms.drop (i + 1)).length = ms.length - (i + 1) := List.length_drop
  have hcells : ∀ j, w1.cell? ⟨g, j, none⟩ = cur[j]? := fun j => by
    have := hb1.cell j
    rw [add_mk, Nat.zero_add] at this; exact this
  have app : ∃ w2, (Builtin.append_ #[TBB, TBB] TBB #[.slice (some ⟨g, 0, none⟩) i c, .slice (slA (some ⟨g, 0, none⟩) (i + 1) c 1) (ms.length - (i + 1)) (c - (i + 1))]).run Tryd.prog w1 = .ok (.slice (some ⟨g, 0, none⟩) (ms.length - 1) c) w2 ∧ OwnE eS 1 w2 B TB (some ⟨g, 0, none⟩) c (ms.take i ++ ms.drop (i + 1)) ∧ w1.grownBy w2 (some g) := by
    obtain ⟨a', ea', hnews⟩ : ∃ a', slA (some (⟨g, 0, none⟩ : Addr)) (i + 1) c 1 = some a' ∧ ∀ j u, (encs eS (ms.drop (i + 1)))[j]? = some u → w1.cell? (a'.add j) = some u := by
      by_cases hc : c = i + 1
      · refine ⟨⟨g, 0, none⟩, by unfold slA; rw [if_pos hc], fun j u hj => ?_⟩
        rw [encs_eS, List.drop_eq_nil_of_le (by omega)] at hj
        cases hj
      · refine ⟨⟨g, i + 1, none⟩, slA_some hc, fun j u hj => ?_⟩
        rw [encs_eS, List.getElem?_map, List.getElem?_drop] at hj
        by_cases hlt : i + 1 + j < ms.length
        · rw [List.getElem?_eq_getElem hlt] at hj
          rw [add_mk, hcells, hcur _ hlt]; simpa using hj
        · rw [List.getElem?_eq_none (by omega)] at hj; cases hj
    rw [ea']
    have hr := run_append_fits (P := Tryd.prog) w1 B TBB TBB TB ti 1 RTs.und hti hts g (ms.take i).length c (encs eS (ms.take i)) o1 a' (ms.length - (i + 1)) (c - (i + 1)) (encs eS (ms.drop (i + 1))) (by rw [encs_len ES, eld]) hnews
      (fun u hu => by rw [encs_eS] at hu; obtain ⟨m, _, rfl⟩ := List.mem_map.1 hu; rfl) (by omega)
    rw [elt] at hr
    obtain ⟨w2, h1, h2, h3⟩ := hr
    have en : i + (ms.length - (i + 1)) = ms.length - 1 := by omega
    rw [en] at h1 h2
    refine ⟨w2, h1, ?_, h3⟩
    unfold OwnE
    rw [← encs_app] at h2
    rw [List.length_append, elt, eld, en]; exact h2
  obtain ⟨w2, hr2, o2, hg2⟩ := app
  have hA0 : slA (some (⟨g, 0, none⟩ : Addr)) 0 c 1 = some ⟨g, 0, none⟩ := slA_some (by omega)
  rw [hA0, Int.toNat_natCast, Int.toNat_natCast, Nat.sub_zero, Nat.sub_zero]
  refine runs_of hr2 ⟨_, _, _, rfl, req_intro (by simp <;> omega) (req_intro (by simp <;> omega) ?_)⟩
  rw [Int.toNat_natCast, Int.toNat_natCast, slA_some (by omega)]
  obtain ⟨cur2, _, hB2, hb2, hs2, hnc2, _, hcur2⟩ := o2.open1 rfl
  have hc2 : ∀ j, w2.cell? ⟨g, j, none⟩ = cur2[j]? := fun j => by
    have := hb2.cell j
    rw [add_mk, Nat.zero_add] at this; exact this
  have hr3 := run_clear_slice (P := Tryd.prog) w2 TBB TB 0 (.slice none 0 0) RTs.und zeroB rfl rfl g (ms.length - 1) (ms.length - (ms.length - 1)) (c - (ms.length - 1)) (by omega)
    (fun j hj => by rw [hc2, Array.getElem?_eq_getElem (by omega)]; rfl) (fun j hj => frozen_of_row _ _ _ _ _ hb2)
  refine runs_of hr3 ⟨rfl, rfl, ?_⟩
  obtain ⟨h3, k3⟩ := hb_cells (List.replicate (ms.length - (ms.length - 1)) (.slice none 0 0)) cur2 (ms.length - 1) w2 hb2 (by rw [List.length_replicate]; omega)
  have len2 : (ms.take i ++ ms.drop (i + 1)).length = ms.length - 1 := by rw [List.length_append, elt, eld]; omega
  refine ⟨OwnE.make1 h3 hB (by rw [ovw_size]; exact hs2) (by omega) hcm fun j hj => ?_, ?_⟩
  · rw [ovw_get _ _ _ _ (by rw [List.length_replicate]; omega), if_neg (by omega)]
    exact hcur2 j hj
  · have k2 : Keeps (Ob (some (⟨g, 0, none⟩ : Addr))) w1 w2 := ⟨hg2.os, hg2.tape, hg2.output, hg2.size, fun k hk hn => hg2.block k hk fun h => hn ⟨_, rfl, by injection h with h; exact h.symm⟩⟩
    exact ((Keeps.of_below gd).trans k2).trans (k3.mono fun k _ e => ⟨_, rfl, e.symm⟩)
/-- a copy into a block's cells -/
theorem cp_step {g o dL dC sL sC : Nat} {cur : Array Value} {a : Addr} {vs : List Value} {ty : TypeId} {t : TypeId} (hb : HB w g cur t) (hn : vs.length = Nat.min sL dL) (hsrc : ∀ j v, vs[j]? = some v → w.cell? (a.add j) = some v) (ho : o + vs.length ≤ cur.size) (h1 : ∀ v ∈ vs, v.oneCell' = true)
    {K : World → Prop} (hK : ∀ w', HB w' g (ovw cur o vs) t → Keeps (fun k => k = g) w w' → K w') :
    Runs Tryd.prog (Builtin.copy_ #[TBB, TBB] ty #[.slice (some ⟨g, o, none⟩) dL dC, .slice (some a) sL sC]) w fun v w' => ∃ x : Int, v = .int .i64 x ∧ K w' := by
  have hc : ∀ j, w.cell? ⟨g, j, none⟩ = cur[j]? := fun j => by
    have := hb.cell j
    rw [add_mk, Nat.zero_add] at this; exact this
  obtain ⟨ti, z, hti, hz, hz1, hts, hbyt⟩ := RTs.info
  have hr := run_copy_cells (P := Tryd.prog) w TBB TBB ty TB g o dL dC a sL sC vs RTs.und (by rw [hti]; simp [hts]) hn hsrc (fun j hj => by rw [hc, Array.getElem?_eq_getElem (by omega)]; rfl) (fun j hj => frozen_of_row _ _ _ _ _ hb) h1
  obtain ⟨q1, q2⟩ := hb_cells vs cur o w hb ho
  exact runs_of hr ⟨_, rfl, hK _ q1 q2⟩
theorem shape_hb {b : Nat} {cs : Array Value} {t : TypeId} (h : HB w b cs t) : w.shape? b = some (t, cs.size) := by
  unfold HB at h
  unfold World.shape?
  rw [h]
theorem Insert_ok {A : Option Addr} {ms : List SM} (ho : OwnE eS 1 w B TB A c ms) {i : Nat} (hi : i ≤ ms.length) (hl : ms.length ≤ 1000) {x : SM} {b : Nat} (hx : HB w b #[vS x] TB) (hxA : ¬ Ob A b) (hBw : B ≤ w.heap.size) :
    Calls Tryd.prog 44 #[.slice A ms.length c, .int .i64 (i : Int), .slice (some ⟨b, 0, none⟩) 1 1] w fun e w' => ∃ A' c', e = .returned (.slice A' (ms.length + 1) c') ∧ OwnE eS 1 w' B TB A' c' (ms.take i ++ x :: ms.drop i) ∧ Keeps (Ob A) w w' ∧ ∀ a, A' = some a → A = some a ∨ w.heap.size ≤ a.block := by
  apply f_slices_Insert_byte_byte_Ins.ok
  unfold f_slices_Insert_byte_byte_Ins.wp
  have ew : IntKind.i64.wrap ((ms.length : Int) + ((1 : Nat) : Int)) = ((ms.length + 1 : Nat) : Int) := by rw [w64_in (by omega)]; omega
  have ew2 : IntKind.i64.wrap ((i : Int) + ((1 : Nat) : Int)) = ((i + 1 : Nat) : Int) := by rw [w64_in (by omega)]; omega
  refine req_intro (by simp; omega) (sel_f rfl ?_)
  by_cases q1 : i = ms.length
  · refine sel_t (by simp; omega) ?_
    refine app_e RTs ES (by decide) ho rfl hx rfl hBw (by omega) fun A' c' w' o' k' f' => ⟨_, _, _, rfl, some A', c', by rw [List.length_append]; rfl, ?_, k', fun a ha => ?_⟩
    · rw [q1, List.take_length, List.drop_length]; exact o'
    · cases ha; exact f'
  refine sel_f (by simp; omega) ?_
  have hlt : i < ms.length := by omega
  obtain ⟨a, rfl, _⟩ := (ho.reads ES) i hlt
  obtain ⟨cur, ea, hB, hb, hs, hnc, hcm, hcur⟩ := ho.open1 rfl
  obtain ⟨g, hg⟩ : ∃ g, a.block = g := ⟨_, rfl⟩
  rw [hg] at ea hB hb
  subst ea
  have hbg : b ≠ g := fun e => hxA ⟨_, rfl, e.symm⟩
  have hcells : ∀ j, w.cell? ⟨g, j, none⟩ = cur[j]? := fun j => by
    have := hb.cell j
    rw [add_mk, Nat.zero_add] at this; exact this
  obtain ⟨ti, z, hti, hz, hz1, hts, hbyt⟩ := RTs.info
  have hA0 : slA (some (⟨g, 0, none⟩ : Addr)) 0 c 1 = some ⟨g, 0, none⟩ := slA_some (by omega)
  have len2 : (ms.take i ++ x :: ms.drop i).length = ms.length + 1 := by rw [List.length_append, List.length_take, List.length_cons, List.length_drop]; omega
  -- where each element stands
  have hget : ∀ j (hj : j < (ms.take i ++ x :: ms.drop i).length), some (vS (ms.take i ++ x :: ms.drop i)[j]) = if j = i then some (vS x) else if j < i then ms[j]?.map vS else ms[j - 1]?.map vS := fun j hj => by
    have eq : (ms.take i ++ x :: ms.drop i)[j]? = if j = i then some x else if j < i then ms[j]? else ms[j - 1]? := by
      by_cases h1 : j < i
      · rw [List.getElem?_append_left (by rw [List.length_take]; omega), List.getElem?_take, if_pos h1, if_neg (by omega), if_pos h1]
      · rw [List.getElem?_append_right (by rw [List.length_take]; omega), List.length_take, Nat.min_eq_left (by omega)]
        by_cases h2 : j = i
        · subst h2; rw [Nat.sub_self, if_pos rfl]; rfl
        · obtain ⟨k, hk⟩ : ∃ k, j - i = k + 1 := ⟨j - i - 1, by omega⟩
          rw [hk, List.getElem?_cons_succ, List.getElem?_drop, if_neg h2, if_neg h1, show i + k = j - 1 by omega]
    rw [List.getElem?_eq_getElem hj] at eq
    have := congrArg (Option.map vS) eq
    rw [Option.map_some] at this
    rw [this]
    split
    · rfl
    · split <;> rfl
  have hdl : ((ms.drop i).map vS).length = ms.length - i := by rw [List.length_map, List.length_drop]
  rw [ew, ew2]
  by_cases q2 : c < ms.length + 1
  · refine sel_t (by simp; omega) (req_intro (by simp; omega) ?_)
    rw [hA0, Int.toNat_natCast, Nat.sub_zero, Nat.sub_zero, show IntKind.i64.wrap (((ms.length + 1 : Nat) : Int) - (i : Int)) = ((ms.length + 1 - i : Nat) : Int) by rw [w64_in (by omega)]; omega]
    have hold : (Builtin.firstCells ti.size i (.slice (some ⟨g, 0, none⟩) i c)).run Tryd.prog w.drew = .ok ((ms.take i).map vS).toArray w.drew := by
      rw [hts]
      refine run_firstCells_some w.drew 1 i ⟨g, 0, none⟩ i c _ (by rw [List.length_map, List.length_take]; omega) fun j v hj => ?_
      rw [List.getElem?_map, List.getElem?_take] at hj
      split at hj
      · rw [List.getElem?_eq_getElem (by omega)] at hj
        rw [add_mk, Nat.zero_add]
        show w.cell? _ = _
        rw [hcells, hcur _ (by omega)]; simpa using hj
      · cases hj
    have hr := run_append_grow_zeros (P := Tryd.prog) w TBB 3 TBB TB ti z .i64 .i64 RTs.und (by kernel_rfl) hti hz (some ⟨g, 0, none⟩) i c _ hold (ms.length + 1 - i) (by omega) (by omega) (by omega) (by omega) (by rw [hbyt]; omega) (by rw [hbyt, show i + (ms.length + 1 - i) = ms.length + 1 by omega]; exact growslice_fits q2 (by omega))
    rw [show i + (ms.length + 1 - i) = ms.length + 1 by omega] at hr
    obtain ⟨G, hG⟩ : ∃ G, grownCap w (ms.length + 1) c TB = G := ⟨_, rfl⟩
    have hGn : ms.length + 1 ≤ G := by rw [← hG]; exact grownCap_ge w _ _ _
    have hGm : G ≤ maxLen := by rw [← hG]; exact grownCap_le_maxLen w _ _ _ (by unfold maxLen; omega)
    rw [hG] at hr
    obtain ⟨ROW, hROW⟩ : ∃ ROW : Array Value, ((ms.take i).map vS).toArray ++ Builtin.zeroCells z.cells (ms.length + 1 - i) ++ Builtin.zeroCells z.cells (G - (ms.length + 1)) = ROW := ⟨_, rfl⟩
    rw [hROW] at hr
    have hzc : z.cells.size = 1 := hz1
    have hRs : ROW.size = G := by
      rw [← hROW]
      simp [Builtin.zeroCells, hzc]
      omega
    have hRi : ∀ j, j < i → ROW[j]? = ms[j]?.map vS := fun j hj => by
      rw [← hROW, Array.getElem?_append_left (by simp; omega), Array.getElem?_append_left (by simp; omega)]
      simp [List.getElem?_take, hj]
    refine runs_of hr ⟨_, _, _, rfl, req_intro (by simp; omega) ?_⟩
    have gd : Below w.heap.size w w.drew := (Below.refl _ _).drew
    have g1 : Below w.heap.size w (w.drew.alloc (.cells ROW TB)) := gd.alloc (Nat.le_refl _) _
    have n1 : HB (w.drew.alloc (.cells ROW TB)) w.heap.size ROW TB := HB.new w.drew ROW TB
    obtain ⟨w1, hw1⟩ : ∃ w1, w.drew.alloc (.cells ROW TB) = w1 := ⟨_, rfl⟩
    rw [hw1] at g1 n1 ⊢
    rw [Int.toNat_natCast, slA_some (by omega)]
    have hx1 := hx.below g1
    have hb1 := hb.below g1
    have hbl := hx.lt
    have hgl := hb.lt
    refine cp_step (vs := [vS x]) n1 (by simp [Nat.min_def]; omega) (fun j v hj => ?_) (by simp; omega) (fun v hv => by rw [List.mem_singleton] at hv; subst hv; rfl) fun w2 h2 k2 => drW_intro ?_
    · have hj0 : j = 0 := by
        have := (List.getElem?_eq_some_iff.1 hj).1
        simpa using this
      subst hj0
      rw [hx1.cell]; simpa using hj
    refine req_intro (by simp; omega) (req_intro (by simp; omega) ?_)
    have gd2 : Below w2.heap.size w2 w2.drew := (Below.refl _ _).drew
    rw [slA_some (by omega), slA_some (by omega)]
    have hb2 := (hb1.keeps k2 (by omega)).below gd2
    refine cp_step (vs := (ms.drop i).map vS) (h2.below gd2) (by rw [hdl]; simp [Nat.min_def] <;> omega) (fun j v hj => ?_) (by rw [ovw_size, hdl]; omega) (fun v hv => by obtain ⟨m, _, rfl⟩ := List.mem_map.1 hv; rfl) fun w3 h3 k3 => ?_
    · have := hb2.cell (i + j)
      rw [add_mk, Nat.zero_add] at this
      rw [add_mk, this]
      rw [List.getElem?_map, List.getElem?_drop] at hj
      by_cases hjl : i + j < ms.length
      · rw [List.getElem?_eq_getElem hjl] at hj
        rw [hcur _ hjl]; simpa using hj
      · rw [List.getElem?_eq_none (by omega)] at hj; cases hj
    refine ⟨_, _, rfl, OwnE.make1 h3 hBw (by rw [ovw_size, ovw_size]; exact hRs) (by omega) hGm fun j hj => ?_, ?_, fun a ha => ?_⟩
    · rw [len2] at hj
      rw [hget j (by omega), ovw_get _ _ _ _ (by rw [ovw_size, hdl]; omega), hdl]
      by_cases c1 : i + 1 ≤ j ∧ j < i + 1 + (ms.length - i)
      · rw [if_pos c1, if_neg (by omega), if_neg (by omega), List.getElem?_map, List.getElem?_drop, show i + (j - (i + 1)) = j - 1 by omega]
      · rw [if_neg c1, ovw_get _ _ _ _ (by simp; omega)]
        by_cases c2 : j = i
        · subst c2
          rw [if_pos (by simp), if_pos rfl]; simp
        · rw [if_neg (by simp; omega), if_neg c2, if_pos (by omega)]
          exact hRi j (by omega)
    · exact Keeps.of_below ((g1.trans (k2.below g1.size fun k hk e => by omega)).trans ((gd2.mono (by have := g1.size; have := k2.size; omega)).trans (k3.below (by have := g1.size; have := k2.size; have := gd2.size; omega) fun k hk e => by omega)))
    · cases ha; exact .inr (Nat.le_refl _)
  · refine sel_f (by simp; omega) (req_intro (by simp; omega) (req_intro (by simp; omega) ?_))
    rw [hA0, Int.toNat_natCast, Int.toNat_natCast, Int.toNat_natCast, Nat.sub_zero, Nat.sub_zero, slA_some (by omega)]
    have hov : (callFunc 66 #[.slice (some ⟨b, 0, none⟩) 1 1, .slice (some ⟨g, i + 1, none⟩) (ms.length + 1 - (i + 1)) (c - (i + 1))]).run Tryd.prog w = .ok (.value (.bool false)) w := by
      rw [run_callFunc_extern (P := Tryd.prog) Tryd.func66 (by kernel_rfl) (by kernel_rfl) (by kernel_rfl) (e := Extern.SlicesOverlaps.overlaps #[TBB, TBB] #[4]) (by kernel_rfl),
        run_overlaps_apart w TBB 4 TB RTs.und 1 (fun w => by kernel_rfl) ⟨b, 0, none⟩ ⟨g, i + 1, none⟩ 1 1 _ _ hbg TB TB 1 cur.size (shape_hb hx) (shape_hb hb) (by omega) (frozen_of_row _ _ _ _ _ hx) (frozen_of_row _ _ _ _ _ hx)]
      rfl
    refine runs_of hov ⟨_, rfl, sel_t rfl (drW_intro (req_intro (by simp; omega) (req_intro (by simp; omega) ?_)))⟩
    have gd : Below w.heap.size w w.drew := (Below.refl _ _).drew
    rw [slA_some (by omega)]
    have hb1 := hb.below gd
    refine cp_step (vs := (ms.drop i).map vS) hb1 (by rw [hdl]; simp [Nat.min_def]; omega) (fun j v hj => ?_) (by rw [hdl]; omega) (fun v hv => by obtain ⟨m, _, rfl⟩ := List.mem_map.1 hv; rfl) fun w2 h2 k2 => ?_
    · have := hb1.cell (i + j)
      rw [add_mk, Nat.zero_add] at this
      rw [add_mk, this]
      rw [List.getElem?_map, List.getElem?_drop] at hj
      by_cases hjl : i + j < ms.length
      · rw [List.getElem?_eq_getElem hjl] at hj
        rw [hcur _ hjl]; simpa using hj
      · rw [List.getElem?_eq_none (by omega)] at hj; cases hj
    refine req_intro (by simp; omega) ?_
    have hx2 := (hx.below gd).keeps k2 hbg
    refine cp_step (vs := [vS x]) h2 (by simp [Nat.min_def]; omega) (fun j v hj => ?_) (by rw [ovw_size]; simp; omega) (fun v hv => by rw [List.mem_singleton] at hv; subst hv; rfl) fun w3 h3 k3 => ?_
    · have hj0 : j = 0 := by
        have := (List.getElem?_eq_some_iff.1 hj).1
        simpa using this
      subst hj0
      rw [hx2.cell]; simpa using hj
    refine ⟨_, _, rfl, OwnE.make1 h3 hB (by rw [ovw_size, ovw_size]; exact hs) (by omega) hcm fun j hj => ?_, ?_, fun a ha => .inl ha⟩
    · rw [len2] at hj
      rw [hget j (by omega), ovw_get _ _ _ _ (by rw [ovw_size]; simp; omega)]
      by_cases c2 : j = i
      · subst c2
        rw [if_pos (by simp), if_pos rfl]; simp
      · rw [if_neg (by simp; omega), if_neg c2, ovw_get _ _ _ _ (by rw [hdl]; omega), hdl]
        by_cases c1 : i + 1 ≤ j ∧ j < i + 1 + (ms.length - i)
        · rw [if_pos c1, if_neg (by omega), List.getElem?_map, List.getElem?_drop, show i + (j - (i + 1)) = j - 1 by omega]
        · rw [if_neg c1, if_pos (by omega), hcur j (by omega), List.getElem?_eq_getElem (by omega)]; rfl
    · exact ((Keeps.of_below gd).trans (k2.mono fun k _ e => ⟨_, rfl, e.symm⟩)).trans (k3.mono fun k _ e => ⟨_, rfl, e.symm⟩)
end
end Go.Proofs.YtifambgaekjilaaDoor.Rd
