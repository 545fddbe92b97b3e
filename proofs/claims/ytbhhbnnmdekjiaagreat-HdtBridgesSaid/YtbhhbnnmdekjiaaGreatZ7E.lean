/- The calls of a rope, walked: Make, New · The call that makes a rope, walked: New · Maps at whatever keys and elements, as lists of pairs; a range over one that lays nothing into it · What the laws on the document's plain forest share: edges, walks, errors; SameInts, CopyInts · Rows of numbers and of edges as the document's forest has them: reading, appending · The document's plain forest: Edge, AddV, DelV, Cut · The document's plain forest: Cut · Who is joined to whom, in plain words and as the document's sets tell it · The document's plain forest: Joined and Link · The document's plain forest: Link -/
import Derived.Test.YtbhhbnnmdekjiaaGreatZ7D
import Derived.Maps.OwnSet
import Derived.Maps.RangeRun
import Derived.WalkArith
import Derived.Test.YtbhhbnnmdekjiaaGreatZ7B
set_option linter.unusedSectionVars false
set_option linter.unusedSimpArgs false
set_option linter.unusedVariables false
namespace Go.Proofs.YtbhhbnnmdekjiaaGreat.Rd
open Go.Dn Go.RowKit
set_option maxRecDepth 100000
def z11 : Value := .agg #[.int .i64 0, .int .i64 0, .int .i64 0, .int .u64 0, .int .i64 0, .int .i64 0, .int .i64 0, .int .i64 0, .int .i64 0, .int .i64 0, .int .i64 0]
theorem TNd : Tryz.prog.underlying 144 = some (.slice 143) := by kernel_rfl
theorem TNdI : (Tryz.prog.info? 143).map (fun i => (i.zero, i.size, i.bytes)) = some (some z11, 11, 88) := by kernel_rfl
theorem TNd_info : ∃ i, Tryz.prog.info? 143 = some i ∧ i.zero = some z11 ∧ i.size = 11 ∧ i.bytes = 88 := by
  have := TNdI
  cases hi : Tryz.prog.info? 143 with
  | none => rw [hi] at this; cases this
  | some i =>
    rw [hi] at this
    simp only [Option.map_some, Option.some.injEq, Prod.mk.injEq] at this
    exact ⟨i, rfl, this.1, this.2.1, this.2.2⟩
theorem own_prefix {w : World} {B e sz n g c : Nat} {xs ys : List Value} (h : w.ownsRow B e sz (.slice (some ⟨g, 0, none⟩) (n + 1) c) (n + 1) (xs ++ ys)) (hx : xs.length = n * sz) : w.ownsRow B e sz (.slice (some ⟨g, 0, none⟩) n c) n xs := by
  refine ⟨hx, ?_⟩
  rcases h.2 with ⟨h, _⟩ | ⟨g', cap, cur, hv, hb, hg, hn, hm, hs, ht⟩
  · cases h
  · injection hv with h1 h2 h3
    injection h1 with h1; injection h1 with h1; subst h1; subst h3
    refine .inr ⟨g, c, cur, rfl, hb, hg, by omega, hm, hs, ?_⟩
    have := congrArg (List.take (n * sz)) ht
    rw [List.take_take, Nat.min_eq_left (Nat.mul_le_mul_right _ (by omega)), ← hx, List.take_left] at this
    rw [hx] at this; exact this
theorem app_node {w : World} {r : RC} {N : Nat → Nat → Int} (h : Rp w r N) (hn : r.n ≤ 65536) (h1n : 0 < r.n) {b : Nat} {cs : Array Value} {t : TypeId} (hb : w.heap[b]? = some (Obj.cells cs t)) (hcs : cs.size = 11) (hone : ∀ u ∈ cs.toList, u.oneCell' = true) {K : Value → World → Prop}
    (hK : ∀ w' g' c', Rp w' r N → w'.ownsRow r.B 143 11 (.slice (some ⟨g', 0, none⟩) (r.n + 1) c') (r.n + 1) ((enc 11 r.n fun i j => .int (kd j) (N i j)) ++ cs.toList) → (g' = r.g ∨ w.heap.size ≤ g') → Keeps (fun k => k = r.g) w w' → K (.slice (some ⟨g', 0, none⟩) (r.n + 1) c') w') :
    Runs Tryz.prog (Builtin.append_ #[144, 144] 144 #[.slice (some ⟨r.g, 0, none⟩) r.n r.c, .slice (some (⟨b, 0, none⟩ : Addr)) 1 1]) w K := by
  obtain ⟨i, hi, hz, hs, hby⟩ := TNd_info
  have hnews : ∀ j u, cs.toList[j]? = some u → w.cell? ((⟨b, 0, none⟩ : Addr).add j) = some u := fun j u hj => by
    rw [add_mk, Nat.zero_add, cell_of_row w _ _ _ _ _ hb, ← Array.getElem?_toList]; exact hj
  have hl : cs.toList.length = 1 * 11 := by rw [Array.length_toList, hcs]
  have hB : r.B ≤ w.heap.size := by have := h.hB; have := h.R_lt; omega
  by_cases hroom : r.n + 1 ≤ r.c
  · obtain ⟨w', hrun, ho', hg⟩ := run_append_fits (P := Tryz.prog) w r.B _ 144 _ i 11 TNd hi hs r.g r.n r.c _ h.own ⟨b, 0, none⟩ 1 1 cs.toList hl hnews hone hroom
    have hk : Keeps (fun k => k = r.g) w w' := ⟨hg.os, hg.tape, hg.output, hg.size, fun k hk hn => hg.block k hk (by simpa using hn)⟩
    refine runs_of hrun (hK w' r.g r.c ?_ ho' (.inl rfl) hk)
    exact ⟨(hk.block _ h.R_lt (fun e => h.gR e.symm)).trans h.obj, own_prefix ho' (by rw [enc_len]), h.hB, h.gR, h.sds.keeps hk (fun a ha => (h.sap a ha).2.2.2), fun a ha => let ⟨x1, x2, x3⟩ := h.sap a ha; ⟨x1, Nat.lt_of_lt_of_le x2 hk.size, x3⟩⟩
  · have hr2 := run_append_grow (P := Tryz.prog) w _ 144 _ i z11 TNd hi hz ⟨r.g, 0, none⟩ r.n r.c (enc 11 r.n fun i j => .int (kd j) (N i j)) (by rw [enc_len, hs]) (h.own.cells (g := r.g) rfl) ⟨b, 0, none⟩ 1 1 cs.toList (by rw [hs]; exact hl) hnews (by omega) (by omega)
      (by rw [hby]; exact growslice_fits (by omega) (by omega))
    obtain ⟨v', w', hrun, ho', hg, _⟩ := run_append_own (P := Tryz.prog) w r.B _ 144 _ i z11 11 88 TNd hi hz hs hby rfl (by decide) _ _ _ h.own ⟨b, 0, none⟩ 1 1 cs.toList hl hnews hone (by unfold maxLen; omega) (by omega) hB
    rw [hr2] at hrun
    injection hrun with hv hw
    refine runs_of hr2 ?_
    have hbel : Below w.heap.size w w' := by rw [← hw]; exact (Below.refl w.heap.size w).drew.alloc (Nat.le_refl _) _
    rw [hw]
    rw [← hv] at ho'
    exact hK w' _ _ (h.below hbel) ho' (.inr (Nat.le_refl _)) (.of_below hbel)
theorem Rp.setSt {w : World} {r : RC} {N : Nat → Nat → Int} (h : Rp w r N) (v : Int) : Rp (w.setCell ((⟨r.R, 0, none⟩ : Addr).add 2) (.int .u64 v)) { r with st := v } N ∧ Keeps (fun k => k = r.R) w (w.setCell ((⟨r.R, 0, none⟩ : Addr).add 2) (.int .u64 v)) ∧ Wr w ((⟨r.R, 0, none⟩ : Addr).add 2) := by
  have hk : Keeps (fun k => k = r.R) w (w.setCell ((⟨r.R, 0, none⟩ : Addr).add 2) (.int .u64 v)) := (Keeps.refl (fun k => k = r.R) w).setCell (p := (⟨r.R, 0, none⟩ : Addr).add 2) (.inl (by rw [add_block])) _
  refine ⟨⟨?_, Keeps.own h.own hk (fun i hi => by injection hi with hi; subst hi; exact h.gR), h.hB, h.gR, h.sds.keeps hk (fun a ha => (h.sap a ha).2.2.1), fun a ha => let ⟨x1, x2, x3⟩ := h.sap a ha; ⟨x1, Nat.lt_of_lt_of_le x2 hk.size, x3⟩⟩, hk, ⟨_, h.sl2⟩, ?_⟩
  · rw [add_mk, heap_setCell_same w r.R _ _ _ _ h.obj]; rfl
  · rw [add_mk, frozen_of_row _ _ _ _ _ h.obj]
theorem chance_j0 {w : World} {r : RC} {N : Nat → Nat → Int} (h : Rp w r N) (x : Int) {Kr : Int → World → Prop} (hK : ∀ v w', Rp w' { r with st := v } N → Keeps (fun k => k = r.R) w w' → Kr v w') : f_euler_load_chance.j0 ⟨r.R, 0, none⟩ x w Kr := by
  unfold f_euler_load_chance.j0
  refine ldI_intro h.sl2 (stW_intro (h.setSt 0).2.2 ?_)
  obtain ⟨h1, k1, _⟩ := h.setSt (IntKind.u64.wrap ((bxor .u64 r.st (IntKind.u64.wrap x)) * (15074714826142052245 : Int)))
  generalize w.setCell _ _ = w1 at *
  have h2 := h1.drew
  refine drW_intro (ldI_intro h2.sl2 (ldI_intro h2.sl2 (stW_intro (h2.setSt 0).2.2 ?_)))
  obtain ⟨h3, k3, _⟩ := h2.setSt (bxor .u64 (IntKind.u64.wrap ((bxor .u64 r.st (IntKind.u64.wrap x)) * (15074714826142052245 : Int))) ((IntKind.u64.wrap ((bxor .u64 r.st (IntKind.u64.wrap x)) * (15074714826142052245 : Int))).fdiv (2 ^ 29)))
  exact ldI_intro h3.sl2 (hK _ _ h3 (k1.drew.trans k3))
theorem chance_ok {w : World} {r : RC} {N : Nat → Nat → Int} (h : Rp w r N) (hn : r.n ≤ 65537) (h1n : 0 < r.n) : Calls Tryz.prog 107 #[.pointer (some ⟨r.R, 0, none⟩)] w fun e w' => ∃ v, e = .returned (.int .u64 v) ∧ Rp w' { r with st := v } N ∧ Keeps (fun k => k = r.R) w w' := by
  apply f_euler_load_chance.ok
  unfold f_euler_load_chance.wp
  refine ldS_intro h.sl1 ?_
  by_cases h0 : r.sl.length = 0
  · exact sel_f (by simp [h0]) (chance_j0 h 0 fun v w' h' k _ => ⟨v, rfl, h', k⟩)
  · have hd := h.drew
    have hm : (IntKind.i64.wrap ((r.n : Int) - 1)).tmod (r.sl.length : Int) = (((r.n - 1) % r.sl.length : Nat) : Int) := by
      rw [w64_in (by omega), show (r.n : Int) - 1 = ((r.n - 1 : Nat) : Int) by omega]; rfl
    have hlt : (r.n - 1) % r.sl.length < r.sl.length := Nat.mod_lt _ (by omega)
    obtain ⟨a, ha, hc⟩ := hd.sds _ hlt
    refine sel_t (by simp; omega) (drW_intro (ldS_intro hd.sl1 (ldS_intro hd.sl0 (req_intro (by simpa using h0) ?_))))
    rw [hm]
    refine optB_some ha (req_intro (by simp; omega) (ldI_intro (by rw [Int.toNat_natCast, Nat.mul_one]; exact hc) ?_))
    exact chance_j0 hd _ fun v w' h' k _ => ⟨v, rfl, h', (Keeps.of_below (Below.refl _ _).drew).trans k⟩
def makeE (n : Nat) : Int × Int := if n ≤ 65536 then ((n : Int), 0) else (0, 55)
def makeS (n : Nat) (rows : List (List Nat)) : List (List Nat) := if n ≤ 65536 then rows ++ [[n]] else rows
def makeV (n : Nat) (V : Nat → Int × Int × Int) (v : Int × Int × Int) : Nat → Int × Int × Int := if n ≤ 65536 then (fun i => if i = n then v else V i) else V
def makeN (n : Nat) : Nat := if n ≤ 65536 then n + 1 else n
structure Mv (w : World) (r r' : RC) : Prop where
  R : r'.R = r.R
  As : r'.As = r.As
  B : r'.B = r.B
  g : r'.g = r.g ∨ w.heap.size ≤ r'.g
theorem Make_ok {w : World} {r : RC} {rows : List (List Nat)} {V : Nat → Int × Int × Int} (h : Rope w r rows V) (v0 v1 v2 : Int) (hv : In64 v0 ∧ In64 v1 ∧ In64 v2) :
    Calls Tryz.prog 89 #[.pointer (some ⟨r.R, 0, none⟩), .agg #[.int .i64 v0, .int .i64 v1, .int .i64 v2]] w fun e w' => ∃ r', e = .returned (.tuple #[.int .i64 (makeE r.n).1, .int .i64 (makeE r.n).2]) ∧ Rope w' r' (makeS r.n rows) (makeV r.n V (v0, v1, v2)) ∧ r'.n = makeN r.n ∧ Mv w r r' ∧ Keeps (Sr r) w w' := by
  obtain ⟨N, ts, hp, hf⟩ := h
  apply f_euler_load_Make.ok
  unfold f_euler_load_Make.wp
  refine alW_intro ?_
  have hb1 : Blk (w.alloc (.cells #[.int .i64 v0, .int .i64 v1, .int .i64 v2] 110)) w.heap.size 3 (fun j => if j = 0 then v0 else if j = 1 then v1 else v2) := Blk.new w _ _ 3 _ rfl (by intro j hj; match j, hj with | 0, _ => rfl | 1, _ => rfl | 2, _ => rfl)
  have hp1 := hp.alloc (.cells #[.int .i64 v0, .int .i64 v1, .int .i64 v2] 110)
  have b1 := bal w (.cells #[.int .i64 v0, .int .i64 v1, .int .i64 v2] 110)
  have hRw := hp.R_lt
  have hgw := hp.g_lt.2
  generalize w.alloc (.cells #[.int .i64 v0, .int .i64 v1, .int .i64 v2] 110) = w1 at *
  refine ldS_intro hp1.sl0 ?_
  by_cases hn : r.n ≤ 65536
  · refine sel_f (by simp; omega) (drW_intro ?_)
    have hp2 := hp1.drew
    have hb2 := hb1.below (Below.refl _ _).drew
    have b2 := b1.drew
    generalize w1.drew = w2 at *
    have hbR : w.heap.size ≠ r.R := by omega
    have hbg : w.heap.size ≠ r.g := by omega
    refine ⟨fun w' => (∃ st', Rp w' { r with st := st' } N) ∧ Blk w' w.heap.size 3 (fun j => if j = 0 then v0 else if j = 1 then v1 else v2), ⟨⟨r.st, hp2⟩, hb2⟩, some ⟨r.g, 0, none⟩, r.n, r.c, fun w' ⟨⟨st', h'⟩, _⟩ => h'.sl0, v0, fun w' ⟨_, h'⟩ => h'.cell (j := 0) (by omega), v1, fun w' ⟨_, h'⟩ => h'.cell (j := 1) (by omega), v2, fun w' ⟨_, h'⟩ => h'.cell (j := 2) (by omega), v0, fun w' ⟨_, h'⟩ => h'.cell (j := 0) (by omega), v1, fun w' ⟨_, h'⟩ => h'.cell (j := 1) (by omega), v2, fun w' ⟨_, h'⟩ => h'.cell (j := 2) (by omega), ?_⟩
    refine (chance_ok hp2 hf.le hf.pos).mono ?_
    rintro e w3 ⟨v, rfl, hp3, k3⟩
    have hb3 := hb2.keeps k3 hbR
    refine ⟨v, rfl, ⟨⟨v, hp3⟩, hb3⟩, alW_intro ?_⟩
    have hp4 := hp3.alloc (.cells #[.int .i64 (0 : Int), .int .i64 (0 : Int), .int .i64 (0 : Int), .int .u64 v, .int .i64 (1 : Int), .int .i64 v0, .int .i64 v1, .int .i64 v2, .int .i64 v0, .int .i64 v1, .int .i64 v2] 143)
    have hb4 := hb3.below (bal w3 (.cells #[.int .i64 (0 : Int), .int .i64 (0 : Int), .int .i64 (0 : Int), .int .u64 v, .int .i64 (1 : Int), .int .i64 v0, .int .i64 v1, .int .i64 v2, .int .i64 v0, .int .i64 v1, .int .i64 v2] 143))
    have b4 := bal w3 (.cells #[.int .i64 (0 : Int), .int .i64 (0 : Int), .int .i64 (0 : Int), .int .u64 v, .int .i64 (1 : Int), .int .i64 v0, .int .i64 v1, .int .i64 v2, .int .i64 v0, .int .i64 v1, .int .i64 v2] 143)
    have hnew := heap_alloc_new w3 (.cells #[.int .i64 (0 : Int), .int .i64 (0 : Int), .int .i64 (0 : Int), .int .u64 v, .int .i64 (1 : Int), .int .i64 v0, .int .i64 v1, .int .i64 v2, .int .i64 v0, .int .i64 v1, .int .i64 v2] 143)
    generalize w3.alloc (.cells #[.int .i64 (0 : Int), .int .i64 (0 : Int), .int .i64 (0 : Int), .int .u64 v, .int .i64 (1 : Int), .int .i64 v0, .int .i64 v1, .int .i64 v2, .int .i64 v0, .int .i64 v1, .int .i64 v2] 143) = w4 at *
    refine ⟨⟨⟨v, hp4⟩, hb4⟩, app_node hp4 hn hf.pos hnew rfl (by intro u hu; simp at hu; rcases hu with rfl | rfl | rfl | rfl | rfl | rfl | rfl | rfl | rfl | rfl | rfl <;> rfl) fun w5 g' c' hp5 ho5 hg5 k5 => ?_⟩
    have hs24 : w.heap.size ≤ w4.heap.size := by have := b2.size; have := k3.size; have := b4.size; omega
    refine ⟨_, _, _, rfl, ⟨⟨v, hp5⟩, hb4.keeps k5 hbg⟩, stW_intro ⟨⟨_, hp5.sl0⟩, frozen_of_row _ _ _ _ _ hp5.obj⟩ ?_⟩
    have hR5 := hp5.R_lt
    have hg'R : g' ≠ r.R := by
      rcases hg5 with e | e
      · rw [e]; exact hp.gR
      · omega
    have k6 : Keeps (fun k => k = r.R) w5 (w5.setCell ⟨r.R, 0, none⟩ (.slice (some ⟨g', 0, none⟩) (r.n + 1) c')) := (Keeps.refl (fun k => k = r.R) w5).setCell (p := ⟨r.R, 0, none⟩) (.inl rfl) _
    have hobj := heap_setCell_same w5 r.R 0 _ _ (.slice (some ⟨g', 0, none⟩) (r.n + 1) c') hp5.obj
    generalize w5.setCell ⟨r.R, 0, none⟩ (.slice (some ⟨g', 0, none⟩) (r.n + 1) c') = w6 at *
    have hAs : ∀ a, r.As = some a → a.block ≠ g' := fun a ha e => by
      rcases hg5 with e' | e'
      · exact (hp.sap a ha).2.2.2 (e.trans e')
      · have := (hp.sap a ha).2.1; omega
    let N' : Nat → Nat → Int := fun i j => if i = r.n then (match j with | 3 => v | 4 => 1 | 5 => v0 | 6 => v1 | 7 => v2 | 8 => v0 | 9 => v1 | 10 => v2 | _ => 0) else N i j
    have hN' : ∀ i, i ≠ r.n → ∀ j, N' i j = N i j := fun i hi j => by simp only [N', if_neg hi]
    have hp6 : Rp w6 { r with g := g', c := c', n := r.n + 1, st := v } N' := by
      refine ⟨hobj, ?_, hp.hB, hg'R, (hp5.sds).keeps k6 (fun a ha => (hp.sap a ha).2.2.1), fun a ha => ?_⟩
      · have ho6 := Keeps.own ho5 k6 (fun i hi => by injection hi with hi; subst hi; exact hg'R)
        have hE := enc_app (sz := 11) (n := r.n) (F := fun i j => .int (kd j) (N i j)) (F' := fun i j => .int (kd j) (N' i j)) [.int .i64 (0 : Int), .int .i64 (0 : Int), .int .i64 (0 : Int), .int .u64 v, .int .i64 (1 : Int), .int .i64 v0, .int .i64 v1, .int .i64 v2, .int .i64 v0, .int .i64 v1, .int .i64 v2] rfl (fun i hi j _ => by rw [hN' i (by omega)]) (fun j hj => by
          have hj : j < 11 := hj
          simp only [N', if_true]
          match j, hj with | 0, _ => rfl | 1, _ => rfl | 2, _ => rfl | 3, _ => rfl | 4, _ => rfl | 5, _ => rfl | 6, _ => rfl | 7, _ => rfl | 8, _ => rfl | 9, _ => rfl | 10, _ => rfl)
        show w6.ownsRow r.B 143 11 (.slice (some ⟨g', 0, none⟩) (r.n + 1) c') (r.n + 1) (enc 11 (r.n + 1) fun i j => .int (kd j) (N' i j))
        rw [← hE]
        exact ho6
      · obtain ⟨x1, x2, x3, x4⟩ := hp5.sap a ha
        exact ⟨x1, Nat.lt_of_lt_of_le x2 k6.size, x3, hAs a ha⟩
    refine ldS_intro hp6.sl0 ⟨_, ?_, ⟨N', ts ++ [.node .nil r.n .nil], hp6, ?_⟩, ?_, ⟨rfl, rfl, rfl, ?_⟩, ?_⟩
    · simp only [makeE, if_pos hn]
      rw [w64_in (by simp; omega)]
      congr 5
      simp
    · have fl := hf.le
      have e1 : makeS r.n rows = rows ++ [[r.n]] := by simp [makeS, hn]
      have e2 : makeV r.n V (v0, v1, v2) = fun i => if i = r.n then (v0, v1, v2) else V i := by simp [makeV, hn]
      rw [e1, e2]
      have vN : Vals N' (r.n + 1) := fun i hi => by
        by_cases e : i = r.n
        · subst e; exact ⟨by simpa [N'] using hv.1, by simpa [N'] using hv.2.1, by simpa [N'] using hv.2.2⟩
        · rw [hN' i e, hN' i e, hN' i e]; exact hf.vals i (by omega)
      refine ⟨by rw [List.map_append, hf.ids]; rfl, hf.rok.make hf.pos, ?_, ?_, vN, by show r.n + 1 ≤ 65537; omega, by show 0 < r.n + 1; omega, ?_⟩
      · intro q hq
        rcases List.mem_append.1 hq with hq | hq
        · obtain ⟨oq, uq⟩ := hf.ok q hq
          have hroot : q.root ≠ 0 := fun e => hf.rok.ne q.ids (by rw [← hf.ids]; exact List.mem_map_of_mem hq) (by rw [oq.root_pos.1 e]; rfl)
          have qn : q.ids.Nodup := hf.rok.nd _ (by rw [← hf.ids]; exact List.mem_map_of_mem hq)
          refine ⟨oq.congr (Nat.le_succ _) qn fun i hi j _ _ => hN' i (by have := (oq.lt i hi).2; omega) j, ?_⟩
          rw [hN' _ (by have := (oq.lt _ (Tr.root_mem hroot)).2; omega)]; exact uq
        · simp only [List.mem_singleton] at hq; subst hq
          have t5 : tot N' 5 [r.n] = v0 := by rw [tot_one (by simpa [N'] using hv.1)]; simp [N']
          have t6 : tot N' 6 [r.n] = v1 := by rw [tot_one (by simpa [N'] using hv.2.1)]; simp [N']
          have t7 : tot N' 7 [r.n] = v2 := by rw [tot_one (by simpa [N'] using hv.2.2)]; simp [N']
          refine ⟨⟨hf.pos, Nat.lt_succ_self _, by simp [N', Tr.root], by simp [N', Tr.root], by simp [N', Tr.ids], ?_, ?_, ?_, by simp [Tr.root], by simp [Tr.root], trivial, trivial⟩, by simp [N', Tr.root]⟩
          · simp only [Tr.ids, List.nil_append]; rw [t5]; simp [N']
          · simp only [Tr.ids, List.nil_append]; rw [t6]; simp [N']
          · simp only [Tr.ids, List.nil_append]; rw [t7]; simp [N']
      · rw [hN' 0 (by have := hf.pos; omega)]; exact hf.z
      · intro i h1 h2
        by_cases e : i = r.n
        · subst e; simp [N']
        · rw [hN' i e, hN' i e, hN' i e, if_neg e]; exact hf.v i h1 (by have : i < r.n + 1 := h2; omega)
    · simp [makeN, hn]
    · rcases hg5 with e | e
      · exact .inl e
      · exact .inr (by show w.heap.size ≤ g'; omega)
    · refine (Keeps.of_below b2).trans ?_
      refine (k3.mono (fun k _ e => .inl e)).trans ((Keeps.of_below b4).trans ?_)
      exact (k5.mono (fun k _ e => .inr e)).trans (k6.mono (fun k _ e => .inl e))
  · refine sel_t (by simp; omega) ⟨r, by simp [makeE, hn], ?_, by simp [makeN, hn], ⟨rfl, rfl, rfl, .inl rfl⟩, .of_below b1⟩
    have e1 : makeS r.n rows = rows := by simp [makeS, hn]
    have e2 : makeV r.n V (v0, v1, v2) = V := by simp [makeV, hn]
    rw [e1, e2]; exact ⟨N, ts, hp1, hf⟩
theorem app_empty {P : Program} {t e : TypeId} (hT : IntTy P t e) {w : World} {B b : Nat} (hb : w.heap[b]? = some (Obj.cells #[] e)) (hBb : B ≤ b) {A2 : Option Addr} {m c2 : Nat} {l2 : List Int} {ty : TypeId}
    {K : Value → World → Prop} (hr : RI w A2 l2) (hm : m = l2.length) (hc0 : A2 = none → m = 0 ∧ c2 = 0) (hlen : l2.length ≤ 17592186044416)
    (hK : ∀ A' c' w', OwnI w' B e (some A') c' l2 → Below w.heap.size w w' → K (.slice (some A') l2.length c') w') :
    Runs P (Builtin.append_ #[t, t] ty #[.slice (some ⟨b, 0, none⟩) 0 0, .slice A2 m c2]) w K := by
  obtain ⟨i, hi, hz, hs, hby⟩ := hT.info
  subst hm
  have hbl : b < w.heap.size := (Array.getElem?_eq_some_iff.1 hb).1
  have ho : OwnI w B e (some ⟨b, 0, none⟩) 0 [] := ⟨rfl, .inr ⟨b, 0, #[], rfl, hBb, hb, Nat.le_refl _, Nat.zero_le _, rfl, rfl⟩⟩
  have hB : B ≤ w.heap.size := by omega
  cases A2 with
  | none =>
    obtain ⟨h0, hc⟩ := hc0 rfl
    have hl2 : l2 = [] := List.length_eq_zero_iff.mp h0
    subst hl2; subst hc
    exact runs_of (run_append_owned_none w B t ty e i 1 hT.und hi _ _ _ ho) (hK _ _ w ho (Below.refl _ _))
  | some a =>
    by_cases hl : l2 = []
    · subst hl
      have hrun := run_append_room (P := P) w t ty e i hT.und hi b 0 0 #[] hb a 0 c2 [] (by simp) (by simp) (by simp) (by omega) (by simp)
      refine runs_of hrun ?_
      have hhp := setRow_heap w b #[] ((#[] : Array Value).toList.take (0 * i.size) ++ ([] : List Value) ++ (#[] : Array Value).toList.drop (0 * i.size + ([] : List Value).length)).toArray e (0, 0) hb
      have hot := setRow_other w b
      have hcell : ((#[] : Array Value).toList.take (0 * i.size) ++ ([] : List Value) ++ (#[] : Array Value).toList.drop (0 * i.size + ([] : List Value).length)).toArray = #[] := by simp
      refine hK ⟨b, 0, none⟩ 0 _ ⟨rfl, .inr ⟨b, 0, #[], rfl, hBb, ?_, Nat.le_refl _, Nat.zero_le _, rfl, rfl⟩⟩ ⟨rfl, rfl, rfl, by simp, fun k hk => ?_⟩
      · rw [hhp, hcell]
      · by_cases e : k = b
        · subst e; rw [hhp, hcell, hb]
        · exact hot k _ e
    · have hpos : 0 < l2.length := List.length_pos_iff.2 hl
      have hr2 := run_append_grow (P := P) w t ty e i (.int .i64 0) hT.und hi hz ⟨b, 0, none⟩ 0 0 [] (by simp) (by simp) a l2.length c2 (l2.map (.int .i64)) (by rw [hs]; simp) hr.news (by omega) (by omega)
        (by rw [hby]; exact growslice_fits (by omega) (by omega))
      obtain ⟨v', w', hrun, ho', hg, _⟩ := run_append_own (P := P) w B t ty e i (.int .i64 0) 1 8 hT.und hi hz hs hby rfl (by decide) _ _ _ ho a l2.length c2 (l2.map (.int .i64)) (by simp) hr.news (int_one _) (by unfold maxLen; simp; omega) (by simp; omega) hB
      have hr2' : (Builtin.append_ #[t, t] ty #[Value.slice (some ⟨b, 0, none⟩) ([] : List Int).length 0, .slice (some a) l2.length c2]).run P w = _ := hr2
      rw [hr2'] at hrun
      injection hrun with hv hw
      refine runs_of hr2 ?_
      have hbel : Below w.heap.size w w' := by rw [← hw]; exact (Below.refl w.heap.size w).drew.alloc (Nat.le_refl _) _
      rw [hw]
      rw [← hv] at ho'
      simp only [List.length_nil, Nat.zero_add, List.map_nil, List.nil_append] at ho' ⊢
      exact hK _ _ w' ho' hbel
theorem z11_enc : (madeCells z11.cells (1 * 11)).toList = enc 11 1 (fun _ j => .int (kd j) 0) := by
  apply List.ext_getElem
  · simp [madeCells, enc]
  · intro j h1 h2
    have hj : j < 11 := by simpa [enc] using h2
    simp only [madeCells, enc, Array.getElem_toList, Array.getElem_map, Array.getElem_range, List.getElem_map, List.getElem_range]
    match j, hj with | 0, _ => rfl | 1, _ => rfl | 2, _ => rfl | 3, _ => rfl | 4, _ => rfl | 5, _ => rfl | 6, _ => rfl | 7, _ => rfl | 8, _ => rfl | 9, _ => rfl | 10, _ => rfl
def fNd (B : Nat) (v : Value) (w : World) : Prop := ∃ g, v = .slice (some ⟨g, 0, none⟩) 1 1 ∧ w.ownsRow B 143 11 (.slice (some ⟨g, 0, none⟩) 1 1) 1 (enc 11 1 fun _ j => .int (kd j) 0)
def fEm (B : Nat) (v : Value) (w : World) : Prop := ∃ b, v = .slice (some ⟨b, 0, none⟩) 0 0 ∧ B ≤ b ∧ w.heap[b]? = some (Obj.cells #[] 3)
def fSd (B : Nat) (sl : List Int) (v : Value) (w : World) : Prop := ∃ A c, v = .slice (some A) sl.length c ∧ OwnI w B 3 (some A) c sl
def fRp (B : Nat) (sl : List Int) (v : Value) (w : World) : Prop := ∃ r : RC, v = .pointer (some ⟨r.R, 0, none⟩) ∧ r.n = 1 ∧ r.B = B ∧ Rp w r (fun _ _ => 0)
def fN (B : Nat) (sl : List Int) (i : Nat) (v : Value) (w : World) : Prop := match i with
  | 0 => fNd B v w | 1 => fEm B v w | 3 => fSd B sl v w | 5 => fRp B sl v w
  | _ => True
theorem fN.keep {B : Nat} {sl : List Int} {i : Nat} {v : Value} {w w' : World} (h : fN B sl i v w) (hb : Below w.heap.size w w') : fN B sl i v w' := by
  unfold fN at h ⊢
  split at h
  · obtain ⟨g, e, ho⟩ := h
    exact ⟨g, e, Keeps.own ho (Keeps.of_below (S := fun _ => False) hb) (fun _ _ => id)⟩
  · obtain ⟨b, e, h1, h2⟩ := h
    exact ⟨b, e, h1, (hb.block b (Array.getElem?_eq_some_iff.1 h2).1).trans h2⟩
  · obtain ⟨A, c, e, ho⟩ := h
    exact ⟨A, c, e, ho.keeps (Keeps.of_below (S := fun _ => False) hb) (fun _ _ => id)⟩
  · obtain ⟨r, e, h1, h2, h3⟩ := h
    exact ⟨r, e, h1, h2, h3.below hb⟩
  · trivial
theorem New_ok {w : World} {A : Option Addr} {sl : List Int} {c : Nat} (hr : RI w A sl) (hc0 : A = none → sl.length = 0 ∧ c = 0) (hlen : sl.length ≤ 17592186044416) :
    Calls Tryz.prog 80 #[.slice A sl.length c] w fun e w' => ∃ r : RC, e = .returned (.pointer (some ⟨r.R, 0, none⟩)) ∧ (∀ V, Rope w' r [] V) ∧ r.n = 1 ∧ r.B = w.heap.size ∧ Below w.heap.size w w' := by
  apply f_euler_load.ok
  unfold f_euler_load.wp
  refine drW_intro ?_
  have b0 : Below w.heap.size w w.drew := (Below.refl _ _).drew
  have hr1 := hr.below b0 (Nat.le_refl _)
  have hsz : w.drew.heap.size = w.heap.size := rfl
  generalize w.drew = w1 at *
  refine ⟨f_euler_load.h1_ok .., fun x y => Below x.heap.size x y, fN w.heap.size sl, fun _ => Below.refl _ _, fun x y z h1 h2 => h1.trans (h2.mono h1.size), fun i v x y _ h1 h2 => fN.keep h2 h1, ?_, ?_⟩
  · refine ⟨fun _ w4 g => ?_, fun _ w8 g => alW_intro ⟨bal _ _, _, rfl, by have := g.size; omega, heap_alloc_new _ _⟩, fun _ w11 g A1 n1 c1 f1 => ?_, fun _ w15 g A0 n0 c0 f0 A1 n1 c1 f1 A3 n3 c3 f3 => ?_, trivial⟩
    · obtain ⟨i, hi, hz, hs, hby⟩ := TNd_info
      obtain ⟨w', hrun, ho, hg⟩ := run_make_full (P := Tryz.prog) w4 w.heap.size _ 143 i z11 11 TNd hi hz hs .i64 .i64 1 (by rw [hby]; omega) (by unfold maxLen; omega) (by have := g.size; omega)
      rw [z11_enc] at ho
      exact runs_of hrun ⟨_, _, _, rfl, ⟨hg.os, hg.tape, hg.output, hg.size, fun k hk => hg.block k hk (by simp)⟩, _, rfl, ho⟩
    · obtain ⟨b, e, h1, h2⟩ := f1
      injection e with e1 e2 e3; subst e1; subst e2; subst e3
      refine app_empty TIn h2 h1 (hr1.below g (Nat.le_refl _)) rfl hc0 hlen fun A' c' w' ho hb => ?_
      exact ⟨_, _, _, rfl, hb, _, _, rfl, ho⟩
    · obtain ⟨g0, e, ho⟩ := f0
      injection e with e1 e2 e3; subst e1; subst e2; subst e3
      obtain ⟨A, cc, e, hs⟩ := f3
      injection e with e1 e2 e3; subst e1; subst e2; subst e3
      refine alW_intro ⟨bal _ _, ⟨w.heap.size, w15.heap.size, g0, 1, 1, some A, sl, c3, 11400714819323198485⟩, rfl, rfl, rfl, ?_⟩
      have hg0 := World.ownsRow.lt ho g0 rfl
      have hA := hs.block A rfl
      have bl := bal w15 (.cells #[.slice (some ⟨g0, 0, none⟩) 1 1, .slice (some A) sl.length c3, .int .u64 (11400714819323198485 : Int)] 146)
      refine ⟨heap_alloc_new _ _, Keeps.own ho (Keeps.of_below (S := fun _ => False) bl) (fun _ _ => id), by have := g.size; show w.heap.size ≤ w15.heap.size; omega, by show g0 ≠ w15.heap.size; omega, hs.reads.below bl (Nat.le_refl _), ?_⟩
      intro a ha
      injection ha with ha; subst ha
      refine ⟨hA.1, by simp; omega, by show A.block ≠ w15.heap.size; omega, ?_⟩
      show A.block ≠ g0
      intro e
      obtain ⟨_, h1⟩ := ho
      rcases h1 with ⟨h1, _⟩ | ⟨g', cap, cur, hv, _, hh, _⟩
      · cases h1
      · injection hv with hv; injection hv with hv; injection hv with hv; subst hv
        obtain ⟨_, h2⟩ := hs
        rcases h2 with ⟨h2, _⟩ | ⟨g2, cap2, cur2, hv2, _, hh2, _⟩
        · cases h2
        · injection hv2 with hv2; injection hv2 with hv2; subst hv2
          simp only at e
          subst e
          rw [hh] at hh2
          injection hh2 with hh2; injection hh2 with _ hh2; cases hh2
  · intro w18 g A0 n0 c0 f0 A1 n1 c1 f1 A3 n3 c3 f3 a5 f5
    obtain ⟨r, e, h1, h2, h3⟩ := f5
    injection e with e; injection e with e; subst e
    refine ⟨r, rfl, fun V => ⟨_, [], h3, ?_⟩, h1, h2, b0.trans (g.mono (Nat.le_of_eq hsz.symm))⟩
    rw [h1]
    refine ⟨rfl, ⟨by simp, by simp, List.Pairwise.nil, fun i => ?_⟩, by simp, rfl, fun i _ => ⟨⟨by omega, by omega⟩, ⟨by omega, by omega⟩, ⟨by omega, by omega⟩⟩, by omega, by omega, fun i h1 h2 => by omega⟩
    constructor
    · rintro ⟨l, hl, _⟩; simp at hl
    · omega
end Go.Proofs.YtbhhbnnmdekjiaaGreat.Rd
namespace Go.Dn
open Go.RowKit
open Go.ChangeMaps (setBlock heap_setBlock_same heap_setBlock_other)
def W64 (n : Int) : Prop := -9223372036854775808 ≤ n ∧ n ≤ 9223372036854775807
theorem W64.wf {n : Int} (h : W64 n) : (Lit.int .i64 n).wf = true := WalkArith.wf_i64 h
theorem sb_same {w : World} {b : Nat} {o o' : Obj} (h : w.heap[b]? = some o) : (setBlock w b o').heap[b]? = some o' := by
  have := (Array.getElem?_eq_some_iff.1 h).1
  simp [setBlock, this]
theorem sb_other {w : World} {b i : Nat} {o' : Obj} (h : i ≠ b) : (setBlock w b o').heap[i]? = w.heap[i]? := by
  unfold setBlock
  simp only
  rw [Array.getElem?_setIfInBounds_ne (Ne.symm h)]
theorem pw_mem {α : Type} {R : α → α → Prop} : ∀ {l : List α}, l.Pairwise R → ∀ {a b : α}, a ∈ l → b ∈ l → a = b ∨ R a b ∨ R b a
  | [], _, _, _, h, _ => by cases h
  | x :: l, hp, a, b, ha, hb => by
    obtain ⟨h1, h2⟩ := List.pairwise_cons.1 hp
    rcases List.mem_cons.1 ha with ea | ha <;> rcases List.mem_cons.1 hb with eb | hb
    · exact .inl (ea.trans eb.symm)
    · exact .inr (.inl (ea ▸ h1 _ hb))
    · exact .inr (.inr (eb ▸ h1 _ ha))
    · exact pw_mem h2 ha hb
section
variable {κ β : Type} [DecidableEq κ]
def lk (m : List (κ × β)) (x : κ) : Option β := match m with
  | [] => none
  | p :: r => if p.1 = x then some p.2 else lk r x
def hasK (m : List (κ × β)) (x : κ) : Bool := m.any fun p => decide (p.1 = x)
def putK (m : List (κ × β)) (x : κ) (v : β) : List (κ × β) := if hasK m x then m.map (fun p => if p.1 = x then (x, v) else p) else m ++ [(x, v)]
def delK (m : List (κ × β)) (x : κ) : List (κ × β) := m.filter fun p => !decide (p.1 = x)
def NdK (m : List (κ × β)) : Prop := (m.map (·.1)).Nodup
theorem hasK_iff {m : List (κ × β)} {x : κ} : hasK m x = true ↔ ∃ v, (x, v) ∈ m := by
  unfold hasK
  rw [List.any_eq_true]
  constructor
  · rintro ⟨⟨y, v⟩, hp, e⟩
    simp only [decide_eq_true_eq] at e
    subst e; exact ⟨v, hp⟩
  · rintro ⟨v, h⟩; exact ⟨_, h, by simp⟩
theorem lk_none {m : List (κ × β)} {x : κ} (h : ∀ p ∈ m, p.1 ≠ x) : lk m x = none := by
  induction m with
  | nil => rfl
  | cons p r ih => rw [lk, if_neg (h p (by simp))]; exact ih fun q hq => h q (by simp [hq])
theorem lk_mem {m : List (κ × β)} (nd : NdK m) {x : κ} {v : β} (h : (x, v) ∈ m) : lk m x = some v := by
  induction m with
  | nil => cases h
  | cons p r ih =>
    unfold NdK at nd
    rw [List.map_cons, List.nodup_cons] at nd
    rcases List.mem_cons.1 h with e | h
    · subst e; rw [lk, if_pos rfl]
    · rw [lk, if_neg fun e => nd.1 (by rw [e]; exact List.mem_map.2 ⟨_, h, rfl⟩)]
      exact ih nd.2 h
theorem lk_some {m : List (κ × β)} {x : κ} {v : β} (h : lk m x = some v) : (x, v) ∈ m := by
  induction m with
  | nil => cases h
  | cons p r ih =>
    rw [lk] at h
    split at h
    · rename_i e
      injection h with h; subst h; subst e; simp
    · exact List.mem_cons_of_mem _ (ih h)
theorem lk_none_iff {m : List (κ × β)} {x : κ} : lk m x = none ↔ ∀ p ∈ m, p.1 ≠ x := by
  refine ⟨fun h p hp e => ?_, lk_none⟩
  induction m with
  | nil => cases hp
  | cons q r ih =>
    rw [lk] at h
    split at h
    · cases h
    · rename_i hq
      rcases List.mem_cons.1 hp with e' | hp
      · subst e'; exact hq e
      · exact ih h hp
theorem lk_putK {m : List (κ × β)} {x : κ} {v : β} (y : κ) : lk (putK m x v) y = if x = y then some v else lk m y := by
  unfold putK
  split
  · rename_i hh
    obtain ⟨u, h⟩ := hasK_iff.1 hh
    clear hh
    induction m generalizing u with
    | nil => cases h
    | cons p r ih =>
      rw [List.map_cons]
      by_cases e : p.1 = x
      · rw [if_pos e, lk]
        by_cases e2 : x = y
        · rw [if_pos e2, if_pos e2]
        · rw [if_neg e2, if_neg e2, lk, if_neg (fun e3 => e2 (e ▸ e3))]
          by_cases hr : ∃ u, (x, u) ∈ r
          · obtain ⟨u', hr⟩ := hr
            have := ih u' hr
            rw [if_neg e2] at this; exact this
          · have : r.map (fun p => if p.1 = x then (x, v) else p) = r := by
              refine (List.map_congr_left fun q hq => ?_).trans (List.map_id _)
              rw [if_neg fun e4 => hr ⟨q.2, by rw [← e4]; exact hq⟩]; rfl
            rw [this]
      · rw [if_neg e, lk, lk]
        have hr : (x, u) ∈ r := by
          rcases List.mem_cons.1 h with e2 | h
          · exact absurd (congrArg Prod.fst e2).symm e
          · exact h
        by_cases e2 : p.1 = y
        · rw [if_pos e2, if_pos e2, if_neg (fun e3 => e (e2.trans e3.symm))]
        · rw [if_neg e2, if_neg e2]; exact ih u hr
  · rename_i h
    have hn : ∀ p ∈ m, p.1 ≠ x := fun p hp e => h (hasK_iff.2 ⟨p.2, by rw [← e]; exact hp⟩)
    clear h
    induction m with
    | nil => rfl
    | cons p r ih =>
      rw [List.cons_append, lk, lk]
      by_cases e2 : p.1 = y
      · rw [if_pos e2, if_pos e2, if_neg fun e3 => hn p (by simp) (e2.trans e3.symm)]
      · rw [if_neg e2, if_neg e2]; exact ih fun q hq => hn q (by simp [hq])
theorem lk_delK {m : List (κ × β)} {x : κ} (y : κ) : lk (delK m x) y = if x = y then none else lk m y := by
  unfold delK
  induction m with
  | nil => simp [lk]
  | cons p r ih =>
    by_cases e : p.1 = x
    · rw [List.filter_cons_of_neg (by simp [e]), ih, lk]
      by_cases e2 : x = y
      · rw [if_pos e2, if_pos e2]
      · rw [if_neg e2, if_neg e2, if_neg fun e3 => e2 (e ▸ e3)]
    · rw [List.filter_cons_of_pos (by simp [e]), lk, lk, ih]
      by_cases e2 : p.1 = y
      · rw [if_pos e2, if_pos e2, if_neg fun e3 => e (e2.trans e3.symm)]
      · rw [if_neg e2, if_neg e2]
theorem keys_putK {m : List (κ × β)} {x : κ} {v : β} : (putK m x v).map (·.1) = if hasK m x then m.map (·.1) else m.map (·.1) ++ [x] := by
  unfold putK
  split
  · rw [List.map_map]
    refine List.map_congr_left fun p hp => ?_
    show (if p.1 = x then (x, v) else p).1 = p.1
    split
    · rename_i e; exact e.symm
    · rfl
  · rw [List.map_append]; rfl
theorem NdK.put {m : List (κ × β)} (nd : NdK m) (x : κ) (v : β) : NdK (putK m x v) := by
  unfold NdK
  rw [keys_putK]
  split
  · exact nd
  · rename_i h
    refine List.nodup_append.2 ⟨nd, by simp, fun a ha b hb e => h ?_⟩
    obtain ⟨p, hp, rfl⟩ := List.mem_map.1 ha
    have : b = x := by simpa using hb
    exact hasK_iff.2 ⟨p.2, by rw [← this, ← e]; exact hp⟩
theorem NdK.del {m : List (κ × β)} (nd : NdK m) (x : κ) : NdK (delK m x) := by
  unfold NdK delK
  exact nd.sublist (List.filter_sublist.map _)
theorem length_putK {m : List (κ × β)} {x : κ} {v : β} : (putK m x v).length = if hasK m x then m.length else m.length + 1 := by
  have := congrArg List.length (keys_putK (m := m) (x := x) (v := v))
  rw [List.length_map] at this
  rw [this]
  split <;> simp
theorem set_putK {m : List (κ × β)} (nd : NdK m) {j : Nat} {x : κ} {u v : β} (h : m[j]? = some (x, u)) : m.set j (x, v) = putK m x v := by
  unfold putK
  rw [if_pos (hasK_iff.2 ⟨u, List.mem_of_getElem? h⟩)]
  induction m generalizing j with
  | nil => cases h
  | cons p r ih =>
    unfold NdK at nd
    rw [List.map_cons, List.nodup_cons] at nd
    cases j with
    | zero =>
      simp only [List.getElem?_cons_zero, Option.some.injEq] at h
      subst h
      rw [List.set_cons_zero, List.map_cons, if_pos rfl]
      congr 1
      refine ((List.map_congr_left fun q hq => ?_).trans (List.map_id _)).symm
      rw [if_neg fun e => nd.1 (List.mem_map.2 ⟨q, hq, e⟩)]; rfl
    | succ j =>
      simp only [List.getElem?_cons_succ] at h
      have hne : p.1 ≠ x := fun e => nd.1 (by rw [e]; exact List.mem_map.2 ⟨_, List.mem_of_getElem? h, rfl⟩)
      rw [List.set_cons_succ, List.map_cons, if_neg hne, ih nd.2 h]
theorem erase_delK {m : List (κ × β)} (nd : NdK m) {j : Nat} {x : κ} {u : β} (h : m[j]? = some (x, u)) : m.eraseIdx j = delK m x := by
  unfold delK
  induction m generalizing j with
  | nil => cases h
  | cons p r ih =>
    unfold NdK at nd
    rw [List.map_cons, List.nodup_cons] at nd
    cases j with
    | zero =>
      simp only [List.getElem?_cons_zero, Option.some.injEq] at h
      subst h
      rw [List.eraseIdx_cons_zero, List.filter_cons_of_neg (by simp)]
      refine (List.filter_eq_self.2 fun q hq => ?_).symm
      have : q.1 ≠ x := fun e => nd.1 (List.mem_map.2 ⟨q, hq, e⟩)
      simp [this]
    | succ j =>
      simp only [List.getElem?_cons_succ] at h
      have hne : p.1 ≠ x := fun e => nd.1 (by rw [e]; exact List.mem_map.2 ⟨_, List.mem_of_getElem? h, rfl⟩)
      rw [List.eraseIdx_cons_succ, List.filter_cons_of_pos (by simp [hne]), ih nd.2 h]
theorem delK_none {m : List (κ × β)} {x : κ} (h : ∀ p ∈ m, p.1 ≠ x) : delK m x = m := List.filter_eq_self.2 fun p hp => by simp [h p hp]
structure KT (P : Program) (t k e : TypeId) (eK : κ → Value) (okK : κ → Prop) : Prop where
  und : P.underlying t = some (.map k e)
  kd : Maps.Keyed P k
  key : ∀ x, okK x → ∃ l, keyOf P k (eK x) = some l
  inj : ∀ x y, eK x = eK y → x = y
structure GM (w : World) (eK : κ → Value) (eV : β → Value) (okK : κ → Prop) (b : Nat) (m : List (κ × β)) : Prop where
  ok : ∀ p ∈ m, okK p.1
  nd : NdK m
  dat : ∃ es clock, w.heap[b]? = some (.map es clock) ∧ MapKept.Stamped es clock ∧ es.toList.map (fun e => (e.key, e.val)) = m.map fun p => (eK p.1, eV p.2)
variable {P : Program} {t k e : TypeId} {eK : κ → Value} {eV : β → Value} {okK : κ → Prop} {w : World} {b : Nat} {m : List (κ × β)}
theorem GM.new (w : World) : GM (w.alloc (.map #[] 0)) eK eV okK w.heap.size [] :=
  ⟨by simp, by simp [NdK], #[], 0, (MapKept.heap_alloc w _).1, MapKept.stamped_empty 0, rfl⟩
theorem GM.lt (h : GM w eK eV okK b m) : b < w.heap.size := by
  obtain ⟨es, clock, hb, _⟩ := h.dat
  exact (Array.getElem?_eq_some_iff.1 hb).1
theorem GM.keeps {S : Nat → Prop} {w' : World} (h : GM w eK eV okK b m) (hk : Keeps S w w') (hb : ¬ S b) : GM w' eK eV okK b m := by
  have hlt := h.lt
  obtain ⟨es, clock, hh, r⟩ := h.dat
  exact ⟨h.ok, h.nd, es, clock, (hk.block b hlt hb).trans hh, r⟩
theorem GM.below {w' : World} (h : GM w eK eV okK b m) (hb : Below w.heap.size w w') : GM w' eK eV okK b m := h.keeps (S := fun _ => False) (.of_below hb) id
theorem at_pair {es : List MapEntry} (he : es.map (fun e => (e.key, e.val)) = m.map fun p => (eK p.1, eV p.2)) {j : Nat} {e0 : MapEntry} (hj : es[j]? = some e0) : ∃ x v, m[j]? = some (x, v) ∧ e0.key = eK x ∧ e0.val = eV v := by
  have h := congrArg (·[j]?) he
  simp only [List.getElem?_map, hj, Option.map_some] at h
  cases hm : m[j]? with
  | none => rw [hm] at h; cases h
  | some p =>
    rw [hm] at h
    simp only [Option.map_some, Option.some.injEq, Prod.mk.injEq] at h
    exact ⟨p.1, p.2, rfl, h.1, h.2⟩
theorem keys_ok (T : KT P t k e eK okK) (ok : ∀ p ∈ m, okK p.1) {es : List MapEntry} (he : es.map (fun e => (e.key, e.val)) = m.map fun p => (eK p.1, eV p.2)) : ∀ x ∈ es, ∃ l, keyOf P k x.key = some l := fun x hx => by
  obtain ⟨j, hj, rfl⟩ := List.getElem_of_mem hx
  obtain ⟨y, v, hm, hk, _⟩ := at_pair he (List.getElem?_eq_getElem hj)
  rw [hk]; exact T.key y (ok _ (List.mem_of_getElem? hm))
theorem GM.run_look (T : KT P t k e eK okK) (h : GM w eK eV okK b m) (c : Bool) {x : κ} (hx : okK x) {z : Value} (hz : (zeroValue e).run P w = .ok z w) :
    (Instr.lookup t (.map (some b)) (eK x) c).run P w = .ok (match lk m x with | some v => if c then .tuple #[eV v, .bool true] else eV v | none => if c then .tuple #[z, .bool false] else z) w := by
  obtain ⟨es, clock, hb, hst, he⟩ := h.dat
  obtain ⟨l, hl⟩ := T.key x hx
  rcases T.kd.find w hl es.toList (keys_ok T h.ok he) with ⟨h1, h2⟩ | ⟨j, e0, h1, h2, h3⟩
  · have : lk m x = none := lk_none fun p hp e' => by
      obtain ⟨j, hj, rfl⟩ := List.getElem_of_mem hp
      have hlen := congrArg List.length he
      simp only [List.length_map] at hlen
      have hj' : j < es.toList.length := by omega
      obtain ⟨y, v, hm, hk, _⟩ := at_pair he (List.getElem?_eq_getElem hj')
      rw [List.getElem?_eq_getElem hj] at hm
      injection hm with hm
      refine h2 _ (List.getElem_mem hj') ?_
      rw [hk, ← e', hm]
    rw [this]
    simp [Instr.lookup, run_underlying T.und, MapKept.run_getObj_map hb, T.kd.check w _ hl, h1, hz, Result.andThen]
  · obtain ⟨y, v, hm, hk, hv⟩ := at_pair he h2
    have hy : y = x := T.inj _ _ (hk.symm.trans h3)
    subst hy
    rw [lk_mem h.nd (List.mem_of_getElem? hm)]
    simp [Instr.lookup, run_underlying T.und, MapKept.run_getObj_map hb, T.kd.check w _ hl, h1, hv, Result.andThen]
theorem GM.look (T : KT P t k e eK okK) (h : GM w eK eV okK b m) {x : κ} (hx : okK x) {z : Value} (hz : (zeroValue e).run P w = .ok z w) {K : Value → World → Prop}
    (hk : K (match lk m x with | some v => eV v | none => z) w) : Runs P (Instr.lookup t (.map (some b)) (eK x) false) w K := by
  refine runs_of (h.run_look T false hx hz) ?_
  cases hq : lk m x <;> rw [hq] at hk <;> exact hk
theorem GM.look2 (T : KT P t k e eK okK) (h : GM w eK eV okK b m) {x : κ} (hx : okK x) {z : Value} (hz : (zeroValue e).run P w = .ok z w) {K : Value → World → Prop}
    (hk : K (match lk m x with | some v => .tuple #[eV v, .bool true] | none => .tuple #[z, .bool false]) w) : Runs P (Instr.lookup t (.map (some b)) (eK x) true) w K := by
  refine runs_of (h.run_look T true hx hz) ?_
  cases hq : lk m x <;> rw [hq] at hk <;> exact hk
theorem GM.len (T : KT P t k e eK okK) (h : GM w eK eV okK b m) {ty : TypeId} {K : Value → World → Prop} (hk : K (.int .i64 (m.length : Int)) w) :
    Runs P (Builtin.len_ #[t] ty #[.map (some b)]) w K := by
  obtain ⟨es, clock, hb, hst, he⟩ := h.dat
  have hlen := congrArg List.length he
  simp only [List.length_map, Array.length_toList] at hlen
  refine runs_of (w' := w) (a := .int .i64 (m.length : Int)) ?_ hk
  rw [← hlen]
  simp [Builtin.len_, run_underlying T.und, MapKept.run_getObj_map hb, goInt, Result.andThen]
theorem keeps_setBlock {w : World} {b : Nat} {o o' : Obj} (hb : w.heap[b]? = some o) : Keeps (fun k => k = b) w (setBlock w b o') :=
  ⟨rfl, rfl, rfl, by simp [setBlock], fun i _ hi => sb_other hi⟩
theorem GM.upd (T : KT P t k e eK okK) (h : GM w eK eV okK b m) {x : κ} (hx : okK x) {v : β} {K : Unit → World → Prop}
    (hk : ∀ w', GM w' eK eV okK b (putK m x v) → Keeps (fun k => k = b) w w' → K () w') : Runs P (Instr.mapUpdate t (.map (some b)) (eK x) (eV v)) w K := by
  obtain ⟨es, clock, hb, hst, he⟩ := h.dat
  obtain ⟨l, hl⟩ := T.key x hx
  have ok' : ∀ p ∈ putK m x v, okK p.1 := fun p hp => by
    have : p.1 ∈ (putK m x v).map (·.1) := List.mem_map_of_mem hp
    rw [keys_putK] at this
    have h1 : ∀ y ∈ m.map (·.1), okK y := fun y hy => by
      obtain ⟨q, hq, rfl⟩ := List.mem_map.1 hy
      exact h.ok q hq
    split at this
    · exact h1 _ this
    · rcases List.mem_append.1 this with h2 | h2
      · exact h1 _ h2
      · have : p.1 = x := by simpa using h2
        rw [this]; exact hx
  rcases T.kd.find w hl es.toList (keys_ok T h.ok he) with ⟨h1, h2⟩ | ⟨j, e0, h1, h2, h3⟩
  · have hno : hasK m x = false := by
      rw [Bool.eq_false_iff]
      intro hh
      obtain ⟨u, hu⟩ := hasK_iff.1 hh
      obtain ⟨j, hj, hju⟩ := List.getElem_of_mem hu
      have hlen := congrArg List.length he
      simp only [List.length_map] at hlen
      have hj' : j < es.toList.length := by omega
      obtain ⟨y, v, hm, hk, _⟩ := at_pair he (List.getElem?_eq_getElem hj')
      rw [List.getElem?_eq_getElem hj, hju] at hm
      injection hm with hm
      injection hm with hm1 hm2
      exact h2 _ (List.getElem_mem hj') (by rw [hk, hm1])
    refine runs_of (a := ()) (w' := setBlock w b (.map (es.push ⟨eK x, eV v, clock⟩) (clock + 1))) ?_ (hk _ ⟨ok', h.nd.put x v, _, _, sb_same hb, MapKept.stamped_push hst h2, ?_⟩ (keeps_setBlock hb))
    · simp [Instr.mapUpdate, run_underlying T.und, MapKept.run_getObj_map hb, T.kd.check w false hl, h1, MapKept.run_setObj_map _ hb, Result.andThen, setBlock]
    · unfold putK
      rw [hno]
      simp [he]
  · obtain ⟨y, u, hm, hky, hv⟩ := at_pair he h2
    have hy : y = x := T.inj _ _ (hky.symm.trans h3)
    subst hy
    have hj : es[j]? = some e0 := by simpa using h2
    have hkeyf : ∀ e' ∈ es.toList, es[j]? = some e' → ({ e' with key := eK y, val := eV v } : MapEntry).key = e'.key := fun e' _ he' => by rw [hj] at he'; cases he'; exact h3.symm
    refine runs_of (a := ()) (w' := setBlock w b (.map (es.modify j (fun e' => { e' with key := eK y, val := eV v })) clock)) ?_ (hk _ ⟨ok', h.nd.put y v, _, _, sb_same hb, MapKept.stamped_modify hst _ _ (fun _ _ => rfl) hkeyf, ?_⟩ (keeps_setBlock hb))
    · simp [Instr.mapUpdate, run_underlying T.und, MapKept.run_getObj_map hb, T.kd.check w false hl, h1, hj, h3, T.kd.stays w hl, MapKept.run_setObj_map _ hb, Result.andThen, setBlock]
    · rw [← set_putK h.nd hm, Array.toList_modify, ChangeMaps.modify_eq_set _ _ _ _ h2, List.map_set, he, List.map_set]
theorem GM.del (T : KT P t k e eK okK) (h : GM w eK eV okK b m) {x : κ} (hx : okK x) {ty : TypeId} {K : Value → World → Prop}
    (hk : ∀ w', GM w' eK eV okK b (delK m x) → Keeps (fun k => k = b) w w' → K (.tuple #[]) w') : Runs P (Builtin.delete_ #[t, k] ty #[.map (some b), eK x]) w K := by
  obtain ⟨es, clock, hb, hst, he⟩ := h.dat
  obtain ⟨l, hl⟩ := T.key x hx
  have ok' : ∀ p ∈ delK m x, okK p.1 := fun p hp => h.ok p (List.mem_filter.1 hp).1
  rcases T.kd.find w hl es.toList (keys_ok T h.ok he) with ⟨h1, h2⟩ | ⟨j, e0, h1, h2, h3⟩
  · have hno : ∀ p ∈ m, p.1 ≠ x := fun p hp e' => by
      obtain ⟨j, hj, hju⟩ := List.getElem_of_mem hp
      have hlen := congrArg List.length he
      simp only [List.length_map] at hlen
      have hj' : j < es.toList.length := by omega
      obtain ⟨y, v, hm, hk, _⟩ := at_pair he (List.getElem?_eq_getElem hj')
      rw [List.getElem?_eq_getElem hj, hju] at hm
      injection hm with hm
      exact h2 _ (List.getElem_mem hj') (by rw [hk, ← e', hm])
    refine runs_of (a := .tuple #[]) (w' := setBlock w b (.map es clock)) ?_ (hk _ ⟨ok', h.nd.del x, _, _, sb_same hb, hst, ?_⟩ (keeps_setBlock hb))
    · simp [Builtin.delete_, run_underlying T.und, MapKept.run_getObj_map hb, T.kd.check w _ hl, h1, MapKept.run_setObj_map _ hb, Result.andThen, setBlock]
    · rw [delK_none hno, he]
  · obtain ⟨y, u, hm, hky, hv⟩ := at_pair he h2
    have hy : y = x := T.inj _ _ (hky.symm.trans h3)
    subst hy
    have hjl : j < es.toList.length := (List.getElem?_eq_some_iff.1 h2).1
    have hjs : j < es.size := by simpa using hjl
    have hsub : (es.eraseIdxIfInBounds j).toList = es.toList.eraseIdx j := by
      unfold Array.eraseIdxIfInBounds
      rw [dif_pos hjs]
      simp
    refine runs_of (a := .tuple #[]) (w' := setBlock w b (.map (es.eraseIdxIfInBounds j) clock)) ?_ (hk _ ⟨ok', h.nd.del y, _, _, sb_same hb, MapKept.stamped_erase hst j, ?_⟩ (keeps_setBlock hb))
    · simp [Builtin.delete_, run_underlying T.und, MapKept.run_getObj_map hb, T.kd.check w _ hl, h1, MapKept.run_setObj_map _ hb, Result.andThen, setBlock]
    · rw [hsub, ← erase_delK h.nd hm, ChangeMaps.map_eraseIdx, ChangeMaps.map_eraseIdx, he]
structure GI (w : World) (eK : κ → Value) (eV : β → Value) (okK : κ → Prop) (b r : Nat) (m left : List (κ × β)) (cur : Option (κ × β)) : Prop where
  ok : ∀ p ∈ m, okK p.1
  nd : NdK m
  sub : ∀ p ∈ left, p ∈ m
  curL : ∀ p, cur = some p → ∀ q ∈ left, q.1 ≠ p.1
  dat : ∃ (es : Array MapEntry) (clock since : Nat) (seen : Array Nat) (last : Nat), w.heap[b]? = some (.map es clock) ∧ MapKept.Stamped es clock ∧ es.toList.map (fun e => (e.key, e.val)) = m.map (fun p => (eK p.1, eV p.2)) ∧
    w.heap[r]? = some (.mapIter (some b) since seen last) ∧ (∀ x ∈ es.toList, x.born < since) ∧ since ≤ last ∧ since ≤ clock ∧ (leftOf es seen).toList.map (fun e => (e.key, e.val)) = left.map (fun p => (eK p.1, eV p.2)) ∧
    ∀ p, cur = some p → p ∈ m ∧ ∃ e0 ∈ es.toList, e0.key = eK p.1 ∧ e0.val = eV p.2 ∧ (∃ s : Array Nat, seen = s.push e0.born) ∧ last = clock
variable {r : Nat} {left : List (κ × β)} {cur : Option (κ × β)}
theorem GI.gm (h : GI w eK eV okK b r m left cur) : GM w eK eV okK b m := by
  obtain ⟨es, clock, since, seen, last, hb, hst, he, _⟩ := h.dat
  exact ⟨h.ok, h.nd, es, clock, hb, hst, he⟩
theorem GI.lt (h : GI w eK eV okK b r m left cur) : r < w.heap.size := by
  obtain ⟨es, clock, since, seen, last, hb, hst, he, hr, _⟩ := h.dat
  exact (Array.getElem?_eq_some_iff.1 hr).1
theorem GI.keeps {S : Nat → Prop} {w' : World} (h : GI w eK eV okK b r m left cur) (hk : Keeps S w w') (hb : ¬ S b) (hr : ¬ S r) : GI w' eK eV okK b r m left cur := by
  have h1 := h.gm.lt
  have h2 := h.lt
  obtain ⟨es, clock, since, seen, last, hbb, hst, he, hrr, x⟩ := h.dat
  exact ⟨h.ok, h.nd, h.sub, h.curL, es, clock, since, seen, last, (hk.block b h1 hb).trans hbb, hst, he, (hk.block r h2 hr).trans hrr, x⟩
theorem GI.below {w' : World} (h : GI w eK eV okK b r m left cur) (hb : Below w.heap.size w w') : GI w' eK eV okK b r m left cur := h.keeps (S := fun _ => False) (.of_below hb) id id
theorem GM.range (T : KT P t k e eK okK) (h : GM w eK eV okK b m) {K : Value → World → Prop}
    (hk : ∀ w' r, r = w.heap.size → w'.heap.size = r + 1 → GI w' eK eV okK b r m m none → Below w.heap.size w w' → K (.pointer (some ⟨r, 0, none⟩)) w') : Runs P (Instr.range t (.map (some b))) w K := by
  obtain ⟨es, clock, hb, hst, he⟩ := h.dat
  refine runs_of (run_range_map w t k e b es clock T.und hb) (hk _ _ rfl (by simp) ⟨h.ok, h.nd, fun p hp => hp, (fun p hp => by cases hp), es, clock, clock, #[], clock, ?_, hst, he, heap_alloc_new w _, fun x hx => hst.1 x hx, Nat.le_refl _, Nat.le_refl _, ?_, fun p hp => by cases hp⟩ ((Below.refl _ _).alloc (Nat.le_refl _) _))
  · rw [heap_alloc_old w _ h.lt]; exact hb
  · have : leftOf es #[] = es := by
      unfold leftOf
      exact Array.filter_eq_self.2 fun x hx => by simp
    rw [this]; exact he
theorem GI.next (h : GI w eK eV okK b r m left cur) {ty : TypeId} {K : Value → World → Prop}
    (h0 : left = [] → K (.tuple #[.bool false]) w)
    (h1 : ∀ x v w', (x, v) ∈ left → GI w' eK eV okK b r m (delK left x) (some (x, v)) → (delK left x).length < left.length → Keeps (fun k => k = r) w w' → w'.heap.size = w.heap.size → K (.tuple #[.bool true, eK x, eV v]) w')
    (inj : ∀ x y, eK x = eK y → x = y) : Runs P (Instr.next (.pointer (some ⟨r, 0, none⟩)) false ty) w K := by
  obtain ⟨es, clock, since, seen, last, hb, hst, he, hr, hold, hsl, hsc, hl, _⟩ := h.dat
  have ndl : NdK left := by
    have hs : ((leftOf es seen).toList.map fun e => (e.key, e.val)).Sublist (es.toList.map fun e => (e.key, e.val)) := by
      unfold leftOf
      rw [Array.toList_filter]
      exact List.filter_sublist.map _
    rw [hl, he] at hs
    have hk1 : (left.map fun p => (eK p.1, eV p.2)).map (·.1) = (left.map (·.1)).map eK := by simp
    have hk2 : (m.map fun p => (eK p.1, eV p.2)).map (·.1) = (m.map (·.1)).map eK := by simp
    have h3 := hs.map (·.1)
    rw [hk1, hk2] at h3
    have h4 : ((m.map (·.1)).map eK).Nodup := by
      have := h.nd
      unfold NdK at this
      exact List.pairwise_map.2 (this.imp fun hne e => hne (inj _ _ e))
    have h5 := h4.sublist h3
    exact (List.pairwise_map.1 h5).imp fun hne e => hne (by rw [e])
  rcases run_next_at (P := P) w ty r b since last seen es clock hr hb hold hsl with ⟨hz, hrun⟩ | ⟨e0, he0, w1, hw1, hrun⟩
  · refine runs_of hrun (h0 ?_)
    have : (leftOf es seen).toList.length = left.length := by simpa using congrArg List.length hl
    rw [Array.length_toList, hz] at this
    exact List.length_eq_zero_iff.1 this.symm
  · obtain ⟨j, hj, hje⟩ := List.getElem_of_mem he0
    obtain ⟨x, v, hm, hky, hv⟩ := at_pair hl (List.getElem?_eq_getElem hj)
    rw [hje] at hky hv
    have hmem : (x, v) ∈ left := List.mem_of_getElem? hm
    rw [hky, hv] at hrun
    have hes : e0 ∈ es.toList := by
      unfold leftOf at he0
      rw [Array.toList_filter] at he0
      exact (List.mem_filter.1 he0).1
    have hhr : w1.heap[r]? = some (.mapIter (some b) since seen last) := by rcases hw1 with rfl | rfl <;> exact hr
    have hhb : w1.heap[b]? = some (.map es clock) := by rcases hw1 with rfl | rfl <;> exact hb
    have hbr : b ≠ r := fun e' => by
      subst e'
      have := hhr.symm.trans hhb
      cases this
    have hsz : w1.heap.size = w.heap.size := by rcases hw1 with rfl | rfl <;> rfl
    have k1 : Keeps (fun k => k = r) w w1 := by
      rcases hw1 with rfl | rfl
      · exact .refl _ _
      · exact (Keeps.refl _ _).drew
    refine runs_of hrun (h1 x v _ hmem ⟨h.ok, h.nd, fun p hp => h.sub p (List.mem_filter.1 hp).1, ?_, es, clock, since, seen.push e0.born, clock, ?_, hst, he, sb_same hhr, hold, hsc, hsc, ?_, ?_⟩ ?_ (k1.trans (keeps_setBlock hhr)) ?_)
    · rintro p hp q hq
      injection hp with hp; subst hp
      have := (List.mem_filter.1 hq).2
      simpa using this
    · rw [sb_other hbr]; exact hhb
    · have e2 : (leftOf es (seen.push e0.born)).toList = (leftOf es seen).toList.filter (fun y => !decide (y.born = e0.born)) := by
        unfold leftOf
        rw [Array.toList_filter, Array.toList_filter, List.filter_filter]
        refine List.filter_congr fun y hy => ?_
        simp only [Array.contains_push]
        by_cases h5 : y.born = e0.born <;> simp [h5]
      rw [e2]
      have hbn : ∀ y ∈ (leftOf es seen).toList, (y.born = e0.born ↔ y.key = e0.key) := by
        intro y hy
        have hye : y ∈ es.toList := by
          unfold leftOf at hy
          rw [Array.toList_filter] at hy
          exact (List.mem_filter.1 hy).1
        obtain ⟨s1, s2, s3⟩ := (MapKept.stamped_iff es clock).1 hst
        constructor
        · intro hb'
          by_cases hy0 : y = e0
          · rw [hy0]
          · exact absurd hb' (by
              have := List.pairwise_map.1 s2
              exact (pw_mem this hye hes).elim (fun h => absurd h hy0) fun h => h.elim id Ne.symm)
        · intro hb'
          by_cases hy0 : y = e0
          · rw [hy0]
          · exact absurd hb' ((pw_mem s3 hye hes).elim (fun h => absurd h hy0) fun h => h.elim id Ne.symm)
      unfold delK
      have gen : ∀ (L : List MapEntry) (l : List (κ × β)), L.map (fun e => (e.key, e.val)) = l.map (fun p => (eK p.1, eV p.2)) → (∀ y ∈ L, (y.born = e0.born ↔ y.key = e0.key)) →
          (L.filter fun y => !decide (y.born = e0.born)).map (fun e => (e.key, e.val)) = (l.filter fun p => !decide (p.1 = x)).map (fun p => (eK p.1, eV p.2)) := by
        intro L
        induction L with
        | nil => intro l hl _; cases l with | nil => rfl | cons p l => cases hl
        | cons y L ih =>
          intro l hl hL
          cases l with
          | nil => cases hl
          | cons p l =>
            simp only [List.map_cons, List.cons.injEq] at hl
            have h6 := ih l hl.2 fun y hy => hL y (by simp [hy])
            have h7 : y.key = eK p.1 := (Prod.mk.inj hl.1).1
            by_cases h8 : p.1 = x
            · have : y.born = e0.born := (hL y (by simp)).2 (by rw [h7, h8, hky])
              rw [List.filter_cons_of_neg (by simp [this]), List.filter_cons_of_neg (by simp [h8]), h6]
            · have : ¬ y.born = e0.born := fun h9 => h8 (inj _ _ (by rw [← h7, (hL y (by simp)).1 h9, hky]))
              rw [List.filter_cons_of_pos (by simp [this]), List.filter_cons_of_pos (by simp [h8]), List.map_cons, List.map_cons, h6, hl.1]
      exact gen _ _ hl hbn
    · rintro p hp
      injection hp with hp; subst hp
      exact ⟨h.sub _ hmem, e0, hes, hky, hv, ⟨seen, rfl⟩, rfl⟩
    · have hh : (delK left x).length < left.length := by
        unfold delK
        exact List.length_filter_lt_length_iff_exists.2 ⟨_, hmem, by simp⟩
      exact hh
    · simp [setBlock, hsz]
theorem GI.entry {x : κ} {v : β} (h : GI w eK eV okK b r m left (some (x, v))) {K : Value → World → Prop} (hk : K (.tuple #[eK x, eV v]) w) : Runs P (Instr.entry (.pointer (some ⟨r, 0, none⟩))) w K := by
  obtain ⟨es, clock, since, seen, last, hb, hst, he, hr, hold, hsl, hsc, hl, hc⟩ := h.dat
  obtain ⟨_, e0, h0, hky, hv, ⟨s, hs⟩, hlast⟩ := hc _ rfl
  subst hs
  rw [hlast] at hr
  have := run_entry_at (P := P) w r b since s es clock e0 hr hb h0 ((MapKept.stamped_iff es clock).1 hst).2.1
  rw [hky, hv] at this
  exact runs_of this hk
theorem GI.del {x : κ} {v : β} (T : KT P t k e eK okK) (h : GI w eK eV okK b r m left (some (x, v))) {ty : TypeId} {K : Value → World → Prop}
    (hk : ∀ w', GI w' eK eV okK b r (delK m x) left none → Keeps (fun k => k = b) w w' → K (.tuple #[]) w') : Runs P (Builtin.delete_ #[t, k] ty #[.map (some b), eK x]) w K := by
  obtain ⟨es, clock, since, seen, last, hb, hst, he, hr, hold, hsl, hsc, hl, hc⟩ := h.dat
  obtain ⟨hm, e0, h0, hky, hv, ⟨s, hs⟩, hlast⟩ := hc _ rfl
  subst hs
  rw [hlast] at hr
  have hx : okK x := h.ok _ hm
  obtain ⟨l, hlx⟩ := T.key x hx
  have hbr : b ≠ r := fun e' => by
    subst e'
    have := hr.symm.trans hb
    cases this
  rcases T.kd.find w hlx es.toList (keys_ok T h.ok he) with ⟨h1, h2⟩ | ⟨j, e1, h1, h2, h3⟩
  · exact absurd hky (h2 e0 h0)
  · have hjl : j < es.toList.length := (List.getElem?_eq_some_iff.1 h2).1
    have hjs : j < es.size := by simpa using hjl
    have hsub : (es.eraseIdxIfInBounds j).toList = es.toList.eraseIdx j := by
      unfold Array.eraseIdxIfInBounds
      rw [dif_pos hjs]
      simp
    have s3 := ((MapKept.stamped_iff es clock).1 hst).2.2
    have he01 : e0 = e1 := (pw_mem s3 h0 (List.mem_of_getElem? h2)).elim id fun h => absurd (hky.trans h3.symm) (h.elim id Ne.symm)
    subst he01
    obtain ⟨y, u, hmj, hkyj, hvj⟩ := at_pair he h2
    have hy : y = x := T.inj _ _ (hkyj.symm.trans h3)
    subst hy
    have hleft : (leftOf (es.eraseIdxIfInBounds j) (s.push e0.born)).toList = (leftOf es (s.push e0.born)).toList := by
      unfold leftOf
      rw [Array.toList_filter, Array.toList_filter, hsub, List.eraseIdx_eq_take_drop_succ]
      conv => rhs; rw [← List.take_append_drop j es.toList, List.filter_append, List.drop_eq_getElem_cons hjl]
      rw [List.filter_append]
      congr 1
      have : es.toList[j] = e0 := by rw [List.getElem?_eq_getElem hjl] at h2; injection h2
      rw [this, List.filter_cons_of_neg (by simp)]
    refine runs_of (a := .tuple #[]) (w' := setBlock w b (.map (es.eraseIdxIfInBounds j) clock)) ?_ (hk _ ⟨fun p hp => h.ok p (List.mem_filter.1 hp).1, h.nd.del y, fun p hp => ?_, (fun p hp => by cases hp), es.eraseIdxIfInBounds j, clock, since, s.push e0.born, clock, sb_same hb, MapKept.stamped_erase hst j, ?_, ?_, fun z hz => ?_, hsc, hsc, ?_, fun p hp => by cases hp⟩ (keeps_setBlock hb))
    · simp [Builtin.delete_, run_underlying T.und, MapKept.run_getObj_map hb, T.kd.check w _ hlx, h1, MapKept.run_setObj_map _ hb, Result.andThen, setBlock]
    · refine List.mem_filter.2 ⟨h.sub p hp, ?_⟩
      have := h.curL _ rfl p hp
      simpa using this
    · rw [hsub, ← erase_delK h.nd hmj, ChangeMaps.map_eraseIdx, ChangeMaps.map_eraseIdx, he]
    · rw [sb_other (Ne.symm hbr)]; exact hr
    · rw [hsub] at hz
      exact hold z ((List.eraseIdx_sublist _ _).subset hz)
    · rw [hleft]; exact hl
end
end Go.Dn
namespace Go.Dn
open Go.RowKit
structure E where
  id : Int
  u : Int
  v : Int
  w : Int
def zE : E := ⟨0, 0, 0, 0⟩
def eC (e : E) : Array Value := #[.int .i64 e.id, .int .i64 e.u, .int .i64 e.v, .int .i64 e.w]
def oth (e : E) (m : Int) : Int := if e.u = m then e.v else e.u
inductive Wk (es : List E) : Int → List E → Int → Prop
  | nil (u : Int) : Wk es u [] u
  | cons {e : E} {m v : Int} {p : List E} (he : e ∈ es) (hm : e.u = m ∨ e.v = m) (h : Wk es (oth e m) p v) : Wk es m (e :: p) v
def NB : List E → Prop
  | [] => True
  | [_] => True
  | a :: b :: l => a.id ≠ b.id ∧ NB (b :: l)
theorem NB.tail {a : E} {l : List E} (h : NB (a :: l)) : NB l := by
  cases l with
  | nil => trivial
  | cons b l => exact h.2
theorem oth_end (e : E) (m : Int) : e.u = oth e m ∨ e.v = oth e m := by unfold oth; split <;> simp
def deg : List E → Int → Int
  | [], _ => 0
  | e :: es, v => (if e.u = v then 1 else 0) + (if e.v = v then 1 else 0) + deg es v
theorem deg_nn : ∀ (es : List E) (v : Int), 0 ≤ deg es v
  | [], _ => Int.le_refl _
  | e :: es, v => by
    have := deg_nn es v
    simp only [deg]
    split <;> split <;> omega
theorem deg_zero : ∀ {es : List E} {v : Int}, deg es v = 0 ↔ ∀ e ∈ es, e.u ≠ v ∧ e.v ≠ v
  | [], _ => by simp [deg]
  | e :: es, v => by
    have h1 := deg_nn es v
    have h2 := deg_zero (es := es) (v := v)
    simp only [deg, List.mem_cons, forall_eq_or_imp, ← h2]
    split <;> split <;> simp_all <;> omega
theorem Wk.inv {es : List E} {Q : Int → Prop} (hQ : ∀ e ∈ es, Q e.u ↔ Q e.v) {u v : Int} {p : List E} (h : Wk es u p v) : Q u → Q v := by
  induction h with
  | nil => exact id
  | cons he hm h ih =>
    rename_i e m v p
    intro hq
    refine ih ?_
    unfold oth
    split
    · rename_i h1; rw [← hQ e he, h1]; exact hq
    · rename_i h1; rw [hQ e he, hm.resolve_left h1]; exact hq
def noE (es : List E) (i : Int) : List E := es.filter fun e => !(e.id == i)
theorem noE_mem {es : List E} {i : Int} {e : E} : e ∈ noE es i ↔ e ∈ es ∧ e.id ≠ i := by simp [noE]
theorem noE_ids (es : List E) (i : Int) (h : (es.map E.id).Nodup) : (noE es i).map E.id = (es.map E.id).erase i := by
  induction es with
  | nil => rfl
  | cons e es ih =>
    rw [List.map_cons, List.nodup_cons] at h
    have h2 := ih h.2
    unfold noE at h2 ⊢
    by_cases he : e.id = i
    · rw [List.filter_cons_of_neg (by simp [he]), h2, List.map_cons, he, List.erase_cons_head, List.erase_of_not_mem (he ▸ h.1)]
    · rw [List.filter_cons_of_pos (by simp [he]), List.map_cons, List.map_cons, h2, List.erase_cons_tail (by simpa using he)]
end Go.Dn
namespace Go.Proofs.YtbhhbnnmdekjiaaGreat.Rd
open Go.Dn Go.RowKit
set_option maxRecDepth 100000
abbrev TI : TypeId := 3
def badI (i : Int) : Prop := i < 1 ∨ i > 2147483647
def edgeE (es : List E) (i : Int) : E := (es.find? fun e => e.id == i).getD zE
def edgeB (es : List E) (i : Int) : Bool := es.any fun e => e.id == i
theorem W64.id {i : Int} (h : ¬ badI i) : W64 i ∧ 1 ≤ i ∧ i ≤ 2147483647 := by unfold badI at h; unfold W64; omega
instance (i : Int) : Decidable (badI i) := inferInstanceAs (Decidable (_ ∨ _))
def addVC (vs : List Int) (v : Int) : Int := if badI v then 1 else if v ∈ vs then 50 else if 2048 ≤ vs.length then 55 else 0
def delVC (vs : List Int) (es : List E) (v : Int) : Int := if badI v then 1 else if v ∉ vs then 51 else if 0 < deg es v then 52 else 0
def linkC (vs : List Int) (es : List E) (e : E) (j : Bool) : Int := if badI e.id ∨ badI e.u ∨ badI e.v then 1 else if e.w < 0 ∨ 1099511627776 < e.w then 53 else if e.id ∈ es.map E.id then 50 else if ¬ (e.u ∈ vs ∧ e.v ∈ vs) then 51 else if j = true then 151 else 0
def cutC (es : List E) (i : Int) : Int := if badI i then 1 else if i ∉ es.map E.id then 152 else 0
theorem edge4 {w : World} {e : E} {Q : Nat → World → Prop} (hQ : ∀ w' b, w.heap.size ≤ b → HB w' b (eC e) 31 → Below w.heap.size w w' → Q b w') :
    alW w (.cells #[.int .i64 (0 : Int), .int .i64 (0 : Int), .int .i64 (0 : Int), .int .i64 (0 : Int)] 31) fun B w1 =>
      stW w1 (⟨B, 0, none⟩ : Addr) (.int .i64 e.id) fun w2 => stW w2 ((⟨B, 0, none⟩ : Addr).add 1) (.int .i64 e.u) fun w3 => stW w3 ((⟨B, 0, none⟩ : Addr).add 2) (.int .i64 e.v) fun w4 => stW w4 ((⟨B, 0, none⟩ : Addr).add 3) (.int .i64 e.w) fun w5 => Q B w5 := by
  refine al_new fun w1 b1 e1 s1 h1 g1 => ?_
  refine hb_st0 h1 (by simp) fun w2 h2 k2 => hb_st h2 (j := 1) (by simp) fun w3 h3 k3 => hb_st h3 (j := 2) (by simp) fun w4 h4 k4 => hb_st h4 (j := 3) (by simp) fun w5 h5 k5 => ?_
  have k := (k2.trans k3).trans (k4.trans k5)
  exact hQ w5 b1 (by omega) h5 (g1.trans ((k.below (B := w.heap.size) (by omega) fun i hi e => by omega)))
theorem TIn' : ElTy Tryz.prog 22 3 (.int .i64 0) 8 := ⟨by kernel_rfl, by kernel_rfl⟩
end Go.Proofs.YtbhhbnnmdekjiaaGreat.Rd
namespace Go.Dn
open Go.RowKit
def eV (e : E) : List Value := [.int .i64 e.id, .int .i64 e.u, .int .i64 e.v, .int .i64 e.w]
def eVs (l : List E) : List Value := l.flatMap eV
theorem eVs_len (l : List E) : (eVs l).length = l.length * 4 := by
  induction l with
  | nil => rfl
  | cons e l ih => simp only [eVs, List.flatMap_cons, List.length_append, List.length_cons] at ih ⊢; rw [ih]; simp [eV]; omega
theorem eVs_app (l m : List E) : eVs (l ++ m) = eVs l ++ eVs m := by simp [eVs]
theorem eVs_get {l : List E} : ∀ {i j : Nat} (hi : i < l.length) (hj : j < 4), (eVs l)[i * 4 + j]? = (eV l[i])[j]? := by
  induction l with
  | nil => intro i j hi; simp at hi
  | cons e l ih =>
    intro i j hi hj
    cases i with
    | zero => simp only [eVs, List.flatMap_cons, Nat.zero_mul, Nat.zero_add, List.getElem_cons_zero]; rw [List.getElem?_append_left (by simp [eV]; omega)]
    | succ i =>
      have := ih (i := i) (j := j) (by simp at hi; omega) hj
      simp only [eVs, List.flatMap_cons, List.getElem_cons_succ] at this ⊢
      rw [List.getElem?_append_right (by simp [eV]; omega), ← this]
      congr 1
      simp [eV]; omega
structure REd (w : World) (a : Addr) (i : Nat) (e : E) : Prop where
  c0 : w.cell? (a.add (i * 4)) = some (.int .i64 e.id)
  c1 : w.cell? ((a.add (i * 4)).add 1) = some (.int .i64 e.u)
  c2 : w.cell? ((a.add (i * 4)).add 2) = some (.int .i64 e.v)
  c3 : w.cell? ((a.add (i * 4)).add 3) = some (.int .i64 e.w)
def RE (w : World) (A : Option Addr) (l : List E) : Prop := ∀ i (hi : i < l.length), ∃ a, A = some a ∧ REd w a i l[i]
theorem RE.keeps {S : Nat → Prop} {w w' : World} {A : Option Addr} {l : List E} (h : RE w A l) (hk : Keeps S w w') (hA : ∀ a, A = some a → ¬ S a.block) : RE w' A l := fun i hi => by
  obtain ⟨a, ha, h0, h1, h2, h3⟩ := h i hi
  have n := hA a ha
  exact ⟨a, ha, hk.cell h0 (by simpa only [add_block] using n), hk.cell h1 (by simpa only [add_block] using n), hk.cell h2 (by simpa only [add_block] using n), hk.cell h3 (by simpa only [add_block] using n)⟩
theorem RE.below {w w' : World} {A : Option Addr} {l : List E} (h : RE w A l) (hb : Below w.heap.size w w') : RE w' A l := h.keeps (S := fun _ => False) (.of_below hb) fun _ _ => id
theorem RI.belw {w w' : World} {A : Option Addr} {l : List Int} (h : RI w A l) (hb : Below w.heap.size w w') : RI w' A l := h.keeps (S := fun _ => False) (.of_below hb) fun _ _ => id
def OwnEd (w : World) (B e : Nat) (A : Option Addr) (c : Nat) (l : List E) : Prop := w.ownsRow B e 4 (.slice A l.length c) l.length (eVs l)
theorem OwnEd.none (w : World) (B e : Nat) : OwnEd w B e .none 0 [] := World.ownsRow_nil _ _ _ _
theorem OwnEd.keeps {S : Nat → Prop} {w w' : World} {B e : Nat} {A : Option Addr} {c : Nat} {l : List E} (h : OwnEd w B e A c l) (hk : Keeps S w w') (hA : ∀ a, A = some a → ¬ S a.block) : OwnEd w' B e A c l :=
  Keeps.own h hk (fun k hk' => by
    cases A with
    | none => cases hk'
    | some a => injection hk' with hk'; subst hk'; exact hA a rfl)
theorem OwnEd.block {w : World} {B e : Nat} {A : Option Addr} {c : Nat} {l : List E} (h : OwnEd w B e A c l) : ∀ a, A = some a → B ≤ a.block ∧ a.block < w.heap.size := by
  intro a ha; subst ha
  exact World.ownsRow.lt h a.block rfl
theorem OwnEd.reads {w : World} {B e : Nat} {A : Option Addr} {c : Nat} {l : List E} (h : OwnEd w B e A c l) : RE w A l := by
  intro i hi
  obtain ⟨hl, h⟩ := h
  rcases h with ⟨_, h0⟩ | ⟨g, cap, cur, hv, hg, hh, hn, hm, hs, ht⟩
  · omega
  · injection hv with hA hn' hc
    have hx := World.ownsRow.cellAt (w := w) (base := B) (e := e) (size := 4) (g := g) (n := l.length) (cap := cap) (xs := eVs l) ⟨hl, .inr ⟨g, cap, cur, rfl, hg, hh, hn, hm, hs, ht⟩⟩
    have key : ∀ j, j < 4 → w.cell? (((⟨g, 0, .none⟩ : Addr).add (i * 4)).add j) = (eV l[i])[j]? := fun j hj => by
      rw [add_add, add_mk, Nat.zero_add, hx (i * 4 + j) (by omega), eVs_get hi hj]
    refine ⟨_, hA, ?_, key 1 (by omega), key 2 (by omega), key 3 (by omega)⟩
    have := key 0 (by omega)
    rw [add_add, Nat.add_zero] at this
    exact this
end Go.Dn
namespace Go.Proofs.YtbhhbnnmdekjiaaGreat.Rd
open Go.Dn Go.RowKit
set_option maxRecDepth 100000
abbrev TE : TypeId := 31
theorem TEd : Tryz.prog.underlying 27 = some (.slice TE) := by kernel_rfl
theorem TEdI : (Tryz.prog.info? TE).map (fun i => (i.zero, i.size, i.bytes)) = some (some (.agg #[.int .i64 0, .int .i64 0, .int .i64 0, .int .i64 0]), 4, 32) := by kernel_rfl
theorem TEd_info : ∃ i, Tryz.prog.info? TE = some i ∧ (∃ z, i.zero = some z ∧ z.cells.size = 4) ∧ i.size = 4 ∧ i.bytes = 32 := by
  have := TEdI
  cases hi : Tryz.prog.info? TE with
  | none => rw [hi] at this; cases this
  | some i =>
    rw [hi] at this
    simp only [Option.map_some, Option.some.injEq, Prod.mk.injEq] at this
    exact ⟨i, rfl, ⟨_, this.1, rfl⟩, this.2.1, this.2.2⟩
def Ob (A : Option Addr) (k : Nat) : Prop := ∃ a, A = some a ∧ a.block = k
theorem ob_own {A : Option Addr} {n c k : Nat} (h : some k = (Value.slice A n c).ownBlock) : Ob A k := by
  cases A with
  | none => simp [Value.ownBlock] at h
  | some a => exact ⟨a, rfl, by simpa [Value.ownBlock] using h.symm⟩
theorem app_ed {w : World} {B : Nat} {A : Option Addr} {n c : Nat} {l : List E} (ho : OwnEd w B TE A c l) (hn : n = l.length) {b : Nat} {e : E} {t : TypeId} (hb : HB w b (eC e) t) (hB : B ≤ w.heap.size) (hl : l.length ≤ 1000000) {K : Value → World → Prop}
    (hK : ∀ A' c' w', OwnEd w' B TE (some A') c' (l ++ [e]) → Keeps (Ob A) w w' → (A = some A' ∨ w.heap.size ≤ A'.block) → K (.slice (some A') (l ++ [e]).length c') w') :
    Runs Tryz.prog (Builtin.append_ #[27, 27] 27 #[.slice A n c, .slice (some (⟨b, 0, none⟩ : Addr)) 1 1]) w K := by
  subst hn
  obtain ⟨i, hi, ⟨z, hz, hz1⟩, hs, hby⟩ := TEd_info
  have hnews : ∀ j u, (eV e)[j]? = some u → w.cell? ((⟨b, 0, none⟩ : Addr).add j) = some u := fun j u hj => by
    rw [hb.cell, ← Array.getElem?_toList]; exact hj
  have hone : ∀ u ∈ eV e, u.oneCell' = true := fun u hu => by simp [eV] at hu; rcases hu with rfl | rfl | rfl | rfl <;> rfl
  obtain ⟨v', w', hrun, ho', hg, _⟩ := run_append_own (P := Tryz.prog) w B 27 27 TE i z 4 32 TEd hi hz hs hby hz1 (by decide) (.slice A l.length c) l.length (eVs l) ho ⟨b, 0, none⟩ 1 1 (eV e) (by simp [eV]) hnews hone (by unfold maxLen; omega) (by omega) hB
  have hk : Keeps (Ob A) w w' := ⟨hg.os, hg.tape, hg.output, hg.size, fun k hk hn => hg.block k hk fun h => hn (ob_own h)⟩
  have hev : eVs l ++ eV e = eVs (l ++ [e]) := by rw [eVs_app]; simp [eVs]
  rw [hev] at ho'
  obtain ⟨A', c', rfl⟩ : ∃ A' c', v' = .slice (some A') (l.length + 1) c' := by
    obtain ⟨_, h⟩ := ho'
    rcases h with ⟨h1, h2⟩ | ⟨g, cap, cur, hv, _⟩
    · omega
    · exact ⟨_, _, hv⟩
  have hlen : (l ++ [e]).length = l.length + 1 := by simp
  refine runs_of hrun ?_
  have := hK A' c' w' (by unfold OwnEd; rw [hlen]; exact ho') hk ?_
  · rw [hlen] at this; exact this
  · rcases ho.2 with ⟨h1, h2⟩ | ⟨g, cap, cur, hv, hbg, hgg, hnc, hcm, hcs, htake⟩
    · injection h1 with h1 _ h3; subst h1; subst h3
      have hl0 : l = [] := List.length_eq_zero_iff.mp h2
      subst hl0
      have hr2 := run_append_nil (P := Tryz.prog) w 27 27 TE i z TEd hi hz ⟨b, 0, none⟩ 1 1 (eV e) (by rw [hs]; simp [eV]) hnews (by omega) (by omega) (by rw [hby]; omega)
      have hr2' : (Builtin.append_ #[27, 27] 27 #[Value.slice none ([] : List E).length 0, .slice (some ⟨b, 0, none⟩) 1 1]).run Tryz.prog w = _ := hr2
      rw [hr2'] at hrun
      injection hrun with hv hw
      injection hv with hv
      injection hv with hv
      rw [← hv]; exact .inr (Nat.le_refl _)
    · injection hv with hA hn hc
      subst hA; subst hc
      by_cases hroom : l.length + 1 ≤ c
      · obtain ⟨w2, hrun2, _⟩ := run_append_fits (P := Tryz.prog) w B 27 27 TE i 4 TEd hi hs g l.length c (eVs l) ho ⟨b, 0, none⟩ 1 1 (eV e) (by simp [eV]) hnews hone hroom
        rw [hrun2] at hrun
        injection hrun with hv _
        injection hv with hv; exact .inl hv
      · have hr2 := run_append_grow (P := Tryz.prog) w 27 27 TE i z TEd hi hz ⟨g, 0, none⟩ l.length c (eVs l) (by rw [hs, eVs_len]) (ho.cells (g := g) rfl) ⟨b, 0, none⟩ 1 1 (eV e) (by rw [hs]; simp [eV]) hnews (by omega) (by omega)
          (by rw [hby]; exact growslice_fits (by omega) (by omega))
        rw [hr2] at hrun
        injection hrun with hv hw
        injection hv with hv
        injection hv with hv
        rw [← hv]; exact .inr (Nat.le_refl _)
theorem app_in {w : World} {B : Nat} {A : Option Addr} {n c : Nat} {l : List Int} (ho : OwnI w B TI A c l) (hn : n = l.length) {b : Nat} {x : Int} {t : TypeId} (hb : HB w b #[.int .i64 x] t) (hB : B ≤ w.heap.size) (hl : l.length ≤ 1000000) {K : Value → World → Prop}
    (hK : ∀ A' c' w', OwnI w' B TI (some A') c' (l ++ [x]) → Keeps (Ob A) w w' → (A = some A' ∨ w.heap.size ≤ A'.block) → K (.slice (some A') (l ++ [x]).length c') w') :
    Runs Tryz.prog (Builtin.append_ #[22, 22] 22 #[.slice A n c, .slice (some (⟨b, 0, none⟩ : Addr)) 1 1]) w K := by
  subst hn
  have ho2 : OwnW w B TI A c (l.map (.int .i64)) := by
    unfold OwnW; rw [List.length_map]; exact ho
  refine appW_runs TIn' rfl ho2 (by simp) hb rfl hB (by simp; omega) (by simp; omega) fun A' c' w' o' k' f' => ?_
  have e : (l.map (Value.int .i64) ++ [.int .i64 x]) = (l ++ [x]).map (Value.int .i64) := by simp
  rw [e] at o' ⊢
  rw [List.length_map]
  refine hK A' c' w' ?_ (k'.mono fun k _ hk => ob_own hk) f'
  unfold OwnW at o'
  unfold OwnI
  rw [List.length_map] at o'; exact o'
theorem put_in {w : World} {B : Nat} {A : Option Addr} {n c : Nat} {l : List Int} (ho : OwnI w B TI A c l) (hn : n = l.length) {x : Int} (hB : B ≤ w.heap.size) (hl : l.length ≤ 1000000) {K : Option Addr → Nat → Nat → World → Prop}
    (hK : ∀ A' c' w', OwnI w' B TI (some A') c' (l ++ [x]) → Keeps (Ob A) w w' → (A = some A' ∨ w.heap.size ≤ A'.block) → K (some A') (l ++ [x]).length c' w') :
    alW w (.cells #[.int .i64 x] TI) fun b w2 => Runs Tryz.prog (Builtin.append_ #[22, 22] 22 #[.slice A n c, .slice (some (⟨b, 0, none⟩ : Addr)) 1 1]) w2 fun v w3 => ∃ (A' : Option Addr) (n' : Nat) (c' : Nat), v = (.slice A' n' c') ∧ K A' n' c' w3 := by
  refine al_new fun w2 b e2 s2 h2 g2 => ?_
  have o2 : OwnI w2 B TI A c l := ho.keeps (S := fun _ => False) (.of_below g2) fun _ _ => id
  refine app_in o2 hn h2 (by omega) hl fun A' c' w3 o3 k3 f3 => ⟨_, _, _, rfl, hK A' c' w3 o3 ((Keeps.of_below g2).trans k3) (f3.imp id fun h => by omega)⟩
theorem put_ed {w : World} {B : Nat} {A : Option Addr} {n c : Nat} {l : List E} (ho : OwnEd w B TE A c l) (hn : n = l.length) {e : E} (hB : B ≤ w.heap.size) (hl : l.length ≤ 1000000) {K : Option Addr → Nat → Nat → World → Prop}
    (hK : ∀ A' c' w', OwnEd w' B TE (some A') c' (l ++ [e]) → Keeps (Ob A) w w' → (A = some A' ∨ w.heap.size ≤ A'.block) → K (some A') (l ++ [e]).length c' w') :
    alW w (.cells #[.int .i64 e.id, .int .i64 e.u, .int .i64 e.v, .int .i64 e.w] TE) fun b w2 => Runs Tryz.prog (Builtin.append_ #[27, 27] 27 #[.slice A n c, .slice (some (⟨b, 0, none⟩ : Addr)) 1 1]) w2 fun v w3 => ∃ (A' : Option Addr) (n' : Nat) (c' : Nat), v = (.slice A' n' c') ∧ K A' n' c' w3 := by
  refine al_new fun w2 b e2 s2 h2 g2 => ?_
  have o2 : OwnEd w2 B TE A c l := ho.keeps (S := fun _ => False) (.of_below g2) fun _ _ => id
  refine app_ed o2 hn (e := e) h2 (by omega) hl fun A' c' w3 o3 k3 f3 => ⟨_, _, _, rfl, hK A' c' w3 o3 ((Keeps.of_below g2).trans k3) (f3.imp id fun h => by omega)⟩
theorem RBad_ok (i : Int) (w : World) : Calls Tryz.prog 109 #[.int .i64 i] w fun e w' => (∃ b, e = .returned (.bool b) ∧ (b = true ↔ badI i)) ∧ w' = w := by
  apply f_ref05_BadId.ok
  unfold f_ref05_BadId.wp
  unfold badI
  by_cases h : i < 1
  · exact sel_t (by simpa using h) ⟨⟨true, rfl, by simp [h]⟩, rfl⟩
  · exact sel_f (by simpa using h) ⟨⟨_, rfl, by simp [h]⟩, rfl⟩
theorem Has_l0 {w : World} {A : Option Addr} {l : List Int} {c : Nat} (r : RI w A l) (hl : l.length ≤ 1000000) {x : Int} {K0 : World → Prop} {Kr : Bool → World → Prop} (h0 : x ∉ l → K0 w) (h1 : x ∈ l → Kr true w) : ∀ (m i : Nat), l.length - i = m → i ≤ l.length → (x ∈ l ↔ x ∈ l.drop i) → f_ref01_Has.l0 (m + 1) A l.length c x (i : Int) w K0 Kr := by
  intro m
  induction m with
  | zero =>
    intro i hm hi ht
    unfold f_ref01_Has.l0
    have : i = l.length := by omega
    subst this
    refine sel_f (by simp) (h0 fun h => ?_)
    rw [ht] at h; simp at h
  | succ m ih =>
    intro i hm hi ht
    have hlt : i < l.length := by omega
    obtain ⟨a, rfl, q⟩ := r i hlt
    unfold f_ref01_Has.l0
    refine sel_t (by simpa using hlt) (optB_some rfl (req_intro (by simp; omega) (ldI_intro (x := l[i]) (by rw [Int.toNat_natCast, Nat.mul_one]; exact q) ?_)))
    by_cases e : l[i] = x
    · exact sel_t (by simp [e]) (h1 (by rw [← e]; exact List.getElem_mem hlt))
    · refine sel_f (by simp [e]) ?_
      rw [w64_in (by omega), show (i : Int) + 1 = ((i + 1 : Nat) : Int) by omega]
      refine ih (i + 1) (by omega) (by omega) (ht.trans ?_)
      rw [List.drop_eq_getElem_cons hlt, List.mem_cons]
      exact ⟨fun h => h.resolve_left fun h => e h.symm, .inr⟩
theorem Has_ok {w : World} {A : Option Addr} {n c : Nat} {l : List Int} (r : RI w A l) (hn : n = l.length) (hl : l.length ≤ 1000000) (x : Int) : Calls Tryz.prog 21 #[.slice A n c, .int .i64 x] w fun e w' => e = .returned (.bool (decide (x ∈ l))) ∧ w' = w := by
  subst hn
  apply f_ref01_Has.ok
  unfold f_ref01_Has.wp
  refine ⟨l.length + 1, Has_l0 r hl (fun h => ?_) (fun h => ?_) l.length 0 (by omega) (by omega) (by simp)⟩
  · intro _; exact ⟨by simp [h], rfl⟩
  · intro _; exact ⟨by simp [h], rfl⟩
def woI (l : List Int) (x : Int) : List Int := l.filter fun y => y != x
def wiI : List Int → Int → List Int
  | [], x => [x]
  | y :: l, x => if x < y then x :: y :: l else y :: wiI l x
theorem wiI_cons (y : Int) (l : List Int) (x : Int) : wiI (y :: l) x = if x < y then x :: y :: l else y :: wiI l x := rfl
theorem wiI_perm (l : List Int) (x : Int) : (wiI l x).Perm (x :: l) := by
  induction l with
  | nil => exact .refl _
  | cons y l ih =>
    unfold wiI
    split
    · exact .refl _
    · exact (ih.cons y).trans (.swap x y l)
theorem Without_ok {w : World} {A : Option Addr} {n c : Nat} {l : List Int} (r : RI w A l) (hn : n = l.length) (hl : l.length ≤ 1000000) (x : Int) :
    Calls Tryz.prog 112 #[.slice A n c, .int .i64 x] w fun e w' => ∃ A' c', e = .returned (.slice A' (woI l x).length c') ∧ OwnI w' w.heap.size TI A' c' (woI l x) ∧ Below w.heap.size w w' := by
  subst hn
  apply f_ref05_Without.ok
  unfold f_ref05_Without.wp
  refine alW_intro ?_
  have o1 := OwnI.lit (w := w) (B := w.heap.size) (e := TI) [] (cs := #[]) rfl (Nat.le_refl _) (by simp)
  have b1 : Below w.heap.size w (w.alloc (.cells #[] TI)) := (Below.refl _ _).alloc (Nat.le_refl _) _
  generalize w.alloc (.cells #[] TI) = w1 at o1 b1
  refine ⟨l.length + 1, ?_⟩
  have key : ∀ (m i : Nat) (w2 : World) (A2 : Option Addr) (n2 c2 : Nat), l.length - i = m → i ≤ l.length → OwnI w2 w.heap.size TI A2 c2 (woI (l.take i) x) → n2 = (woI (l.take i) x).length → Below w.heap.size w w2 →
      f_ref05_Without.l0 (m + 1) A l.length c x A2 n2 c2 (i : Int) w2 (fun A12 n12 c12 w13 => ∀ _ : Fr, (fun e w' => ∃ A' c', e = Ending.returned (.slice A' (woI l x).length c') ∧ OwnI w' w.heap.size TI A' c' (woI l x) ∧ Below w.heap.size w w') (.returned (.slice A12 n12 c12)) w13) := by
    intro m
    induction m with
    | zero =>
      intro i w2 A2 n2 c2 hm hi ho hn hb
      have : i = l.length := by omega
      subst this
      rw [List.take_length] at ho hn
      subst hn
      unfold f_ref05_Without.l0
      exact sel_f (by simp) fun _ => ⟨A2, c2, rfl, ho, hb⟩
    | succ m ih =>
      intro i w2 A2 n2 c2 hm hi ho hn hb
      have hlt : i < l.length := by omega
      obtain ⟨a, rfl, q⟩ := (r.belw hb) i hlt
      have hlen : (woI (l.take i) x).length ≤ l.length := by
        unfold woI
        exact Nat.le_trans (List.length_filter_le _ _) (by rw [List.length_take]; omega)
      have htk : woI (l.take (i + 1)) x = if l[i] = x then woI (l.take i) x else woI (l.take i) x ++ [l[i]] := by
        unfold woI
        rw [List.take_succ_eq_append_getElem hlt, List.filter_append]
        by_cases e : l[i] = x
        · rw [if_pos e]; simp [e]
        · rw [if_neg e]; simp [e]
      unfold f_ref05_Without.l0
      refine sel_t (by simpa using hlt) (optB_some rfl (req_intro (by simp; omega) (ldI_intro (x := l[i]) (by rw [Int.toNat_natCast, Nat.mul_one]; exact q) ?_)))
      have hw : IntKind.i64.wrap ((i : Int) + 1) = ((i + 1 : Nat) : Int) := by rw [w64_in (by omega)]; omega
      by_cases e : l[i] = x
      · refine sel_f (by simp [e]) ?_
        rw [hw]
        exact ih (i + 1) w2 A2 n2 c2 (by omega) (by omega) (by rw [htk, if_pos e]; exact ho) (by rw [htk, if_pos e]; exact hn) hb
      · refine sel_t (by simp [e]) (optB_some rfl (req_intro (by simp; omega) (ldI_intro (x := l[i]) (by rw [Int.toNat_natCast, Nat.mul_one]; exact q) ?_)))
        refine put_in ho hn (x := l[i]) hb.size (by omega) fun A3 c3 w3 o3 k3 f3 => ?_
        rw [hw]
        refine ih (i + 1) w3 _ _ c3 (by omega) (by omega) (by rw [htk, if_neg e]; exact o3) (by rw [htk, if_neg e]) (hb.trans (k3.below hb.size fun k hk ⟨a', ha', hh⟩ => ?_))
        have := (ho.block a' ha').1; omega
  exact key l.length 0 w1 _ _ _ (by omega) (by omega) (by simpa [woI] using o1) (by simp [woI]) b1
theorem With_ok {w : World} {A : Option Addr} {n c : Nat} {l : List Int} (r : RI w A l) (hn : n = l.length) (hl : l.length ≤ 100000) (x : Int) :
    Calls Tryz.prog 22 #[.slice A n c, .int .i64 x] w fun e w' => ∃ A' c', e = .returned (.slice A' (wiI l x).length c') ∧ OwnI w' w.heap.size TI A' c' (wiI l x) ∧ Below w.heap.size w w' := by
  subst hn
  apply f_ref05_With.ok
  unfold f_ref05_With.wp
  refine alW_intro ?_
  have o1 := OwnI.lit (w := w) (B := w.heap.size) (e := TI) [] (cs := #[]) rfl (Nat.le_refl _) (by simp)
  have b1 : Below w.heap.size w (w.alloc (.cells #[] TI)) := (Below.refl _ _).alloc (Nat.le_refl _) _
  generalize w.alloc (.cells #[] TI) = w1 at o1 b1
  refine ⟨l.length + 1, ?_⟩
  have key : ∀ (m i : Nat) (w2 : World) (A2 : Option Addr) (n2 c2 : Nat) (d : Bool) (out : List Int), l.length - i = m → i ≤ l.length → OwnI w2 w.heap.size TI A2 c2 out → n2 = out.length → out.length ≤ i + (if d = true then 1 else 0) → (if d = true then out ++ l.drop i = wiI l x else wiI l x = out ++ wiI (l.drop i) x) → Below w.heap.size w w2 →
      f_ref05_With.l0 (m + 1) A l.length c x A2 n2 c2 d (i : Int) w2 (fun (A23 : Option Addr) (n23 : Nat) (c23 : Nat) (b24 : Bool) (w25 : World) => ∀ _ : Fr,
        sel (!b24) (alW w25 (.cells #[.int .i64 x] TI) fun B26 w27 => Runs Tryz.prog (Builtin.append_ #[22, 22] 22 #[.slice A23 n23 c23, .slice (some (⟨B26, 0, Option.none⟩ : Addr)) 1 1]) w27 fun v29 w28 => ∃ (A30 : Option Addr) (n30 : Nat) (c30 : Nat), v29 = (.slice A30 n30 c30) ∧ (
          (fun e w' => ∃ A' c', e = Ending.returned (.slice A' (wiI l x).length c') ∧ OwnI w' w.heap.size TI A' c' (wiI l x) ∧ Below w.heap.size w w') (.returned (.slice A30 n30 c30)) w28)) (
          (fun e w' => ∃ A' c', e = Ending.returned (.slice A' (wiI l x).length c') ∧ OwnI w' w.heap.size TI A' c' (wiI l x) ∧ Below w.heap.size w w') (.returned (.slice A23 n23 c23)) w25)) := by
    intro m
    induction m with
    | zero =>
      intro i w2 A2 n2 c2 d out hm hi ho hn hlo hd hb
      have : i = l.length := by omega
      subst this
      subst hn
      unfold f_ref05_With.l0
      refine sel_f (by simp) fun _ => ?_
      rw [List.drop_length] at hd
      cases d with
      | true =>
        rw [if_pos rfl, List.append_nil] at hd
        subst hd
        exact sel_f rfl ⟨A2, c2, rfl, ho, hb⟩
      | false =>
        rw [if_neg (by decide)] at hd
        refine sel_t rfl (put_in ho rfl (x := x) hb.size (by simp at hlo; omega) fun A3 c3 w3 o3 k3 f3 => ?_)
        have e2 : wiI l x = out ++ [x] := hd
        rw [← e2] at o3
        refine ⟨_, c3, by rw [e2], o3, hb.trans (k3.below hb.size fun k hk ⟨a', ha', hh⟩ => ?_)⟩
        have := (ho.block a' ha').1; omega
    | succ m ih =>
      intro i w2 A2 n2 c2 d out hm hi ho hn hlo hd hb
      have hlt : i < l.length := by omega
      obtain ⟨a, rfl, q⟩ := (r.belw hb) i hlt
      have hw : IntKind.i64.wrap ((i : Int) + 1) = ((i + 1 : Nat) : Int) := by rw [w64_in (by omega)]; omega
      have hdr := List.drop_eq_getElem_cons hlt
      have q' : w2.cell? (a.add ((i : Int).toNat * 1)) = some (.int .i64 l[i]) := by rw [Int.toNat_natCast, Nat.mul_one]; exact q
      have j1 : ∀ (w3 : World) (A3 : Option Addr) (n3 c3 : Nat) (out3 : List Int) (d3 : Bool), OwnI w3 w.heap.size TI A3 c3 out3 → n3 = out3.length → out3.length ≤ i + (if d3 = true then 1 else 0) → Below w.heap.size w w3 → (if d3 = true then out3 ++ l.drop i = wiI l x else wiI l x = (out3 ++ [l[i]]) ++ wiI (l.drop (i + 1)) x) →
          f_ref05_With.j1 (some a) l.length c A3 n3 c3 (i : Int) w3 (fun A17 n17 c17 w18 => ∀ _ : Fr, f_ref05_With.l0 (m + 1) (some a) l.length c x A17 n17 c17 d3 (IntKind.i64.wrap ((i : Int) + 1)) w18 (fun (A23 : Option Addr) (n23 : Nat) (c23 : Nat) (b24 : Bool) (w25 : World) => ∀ _ : Fr,
            sel (!b24) (alW w25 (.cells #[.int .i64 x] TI) fun B26 w27 => Runs Tryz.prog (Builtin.append_ #[22, 22] 22 #[.slice A23 n23 c23, .slice (some (⟨B26, 0, Option.none⟩ : Addr)) 1 1]) w27 fun v29 w28 => ∃ (A30 : Option Addr) (n30 : Nat) (c30 : Nat), v29 = (.slice A30 n30 c30) ∧ (
              (fun e w' => ∃ A' c', e = Ending.returned (.slice A' (wiI l x).length c') ∧ OwnI w' w.heap.size TI A' c' (wiI l x) ∧ Below w.heap.size w w') (.returned (.slice A30 n30 c30)) w28)) (
              (fun e w' => ∃ A' c', e = Ending.returned (.slice A' (wiI l x).length c') ∧ OwnI w' w.heap.size TI A' c' (wiI l x) ∧ Below w.heap.size w w') (.returned (.slice A23 n23 c23)) w25))) := by
        intro w3 A3 n3 c3 out3 d3 ho3 hn3 hl3 hb3 hd3
        unfold f_ref05_With.j1
        obtain ⟨_, e1, q3⟩ := (r.belw hb3) i hlt
        injection e1 with e1; subst e1
        refine optB_some rfl (req_intro (by simp; omega) (ldI_intro (x := l[i]) (by rw [Int.toNat_natCast, Nat.mul_one]; exact q3) ?_))
        refine put_in ho3 hn3 (x := l[i]) hb3.size (by cases d3 <;> simp at hl3 <;> omega) fun A4 c4 w4 o4 k4 f4 => ?_
        intro _
        rw [hw]
        refine ih (i + 1) w4 _ _ c4 d3 (out3 ++ [l[i]]) (by omega) (by omega) o4 rfl (by rw [List.length_append]; simp only [List.length_singleton]; omega) ?_ (hb3.trans (k4.below hb3.size fun k hk ⟨a', ha', hh⟩ => ?_))
        · cases d3 with
          | true =>
            rw [if_pos rfl] at hd3 ⊢
            rw [hdr] at hd3
            rw [List.append_assoc]; exact hd3
          | false => rw [if_neg (by decide)] at hd3 ⊢; exact hd3
        · have := (ho3.block a' ha').1; omega
      unfold f_ref05_With.l0
      refine sel_t (by simpa using hlt) ?_
      cases d with
      | true => exact sel_f rfl (j1 w2 A2 n2 c2 out true ho hn hlo hb hd)
      | false =>
        rw [if_neg (by decide)] at hd
        refine sel_t rfl (optB_some rfl (req_intro (by simp; omega) (ldI_intro q' ?_)))
        rw [hdr] at hd
        rw [wiI_cons] at hd
        by_cases e : x < l[i]
        · rw [if_pos e] at hd
          refine sel_t (by simpa using e) (put_in ho hn (x := x) hb.size (by simp at hlo; omega) fun A3 c3 w3 o3 k3 f3 => ?_)
          refine j1 w3 _ _ c3 (out ++ [x]) true o3 rfl (by simp at hlo ⊢; omega) (hb.trans (k3.below hb.size fun k hk ⟨a', ha', hh⟩ => ?_)) ?_
          · have := (ho.block a' ha').1; omega
          · rw [if_pos rfl, hd, hdr]; simp
        · rw [if_neg e] at hd
          refine sel_f (by simpa using e) (j1 w2 A2 n2 c2 out false ho hn hlo hb ?_)
          rw [if_neg (by decide), List.append_assoc]; exact hd
  exact key l.length 0 w1 _ _ _ false [] (by omega) (by omega) o1 rfl (by simp) (by simp) b1
structure RS where
  A0 : Option Addr
  n0 : Nat
  c0 : Nat
  A1 : Option Addr
  n1 : Nat
  c1 : Nat
  A2 : Option Addr
  n2 : Nat
  c2 : Nat
  A3 : Option Addr
  n3 : Nat
  c3 : Nat
def Rb (s : RS) (k : Nat) : Prop := Ob s.A0 k ∨ Ob s.A1 k ∨ Ob s.A2 k ∨ Ob s.A3 k
structure RF (w : World) (s : RS) (vr : List Int) (er : List E) (mv me : List Int) : Prop where
  v : RI w s.A0 vr
  nv : s.n0 = vr.length
  e : RE w s.A1 er
  ne : s.n1 = er.length
  n2 : s.n2 = mv.length
  n3 : s.n3 = me.length
  lt : ∀ k, Rb s k → k < w.heap.size
  vl : vr.length ≤ 2048
  el : er.length ≤ 4096
  m2 : RI w s.A2 mv
  m3 : RI w s.A3 me
  l2 : mv.length ≤ 4096
  l3 : me.length ≤ 4096
theorem RF.keeps {S : Nat → Prop} {w w' : World} {s : RS} {vr : List Int} {er : List E} {mv me : List Int} (h : RF w s vr er mv me) (k : Keeps S w w') (hS : ∀ b, Rb s b → ¬ S b) : RF w' s vr er mv me :=
  ⟨h.v.keeps k fun a ha => hS _ (.inl ⟨a, ha, rfl⟩), h.nv, h.e.keeps k fun a ha => hS _ (.inr (.inl ⟨a, ha, rfl⟩)), h.ne, h.n2, h.n3, fun b hb => Nat.lt_of_lt_of_le (h.lt b hb) k.size, h.vl, h.el, h.m2.keeps k fun a ha => hS _ (.inr (.inr (.inl ⟨a, ha, rfl⟩))), h.m3.keeps k fun a ha => hS _ (.inr (.inr (.inr ⟨a, ha, rfl⟩))), h.l2, h.l3⟩
theorem RF.belw {w w' : World} {s : RS} {vr : List Int} {er : List E} {mv me : List Int} (h : RF w s vr er mv me) (k : Below w.heap.size w w') : RF w' s vr er mv me := h.keeps (S := fun _ => False) (.of_below k) fun _ _ => id
def s0 : RS := ⟨none, 0, 0, none, 0, 0, none, 0, 0, none, 0, 0⟩
theorem RF.zero (w : World) : RF w s0 [] [] [] [] where
  v := fun i h => absurd h (Nat.not_lt_zero _)
  nv := rfl
  e := fun i h => absurd h (Nat.not_lt_zero _)
  ne := rfl
  n2 := rfl
  n3 := rfl
  lt := fun k hk => by
    rcases hk with ⟨_, h, _⟩ | ⟨_, h, _⟩ | ⟨_, h, _⟩ | ⟨_, h, _⟩ <;> cases h
  vl := by simp
  el := by simp
  m2 := fun i h => absurd h (Nat.not_lt_zero _)
  m3 := fun i h => absurd h (Nat.not_lt_zero _)
  l2 := by simp
  l3 := by simp
theorem HB.belK {w0 w w' : World} {b : Nat} (hb : Below w0.heap.size w0 w) (k : Keeps (fun k => k = b) w w') (h : w0.heap.size ≤ b) : Below w0.heap.size w0 w' := hb.trans (k.below hb.size fun i hi e => by omega)
theorem putE {w : World} {b : Nat} {cs : Array Value} {t : TypeId} (h : HB w b cs t) (hc : cs.size = 4) (e : E) {K : World → Prop} (hk : ∀ w', HB w' b (eC e) t → Keeps (fun k => k = b) w w' → K w') :
    stW w (⟨b, 0, none⟩ : Addr) (.int .i64 e.id) fun w1 => stW w1 ((⟨b, 0, none⟩ : Addr).add 1) (.int .i64 e.u) fun w2 => stW w2 ((⟨b, 0, none⟩ : Addr).add 2) (.int .i64 e.v) fun w3 => stW w3 ((⟨b, 0, none⟩ : Addr).add 3) (.int .i64 e.w) K := by
  refine hb_st0 h (by omega) fun w1 h1 k1 => hb_st (j := 1) h1 (by simp; omega) fun w2 h2 k2 => hb_st (j := 2) h2 (by simp; omega) fun w3 h3 k3 => hb_st (j := 3) h3 (by simp; omega) fun w4 h4 k4 => ?_
  have e : (((cs.setIfInBounds 0 (.int .i64 e.id)).setIfInBounds 1 (.int .i64 e.u)).setIfInBounds 2 (.int .i64 e.v)).setIfInBounds 3 (.int .i64 e.w) = eC e := by
    obtain ⟨l⟩ := cs
    match l, hc with
    | [_, _, _, _], _ => rfl
  rw [e] at h4
  exact hk w4 h4 ((k1.trans k2).trans (k3.trans k4))
theorem getE {w : World} {b : Nat} {t : TypeId} {e : E} (h : HB w b (eC e) t) {K : Int → Int → Int → Int → Prop} (hk : K e.id e.u e.v e.w) :
    ldI w (⟨b, 0, none⟩ : Addr) .i64 fun x0 => ldI w ((⟨b, 0, none⟩ : Addr).add 1) .i64 fun x1 => ldI w ((⟨b, 0, none⟩ : Addr).add 2) .i64 fun x2 => ldI w ((⟨b, 0, none⟩ : Addr).add 3) .i64 fun x3 => K x0 x1 x2 x3 :=
  hb_ldI0 h rfl (hb_ldI h (j := 1) rfl (hb_ldI h (j := 2) rfl (hb_ldI h (j := 3) rfl hk)))
theorem rowE {w : World} {a : Addr} {i : Nat} {e : E} (h : REd w a i e) {K : Int → Int → Int → Int → Prop} (hk : K e.id e.u e.v e.w) :
    ldI w (a.add ((i : Int).toNat * 4)) .i64 fun x0 => ldI w ((a.add ((i : Int).toNat * 4)).add 1) .i64 fun x1 => ldI w ((a.add ((i : Int).toNat * 4)).add 2) .i64 fun x2 => ldI w ((a.add ((i : Int).toNat * 4)).add 3) .i64 fun x3 => K x0 x1 x2 x3 := by
  rw [Int.toNat_natCast]
  exact ldI_intro h.c0 (ldI_intro h.c1 (ldI_intro h.c2 (ldI_intro h.c3 hk)))
theorem edgeE_cons (e : E) (es : List E) (i : Int) : edgeE (e :: es) i = (if e.id = i then e else edgeE es i) ∧ edgeB (e :: es) i = (if e.id = i then true else edgeB es i) := by
  unfold edgeE edgeB
  by_cases h : e.id = i <;> simp [h, List.find?_cons]
theorem REdge_l0 {w : World} {A : Option Addr} {l : List E} {n c : Nat} (r : RE w A l) (hn : n = l.length) (hl : l.length ≤ 100000) {x : Int} {b4 : Nat} {v0 v2 : Value} {b2 : Nat} {t2 t4 : TypeId} (h2 : HB w b2 #[v0, .slice A n c, v2] t2) (h4 : HB w b4 (eC zE) t4) {K0 : World → Prop} {Kr : Bool → World → Prop}
    (h0 : edgeB l x = false → K0 w) (h1 : edgeB l x = true → ∀ w', HB w' b4 (eC (edgeE l x)) t4 → Keeps (fun k => k = b4) w w' → Kr true w') : ∀ (m i : Nat), l.length - i = m → i ≤ l.length → (edgeB l x = edgeB (l.drop i) x ∧ edgeE l x = edgeE (l.drop i) x) →
      f_ref05_Edge.l0 (m + 1) x (⟨b2, 0, none⟩ : Addr) (⟨b4, 0, none⟩ : Addr) (i : Int) w K0 Kr := by
  subst hn
  intro m
  induction m with
  | zero =>
    intro i hm hi ht
    have : i = l.length := by omega
    subst this
    unfold f_ref05_Edge.l0
    refine hb_ldS h2 (j := 1) rfl (sel_f (by simp) (h0 ?_))
    rw [ht.1, List.drop_length]; rfl
  | succ m ih =>
    intro i hm hi ht
    have hlt : i < l.length := by omega
    obtain ⟨a, rfl, q⟩ := r i hlt
    unfold f_ref05_Edge.l0
    rw [List.drop_eq_getElem_cons hlt] at ht
    obtain ⟨k1, k2⟩ := edgeE_cons l[i] (l.drop (i + 1)) x
    rw [k1, k2] at ht
    refine hb_ldS h2 (j := 1) rfl (sel_t (by simpa using hlt) (hb_ldS h2 (j := 1) rfl (optB_some rfl (req_intro (by simp; omega) (ldI_intro (by rw [Int.toNat_natCast]; exact q.c0) ?_)))))
    by_cases e : l[i].id = x
    · rw [if_pos e, if_pos e] at ht
      refine sel_t (by simp [e]) (hb_ldS h2 (j := 1) rfl (optB_some rfl (req_intro (by simp; omega) (rowE q (putE h4 rfl l[i] fun w' h' k' => ?_)))))
      exact h1 ht.1 w' (by rw [ht.2]; exact h') k'
    · rw [if_neg e, if_neg e] at ht
      refine sel_f (by simp [e]) ?_
      rw [w64_in (by omega), show (i : Int) + 1 = ((i + 1 : Nat) : Int) by omega]
      exact ih (i + 1) (by omega) (by omega) ht
theorem edgeE_none {es : List E} {i : Int} (h : edgeB es i = false) : edgeE es i = zE := by
  unfold edgeB at h
  unfold edgeE
  rw [List.find?_eq_none.2 fun a ha h2 => by rw [List.any_eq_false] at h; exact h a ha h2]; rfl
structure Sb (w : World) (s s' : RS) : Prop where
  b : ∀ k, Rb s' k → Rb s k ∨ w.heap.size ≤ k
theorem Sb.refl (w : World) (s : RS) : Sb w s s := ⟨fun k h => .inl h⟩
def addVr (vr : List Int) (v : Int) : List Int := if addVC vr v = 0 then wiI vr v else vr
def delVr (vr : List Int) (er : List E) (v : Int) : List Int := if delVC vr er v = 0 then woI vr v else vr
def cutEr (er : List E) (i : Int) : List E := if cutC er i = 0 then noE er i else er
theorem edgeB_iff (es : List E) (i : Int) : edgeB es i = true ↔ i ∈ es.map E.id := by
  unfold edgeB
  rw [List.any_eq_true, List.mem_map]
  constructor
  · rintro ⟨e, he, h⟩; exact ⟨e, he, by simpa using h⟩
  · rintro ⟨e, he, h⟩; exact ⟨e, he, by simpa using h⟩
end Go.Proofs.YtbhhbnnmdekjiaaGreat.Rd
namespace Go.Dn
open Go.RowKit
theorem oth_oth {e : E} {m : Int} (h : e.u = m ∨ e.v = m) : oth e (oth e m) = m := by
  unfold oth
  by_cases h1 : e.u = m
  · rw [if_pos h1]
    split
    · rename_i h2; rw [← h2]; exact h1
    · exact h1
  · rw [if_neg h1, if_pos rfl]; exact h.resolve_left h1
theorem Wk.app {es : List E} {u m v : Int} {p q : List E} (h : Wk es u p m) (k : Wk es m q v) : Wk es u (p ++ q) v := by
  induction h with
  | nil => exact k
  | cons he hm h ih => exact .cons he hm (ih k)
theorem Wk.rev {es : List E} {u v : Int} {p : List E} (h : Wk es u p v) : Wk es v p.reverse u := by
  induction h with
  | nil => exact .nil _
  | cons he hm h ih =>
    rename_i e m v p
    rw [List.reverse_cons]
    refine ih.app (.cons he (oth_end e m) ?_)
    rw [oth_oth hm]; exact .nil _
theorem Wk.mono {es es' : List E} (hs : ∀ e ∈ es, e ∈ es') {u v : Int} {p : List E} (h : Wk es u p v) : Wk es' u p v := by
  induction h with
  | nil => exact .nil _
  | cons he hm h ih => exact .cons (hs _ he) hm ih
def Cn (es : List E) (u v : Int) : Prop := ∃ p, Wk es u p v
theorem Cn.refl (es : List E) (u : Int) : Cn es u u := ⟨[], .nil _⟩
theorem Cn.trans {es : List E} {u v w : Int} (h : Cn es u v) (k : Cn es v w) : Cn es u w := by
  obtain ⟨p, hp⟩ := h; obtain ⟨q, hq⟩ := k; exact ⟨_, hp.app hq⟩
theorem Cn.symm {es : List E} {u v : Int} (h : Cn es u v) : Cn es v u := by
  obtain ⟨p, hp⟩ := h; exact ⟨_, hp.rev⟩
theorem Cn.mono {es es' : List E} (hs : ∀ e ∈ es, e ∈ es') {u v : Int} (h : Cn es u v) : Cn es' u v := by
  obtain ⟨p, hp⟩ := h; exact ⟨_, hp.mono hs⟩
theorem Cn.edge {es : List E} {e : E} (he : e ∈ es) : Cn es e.u e.v := ⟨[e], .cons he (.inl rfl) (by unfold oth; rw [if_pos rfl]; exact .nil _)⟩
theorem cn_add {es : List E} {e : E} {x y : Int} : Cn (es ++ [e]) x y ↔ Cn es x y ∨ (Cn es x e.u ∧ Cn es e.v y) ∨ (Cn es x e.v ∧ Cn es e.u y) := by
  have sub : ∀ a ∈ es, a ∈ es ++ [e] := fun a ha => by simp [ha]
  have ee : Cn (es ++ [e]) e.u e.v := Cn.edge (by simp)
  constructor
  · rintro ⟨p, hp⟩
    refine hp.inv (Q := fun y => Cn es x y ∨ (Cn es x e.u ∧ Cn es e.v y) ∨ (Cn es x e.v ∧ Cn es e.u y)) (fun a ha => ?_) (.inl (Cn.refl _ _))
    rcases List.mem_append.1 ha with ha | ha
    · have h := Cn.edge ha
      constructor
      · rintro (h1 | ⟨h1, h2⟩ | ⟨h1, h2⟩)
        · exact .inl (h1.trans h)
        · exact .inr (.inl ⟨h1, h2.trans h⟩)
        · exact .inr (.inr ⟨h1, h2.trans h⟩)
      · rintro (h1 | ⟨h1, h2⟩ | ⟨h1, h2⟩)
        · exact .inl (h1.trans h.symm)
        · exact .inr (.inl ⟨h1, h2.trans h.symm⟩)
        · exact .inr (.inr ⟨h1, h2.trans h.symm⟩)
    · rw [List.mem_singleton] at ha
      subst ha
      constructor
      · rintro (h1 | ⟨h1, h2⟩ | ⟨h1, h2⟩)
        · exact .inr (.inl ⟨h1, Cn.refl _ _⟩)
        · exact .inr (.inl ⟨h1, Cn.refl _ _⟩)
        · exact .inl h1
      · rintro (h1 | ⟨h1, h2⟩ | ⟨h1, h2⟩)
        · exact .inr (.inr ⟨h1, Cn.refl _ _⟩)
        · exact .inl h1
        · exact .inr (.inr ⟨h1, Cn.refl _ _⟩)
  · rintro (h | ⟨h1, h2⟩ | ⟨h1, h2⟩)
    · exact h.mono sub
    · exact ((h1.mono sub).trans ee).trans (h2.mono sub)
    · exact ((h1.mono sub).trans ee.symm).trans (h2.mono sub)
structure SetsOk (vr : List Int) (es : List E) (out : List Int) : Prop where
  len : out.length = vr.length
  ok : ∀ j k (hj : j < vr.length) (hk : k < vr.length), out[j]'(by omega) = out[k]'(by omega) ↔ Cn es vr[j] vr[k]
  low : ∀ j (hj : j < vr.length), ∃ k, ∃ hk : k < vr.length, out[j]'(by omega) = (k : Int) ∧ k ≤ j ∧ out[k]'(by omega) = (k : Int)
def mrg (a b : Int) (out : List Int) : List Int := out.map fun y => if y = b then a else y
theorem SetsOk.step {vr : List Int} {es : List E} {out : List Int} (h : SetsOk vr es out) {e : E} {p q : Nat} (hp : p < vr.length) (hq : q < vr.length) (ep : vr[p] = e.u) (eq : vr[q] = e.v) {a b : Int} (hab : (a = out[p]'(by have := h.len; omega) ∧ b = out[q]'(by have := h.len; omega)) ∨ (a = out[q]'(by have := h.len; omega) ∧ b = out[p]'(by have := h.len; omega))) (hle : a ≤ b) : SetsOk vr (es ++ [e]) (mrg a b out) := by
  have hlen := h.len
  have e1 : ∀ j (hj : j < vr.length), (mrg a b out)[j]'(by simp [mrg]; omega) = if out[j]'(by omega) = b then a else out[j]'(by omega) := fun j hj => by simp [mrg]
  refine ⟨by simp [mrg, hlen], fun j k hj hk => ?_, fun j hj => ?_⟩
  rotate_left
  · obtain ⟨k, hk, h1, h2, h3⟩ := h.low j hj
    by_cases hb : out[j]'(by omega) = b
    · obtain ⟨c, hc, c1, _, c3⟩ : ∃ c, ∃ hc : c < vr.length, a = (c : Int) ∧ True ∧ out[c]'(by omega) = (c : Int) := by
        rcases hab with ⟨ha, _⟩ | ⟨ha, _⟩
        · obtain ⟨c, hc, c1, _, c3⟩ := h.low p hp
          exact ⟨c, hc, by rw [ha]; exact c1, trivial, c3⟩
        · obtain ⟨c, hc, c1, _, c3⟩ := h.low q hq
          exact ⟨c, hc, by rw [ha]; exact c1, trivial, c3⟩
      refine ⟨c, hc, by rw [e1 j hj, if_pos hb]; exact c1, by omega, ?_⟩
      rw [e1 c hc]
      split
      · exact c1
      · exact c3
    · refine ⟨k, hk, by rw [e1 j hj, if_neg hb]; exact h1, h2, ?_⟩
      rw [e1 k hk, if_neg (by rw [h3, ← h1]; exact hb)]
      exact h3
  rw [e1 j hj, e1 k hk, cn_add, ← ep, ← eq]
  have o1 := h.ok j k hj hk
  have o2 := h.ok j p hj hp
  have o3 := h.ok q k hq hk
  have o4 := h.ok j q hj hq
  have o5 := h.ok p k hp hk
  rw [← o1, ← o2, ← o3, ← o4, ← o5]
  generalize out[j]'(by omega) = oj at *
  generalize out[k]'(by omega) = ok at *
  generalize out[p]'(by omega) = op at *
  generalize out[q]'(by omega) = oq at *
  clear o1 o2 o3 o4 o5 e1
  rcases hab with ⟨rfl, rfl⟩ | ⟨rfl, rfl⟩
  · split <;> split <;> omega
  · split <;> split <;> omega
end Go.Dn
namespace Go.Proofs.YtbhhbnnmdekjiaaGreat.Rd
open Go.Dn Go.RowKit
set_option maxRecDepth 100000
theorem _root_.Go.Dn.OwnI.st {w : World} {B e : Nat} {A : Option Addr} {c : Nat} {l : List Int} (h : OwnI w B e A c l) {j : Nat} (hj : j < l.length) {v : Int} {K : World → Prop} (hk : ∀ w', OwnI w' B e A c (l.set j v) → Keeps (Ob A) w w' → K w') : optB A fun a => stW w (a.add j) (.int .i64 v) K := by
  have h0 := h
  rcases h.2 with ⟨_, h1⟩ | ⟨g, cap, cur, hv, hg, hh, hn, hm, hs, ht⟩
  · omega
  · injection hv with hA hn' hc
    subst hA; subst hc
    obtain ⟨ho, hgr⟩ := World.ownsRow.stored h j (.int .i64 v)
    refine optB_some rfl ?_
    rw [add_mk, Nat.zero_add]
    have hjc : j < cur.size := by omega
    refine stW_intro ⟨⟨_, by rw [cell_of_row w _ _ _ _ _ hh]; exact Array.getElem?_eq_getElem hjc⟩, frozen_of_row _ _ _ _ _ hh⟩ (hk _ ?_ ⟨hgr.os, hgr.tape, hgr.output, hgr.size, fun k hk hn => hgr.block k hk fun e => hn ⟨_, rfl, by injection e with e; exact e.symm⟩⟩)
    unfold OwnI
    rw [List.length_set, List.map_set]; exact ho
structure RG (vr : List Int) (er : List E) : Prop where
  nd : vr.Nodup
  ends : ∀ e ∈ er, e.u ∈ vr ∧ e.v ∈ vr
  ids : (er.map E.id).Nodup
def insE : List E → E → List E
  | [], e => [e]
  | y :: l, e => if e.id < y.id then e :: y :: l else y :: insE l e
theorem insE_cons (y : E) (l : List E) (e : E) : insE (y :: l) e = if e.id < y.id then e :: y :: l else y :: insE l e := rfl
theorem insE_perm (l : List E) (e : E) : (insE l e).Perm (e :: l) := by
  induction l with
  | nil => exact .refl _
  | cons y l ih =>
    rw [insE_cons]
    split
    · exact .refl _
    · exact (ih.cons y).trans (.swap e y l)
section
variable {w0 wS : World} {s : RS} {vr : List Int} {er : List E} {mv me : List Int} {e : E} {b1 b3 b8 : Nat} {Av : Option Addr} {nv cv : Nat}
end
def linkEr (vr : List Int) (er : List E) (e : E) (j : Bool) : List E := if linkC vr er e j = 0 then insE er e else er
end Go.Proofs.YtbhhbnnmdekjiaaGreat.Rd
