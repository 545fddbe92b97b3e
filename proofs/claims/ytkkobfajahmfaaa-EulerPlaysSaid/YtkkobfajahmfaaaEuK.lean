/- The calls of a rope, walked: Make, New. Conditions: none. -/
import Derived.Test.YtkkobfajahmfaaaEuJ
namespace Go.Proofs.Ytkkobfajahmfaaa.Rd
open Go.Dn Go.RowKit
set_option linter.unusedVariables false
set_option maxRecDepth 100000

def z11 : Value := .agg #[.int .i64 0, .int .i64 0, .int .i64 0, .int .u64 0, .int .i64 0, .int .i64 0, .int .i64 0, .int .i64 0, .int .i64 0, .int .i64 0, .int .i64 0]
theorem TNd : Try.prog.underlying 106 = some (.slice 112) := by kernel_rfl
theorem TNdI : (Try.prog.info? 112).map (fun i => (i.zero, i.size, i.bytes)) = some (some z11, 11, 88) := by kernel_rfl
theorem TNd_info : ∃ i, Try.prog.info? 112 = some i ∧ i.zero = some z11 ∧ i.size = 11 ∧ i.bytes = 88 := by
  have := TNdI
  cases hi : Try.prog.info? 112 with
  | none => rw [hi] at this; cases this
  | some i =>
    rw [hi] at this
    simp only [Option.map_some, Option.some.injEq, Prod.mk.injEq] at this
    exact ⟨i, rfl, this.1, this.2.1, this.2.2⟩
theorem own_prefix {w : World} {B e sz n g c : Nat} {xs ys : List Value} (h : w.ownsRow B e sz (.slice (some ⟨g, 0, none⟩) (n + 1) c) (n + 1) (xs ++ ys)) (hx : xs.length = n * sz) : w.ownsRow B e sz (.slice (some ⟨g, 0, none⟩) n c) n xs := by
  refine ⟨hx, ?_⟩
  rcases h.2 with ⟨h, _⟩ | ⟨g', cap, cur, hv, hb, hg, hn, hm, hs, ht⟩
  · cases h
  · injection hv with h1 h2 h3
    injection h1 with h1; injection h1 with h1; subst h1; subst h3
    refine .inr ⟨g, c, cur, rfl, hb, hg, by omega, hm, hs, ?_⟩
    have := congrArg (List.take (n * sz)) ht
    rw [List.take_take, Nat.min_eq_left (Nat.mul_le_mul_right _ (by omega)), ← hx, List.take_left] at this
    rw [hx] at this; exact this
theorem app_node {w : World} {r : RC} {N : Nat → Nat → Int} (h : Rp w r N) (hn : r.n ≤ 65536) (h1n : 0 < r.n) {b : Nat} {cs : Array Value} {t : TypeId} (hb : w.heap[b]? = some (Obj.cells cs t)) (hcs : cs.size = 11) (hone : ∀ u ∈ cs.toList, u.oneCell' = true) {K : Value → World → Prop}
    (hK : ∀ w' g' c', Rp w' r N → w'.ownsRow r.B 112 11 (.slice (some ⟨g', 0, none⟩) (r.n + 1) c') (r.n + 1) ((enc 11 r.n fun i j => .int (kd j) (N i j)) ++ cs.toList) → (g' = r.g ∨ w.heap.size ≤ g') → Keeps (fun k => k = r.g) w w' → K (.slice (some ⟨g', 0, none⟩) (r.n + 1) c') w') :
    Runs Try.prog (Builtin.append_ #[106, 106] 106 #[.slice (some ⟨r.g, 0, none⟩) r.n r.c, .slice (some (⟨b, 0, none⟩ : Addr)) 1 1]) w K := by
  obtain ⟨i, hi, hz, hs, hby⟩ := TNd_info
  have hnews : ∀ j u, cs.toList[j]? = some u → w.cell? ((⟨b, 0, none⟩ : Addr).add j) = some u := fun j u hj => by
    rw [add_mk, Nat.zero_add, cell_of_row w _ _ _ _ _ hb, ← Array.getElem?_toList]; exact hj
  have hl : cs.toList.length = 1 * 11 := by rw [Array.length_toList, hcs]
  have hB : r.B ≤ w.heap.size := by have := h.hB; have := h.R_lt; omega
  by_cases hroom : r.n + 1 ≤ r.c
  · obtain ⟨w', hrun, ho', hg⟩ := run_append_fits (P := Try.prog) w r.B _ 106 _ i 11 TNd hi hs r.g r.n r.c _ h.own ⟨b, 0, none⟩ 1 1 cs.toList hl hnews hone hroom
    have hk : Keeps (fun k => k = r.g) w w' := ⟨hg.os, hg.tape, hg.output, hg.size, fun k hk hn => hg.block k hk (by simpa using hn)⟩
    refine runs_of hrun (hK w' r.g r.c ?_ ho' (.inl rfl) hk)
    exact ⟨(hk.block _ h.R_lt (fun e => h.gR e.symm)).trans h.obj, own_prefix ho' (by rw [enc_len]), h.hB, h.gR, h.sds.keeps hk (fun a ha => (h.sap a ha).2.2.2), fun a ha => let ⟨x1, x2, x3⟩ := h.sap a ha; ⟨x1, Nat.lt_of_lt_of_le x2 hk.size, x3⟩⟩
  · have hr2 := run_append_grow (P := Try.prog) w _ 106 _ i z11 TNd hi hz ⟨r.g, 0, none⟩ r.n r.c (enc 11 r.n fun i j => .int (kd j) (N i j)) (by rw [enc_len, hs]) (h.own.cells (g := r.g) rfl) ⟨b, 0, none⟩ 1 1 cs.toList (by rw [hs]; exact hl) hnews (by omega) (by omega)
      (by rw [hby]; exact growslice_fits (by omega) (by omega))
    obtain ⟨v', w', hrun, ho', hg, _⟩ := run_append_own (P := Try.prog) w r.B _ 106 _ i z11 11 88 TNd hi hz hs hby rfl (by decide) _ _ _ h.own ⟨b, 0, none⟩ 1 1 cs.toList hl hnews hone (by unfold maxLen; omega) (by omega) hB
    rw [hr2] at hrun
    injection hrun with hv hw
    refine runs_of hr2 ?_
    have hbel : Below w.heap.size w w' := by rw [← hw]; exact (Below.refl w.heap.size w).drew.alloc (Nat.le_refl _) _
    rw [hw]
    rw [← hv] at ho'
    exact hK w' _ _ (h.below hbel) ho' (.inr (Nat.le_refl _)) (.of_below hbel)
theorem Rp.setSt {w : World} {r : RC} {N : Nat → Nat → Int} (h : Rp w r N) (v : Int) : Rp (w.setCell ((⟨r.R, 0, none⟩ : Addr).add 2) (.int .u64 v)) { r with st := v } N ∧ Keeps (fun k => k = r.R) w (w.setCell ((⟨r.R, 0, none⟩ : Addr).add 2) (.int .u64 v)) ∧ Wr w ((⟨r.R, 0, none⟩ : Addr).add 2) := by
  have hk : Keeps (fun k => k = r.R) w (w.setCell ((⟨r.R, 0, none⟩ : Addr).add 2) (.int .u64 v)) := (Keeps.refl (fun k => k = r.R) w).setCell (p := (⟨r.R, 0, none⟩ : Addr).add 2) (.inl (by rw [add_block])) _
  refine ⟨⟨?_, Keeps.own h.own hk (fun i hi => by injection hi with hi; subst hi; exact h.gR), h.hB, h.gR, h.sds.keeps hk (fun a ha => (h.sap a ha).2.2.1), fun a ha => let ⟨x1, x2, x3⟩ := h.sap a ha; ⟨x1, Nat.lt_of_lt_of_le x2 hk.size, x3⟩⟩, hk, ⟨_, h.sl2⟩, ?_⟩
  · rw [add_mk, heap_setCell_same w r.R _ _ _ _ h.obj]; rfl
  · rw [add_mk, frozen_of_row _ _ _ _ _ h.obj]
theorem chance_j0 {w : World} {r : RC} {N : Nat → Nat → Int} (h : Rp w r N) (x : Int) {Kr : Int → World → Prop} (hK : ∀ v w', Rp w' { r with st := v } N → Keeps (fun k => k = r.R) w w' → Kr v w') : f_euler_load_chance.j0 ⟨r.R, 0, none⟩ x w Kr := by
  unfold f_euler_load_chance.j0
  refine ldI_intro h.sl2 (stW_intro (h.setSt 0).2.2 ?_)
  obtain ⟨h1, k1, _⟩ := h.setSt (IntKind.u64.wrap ((bxor .u64 r.st (IntKind.u64.wrap x)) * (15074714826142052245 : Int)))
  generalize w.setCell _ _ = w1 at *
  have h2 := h1.drew
  refine drW_intro (ldI_intro h2.sl2 (ldI_intro h2.sl2 (stW_intro (h2.setSt 0).2.2 ?_)))
  obtain ⟨h3, k3, _⟩ := h2.setSt (bxor .u64 (IntKind.u64.wrap ((bxor .u64 r.st (IntKind.u64.wrap x)) * (15074714826142052245 : Int))) ((IntKind.u64.wrap ((bxor .u64 r.st (IntKind.u64.wrap x)) * (15074714826142052245 : Int))).fdiv (2 ^ 29)))
  exact ldI_intro h3.sl2 (hK _ _ h3 (k1.drew.trans k3))
theorem chance_ok {w : World} {r : RC} {N : Nat → Nat → Int} (h : Rp w r N) (hn : r.n ≤ 65537) (h1n : 0 < r.n) : Calls Try.prog 81 #[.pointer (some ⟨r.R, 0, none⟩)] w fun e w' => ∃ v, e = .returned (.int .u64 v) ∧ Rp w' { r with st := v } N ∧ Keeps (fun k => k = r.R) w w' := by
  apply f_euler_load_chance.ok
  unfold f_euler_load_chance.wp
  refine ldS_intro h.sl1 ?_
  by_cases h0 : r.sl.length = 0
  · exact sel_f (by simp [h0]) (chance_j0 h 0 fun v w' h' k _ => ⟨v, rfl, h', k⟩)
  · have hd := h.drew
    have hm : (IntKind.i64.wrap ((r.n : Int) - 1)).tmod (r.sl.length : Int) = (((r.n - 1) % r.sl.length : Nat) : Int) := by
      rw [w64_in (by omega), show (r.n : Int) - 1 = ((r.n - 1 : Nat) : Int) by omega]; rfl
    have hlt : (r.n - 1) % r.sl.length < r.sl.length := Nat.mod_lt _ (by omega)
    obtain ⟨a, ha, hc⟩ := hd.sds _ hlt
    refine sel_t (by simp; omega) (drW_intro (ldS_intro hd.sl1 (ldS_intro hd.sl0 (req_intro (by simpa using h0) ?_))))
    rw [hm]
    refine optB_some ha (req_intro (by simp; omega) (ldI_intro (by rw [Int.toNat_natCast, Nat.mul_one]; exact hc) ?_))
    exact chance_j0 hd _ fun v w' h' k _ => ⟨v, rfl, h', (Keeps.of_below (Below.refl _ _).drew).trans k⟩
def makeE (n : Nat) : Int × Int := if n ≤ 65536 then ((n : Int), 0) else (0, 55)
def makeS (n : Nat) (rows : List (List Nat)) : List (List Nat) := if n ≤ 65536 then rows ++ [[n]] else rows
def makeV (n : Nat) (V : Nat → Int × Int × Int) (v : Int × Int × Int) : Nat → Int × Int × Int := if n ≤ 65536 then (fun i => if i = n then v else V i) else V
def makeN (n : Nat) : Nat := if n ≤ 65536 then n + 1 else n
structure Mv (w : World) (r r' : RC) : Prop where
  R : r'.R = r.R
  As : r'.As = r.As
  B : r'.B = r.B
  g : r'.g = r.g ∨ w.heap.size ≤ r'.g
theorem Make_ok {w : World} {r : RC} {rows : List (List Nat)} {V : Nat → Int × Int × Int} (h : Rope w r rows V) (v0 v1 v2 : Int) (hv : In64 v0 ∧ In64 v1 ∧ In64 v2) :
    Calls Try.prog 67 #[.pointer (some ⟨r.R, 0, none⟩), .agg #[.int .i64 v0, .int .i64 v1, .int .i64 v2]] w fun e w' => ∃ r', e = .returned (.tuple #[.int .i64 (makeE r.n).1, .int .i64 (makeE r.n).2]) ∧ Rope w' r' (makeS r.n rows) (makeV r.n V (v0, v1, v2)) ∧ r'.n = makeN r.n ∧ Mv w r r' ∧ Keeps (Sr r) w w' := by
  obtain ⟨N, ts, hp, hf⟩ := h
  apply f_euler_load_Make.ok
  unfold f_euler_load_Make.wp
  refine alW_intro ?_
  have hb1 : Blk (w.alloc (.cells #[.int .i64 v0, .int .i64 v1, .int .i64 v2] 74)) w.heap.size 3 (fun j => if j = 0 then v0 else if j = 1 then v1 else v2) := Blk.new w _ _ 3 _ rfl (by intro j hj; match j, hj with | 0, _ => rfl | 1, _ => rfl | 2, _ => rfl)
  have hp1 := hp.alloc (.cells #[.int .i64 v0, .int .i64 v1, .int .i64 v2] 74)
  have b1 := bal w (.cells #[.int .i64 v0, .int .i64 v1, .int .i64 v2] 74)
  have hRw := hp.R_lt
  have hgw := hp.g_lt.2
  generalize w.alloc (.cells #[.int .i64 v0, .int .i64 v1, .int .i64 v2] 74) = w1 at *
  refine ldS_intro hp1.sl0 ?_
  by_cases hn : r.n ≤ 65536
  · refine sel_f (by simp; omega) (drW_intro ?_)
    have hp2 := hp1.drew
    have hb2 := hb1.below (Below.refl _ _).drew
    have b2 := b1.drew
    generalize w1.drew = w2 at *
    have hbR : w.heap.size ≠ r.R := by omega
    have hbg : w.heap.size ≠ r.g := by omega
    refine ⟨fun w' => (∃ st', Rp w' { r with st := st' } N) ∧ Blk w' w.heap.size 3 (fun j => if j = 0 then v0 else if j = 1 then v1 else v2), ⟨⟨r.st, hp2⟩, hb2⟩, some ⟨r.g, 0, none⟩, r.n, r.c, fun w' ⟨⟨st', h'⟩, _⟩ => h'.sl0, v0, fun w' ⟨_, h'⟩ => h'.cell (j := 0) (by omega), v1, fun w' ⟨_, h'⟩ => h'.cell (j := 1) (by omega), v2, fun w' ⟨_, h'⟩ => h'.cell (j := 2) (by omega), v0, fun w' ⟨_, h'⟩ => h'.cell (j := 0) (by omega), v1, fun w' ⟨_, h'⟩ => h'.cell (j := 1) (by omega), v2, fun w' ⟨_, h'⟩ => h'.cell (j := 2) (by omega), ?_⟩
    refine (chance_ok hp2 hf.le hf.pos).mono ?_
    rintro e w3 ⟨v, rfl, hp3, k3⟩
    have hb3 := hb2.keeps k3 hbR
    refine ⟨v, rfl, ⟨⟨v, hp3⟩, hb3⟩, alW_intro ?_⟩
    have hp4 := hp3.alloc (.cells #[.int .i64 (0 : Int), .int .i64 (0 : Int), .int .i64 (0 : Int), .int .u64 v, .int .i64 (1 : Int), .int .i64 v0, .int .i64 v1, .int .i64 v2, .int .i64 v0, .int .i64 v1, .int .i64 v2] 112)
    have hb4 := hb3.below (bal w3 (.cells #[.int .i64 (0 : Int), .int .i64 (0 : Int), .int .i64 (0 : Int), .int .u64 v, .int .i64 (1 : Int), .int .i64 v0, .int .i64 v1, .int .i64 v2, .int .i64 v0, .int .i64 v1, .int .i64 v2] 112))
    have b4 := bal w3 (.cells #[.int .i64 (0 : Int), .int .i64 (0 : Int), .int .i64 (0 : Int), .int .u64 v, .int .i64 (1 : Int), .int .i64 v0, .int .i64 v1, .int .i64 v2, .int .i64 v0, .int .i64 v1, .int .i64 v2] 112)
    have hnew := heap_alloc_new w3 (.cells #[.int .i64 (0 : Int), .int .i64 (0 : Int), .int .i64 (0 : Int), .int .u64 v, .int .i64 (1 : Int), .int .i64 v0, .int .i64 v1, .int .i64 v2, .int .i64 v0, .int .i64 v1, .int .i64 v2] 112)
    generalize w3.alloc (.cells #[.int .i64 (0 : Int), .int .i64 (0 : Int), .int .i64 (0 : Int), .int .u64 v, .int .i64 (1 : Int), .int .i64 v0, .int .i64 v1, .int .i64 v2, .int .i64 v0, .int .i64 v1, .int .i64 v2] 112) = w4 at *
    refine ⟨⟨⟨v, hp4⟩, hb4⟩, app_node hp4 hn hf.pos hnew rfl (by intro u hu; simp at hu; rcases hu with rfl | rfl | rfl | rfl | rfl | rfl | rfl | rfl | rfl | rfl | rfl <;> rfl) fun w5 g' c' hp5 ho5 hg5 k5 => ?_⟩
    have hs24 : w.heap.size ≤ w4.heap.size := by have := b2.size; have := k3.size; have := b4.size; omega
    refine ⟨_, _, _, rfl, ⟨⟨v, hp5⟩, hb4.keeps k5 hbg⟩, stW_intro ⟨⟨_, hp5.sl0⟩, frozen_of_row _ _ _ _ _ hp5.obj⟩ ?_⟩
    have hR5 := hp5.R_lt
    have hg'R : g' ≠ r.R := by
      rcases hg5 with e | e
      · rw [e]; exact hp.gR
      · omega
    have k6 : Keeps (fun k => k = r.R) w5 (w5.setCell ⟨r.R, 0, none⟩ (.slice (some ⟨g', 0, none⟩) (r.n + 1) c')) := (Keeps.refl (fun k => k = r.R) w5).setCell (p := ⟨r.R, 0, none⟩) (.inl rfl) _
    have hobj := heap_setCell_same w5 r.R 0 _ _ (.slice (some ⟨g', 0, none⟩) (r.n + 1) c') hp5.obj
    generalize w5.setCell ⟨r.R, 0, none⟩ (.slice (some ⟨g', 0, none⟩) (r.n + 1) c') = w6 at *
    have hAs : ∀ a, r.As = some a → a.block ≠ g' := fun a ha e => by
      rcases hg5 with e' | e'
      · exact (hp.sap a ha).2.2.2 (e.trans e')
      · have := (hp.sap a ha).2.1; omega
    let N' : Nat → Nat → Int := fun i j => if i = r.n then (match j with | 3 => v | 4 => 1 | 5 => v0 | 6 => v1 | 7 => v2 | 8 => v0 | 9 => v1 | 10 => v2 | _ => 0) else N i j
    have hN' : ∀ i, i ≠ r.n → ∀ j, N' i j = N i j := fun i hi j => by simp only [N', if_neg hi]
    have hp6 : Rp w6 { r with g := g', c := c', n := r.n + 1, st := v } N' := by
      refine ⟨hobj, ?_, hp.hB, hg'R, (hp5.sds).keeps k6 (fun a ha => (hp.sap a ha).2.2.1), fun a ha => ?_⟩
      · have ho6 := Keeps.own ho5 k6 (fun i hi => by injection hi with hi; subst hi; exact hg'R)
        have hE := enc_app (sz := 11) (n := r.n) (F := fun i j => .int (kd j) (N i j)) (F' := fun i j => .int (kd j) (N' i j)) [.int .i64 (0 : Int), .int .i64 (0 : Int), .int .i64 (0 : Int), .int .u64 v, .int .i64 (1 : Int), .int .i64 v0, .int .i64 v1, .int .i64 v2, .int .i64 v0, .int .i64 v1, .int .i64 v2] rfl (fun i hi j _ => by rw [hN' i (by omega)]) (fun j hj => by
          have hj : j < 11 := hj
          simp only [N', if_true]
          match j, hj with | 0, _ => rfl | 1, _ => rfl | 2, _ => rfl | 3, _ => rfl | 4, _ => rfl | 5, _ => rfl | 6, _ => rfl | 7, _ => rfl | 8, _ => rfl | 9, _ => rfl | 10, _ => rfl)
        show w6.ownsRow r.B 112 11 (.slice (some ⟨g', 0, none⟩) (r.n + 1) c') (r.n + 1) (enc 11 (r.n + 1) fun i j => .int (kd j) (N' i j))
        rw [← hE]
        exact ho6
      · obtain ⟨x1, x2, x3, x4⟩ := hp5.sap a ha
        exact ⟨x1, Nat.lt_of_lt_of_le x2 k6.size, x3, hAs a ha⟩
    refine ldS_intro hp6.sl0 ⟨_, ?_, ⟨N', ts ++ [.node .nil r.n .nil], hp6, ?_⟩, ?_, ⟨rfl, rfl, rfl, ?_⟩, ?_⟩
    · simp only [makeE, if_pos hn]
      rw [w64_in (by simp; omega)]
      congr 5
      simp
    · have fl := hf.le
      have e1 : makeS r.n rows = rows ++ [[r.n]] := by simp [makeS, hn]
      have e2 : makeV r.n V (v0, v1, v2) = fun i => if i = r.n then (v0, v1, v2) else V i := by simp [makeV, hn]
      rw [e1, e2]
      have vN : Vals N' (r.n + 1) := fun i hi => by
        by_cases e : i = r.n
        · subst e; exact ⟨by simpa [N'] using hv.1, by simpa [N'] using hv.2.1, by simpa [N'] using hv.2.2⟩
        · rw [hN' i e, hN' i e, hN' i e]; exact hf.vals i (by omega)
      refine ⟨by rw [List.map_append, hf.ids]; rfl, hf.rok.make hf.pos, ?_, ?_, vN, by show r.n + 1 ≤ 65537; omega, by show 0 < r.n + 1; omega, ?_⟩
      · intro q hq
        rcases List.mem_append.1 hq with hq | hq
        · obtain ⟨oq, uq⟩ := hf.ok q hq
          have hroot : q.root ≠ 0 := fun e => hf.rok.ne q.ids (by rw [← hf.ids]; exact List.mem_map_of_mem hq) (by rw [oq.root_pos.1 e]; rfl)
          have qn : q.ids.Nodup := hf.rok.nd _ (by rw [← hf.ids]; exact List.mem_map_of_mem hq)
          refine ⟨oq.congr (Nat.le_succ _) qn fun i hi j _ _ => hN' i (by have := (oq.lt i hi).2; omega) j, ?_⟩
          rw [hN' _ (by have := (oq.lt _ (Tr.root_mem hroot)).2; omega)]; exact uq
        · simp only [List.mem_singleton] at hq; subst hq
          have t5 : tot N' 5 [r.n] = v0 := by rw [tot_one (by simpa [N'] using hv.1)]; simp [N']
          have t6 : tot N' 6 [r.n] = v1 := by rw [tot_one (by simpa [N'] using hv.2.1)]; simp [N']
          have t7 : tot N' 7 [r.n] = v2 := by rw [tot_one (by simpa [N'] using hv.2.2)]; simp [N']
          refine ⟨⟨hf.pos, Nat.lt_succ_self _, by simp [N', Tr.root], by simp [N', Tr.root], by simp [N', Tr.ids], ?_, ?_, ?_, by simp [Tr.root], by simp [Tr.root], trivial, trivial⟩, by simp [N', Tr.root]⟩
          · simp only [Tr.ids, List.nil_append]; rw [t5]; simp [N']
          · simp only [Tr.ids, List.nil_append]; rw [t6]; simp [N']
          · simp only [Tr.ids, List.nil_append]; rw [t7]; simp [N']
      · rw [hN' 0 (by have := hf.pos; omega)]; exact hf.z
      · intro i h1 h2
        by_cases e : i = r.n
        · subst e; simp [N']
        · rw [hN' i e, hN' i e, hN' i e, if_neg e]; exact hf.v i h1 (by have : i < r.n + 1 := h2; omega)
    · simp [makeN, hn]
    · rcases hg5 with e | e
      · exact .inl e
      · exact .inr (by show w.heap.size ≤ g'; omega)
    · refine (Keeps.of_below b2).trans ?_
      refine (k3.mono (fun k _ e => .inl e)).trans ((Keeps.of_below b4).trans ?_)
      exact (k5.mono (fun k _ e => .inr e)).trans (k6.mono (fun k _ e => .inl e))
  · refine sel_t (by simp; omega) ⟨r, by simp [makeE, hn], ?_, by simp [makeN, hn], ⟨rfl, rfl, rfl, .inl rfl⟩, .of_below b1⟩
    have e1 : makeS r.n rows = rows := by simp [makeS, hn]
    have e2 : makeV r.n V (v0, v1, v2) = V := by simp [makeV, hn]
    rw [e1, e2]; exact ⟨N, ts, hp1, hf⟩
end Go.Proofs.Ytkkobfajahmfaaa.Rd
