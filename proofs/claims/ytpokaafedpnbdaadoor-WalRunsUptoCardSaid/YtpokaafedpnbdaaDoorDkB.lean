/- disk.step: a step under its fate. Conditions: none. -/
import Derived.Test.YtpokaafedpnbdaaDoorDkA
import Derived.Test.YtpokaafedpnbdaaDoorHBw
import Derived.Test.YtpokaafedpnbdaaDoorBase
import Derived.Test.YtpokaafedpnbdaaDoorRdA
namespace Go.Proofs.YtpokaafedpnbdaaDoor.Rd
open Go.RowKit Go.Shelf Go.Dn
attribute [local go_sem] Oper.semAt_some
set_option linter.unusedVariables false
set_option linter.unusedSimpArgs false
def okF (s : Int) (f : Ft) : Prop := f.1 = s ∧ 1 ≤ f.2 ∧ f.2 ≤ 3
instance (s : Int) (f : Ft) : Decidable (okF s f) := inferInstanceAs (Decidable (_ ∧ _))
/-- the kind behind some rounds -/
def kdF (s : Int) (pre : List (Nat × Ft)) : Int := pre.foldl (fun k x => if okF s x.2 then x.2.2 else k) 0
theorem kdF_snoc (s : Int) (pre : List (Nat × Ft)) (x : Nat × Ft) : kdF s (pre ++ [x]) = if okF s x.2 then x.2.2 else kdF s pre := by simp [kdF]
def dC (safe pend : Value) (A : Option Addr) (n c : Nat) (steps : Int) (off : Bool) : Array Value := #[safe, pend, .slice A n c, .int .i64 steps, .bool off]
theorem KpX.alloc (n₀ x : Nat) (W : World) (o : Obj) : KpX n₀ x W (W.alloc o) := ⟨by simp, fun k _ _ h3 => Below.heap_alloc W o k h3⟩
theorem _root_.Go.Dn.HB.setAt {w : World} {b : Nat} {cs : Array Value} {t : TypeId} (h : HB w b cs t) (j : Nat) (v : Value) : HB (w.setCell ⟨b, j, none⟩ v) b (cs.setIfInBounds j v) t := by
  unfold HB at *
  obtain ⟨hlt, he⟩ := Array.getElem?_eq_some_iff.1 h
  unfold World.setCell
  simp only [Array.getElem?_modify]
  rw [h]
  rfl
theorem back_in (F : Fence) (n : Nat) (A : Option Addr) (len cap : Nat) (w : World) :
    CallsIn Fence.wide n Tryd.prog 70 #[.slice A len cap] w fun e w' => e = .returned (.func (.func 86) #[] #[.pointer (some ⟨w.heap.size, 0, none⟩)]) ∧ w' = w.alloc (.cells #[.slice A len cap] 31) := by
  refine callsIn_wide.2 ?_
  apply f_api_Fate_Back.ok
  unfold f_api_Fate_Back.wp
  exact alW_intro ⟨rfl, rfl⟩
/-- what stands between two rounds -/
def stI (w : World) (D : Nat) (s : Int) (cs : Array Value) (pre : List (Nat × Ft)) (W : World) : Prop :=
  Boxed W (w.heap.size + 1) 3 (.int .i64 (kdF s pre)) ∧ Boxed W w.heap.size 24 (.pointer (some ⟨D, 0, none⟩)) ∧ HB W D cs 82 ∧ Keeps (fun k => k = D) w W ∧ w.heap.size + 3 ≤ W.heap.size
section
variable {w W : World} {D N : Nat} {s : Int} {cs : Array Value} {pre : List (Nat × Ft)} {x : Nat × Ft}
theorem stB_no (h : ¬ okF s x.2) (b1 : Boxed W (w.heap.size + 1) 3 (.int .i64 (kdF s pre))) (b2 : Boxed W w.heap.size 24 (.pointer (some ⟨D, 0, none⟩))) (b3 : HB W D cs 82) (b4 : Keeps (fun k => k = D) w W) (b5 : w.heap.size + 3 ≤ W.heap.size) (a : Act) :
    ownPostG N (KpX (w.heap.size + 3) (w.heap.size + 1)) (stI w D s cs) (fun _ _ _ => False) (pre ++ [x]) W .normal a W.drew :=
  ⟨(KeepsOthers.drew _).from _, ⟨Nat.le_refl _, fun _ _ _ _ => rfl⟩, by rw [kdF_snoc, if_neg h]; exact b1, b2, b3, b4.drew, b5⟩
theorem stB_yes {W0 : World} (h : okF s x.2) (b1 : Boxed W (w.heap.size + 1) 3 (.int .i64 (kdF s pre))) (b2 : Boxed W w.heap.size 24 (.pointer (some ⟨D, 0, none⟩))) (b3 : HB W D cs 82) (b4 : Keeps (fun k => k = D) w W) (b5 : w.heap.size + 3 ≤ W.heap.size) (hD : D < w.heap.size) (hW : W = W0.drew) (a : Act) :
    ownPostG N (KpX (w.heap.size + 3) (w.heap.size + 1)) (stI w D s cs) (fun _ _ _ => False) (pre ++ [x]) W0 .normal a (W.setCell ⟨w.heap.size + 1, 0, none⟩ (.int .i64 x.2.2)) := by
  subst hW
  refine ⟨((KeepsOthers.drew _).trans (KeepsOthers.setCell _ _ _)).from _, ⟨(KpX.set (n₀ := w.heap.size + 3) (x := w.heap.size + 1) W0.drew (.int .i64 x.2.2) 0).sz, fun k h1 h2 h3 => (KpX.set (n₀ := w.heap.size + 3) (x := w.heap.size + 1) W0.drew (.int .i64 x.2.2) 0).bl k h1 h2 h3⟩, ?_, b2.other (by omega) _, ?_, b4.setCell (.inr (by show w.heap.size ≤ w.heap.size + 1; omega)) _, by simpa using b5⟩
  · rw [kdF_snoc, if_pos h]; exact b1.set _
  · have := Below.heap_setCell W0.drew ⟨w.heap.size + 1, 0, none⟩ (.int .i64 x.2.2) D (show D ≠ w.heap.size + 1 by omega)
    exact this.trans b3
theorem put_hb {W : World} {b l : Nat} {cs : Array Value} {t : TypeId} {o : Obj} (h : HB W b cs t) (hn : b ≠ l) : HB (W.putObj l o) b cs t := (World.putObj_heap_other hn).trans h
theorem put_keeps2 {S : Nat → Prop} {w W : World} {l : Nat} {o : Obj} (h : Keeps S w W) (hl : S l ∨ w.heap.size ≤ l) : Keeps S w (W.putObj l o) :=
  ⟨h.os, h.tape, h.output, by simpa [World.putObj] using h.size, fun k hk hn => (World.putObj_heap_other (fun e => by subst e; exact hl.elim hn fun h => by omega)).trans (h.block k hk hn)⟩
theorem put_keeps {S : Nat → Prop} {w W : World} {l : Nat} {o : Obj} (h : Keeps S w W) (hl : w.heap.size ≤ l) : Keeps S w (W.putObj l o) := put_keeps2 h (.inr hl)
theorem ne_row {W : World} {b N : Nat} {cs : Array Value} {t : TypeId} {row : Option Nat} (h : W.heap[b]? = some (.cells cs t)) (hr : ∀ r, row = some r → N ≤ r ∧ ∃ o : Obj, W.heap[r]? = some o ∧ o.isCells = false) : some b ≠ row := fun e => by
  obtain ⟨_, o, ho, hc⟩ := hr b e.symm
  rw [h] at ho; cases ho; cases hc
theorem stI_own (hN : w.heap.size ≤ N) : OwnFrom N (stI w D s cs) := by
  rintro pre X Y row ⟨b1, b2, b3, b4, b5⟩ hg hr
  refine ⟨b1.kept hg (ne_row b1 hr), b2.kept hg (ne_row b2 hr), (hg.block D b3.lt (ne_row b3 hr)).trans b3, ⟨hg.os.trans b4.os, hg.tape.trans b4.tape, hg.output.trans b4.output, Nat.le_trans b4.size hg.size, fun k hk hn => (hg.block k (Nat.lt_of_lt_of_le hk b4.size) fun e => ?_).trans (b4.block k hk hn)⟩, Nat.le_trans b5 hg.size⟩
  have := (hr k e.symm).1
  omega
end
set_option maxRecDepth 100000 in
set_option maxHeartbeats 8000000 in
theorem step_in {w : World} {D : Nat} {safe pend : Value} {A : Option Addr} {cap : Nat} {fs : List Ft} {steps : Int} {off : Bool} (hD : HB w D (dC safe pend A fs.length cap steps off) 82) (hreach : fs.length * 16 ≤ 140737488355328) (hf : Fates w.heap.size w.heap.size w A fs) (hAD : ∀ a, A = some a → a.block ≠ D) {g : Nat} {caps : Array Value} {R : Ending → World → Prop} {R2 : World → Prop}
    (hg : ∀ args w, (callFunc g args).run Tryd.prog w = .ok (.enter g args) w)
    (q1 : kdF (wrap64 (steps + 1)) (upto (bk fs) fs.length) = 1 → ∀ W', HB W' D (dC safe pend A fs.length cap (wrap64 (steps + 1)) off) 82 → Keeps (fun k => k = D) w W' → R (.returned (.int .i64 71)) W')
    (q2 : kdF (wrap64 (steps + 1)) (upto (bk fs) fs.length) = 2 → ∀ W', HB W' D (dC safe pend A fs.length cap (wrap64 (steps + 1)) true) 82 → Keeps (fun k => k = D) w W' → R (.returned (.int .i64 70)) W')
    (hdo : kdF (wrap64 (steps + 1)) (upto (bk fs) fs.length) ≠ 1 → kdF (wrap64 (steps + 1)) (upto (bk fs) fs.length) ≠ 2 → ∀ W1, HB W1 D (dC safe pend A fs.length cap (wrap64 (steps + 1)) off) 82 → Keeps (fun k => k = D) w W1 → CallsIn Fence.wide 8 Tryd.prog g caps W1 fun e W2 => e = .returned (.tuple #[]) ∧ HB W2 D (dC safe pend A fs.length cap (wrap64 (steps + 1)) off) 82 ∧ W1.heap.size ≤ W2.heap.size ∧ (∀ k, w.heap.size ≤ k → k < W1.heap.size → W2.heap[k]? = W1.heap[k]?) ∧ R2 W2)
    (q3 : kdF (wrap64 (steps + 1)) (upto (bk fs) fs.length) ≠ 1 → kdF (wrap64 (steps + 1)) (upto (bk fs) fs.length) ≠ 2 → ∀ W2 W', R2 W2 → HB W' D (dC safe pend A fs.length cap (wrap64 (steps + 1)) (if kdF (wrap64 (steps + 1)) (upto (bk fs) fs.length) = 3 then true else off)) 82 → Keeps (fun k => k = D ∨ w.heap.size ≤ k) W2 W' → R (.returned (.int .i64 (if kdF (wrap64 (steps + 1)) (upto (bk fs) fs.length) = 3 then 70 else 0))) W') :
    CallsIn Fence.wide 9 Tryd.prog 48 #[.pointer (some ⟨D, 0, none⟩), .func (.func g) #[] caps] w R := by
  have hlt := hD.lt
  have hc2 : w.cell? ⟨D, 2, none⟩ = some (.slice A fs.length cap) := hD.cell 2
  have hc3 : w.cell? ⟨D, 3, none⟩ = some (.int .i64 steps) := hD.cell 3
  have hf3 : w.frozen? ⟨D, 3, none⟩ = false := by simp [World.frozen?, show w.heap[D]? = _ from hD]
  refine callsIn_of_wp_marks Tryd.func48 rfl trivial ?_ rfl
  simp only [Tryd.ntmps48, List.size_toArray, List.length_cons, List.length_nil, Nat.reduceAdd, Nat.reduceSub, Array.replicate_succ, Array.replicate_zero, List.push_toArray, List.append_toArray, List.nil_append, List.cons_append]
  gi_wp2_with (first | (refine ⟨trivial, ?_⟩; refine (back_in Fence.wide _ _ _ _ _).mono ?_; rintro e w' ⟨rfl, rfl⟩) | gi_in)
  have hs1 := hlt
  obtain ⟨s, hs⟩ : ∃ s, wrap64 (steps + 1) = s := ⟨_, rfl⟩
  rw [hs] at q1 q2 hdo q3 ⊢
  have kw : Keeps (fun k => k = D) w ((((w.setCell ⟨D, 3, none⟩ (.int .i64 s)).alloc (.cells #[.pointer (some ⟨D, 0, none⟩)] 24)).alloc (.cells #[.int .i64 0] 3)).alloc (.cells #[.slice A fs.length cap] 31)) := ((((Keeps.refl (fun k => k = D) w).setCell (p := ⟨D, 3, none⟩) (.inl rfl) _).alloc _).alloc _).alloc _
  have bD := ((Boxed.new (w.setCell ⟨D, 3, none⟩ (.int .i64 s)) 24 (.pointer (some ⟨D, 0, none⟩))).alloc (.cells #[.int .i64 0] 3)).alloc (.cells #[.slice A fs.length cap] 31)
  have bK := (Boxed.new ((w.setCell ⟨D, 3, none⟩ (.int .i64 s)).alloc (.cells #[.pointer (some ⟨D, 0, none⟩)] 24)) 3 (.int .i64 0)).alloc (.cells #[.slice A fs.length cap] 31)
  have bS := Boxed.new (((w.setCell ⟨D, 3, none⟩ (.int .i64 s)).alloc (.cells #[.pointer (some ⟨D, 0, none⟩)] 24)).alloc (.cells #[.int .i64 0] 3)) 31 (.slice A fs.length cap)
  have hD0 : HB ((((w.setCell ⟨D, 3, none⟩ (.int .i64 s)).alloc (.cells #[.pointer (some ⟨D, 0, none⟩)] 24)).alloc (.cells #[.int .i64 0] 3)).alloc (.cells #[.slice A fs.length cap] 31)) D (dC safe pend A fs.length cap s off) 82 := by
    have h1 : HB (w.setCell ⟨D, 3, none⟩ (.int .i64 s)) D (dC safe pend A fs.length cap s off) 82 := hD.setAt 3 _
    exact ((h1.below ((Below.refl _ _).alloc (Nat.le_refl _) _)).below ((Below.refl _ _).alloc (Nat.le_refl _) _)).below ((Below.refl _ _).alloc (Nat.le_refl _) _)
  rw [World.size_alloc, World.size_alloc] at bS
  rw [World.size_alloc] at bK
  have zz : (w.setCell ⟨D, 3, none⟩ (.int .i64 s)).heap.size = w.heap.size := by simp
  rw [zz] at bD bK bS
  obtain ⟨W0, hW0⟩ : ∃ W0, ((((w.setCell ⟨D, 3, none⟩ (.int .i64 s)).alloc (.cells #[.pointer (some ⟨D, 0, none⟩)] 24)).alloc (.cells #[.int .i64 0] 3)).alloc (.cells #[.slice A fs.length cap] 31)) = W0 := ⟨_, rfl⟩
  have hsz : W0.heap.size = w.heap.size + 3 := by rw [← hW0]; simp
  rw [hW0] at bD bK bS hD0 kw ⊢
  have hfat : Fates (w.heap.size + 3) (w.heap.size + 1) W0 A fs := by
    rcases hf with h | ⟨b, o, rfl, hb, hx, hc⟩
    · exact .inl h
    · exact .inr ⟨b, o, rfl, by omega, by omega, fun j hj => ⟨kw.cell (hc j hj).1 (hAD ⟨b, o, none⟩ rfl), kw.cell (hc j hj).2 (hAD ⟨b, o, none⟩ rfl)⟩⟩
  refine wpIn_rangeFunc_ownH (F := Fence.wide) rfl (by omega) (gf := 86) (lb := #[.pointer (some ⟨w.heap.size + 1 + 1, 0, none⟩)]) rfl trivial (enters_of Tryd.func86 (by kernel_rfl) rfl)
    (back_stops Fence.wide 8 trivial rfl (by omega) (w.heap.size + 1 + 1) (w.heap.size + 3) (w.heap.size + 1) A cap fs hreach W0 (by omega) (by omega) (by omega) bS.cell hfat) (fun h k => h.trans k) (fun W l o o' hl _ _ _ => KpX.put W l o' (by omega)) (Below.refl _ _) (fun _ => rfl)
    (stI w D s (dC safe pend A fs.length cap s off))
    (fun _ _ _ => False)
    ?own (fun _ _ _ _ _ hs _ _ => hs) ⟨bK, bD, hD0, kw, by omega⟩
    (fun x a' W => ∃ Bx, w.heap.size + 2 < Bx ∧ HB W Bx #[.int .i64 x.2.1, .int .i64 x.2.2] 51 ∧ a' = { tmps := #[.pointer (some ⟨D, 0, none⟩), .func (.func g) #[] caps, .pointer (some ⟨w.heap.size, 0, none⟩), undef, .int .i64 0, .pointer (some ⟨w.heap.size + 1, 0, none⟩), undef, .pointer (some ⟨Bx, 0, none⟩), .pointer (some ⟨D, 0, none⟩), .pointer (some ⟨D, 0, none⟩), .pointer (some ⟨D, 3, none⟩), .int .i64 steps, .int .i64 s, .pointer (some ⟨D, 0, none⟩), .pointer (some ⟨D, 3, none⟩), .pointer (some ⟨D, 0, none⟩), .pointer (some ⟨D, 0, none⟩), .pointer (some ⟨D, 2, none⟩), .slice A fs.length cap, .func (.func 86) #[] #[.pointer (some ⟨w.heap.size + 1 + 1, 0, none⟩)], .int .i64 (x.1 : Int), .agg #[.int .i64 x.2.1, .int .i64 x.2.2], undef, undef, undef, undef, undef, undef, undef, undef, undef, undef, undef, undef, undef, undef, undef, undef, undef, undef, undef, undef, undef, undef, undef, undef, undef, undef, undef, undef, undef, undef, undef, undef, undef, undef], defers := [] })
    ?ownA ?assign ?body ?done ?stop
  case own => exact stI_own (by omega)
  case ownA =>
    rintro x a' _ X Y row ⟨Bx, h1, h2, h3⟩ hg hr
    exact ⟨Bx, h1, (hg.block Bx h2.lt (ne_row (by exact h2) hr)).trans h2, h3⟩
  case assign =>
    rintro l pre x W K ⟨b1, b2, b3, b4, b5⟩ hK
    gi_wp2
    exact hK _ _ ((KeepsOthers.alloc _ _).from _) (KpX.alloc _ _ _ _) ⟨b1.alloc _, b2.alloc _, b3.below ((Below.refl _ _).alloc (Nat.le_refl _) _), b4.alloc _, by simp; omega⟩ ⟨W.heap.size, by omega, HB.new W _ 51, rfl⟩
  case body =>
    rintro l pre x a' W hl ⟨r, hr⟩ ⟨b1, b2, b3, b4, b5⟩ ⟨Bx, hBx, bX, rfl⟩ hlt
    have cK := b1.cell
    have fK := b1.frozen
    have cD := b2.cell
    have c3 : W.cell? ⟨D, 3, none⟩ = some (.int .i64 s) := b3.cell 3
    have cX0 : W.cell? ⟨Bx, 0, none⟩ = some (.int .i64 x.2.1) := bX.cell 0
    have cX1 : W.cell? ⟨Bx, 1, none⟩ = some (.int .i64 x.2.2) := bX.cell 1
    have hmx : Tryd.prog.follows .mixedOrders = true := by kernel_rfl
    gi_wp2
    by_cases e1 : x.2.1 = s
    · by_cases e2 : 1 ≤ x.2.2
      · by_cases e3 : x.2.2 ≤ 3
        · gi_region_with_o (gi_in)
          all_goals gi_wp2
          all_goals exact stB_yes (W := W.drew) ⟨e1, e2, e3⟩ b1 b2 b3 b4.drew b5 (by assumption) rfl _
        · gi_region_with_o (gi_in)
          all_goals gi_wp2
          all_goals exact stB_no (by unfold okF; omega) b1 b2 b3 b4 b5 _
      · gi_region_with_o (gi_in)
        all_goals gi_wp2
        all_goals exact stB_no (by unfold okF; omega) b1 b2 b3 b4 b5 _
    · gi_region_with_o (gi_in)
      all_goals gi_wp2
      all_goals exact stB_no (by unfold okF; omega) b1 b2 b3 b4 b5 _
  case done =>
    rintro D' xs W hD' rfl ⟨b1, b2, b3, b4, b5⟩ hK
    obtain ⟨kd, hkd⟩ : ∃ kd, kdF s (upto (bk fs) fs.length) = kd := ⟨_, rfl⟩
    rw [hkd] at b1
    have cK := b1.cell
    have cD := b2.cell
    have c4 : W.cell? ⟨D, 4, none⟩ = some (.bool off) := b3.cell 4
    have f4 : W.frozen? ⟨D, 4, none⟩ = false := by simp [World.frozen?, show W.heap[D]? = _ from b3]
    rw [hkd] at q1 q2 hdo q3
    have hDn : D ≠ D' := by omega
    by_cases k1 : kd = 1
    · subst k1
      gi_wp2
      refine ⟨by simp, .inl ⟨_, _, rfl, run_takeDeferred hK, ?_⟩⟩
      have h := q1 (by trivial) (W.putObj D' (.deferred none)) (put_hb b3 hDn) (put_keeps b4 (by omega))
      refine ⟨_, results_tmp rfl _ _ _, ?_⟩
      exact h
    by_cases k2 : kd = 2
    · subst k2
      gi_wp2
      have hK' := (KeepsOthers.setCell W ⟨D, 4, none⟩ (.bool true)).same D' _ hK rfl
      refine ⟨by simp, .inl ⟨_, _, rfl, run_takeDeferred hK', ?_⟩⟩
      have h := q2 (by trivial) ((W.setCell ⟨D, 4, none⟩ (.bool true)).putObj D' (.deferred none)) (put_hb (b3.setAt 4 _) hDn) (put_keeps (b4.setCell (.inl rfl) _) (by omega))
      refine ⟨_, results_tmp rfl _ _ _, ?_⟩
      exact h
    gi_wp2
    refine ⟨trivial, ?_⟩
    refine (hdo k1 k2 W b3 b4).mono ?_
    rintro e W2 ⟨rfl, h2, hsz2, hbl, hR2⟩
    have hK2 : W2.heap[D']? = some (.deferred (some [])) := (hbl D' (by omega) (Array.getElem?_eq_some_iff.1 hK).1).trans hK
    have b12 : Boxed W2 (w.heap.size + 1) 3 (.int .i64 kd) := (hbl _ (by omega) b1.lt).trans b1
    have b22 : Boxed W2 w.heap.size 24 (.pointer (some ⟨D, 0, none⟩)) := (hbl _ (by omega) b2.lt).trans b2
    have cK := b12.cell
    have cD := b22.cell
    have c4 : W2.cell? ⟨D, 4, none⟩ = some (.bool off) := h2.cell 4
    have f4 : W2.frozen? ⟨D, 4, none⟩ = false := by simp [World.frozen?, show W2.heap[D]? = _ from h2]
    by_cases k3 : kd = 3
    · subst k3
      gi_wp2
      have hK' := (KeepsOthers.setCell W2 ⟨D, 4, none⟩ (.bool true)).same D' _ hK2 rfl
      refine ⟨by simp, .inl ⟨_, _, rfl, run_takeDeferred hK', ?_⟩⟩
      have h := q3 k1 k2 W2 ((W2.setCell ⟨D, 4, none⟩ (.bool true)).putObj D' (.deferred none)) hR2 (by rw [if_pos trivial]; exact put_hb (h2.setAt 4 _) hDn) (put_keeps2 (((Keeps.refl (fun k => k = D ∨ w.heap.size ≤ k) W2).setCell (p := ⟨D, 4, none⟩) (.inl (.inl rfl)) _)) (.inl (.inr (by omega))))
      rw [if_pos trivial] at h
      refine ⟨_, results_tmp rfl _ _ _, ?_⟩
      exact h
    · gi_wp2
      refine ⟨by simp, .inl ⟨_, _, rfl, run_takeDeferred hK2, ?_⟩⟩
      have := q3 k1 k2 W2 (W2.putObj D' (.deferred none)) hR2 (by rw [if_neg k3]; exact put_hb h2 hDn) (put_keeps2 (Keeps.refl _ W2) (.inl (.inr (by omega))))
      rw [if_neg k3] at this
      refine ⟨_, results_tmp rfl _ _ _, ?_⟩
      exact this
  case stop =>
    rintro D' c pre W _ _ h _
    exact h.elim
end Go.Proofs.YtpokaafedpnbdaaDoor.Rd
