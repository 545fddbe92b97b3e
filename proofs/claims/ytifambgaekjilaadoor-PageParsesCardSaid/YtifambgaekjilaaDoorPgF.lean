/- slices.Backward over bytes: its iterator's contract, for every loop body. Conditions: none. -/
import Derived.RangeFuncNested
import Derived.RangeFuncBound
import Derived.RangeFuncCalls
import Derived.RangeFuncLeaves
import Derived.Shelf.Abstract
import Derived.Shelf.RegionOpen
import Derived.WalkKit
import Derived.OwnWalkIn
import Derived.TacticsInMore
import Derived.LoopNIn
import Derived.LoopIn
import Derived.Test.YtifambgaekjilaaDoorBase
import Derived.Test.YtifambgaekjilaaDoorRd
namespace Go.Proofs.YtifambgaekjilaaDoor.Rd
open Go.RowKit Go.Shelf
attribute [local go_sem] Oper.semAt_some
set_option linter.unusedVariables false
set_option linter.unusedSimpArgs false
def upto {α : Type} (f : Nat → α) (k : Nat) : List α := (List.range k).map f
theorem upto_succ {α : Type} (f : Nat → α) (k : Nat) : upto f (k + 1) = upto f k ++ [f k] := by simp [upto, List.range_succ]
theorem upto_length {α : Type} (f : Nat → α) (k : Nat) : (upto f k).length = k := by simp [upto]
structure KpX (n₀ x : Nat) (A B : World) : Prop where
  sz : A.heap.size ≤ B.heap.size
  bl : ∀ k, k < n₀ → k ≠ x → k < A.heap.size → B.heap[k]? = A.heap[k]?
theorem KpX.refl (n₀ x : Nat) (A : World) : KpX n₀ x A A := ⟨Nat.le_refl _, fun _ _ _ _ => rfl⟩
theorem KpX.trans {n₀ x : Nat} {A B C : World} (h : KpX n₀ x A B) (k : KpX n₀ x B C) : KpX n₀ x A C := ⟨Nat.le_trans h.sz k.sz, fun i h1 h2 h3 => (k.bl i h1 h2 (Nat.lt_of_lt_of_le h3 h.sz)).trans (h.bl i h1 h2 h3)⟩
theorem KpX.cell {n₀ x : Nat} {A B : World} (h : KpX n₀ x A B) {p : Addr} {v : Value} (hp : p.block < n₀) (hx : p.block ≠ x) (hc : A.cell? p = some v) : B.cell? p = some v := by
  have hl := World.block_lt_of_cell? A p hc
  have := h.bl p.block hp hx hl
  unfold World.cell? at hc ⊢
  rw [this]; exact hc
theorem KpX.below {n₀ m x : Nat} {A B : World} (h : Below m A B) (hm : n₀ ≤ m) : KpX n₀ x A B := ⟨h.size, fun k h1 h2 h3 => h.block k (by omega)⟩
theorem KpX.put {n₀ x : Nat} (W : World) (l : Nat) (o : Obj) (h : n₀ ≤ l) : KpX n₀ x W (W.putObj l o) := ⟨by simp [World.putObj], fun k h1 _ _ => World.putObj_heap_other (by omega)⟩
theorem KpX.set {n₀ x : Nat} (W : World) (v : Value) (j : Nat) : KpX n₀ x W (W.setCell ⟨x, j, none⟩ v) := ⟨by simp [World.setCell], fun k h1 h2 h3 => Below.heap_setCell W ⟨x, j, none⟩ v k h2⟩
set_option maxRecDepth 100000 in
def bAt (l : List UInt8) (j : Nat) : UInt8 := l.getD j 0
/-- what comes: from the last one to the first, each with its place -/
def bkB (l : List UInt8) (k : Nat) : Nat × UInt8 := (l.length - 1 - k, bAt l (l.length - 1 - k))
abbrev eBt (x : Nat × UInt8) : Array Value := #[.int .i64 (x.1 : Int), .int .u8 (x.2.toNat : Int)]
set_option maxRecDepth 100000 in
set_option maxHeartbeats 4000000 in
theorem backB_in (F : Fence) (n : Nat) (h7 : F.fn 70) (hro : F.round = none) (hn : 1 ≤ n) (l Bs n₀ x b off cap : Nat) (fs : List UInt8) (hreach : fs.length ≤ 140737488355328) (hb : b < n₀) (hbx : b ≠ x) (hBx : Bs ≠ x) (J Jx : List (Nat × UInt8) → World → Prop)
    (hY : ∀ pre y W, J pre W → pre.length < fs.length → YieldAt F (n - 1) Tryd.prog l (eBt y) W fun e W' =>
      (e = .returned (.bool true) ∧ J (pre ++ [y]) W' ∧ KpX n₀ x W W') ∨ (e = .returned (.bool false) ∧ Jx (pre ++ [y]) W'))
    (W : World) (hBs : W.cell? ⟨Bs, 0, none⟩ = some (.slice (some ⟨b, off, none⟩) fs.length cap)) (hBn : Bs < n₀)
    (hc : ∀ j, j < fs.length → W.cell? ⟨b, off + j, none⟩ = some (.int .u8 ((bAt fs j).toNat : Int))) (h0 : J [] W) :
    CallsIn F n Tryd.prog 70 #[.func (.yield l) #[] #[], .pointer (some ⟨Bs, 0, none⟩)] W fun e W' => (∃ v, e = .returned v) ∧
      ((∃ ys, ys = upto (bkB fs) fs.length ∧ J ys W') ∨ (∃ pre, (∃ k, k ≤ fs.length ∧ pre = upto (bkB fs) k) ∧ Jx pre W')) := by
  refine callsIn_of_wp Tryd.func70 rfl h7 ?_ hro
  simp only [Tryd.ntmps70, List.size_toArray, List.length_cons, List.length_nil, Nat.reduceAdd, Nat.reduceSub, Array.replicate_succ, Array.replicate_zero, List.push_toArray, List.append_toArray, List.nil_append, List.cons_append]
  gi_wp2
  gi_loopw [3] (fun i wr => ∃ k : Nat, k ≤ fs.length ∧ i = .int .i64 ((fs.length : Int) - 1 - k) ∧ J (upto (bkB fs) k) wr ∧ KpX n₀ x W wr)
    (fun i _ => (intOf i + 1).toNat)
  case atStart => exact ⟨0, Nat.zero_le _, by simp, h0, KpX.refl _ _ _⟩
  case round =>
    obtain ⟨k, hk, rfl, hJs, hnx⟩ := hrel
    have hBs' : wr.cell? ⟨Bs, 0, none⟩ = some (.slice (some ⟨b, off, none⟩) fs.length cap) := hnx.cell (p := ⟨Bs, 0, none⟩) hBn hBx hBs
    by_cases hlt : k < fs.length
    · obtain ⟨j, hj⟩ : ∃ j, fs.length - 1 - k = j := ⟨_, rfl⟩
      have hi : (fs.length : Int) - 1 - k = (j : Int) := by omega
      have hjl : j < fs.length := by omega
      have hc0 : wr.cell? ⟨b, off + j, none⟩ = some (.int .u8 ((bAt fs j).toNat : Int)) := hnx.cell (p := ⟨b, off + j, none⟩) hb hbx (hc j hjl)
      obtain ⟨fn, tmps, assign, body, hy, hR⟩ := hY _ (bkB fs k) wr hJs (by rw [upto_length]; exact hlt)
      have ebk : bkB fs k = (j, bAt fs j) := by unfold bkB; rw [hj]
      rw [ebk] at hy
      dsimp only [eBt] at hy
      rw [hi]
      gi_wp2
      refine hR.mono ?_
      rintro e W3 (⟨rfl, hJ3, hk3⟩ | ⟨rfl, hJx3⟩)
      · gi_wp2
        go_roundw
        case rel => exact ⟨k + 1, by omega, by simp; omega, by rw [upto_succ]; exact hJ3, hnx.trans hk3⟩
        case measure => simp [intOf]
      · gi_wp2
        refine bodyPost_ret (results_none rfl _ _ _) rfl ?_
        exact ⟨⟨_, rfl⟩, .inr ⟨_, ⟨k + 1, by omega, (upto_succ _ _).symm⟩, hJx3⟩⟩
    · obtain rfl : k = fs.length := by omega
      gi_wp2
      go_end0
      exact ⟨⟨_, rfl⟩, .inl ⟨_, rfl, hJs⟩⟩
/-- bytes readable below n₀ -/
def Byts (n₀ x : Nat) (W : World) (A : Option Addr) (fs : List UInt8) : Prop :=
  ∃ b off, A = some ⟨b, off, none⟩ ∧ b < n₀ ∧ b ≠ x ∧ ∀ j, j < fs.length → W.cell? ⟨b, off + j, none⟩ = some (.int .u8 ((bAt fs j).toNat : Int))
theorem Byts.below {n₀ x : Nat} {W W' : World} (h : Below n₀ W W') {A : Option Addr} {fs : List UInt8} : Byts n₀ x W A fs → Byts n₀ x W' A fs
  | ⟨b, off, e, hb, hx, hc⟩ => ⟨b, off, e, hb, hx, fun j hj => (h.cell (p := ⟨b, off + j, none⟩) hb).trans (hc j hj)⟩
/-- the iterator that slices.Backward hands back -/
theorem backB_stops (F : Fence) (n : Nat) (h7 : F.fn 70) (hro : F.round = none) (hn : 1 ≤ n) (Bs n₀ x : Nat) (A : Option Addr) (cap : Nat) (fs : List UInt8) (hreach : fs.length ≤ 140737488355328) (w : World) (hBn : Bs < n₀) (hBx : Bs ≠ x) (hn₀ : n₀ ≤ w.heap.size)
    (hc : w.cell? ⟨Bs, 0, none⟩ = some (.slice A fs.length cap)) (hI : Byts n₀ x w A fs) :
    SeqStopsK F n Tryd.prog 70 #[.pointer (some ⟨Bs, 0, none⟩)] eBt (KpX n₀ x) (fun ys => ys = upto (bkB fs) fs.length) (fun pre => ∃ k, k ≤ fs.length ∧ pre = upto (bkB fs) k) fs.length w := fun l J Jx W hW _ _ hY h0 => by
  have hc' := (hW.cell (p := ⟨Bs, 0, none⟩) (Nat.lt_of_lt_of_le hBn hn₀)).trans hc
  obtain ⟨b, off, rfl, hb, hbx, hcs⟩ := hI.below (hW.mono hn₀)
  exact backB_in F n h7 hro hn l Bs n₀ x b off cap fs hreach hb hbx hBx J Jx hY W hc' hBn hcs h0
end Go.Proofs.YtifambgaekjilaaDoor.Rd
