/- page.low: a number read, the lowest byte first. Conditions: at most eight bytes. -/
import Derived.Test.YtifambgaekjilaaDoorPgF
import Derived.Test.YtifambgaekjilaaDoorRfD
import Derived.Test.YtifambgaekjilaaDoorRdP
import Derived.Test.YtifambgaekjilaaDoorCsD
namespace Go.Proofs.YtifambgaekjilaaDoor.Rd
open Go.RowKit Go.Shelf Go.Dn
attribute [local go_sem] Oper.semAt_some
set_option linter.unusedVariables false
set_option linter.unusedSimpArgs false
theorem u64w (x : Int) : IntKind.u64.wrap x = x % 18446744073709551616 := by simp [IntKind.wrap, IntKind.bits, IntKind.signed]
theorem bv64 (n : Nat) (h : n < 18446744073709551616) : (BitVec.ofInt 64 (n : Int)).toNat = n := by simp [BitVec.toNat_ofInt]; omega
theorem bAt_get {d : List UInt8} {j : Nat} (h : j < d.length) : bAt d j = d[j] := by
  unfold bAt
  rw [List.getD_eq_getElem?_getD, List.getElem?_eq_getElem h, Option.getD_some]
theorem backB_call (n : Nat) (A : Option Addr) (len cap : Nat) (w : World) :
    CallsIn Fence.wide n Tryd.prog 54 #[.slice A len cap] w fun e w' => e = .returned (.func (.func 70) #[] #[.pointer (some ⟨w.heap.size, 0, none⟩)]) ∧ w' = w.alloc (.cells #[.slice A len cap] 22) := by
  refine callsIn_wide.2 ?_
  apply f_slices_Backward_byte_byte_Back.ok
  unfold f_slices_Backward_byte_byte_Back.wp
  exact alW_intro ⟨rfl, rfl⟩
/-- what stands between two rounds -/
def valS (l : List UInt8) : Nat := l.foldl (fun u b => u * 256 + b.toNat) 0
def stP (w1 : World) (pre : List (Nat × UInt8)) (W : World) : Prop :=
  Boxed W w1.heap.size 57 (.int .u64 (valS (pre.map (·.2)) : Int)) ∧ Below w1.heap.size w1 W ∧ w1.heap.size + 2 ≤ W.heap.size
theorem valS_lt (l : List UInt8) : valS l < 256 ^ l.length := by
  suffices h : ∀ (l : List UInt8) (u : Nat), l.foldl (fun u b => u * 256 + b.toNat) u < (u + 1) * 256 ^ l.length by
    have := h l 0; simpa [valS] using this
  intro l
  induction l with
  | nil => intro u; simp
  | cons b l ih =>
    intro u
    have := ih (u * 256 + b.toNat)
    have hb := b.toNat_lt
    rw [List.foldl_cons, List.length_cons, Nat.pow_succ]
    refine Nat.lt_of_lt_of_le this ?_
    have : (u * 256 + b.toNat + 1) * 256 ^ l.length ≤ (u + 1) * 256 * 256 ^ l.length := Nat.mul_le_mul_right _ (by omega)
    rw [Nat.mul_assoc] at this
    rw [Nat.mul_comm (256 ^ l.length) 256]
    exact this
theorem valS_snoc (l : List UInt8) (b : UInt8) : valS (l ++ [b]) = valS l * 256 + b.toNat := by simp [valS]
theorem or_byte (u : Nat) (b : UInt8) (h : u < 72057594037927936) : bits BinOp.or IntKind.u64 (IntKind.u64.wrap ((u : Int) * 256)) (IntKind.u64.wrap (b.toNat : Int)) = ((u * 256 + b.toNat : Nat) : Int) := by
  have hb := b.toNat_lt
  rw [u64w, u64w]
  have e1 : ((u : Int) * 256) % 18446744073709551616 = ((u * 256 : Nat) : Int) := by omega
  have e2 : ((b.toNat : Int)) % 18446744073709551616 = ((b.toNat : Nat) : Int) := by omega
  rw [e1, e2]
  show IntKind.u64.wrap (((BitVec.ofInt 64 ((u * 256 : Nat) : Int)) ||| BitVec.ofInt 64 ((b.toNat : Nat) : Int)).toNat : Int) = _
  rw [BitVec.toNat_or, bv64 _ (by omega), bv64 _ (by omega), u64w]
  have e3 : u * 256 ||| b.toNat = u * 256 + b.toNat := by
    have := Nat.shiftLeft_add_eq_or_of_lt (i := 8) (b := b.toNat) (by omega) u
    rw [Nat.shiftLeft_eq] at this
    exact this.symm
  rw [e3]
  omega
theorem ne_rowP {W : World} {b N : Nat} {cs : Array Value} {t : TypeId} {row : Option Nat} (h : W.heap[b]? = some (.cells cs t)) (hr : ∀ r, row = some r → N ≤ r ∧ ∃ o : Obj, W.heap[r]? = some o ∧ o.isCells = false) : some b ≠ row := fun e => by
  obtain ⟨_, o, ho, hc⟩ := hr b e.symm
  rw [h] at ho; cases ho; cases hc
theorem stP_own {w1 : World} {N : Nat} (hN : w1.heap.size ≤ N) : OwnFrom N (stP w1) := by
  rintro pre X Y row ⟨b1, b2, b3⟩ hg hr
  have hrow : ∀ b, b < w1.heap.size → some b ≠ row := fun b hb e => by have := (hr b e.symm).1; omega
  refine ⟨b1.kept hg (ne_rowP b1 hr), ⟨hg.os.trans b2.os, hg.tape.trans b2.tape, hg.output.trans b2.output, Nat.le_trans b2.size hg.size, fun k hk => (hg.block k (Nat.lt_of_lt_of_le hk b2.size) (hrow k hk)).trans (b2.block k hk)⟩, Nat.le_trans b3 hg.size⟩
theorem upto_bkB (fs : List UInt8) : (upto (bkB fs) fs.length).map (·.2) = fs.reverse := by
  apply List.ext_getElem
  · simp [upto_length]
  · intro i h1 h2
    simp only [upto, List.getElem_map, List.getElem_range, bkB, List.getElem_reverse]
    rw [bAt_get]

set_option maxRecDepth 100000 in
set_option maxHeartbeats 8000000 in
theorem low_in {w : World} {g off cap : Nat} {l : List UInt8} (hr : Go.Dn.RB w (some ⟨g, off, none⟩) l) (hl : l.length ≤ 8) (hg : g < w.heap.size) :
    CallsIn Fence.wide 9 Tryd.prog 32 #[.slice (some ⟨g, off, none⟩) l.length cap] w fun e w' => e = .returned (.int .u64 (valS l.reverse : Int)) ∧ Below w.heap.size w w' := by
  refine callsIn_of_wp_marks Tryd.func32 rfl trivial ?_ rfl
  simp only [Tryd.ntmps32, List.size_toArray, List.length_cons, List.length_nil, Nat.reduceAdd, Nat.reduceSub, Array.replicate_succ, Array.replicate_zero, List.push_toArray, List.append_toArray, List.nil_append, List.cons_append]
  gi_wp2_with (first | (refine ⟨trivial, ?_⟩; refine (backB_call _ _ _ _ _).mono ?_; rintro e w' ⟨rfl, rfl⟩) | gi_in)
  obtain ⟨W0, hW0⟩ : ∃ W0, ((w.alloc (.cells #[.int .u64 0] 57)).alloc (.cells #[.slice (some ⟨g, off, none⟩) l.length cap] 22)) = W0 := ⟨_, rfl⟩
  have bK : Boxed W0 w.heap.size 57 (.int .u64 0) := by rw [← hW0]; exact (Boxed.new w 57 (.int .u64 0)).alloc _
  have bS : Boxed W0 (w.heap.size + 1) 22 (.slice (some ⟨g, off, none⟩) l.length cap) := by
    have := Boxed.new (w.alloc (.cells #[.int .u64 0] 57)) 22 (.slice (some ⟨g, off, none⟩) l.length cap)
    rw [World.size_alloc, hW0] at this
    exact this
  have hsz : W0.heap.size = w.heap.size + 2 := by rw [← hW0]; simp
  have gW : Below w.heap.size w W0 := by rw [← hW0]; exact ((Below.refl _ _).alloc (Nat.le_refl _) _).alloc (by simp) _
  rw [hW0]
  have hby : Byts (w.heap.size + 2) w.heap.size W0 (some ⟨g, off, none⟩) l := ⟨g, off, rfl, by omega, by omega, fun j hj => by
    obtain ⟨a, ha, hc⟩ := hr j hj
    cases ha
    rw [add_mk] at hc
    have := (gW.cell (p := ⟨g, off + j, none⟩) hg).trans hc
    rw [this, bAt_get hj]; rfl⟩
  refine wpIn_rangeFunc_ownH (F := Fence.wide) rfl (by omega) (gf := 70) (lb := #[.pointer (some ⟨w.heap.size + 1, 0, none⟩)]) rfl trivial (enters_of Tryd.func70 (by kernel_rfl) rfl)
    (backB_stops Fence.wide 8 trivial rfl (by omega) (w.heap.size + 1) (w.heap.size + 2) w.heap.size (some ⟨g, off, none⟩) cap l (by omega) W0 (by omega) (by omega) (by omega) bS.cell hby) (fun h k => h.trans k) (fun W l o o' hl _ _ _ => KpX.put W l o' (by omega)) (Below.refl _ _) (fun _ => rfl)
    (stP w)
    (fun _ _ _ => False)
    ?own (fun _ _ _ _ _ hs _ _ => hs) ⟨bK, gW, by omega⟩
    (fun x a' W => a' = { tmps := #[.slice (some ⟨g, off, none⟩) l.length cap, undef, .int .u64 0, .pointer (some ⟨w.heap.size, 0, none⟩), undef, .int .u8 (x.2.toNat : Int), .slice (some ⟨g, off, none⟩) l.length cap, .func (.func 70) #[] #[.pointer (some ⟨w.heap.size + 1, 0, none⟩)], .int .i64 (x.1 : Int), .int .u8 (x.2.toNat : Int), undef, undef, undef, undef, undef, undef], defers := [] })
    ?ownA ?assign ?body ?done ?stop
  case own => exact stP_own (by omega)
  case ownA => rintro x a' _ X Y row h hg hr; exact h
  case assign =>
    rintro l' pre x W K hS hK
    gi_wp2
    exact hK _ _ (KeepsFrom.refl _ _) (KpX.refl _ _ _) hS rfl
  case body =>
    rintro l' pre x a' W hl' ⟨r, hr'⟩ ⟨b1, b2, b3⟩ rfl hlt
    have cK := b1.cell
    have fK := b1.frozen
    have hv : valS (pre.map (·.2)) < 72057594037927936 := by
      have h1 := valS_lt (pre.map (·.2))
      rw [List.length_map] at h1
      have h2 : 256 ^ pre.length ≤ 256 ^ 7 := Nat.pow_le_pow_right (by decide) (by omega)
      exact Nat.lt_of_lt_of_le h1 h2
    have hval : bits BinOp.or IntKind.u64 ((valS (pre.map (·.2)) : Int) * 256) (IntKind.u64.wrap (x.2.toNat : Int)) = (valS ((pre ++ [x]).map (·.2)) : Int) := by
      rw [List.map_append, List.map_cons, List.map_nil, valS_snoc, ← or_byte _ _ hv]
      congr 1
      rw [u64w]
      omega
    gi_wp2
    refine ⟨(KeepsOthers.setCell _ _ _).from _, KpX.set _ _ _, ?_, b2.setCell (by show w.heap.size ≤ w.heap.size; omega) _, by simpa using b3⟩
    rw [List.map_append]
    exact b1.set _
  case done =>
    rintro D' xs W hD' rfl ⟨b1, b2, b3⟩ hK
    have hD : D' ≠ w.heap.size := by omega
    rw [upto_bkB] at b1
    have cK := b1.cell
    simp only [Exit.inBlock, Exit.then]
    rename_i K hKk
    refine hKk _ _ ?_
    refine post_wp (hT := hT) (f_page_low_Post.j0_snd _ (by kernel_rfl)) rfl rfl ?_
    unfold f_page_low_Post.j0T
    refine gAd_i (a := ⟨w.heap.size, 0, none⟩) rfl ?_
    unfold f_page_low_Post.j0
    refine ldI_intro cK fun d => ?_
    have hKs : D' < W.heap.size := (Array.getElem?_eq_some_iff.1 hK).1
    exact ⟨hK, rfl, b2.trans (below_put _ _ (by omega))⟩
  case stop =>
    rintro D' c pre W _ _ h _
    exact h.elim
theorem low_ok {w : World} {A : Option Addr} {n cap : Nat} {l : List UInt8} (hr : Go.Dn.RB w A l) (hn : n = l.length) (hl : l.length ≤ 8) (h0 : 0 < l.length) (hs : ∀ a, A = some a → a.spot = none) :
    Calls Tryd.prog 32 #[.slice A n cap] w fun e w' => e = .returned (.int .u64 (valS l.reverse : Int)) ∧ Below w.heap.size w w' := by
  subst hn
  obtain ⟨a, rfl, hc⟩ := hr 0 h0
  obtain ⟨g, off, sp⟩ := a
  have : sp = none := hs _ rfl
  subst this
  exact callsIn_wide.1 (low_in hr hl (World.block_lt_of_cell? _ _ hc))
end Go.Proofs.YtifambgaekjilaaDoor.Rd
