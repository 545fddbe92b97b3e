/- bytes.ReplaceAll of one byte; versions of keys. Conditions: sizes below 2^24. -/
import Derived.Test.YtakgoekfnhkgaaaDoorKeC
namespace Go.Proofs.YtakgoekfnhkgaaaDoor.Rd
open Go.Dn Go.RowKit Go.Lib
set_option linter.unusedVariables false
set_option linter.unusedSimpArgs false
set_option maxRecDepth 100000
def nums (l : List UInt8) : List Int := l.map fun b => (b.toNat : Int)
theorem bytesOf_nums (l : List UInt8) : bytesOf (nums l) = l := by
  unfold bytesOf nums
  rw [List.map_map]
  conv => rhs; rw [← List.map_id l]
  apply List.map_congr_left
  intro b _
  simp
theorem nums_getD (l : List UInt8) (i : Nat) (h : i < l.length) : (nums l).getD i 0 = (l[i].toNat : Int) := by
  unfold nums
  rw [List.getD_eq_getElem?_getD, List.getElem?_map, List.getElem?_eq_getElem h]; rfl
section
variable {w w0 : World} {A0 A1 A2 : Option Addr} {c0 c1 c2 : Nat} {l o nw last : List UInt8} {segs : List (List UInt8)}
theorem rb_lt {A : Option Addr} {l : List UInt8} (h : Go.Dn.RB w A l) (h0 : 0 < l.length) : ∀ a, A = some a → a.block < w.heap.size := fun a ha => by
  obtain ⟨a', ha', hc⟩ := h 0 h0
  rw [ha] at ha'; cases ha'
  have := World.block_lt_of_cell? _ _ hc
  rw [Go.Dn.add_block] at this; exact this
theorem Count_one {v : UInt8} (r0 : Go.Dn.RB w A0 l) (r1 : Go.Dn.RB w A1 [v]) : Calls Tryd.prog 76 #[.slice A0 l.length c0, .slice A1 1 c1] w fun e w' => e = .returned (.int .i64 (l.count v : Int)) ∧ Below w.heap.size w w' := by
  apply f_bytes_Count.ok
  unfold f_bytes_Count.wp
  obtain ⟨a1, ea1, hc1⟩ := r1 0 (by simp)
  refine sel_f rfl (sel_t rfl (optB_some ea1 (req_intro (by decide) (ldI_intro (x := (v.toNat : Int)) hc1 ?_))))
  have hv : ((v.toNat : Int)).toNat.toUInt8 = v := by simp
  have hr : (callFunc 85 #[.slice A0 l.length c0, .int .u8 (v.toNat : Int)]).run Tryd.prog w = .ok (.value (.int .i64 (l.count v : Int))) w := by
    rw [run_callFunc_extern (P := Tryd.prog) Tryd.func85 (by kernel_rfl) (by kernel_rfl) (by kernel_rfl) (e := Extern.BytealgCount.count) (by kernel_rfl)]
    cases A0 with
    | none =>
      have : l = [] := rb_none r0
      subst this
      rw [run_countNil w]; rfl
    | some a =>
      rw [run_countAt w a l.length c0 (nums l) (by simp [nums]) (fun i hi => by
        obtain ⟨a', ha, hc⟩ := r0 i hi
        injection ha with ha; subst ha
        rw [hc, nums_getD l i hi]; rfl) (v.toNat : Int), bytesOf_nums, hv]
      rfl
  exact runs_of hr ⟨_, rfl, rfl, Below.refl _ _⟩
theorem Index_one {v : UInt8} {l : List UInt8} {c : Nat} (r0 : Go.Dn.RB w A0 l) (hl : 0 < l.length) (r1 : Go.Dn.RB w A1 [v]) : Calls Tryd.prog 77 #[.slice A0 l.length c, .slice A1 1 c1] w fun e w' => e = .returned (.int .i64 (indexByte l v)) ∧ Below w.heap.size w w' := by
  apply f_bytes_Index.ok
  unfold f_bytes_Index.wp
  obtain ⟨a1, ea1, hc1⟩ := r1 0 (by simp)
  obtain ⟨a0, ea0, hc0⟩ := r0 0 hl
  refine sel_f rfl (sel_t rfl (optB_some ea1 (req_intro (by decide) (ldI_intro (x := (v.toNat : Int)) hc1 (f_bytes_IndexByte.ok _ _ _ _ _ _ ?_)))))
  unfold f_bytes_IndexByte.wp
  have hv : ((v.toNat : Int)).toNat.toUInt8 = v := by simp
  have hsp : a0.spot = none := by
    obtain ⟨_, _, _, _, h⟩ := World.shape?_of_cell? hc0
    exact h
  obtain ⟨g, f, sp⟩ := a0
  have hsp : sp = none := hsp
  subst hsp
  have hr : (callFunc 99 #[.slice A0 l.length c, .int .u8 (v.toNat : Int)]).run Tryd.prog w = .ok (.value (.int .i64 (indexByte l v))) w := by
    rw [run_callFunc_extern (P := Tryd.prog) Tryd.func99 (by kernel_rfl) (by kernel_rfl) (by kernel_rfl) (e := Extern.BytealgIndexByte.indexByte) (by kernel_rfl), ea0]
    rw [run_indexByteSlice w g f l.length c (nums l) (by simp [nums]) (fun i hi => by
        obtain ⟨a', ha, hc⟩ := r0 i hi
        rw [ea0] at ha
        injection ha with ha; subst ha
        rw [add_mk] at hc
        rw [hc, nums_getD l i hi]; rfl) (v.toNat : Int), bytesOf_nums, hv]
    rfl
  exact runs_of hr ⟨_, rfl, _, rfl, rfl, Below.refl _ _⟩
set_option maxHeartbeats 1000000 in
theorem Replace_ok {Z : World → Prop} (hZ : ∀ g a b, w.heap.size ≤ g → Z a → Keeps (fun k => k = g) a b → Z b) (hZ0 : Z w) (r0 : Go.Dn.RB w A0 l) (hz : A0 = none → c0 = 0) (hc : l.length ≤ c0) (r1 : Go.Dn.RB w A1 o) (ho : 0 < o.length) (r2 : Go.Dn.RB w A2 nw) (hnw : 0 < nw.length) (hJ : l = J o segs last) (hsz : (J nw segs last).length ≤ 16777216) (hsl : l.length ≤ 16777216)
    (hcount : Calls Tryd.prog 76 #[.slice A0 l.length c0, .slice A1 o.length c1] w fun e w' => e = .returned (.int .i64 (segs.length : Int)) ∧ Below w.heap.size w w') (hidx : Idx Z A0 A1 c0 c1 l o segs last) :
    Calls Tryd.prog 67 #[.slice A0 l.length c0, .slice A1 o.length c1, .slice A2 nw.length c2, .int .i64 (-1)] w fun e w' => ∃ A c, e = .returned (.slice A (J nw segs last).length c) ∧ OwnB w' w.heap.size TU8 A c (J nw segs last) ∧ Below w.heap.size w w' := by
  apply f_bytes_Replace.ok
  unfold f_bytes_Replace.wp
  refine sel_t rfl (hcount.mono ?_)
  rintro _ w1 ⟨rfl, g1⟩
  have q0 := r0.below g1 (Nat.le_refl _)
  have q1 := r1.below g1 (Nat.le_refl _)
  have q2 := r2.below g1 (Nat.le_refl _)
  have sz1 := g1.size
  refine ⟨_, rfl, ?_⟩
  unfold f_bytes_Replace.j0
  by_cases h0 : segs = []
  · subst h0
    have e1 : l = last := hJ
    subst e1
    have on : OwnB w1 w.heap.size TU8 none 0 [] := World.ownsRow_nil _ _ _ _
    refine sel_t rfl (app_runs TBy (l := []) on rfl q0 rfl (fun h => ⟨by rw [h] at q0; rw [rb_none q0]; rfl, hz h⟩) sz1 (by simp; omega) fun A' c' w' o' g' _ _ => ⟨_, _, _, rfl, fun _ => ⟨_, _, rfl, ?_, g1.trans g'⟩⟩)
    simpa [J] using o'
  have hpos : 0 < segs.length := List.length_pos_iff.2 h0
  refine sel_f (by simp; omega) (sel_t rfl ?_)
  unfold f_bytes_Replace.j1
  have hl := J_len o segs last
  have hN := J_len nw segs last
  rw [← hJ] at hl
  obtain ⟨X, hX⟩ : ∃ X, segs.length * o.length = X := ⟨_, rfl⟩
  obtain ⟨Y, hY⟩ : ∃ Y, segs.length * nw.length = Y := ⟨_, rfl⟩
  have hXp : segs.length ≤ X := by rw [← hX]; exact Nat.le_mul_of_pos_right _ ho
  have hYp : nw.length ≤ Y := by rw [← hY]; exact Nat.le_mul_of_pos_left _ hpos
  have hXo : o.length ≤ X := by rw [← hX]; exact Nat.le_mul_of_pos_left _ hpos
  rw [hX] at hl
  rw [hY] at hN
  obtain ⟨N, hNN⟩ : ∃ N, (J nw segs last).length = N := ⟨_, rfl⟩
  rw [hNN] at hN hsz ⊢
  have em : (segs.length : Int) * ((nw.length : Int) - (o.length : Int)) = (Y : Int) - (X : Int) := by
    rw [Int.mul_sub, ← hX, ← hY]
    simp
  have ez : IntKind.i64.wrap ((l.length : Int) + IntKind.i64.wrap ((segs.length : Int) * IntKind.i64.wrap ((nw.length : Int) - (o.length : Int)))) = (N : Int) := by
    rw [w64_in (x := (nw.length : Int) - (o.length : Int)) (by omega), em, w64_in (x := (Y : Int) - (X : Int)) (by omega), w64_in (by omega)]; omega
  rw [ez]
  refine mk_bytes hsz fun w2 h2 g2 _ => ⟨_, _, _, rfl, sel_t (by simp; omega) ⟨segs.length + 1, ?_⟩⟩
  obtain ⟨g, hg⟩ : ∃ g, w1.heap.size = g := ⟨_, rfl⟩
  rw [hg] at h2 ⊢
  have d0 : ∀ a, A0 = some a → a.block ≠ g := fun a ha => by have := rb_lt q0 (by omega) a ha; omega
  have d1 : ∀ a, A1 = some a → a.block ≠ g := fun a ha => by have := rb_lt q1 ho a ha; omega
  have d2 : ∀ a, A2 = some a → a.block ≠ g := fun a ha => by have := rb_lt q2 hnw a ha; omega
  have g2' : Below w1.heap.size w1 w2 := by rw [hg]; rw [hg] at g2; exact g2
  have fin := Repl_l2 (X := Z) (hZ g · · (by omega)) (hZ g _ _ (by omega) hZ0 ((Keeps.of_below g1).trans (.of_below g2'))) (w0 := w2) (A0 := A0) (A1 := A1) (A2 := A2) (c0 := c0) (c1 := c1) (c2 := c2) (g := g) (N := N) (l := l) (o := o) (nw := nw) (last := last) (segs := segs) (M := segs.length) hc (by omega) (by omega) hidx
    (K0 := fun (x21 : Int) (x22 : Int) (w23 : World) => ∀ _ : Fr, f_bytes_Replace.j3 A0 l.length c0 (some ⟨g, 0, none⟩) N N x21 x22 w23 (fun (A29 : Option Addr) (n29 : Nat) (c29 : Nat) (w30 : World) => ∀ _ : Fr, (fun (A52 : Option Addr) (n52 : Nat) (c52 : Nat) (w53 : World) => ∀ _ : Fr, (fun (A58 : Option Addr) (n58 : Nat) (c58 : Nat) (w59 : World) => ∀ _ : Fr, ∃ A c, (Ending.returned (.slice A58 n58 c58)) = .returned (.slice A N c) ∧ OwnB w59 w.heap.size TU8 A c (J nw segs last) ∧ Below w.heap.size w w59) A52 n52 c52 w53) A29 n29 c29 w30))
    segs 0 0 0 w2 (List.replicate N 0) (by omega) (by omega) (List.suffix_refl _) (by rw [List.drop_zero]; exact hJ) (Nat.zero_le _) h2 (by simp) (by omega) (q0.below g2' (Nat.le_refl _)) (q1.below g2' (Nat.le_refl _)) (q2.below g2' (Nat.le_refl _)) d0 d1 d2 (.refl _ _) fun w3 cur3 q3 p3 b3 l3 e3 dp3 hp3 t3 r3 k3 _ => ?_
  · exact fin
  unfold f_bytes_Replace.j3
  refine drW_intro ?_
  have gd : Below w3.heap.size w3 w3.drew := (Below.refl _ _).drew
  have b4 := b3.below gd
  have r4 := r3.below gd (Nat.le_refl _)
  refine req_intro (by simp; omega) (req_intro (by simp; omega) ?_)
  rw [Int.toNat_natCast, Int.toNat_natCast]
  have rl : Go.Dn.RB w3.drew (slA A0 p3 c0 1) last := by
    have := rb_sl (f := p3) (k := l.length - p3) r4 hc
    rw [dp3, List.take_of_length_le (by rw [← dp3, List.length_drop]; omega)] at this; exact this
  have hlast : last.length = l.length - p3 := by rw [← dp3, List.length_drop]
  refine copy_at b4 l3 hlast.symm rl (by omega) fun w5 cur5 b5 l5 t5 k5 => ⟨_, rfl, ?_⟩
  have ez2 : IntKind.i64.wrap ((q3 : Int) + (last.length : Int)) = (N : Int) := by rw [w64_in (by omega)]; omega
  rw [ez2]
  refine req_intro (by simp) (req_intro (by simp) ?_)
  intro _ _ _
  rw [Int.toNat_natCast, Nat.sub_zero, slA_some (by omega)]
  have hcur : cur5 = J nw segs last := by
    have : cur5.take (q3 + last.length) = cur5 := List.take_of_length_le (by omega)
    rw [this] at t5
    rw [t5, t3]; simp
  have gg : Below w.heap.size w w5 := (g1.trans (g2'.mono sz1)).trans (((k3.trans (.of_below gd)).trans k5).below (by have := g2'.size; omega) fun k hk e => by omega)
  rw [hcur] at b5 l5
  exact ⟨_, _, rfl, b5.own l5 (by omega) (by omega), gg⟩
end
end Go.Proofs.YtakgoekfnhkgaaaDoor.Rd
