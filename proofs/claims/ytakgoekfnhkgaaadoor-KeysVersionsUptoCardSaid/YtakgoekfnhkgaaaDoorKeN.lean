/- KeysVersions walked. Conditions: the world's shape; sizes at most 2^20. -/
import Derived.Test.YtakgoekfnhkgaaaDoorKeL
import Derived.Test.YtakgoekfnhkgaaaDoorRdL4
namespace Go.Proofs.YtakgoekfnhkgaaaDoor.Rd
open Go.Dn Go.RowKit
set_option linter.unusedVariables false
set_option linter.unusedSimpArgs false
set_option maxRecDepth 100000
section
variable {w : World} {A A1 A2 : Option Addr} {c c1 c2 B : Nat} {l l1 l2 : List UInt8}
theorem versL_len (k : List UInt8) (t : Int) : (versL k t).1.length ≤ 2 * k.length + 10 := by
  have := escL_len k
  unfold versL; split
  · simp
  · simp [bigL, be8]; omega
theorem splitL_len (l : List UInt8) : (splitL l).1.length ≤ l.length := by
  have h := unescL_len (l.take (l.length - 10))
  have h2 : (l.take (l.length - 10)).length ≤ l.length := List.length_take_le' _ _
  unfold splitL
  split
  · simp
  · split
    · split
      · simp only; omega
      · simp
    · simp
theorem wide_at {A12 : Option Addr} {c12 : Nat} {w12 : World} (o : OwnB w12 B TU8 A12 c12 (l ++ marks)) : Go.Dn.RB w12 (slA A12 0 c12 1) l ∧ l.length + 64 ≤ c12 ∧ ((slA A12 0 c12 1) = none → c12 - 0 = 0) := by
  have hlm : (l ++ marks).length = l.length + 64 := by rw [List.length_append, marks_length]
  have hle := o.le
  rw [hlm] at hle
  refine ⟨?_, hle, fun h => ?_⟩
  · have := rb_sl (f := 0) (k := l.length) o.reads o.le
    rw [List.drop_zero, List.take_left] at this; exact this
  · rw [slA0] at h
    have := o.nil0 h
    omega
set_option maxHeartbeats 1000000 in
theorem KeysVersionsUpto_row (hS : w.ShapedOpen Tryd.prog) (hr : Go.Dn.RB w A l) (hz : A = none → c = 0) (hc : l.length ≤ c) (hl : l.length ≤ 1048576) {t : Int} (ht : (Lit.int .i64 t).wf = true) (hr2 : Go.Dn.RB w A2 l2) (hz2 : A2 = none → c2 = 0) (hc2 : l2.length ≤ c2) (hl2 : l2.length ≤ 1048576) :
    Calls Tryd.prog 4 #[.slice A l.length c, .int .i64 t, .slice A2 l2.length c2] w fun r w' => r = .returned (.bool true) ∧ Below w.heap.size w w' := by
  apply f_law04_KeysVersions.ok
  unfold f_law04_KeysVersions.wp
  have hM := mx_of hS
  have htt := wf_i64 ht
  refine (alive_ok hM).mono ?_
  rintro _ w1 ⟨rfl, g1⟩
  have s1 := g1.size
  refine ⟨_, rfl, sel_f rfl ((Wide_ok (hr.below g1 (Nat.le_refl _)) (by omega)).mono ?_)⟩
  rintro _ w2 ⟨A3, c3, rfl, o3, g3⟩
  have s3 := g3.size
  obtain ⟨r3, hle3, hn3⟩ := wide_at o3
  have vl := versL_len l t
  refine ⟨_, _, _, rfl, req_intro (by simp; omega) ?_⟩
  rw [Int.toNat_natCast]
  refine (Version_ok (c0 := c3 - 0) (t := t) r3 hn3 (by omega) (by omega) htt).mono ?_
  rintro _ w4 ⟨A4, c4, rfl, o4, g4⟩
  have s4 := g4.size
  refine ⟨_, _, _, _, rfl, req_intro (by simp; omega) ((Version_ok (c0 := c3 - 0) (t := t) (r3.below g4 (Nat.le_refl _)) hn3 (by omega) (by omega) htt).mono ?_)⟩
  rintro _ w5 ⟨A5, c5, rfl, o5, g5⟩
  have s5 := g5.size
  have c25 : Below w.heap.size w w5 := ((g1.trans (g3.mono s1)).trans (g4.mono (by omega))).trans (g5.mono (by omega))
  refine ⟨_, _, _, _, rfl, (RVersion_ok (t := t) (hr.below c25 (Nat.le_refl _)) (by omega) htt).mono ?_⟩
  rintro _ w6 ⟨A6, c6, rfl, o6, g6⟩
  have s6 := g6.size
  have f46 : Below w4.heap.size w4 w6 := g5.trans (g6.mono s5)
  have dj54 : Dj A5 A4 := Dj_of o4 o5
  have dj64 : Dj A6 A4 := fun a1 a2 q1 q2 => by have := o6.block a1 q1; have := o4.block a2 q2; omega
  refine ⟨_, _, _, _, rfl, sel_f (by simp) ((Apart_keeps (o4.keep f46) (o5.keep g6).reads o6.reads rfl rfl rfl (by omega) (by omega) dj54 dj64 (by omega)).mono ?_)⟩
  rintro _ w7 ⟨rfl, k7⟩
  have s7 := k7.size
  have b67 : Below w2.heap.size w6 w7 := k7.below (by omega) fun k hk e => by
    obtain ⟨a, ha, hb⟩ := ownBlock_of.1 e
    have := o4.block a ha
    omega
  have f27 : Below w2.heap.size w2 w7 := (g4.trans (f46.mono s4)).trans b67
  have c7 : Below w.heap.size w w7 := (g1.trans (g3.mono s1)).trans (f27.mono (by omega))
  refine ⟨_, rfl, sel_f (by simp) ((Intact_ok (o3.reads.below f27 (Nat.le_refl _)) (hr.below c7 (Nat.le_refl _)) (by omega) rfl).mono ?_)⟩
  rintro _ w8 ⟨rfl, g8⟩
  have s8 := g8.size
  have c8 : Below w.heap.size w w8 := c7.trans (g8.mono (by omega))
  refine ⟨_, rfl, sel_f rfl ((Wide_ok (hr2.below c8 (Nat.le_refl _)) (by omega)).mono ?_)⟩
  rintro _ w9 ⟨A9, c9, rfl, o9, g9⟩
  have s9 := g9.size
  have c9' : Below w.heap.size w w9 := c8.trans (g9.mono (by omega))
  obtain ⟨r9, hle9, hn9⟩ := wide_at o9
  refine ⟨_, _, _, rfl, req_intro (by simp; omega) ?_⟩
  rw [Int.toNat_natCast]
  refine (Split_ok (c := c9 - 0) r9 hn9 (by omega) (by omega) (hM.below c9')).mono ?_
  rintro _ w10 ⟨A10, c10, rfl, o10, g10⟩
  have s10 := g10.size
  have c10' : Below w.heap.size w w10 := c9'.trans (g10.mono (by omega))
  refine ⟨_, _, _, _, _, rfl, ?_⟩
  unfold f_law04_KeysVersions.j0
  refine req_intro (by simp; omega) ?_
  rw [Int.toNat_natCast]
  refine (Split_ok (c := c9 - 0) (r9.below g10 (Nat.le_refl _)) hn9 (by omega) (by omega) (hM.below c10')).mono ?_
  rintro _ w11 ⟨A11, c11, rfl, o11, g11⟩
  have s11 := g11.size
  have c11' : Below w.heap.size w w11 := c10'.trans (g11.mono (by omega))
  refine ⟨_, _, _, _, _, rfl, (RSplit_ok (c := c2) (hr2.below c11' (Nat.le_refl _)) (by omega)).mono ?_⟩
  rintro _ w12 ⟨A12, c12, rfl, o12, g12⟩
  have s12 := g12.size
  have sl := splitL_len l2
  rw [← split_same l2] at o12 ⊢
  have f1012 : Below w10.heap.size w10 w12 := g11.trans (g12.mono s11)
  have dj1 : Dj A11 A10 := Dj_of o10 o11
  have dj2 : Dj A12 A10 := fun a1 a2 q1 q2 => by have := o12.block a1 q1; have := o10.block a2 q2; omega
  refine ⟨_, _, _, _, _, rfl, sel_t (by simp) (sel_t (by simp) ((Apart_keeps (o10.keep f1012) (o11.keep g12).reads o12.reads rfl rfl rfl (by omega) (by omega) dj1 dj2 (by omega)).mono ?_))⟩
  rintro _ w13 ⟨rfl, k13⟩
  have s13 := k13.size
  have b13 : Below w9.heap.size w12 w13 := k13.below (by omega) fun k hk e => by
    obtain ⟨a, ha, hb⟩ := ownBlock_of.1 e
    have := o10.block a ha
    omega
  have f913 : Below w9.heap.size w9 w13 := (g10.trans (f1012.mono s10)).trans b13
  have c13 : Below w.heap.size w w13 := c9'.trans (f913.mono (by omega))
  refine ⟨_, rfl, sel_t (by simp) ((Intact_ok (o9.reads.below f913 (Nat.le_refl _)) (hr2.below c13 (Nat.le_refl _)) (by omega) rfl).mono ?_)⟩
  rintro _ w14 ⟨rfl, g14⟩
  exact ⟨_, rfl, fun _ => ⟨rfl, c13.trans (g14.mono (by omega))⟩⟩
end
end Go.Proofs.YtakgoekfnhkgaaaDoor.Rd
