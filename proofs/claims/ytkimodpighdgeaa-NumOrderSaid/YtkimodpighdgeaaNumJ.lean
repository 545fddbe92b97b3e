/- The statement NumOrder, walked. -/
import Derived.Test.YtkimodpighdgeaaNumI
namespace Go.Proofs.Ytkimodpighdgeaa.Rd
open Go.Dn Go.RowKit
set_option linter.unusedVariables false
set_option linter.unusedSimpArgs false

theorem st_row {w : World} {B e g j : Nat} {l : List UInt8} {b : UInt8} {K : World → Prop} (ho : OwnB w B e (some ⟨g, 0, none⟩) 8 l) (hl : l.length = 8) (hj : j < 8)
    (hK : ∀ w', OwnB w' B e (some ⟨g, 0, none⟩) 8 (l.set j b) → w.grownBy w' (some g) → K w') : stW w ⟨g, j, none⟩ (.int .u8 (b.toNat : Int)) K := by
  obtain ⟨_, ha, hc⟩ := ho.reads j (by omega)
  injection ha with ha; subst ha
  rw [add_mk, Nat.zero_add] at hc
  have ho2 : w.ownsRow B e 1 (.slice (some ⟨g, 0, none⟩) 8 8) 8 (l.map byteV) := by
    have := ho; unfold OwnB at this; rw [hl] at this; exact this
  obtain ⟨hs, hgs⟩ := World.ownsRow.stored ho2 j (byteV b)
  refine stW_intro ⟨⟨_, hc⟩, World.ownsRow.frozenAt ho2 j⟩ (hK _ ?_ hgs)
  unfold OwnB
  rw [List.map_set, List.length_set, hl]; exact hs
theorem st8o {w : World} {B e g : Nat} {l : List UInt8} {b0 b1 b2 b3 b4 b5 b6 b7 : UInt8} {K : World → Prop} (ho : OwnB w B e (some ⟨g, 0, none⟩) 8 l) (hl : l.length = 8)
    (hK : ∀ w', OwnB w' B e (some ⟨g, 0, none⟩) 8 [b0, b1, b2, b3, b4, b5, b6, b7] → w.grownBy w' (some g) → K w') :
    stW w ⟨g, 0, none⟩ (.int .u8 (b0.toNat : Int)) fun w => stW w ⟨g, 1, none⟩ (.int .u8 (b1.toNat : Int)) fun w => stW w ⟨g, 2, none⟩ (.int .u8 (b2.toNat : Int)) fun w => stW w ⟨g, 3, none⟩ (.int .u8 (b3.toNat : Int)) fun w =>
    stW w ⟨g, 4, none⟩ (.int .u8 (b4.toNat : Int)) fun w => stW w ⟨g, 5, none⟩ (.int .u8 (b5.toNat : Int)) fun w => stW w ⟨g, 6, none⟩ (.int .u8 (b6.toNat : Int)) fun w => stW w ⟨g, 7, none⟩ (.int .u8 (b7.toNat : Int)) K := by
  refine st_row ho hl (by decide) fun w1 o1 g1 => ?_
  refine st_row o1 (by simpa using hl) (by decide) fun w2 o2 g2 => ?_
  refine st_row o2 (by simpa using hl) (by decide) fun w3 o3 g3 => ?_
  refine st_row o3 (by simpa using hl) (by decide) fun w4 o4 g4 => ?_
  refine st_row o4 (by simpa using hl) (by decide) fun w5 o5 g5 => ?_
  refine st_row o5 (by simpa using hl) (by decide) fun w6 o6 g6 => ?_
  refine st_row o6 (by simpa using hl) (by decide) fun w7 o7 g7 => ?_
  refine st_row o7 (by simpa using hl) (by decide) fun w8 o8 g8 => hK w8 ?_ (gb_trans (gb_trans (gb_trans (gb_trans (gb_trans (gb_trans (gb_trans g1 g2) g3) g4) g5) g6) g7) g8)
  match l, hl with
  | [_, _, _, _, _, _, _, _], _ => exact o8
theorem hd_byte {w : World} {g i : Nat} {l : List UInt8} {K : Int → Prop} (hr : RB w (some ⟨g, 0, none⟩) l) (hi : i < l.length) (hK : K (l[i].toNat : Int)) : hdI (fun w' => Below w.heap.size w w') ⟨g, i, none⟩ .u8 K := by
  refine ⟨_, fun w' hw => ?_, hK⟩
  obtain ⟨_, ha, hc⟩ := (hr.below hw (Nat.le_refl _)) i hi
  injection ha with ha; subst ha
  rw [add_mk, Nat.zero_add] at hc; exact hc
theorem NumOrder_walk {w : World} {a b : Int} (c0 c1 c2 c3 c4 c5 c6 c7 : UInt8) (ha : -9223372036854775808 ≤ a ∧ a ≤ 9223372036854775807) (hb : -9223372036854775808 ≤ b ∧ b ≤ 9223372036854775807) :
    Calls Try.prog 11 #[.int .i64 a, .int .i64 b, .agg #[.int .u8 (c0.toNat : Int), .int .u8 (c1.toNat : Int), .int .u8 (c2.toNat : Int), .int .u8 (c3.toNat : Int), .int .u8 (c4.toNat : Int), .int .u8 (c5.toNat : Int), .int .u8 (c6.toNat : Int), .int .u8 (c7.toNat : Int)]] w fun e w' => e = .returned (.bool true) ∧ Below w.heap.size w w' := by
  apply f_law01_NumOrder.ok
  unfold f_law01_NumOrder.wp
  refine alW_intro ?_
  have hc := OwnB.lit (w := w) (B := w.heap.size) (e := 57) [c0, c1, c2, c3, c4, c5, c6, c7] (cs := #[.int .u8 (c0.toNat : Int), .int .u8 (c1.toNat : Int), .int .u8 (c2.toNat : Int), .int .u8 (c3.toNat : Int), .int .u8 (c4.toNat : Int), .int .u8 (c5.toNat : Int), .int .u8 (c6.toNat : Int), .int .u8 (c7.toNat : Int)]) rfl (Nat.le_refl _) (by simp)
  have hb0 := (Below.refl w.heap.size w).alloc (Nat.le_refl _) (.cells #[.int .u8 (c0.toNat : Int), .int .u8 (c1.toNat : Int), .int .u8 (c2.toNat : Int), .int .u8 (c3.toNat : Int), .int .u8 (c4.toNat : Int), .int .u8 (c5.toNat : Int), .int .u8 (c6.toNat : Int), .int .u8 (c7.toNat : Int)] 57)
  generalize w.alloc (.cells #[.int .u8 (c0.toNat : Int), .int .u8 (c1.toNat : Int), .int .u8 (c2.toNat : Int), .int .u8 (c3.toNat : Int), .int .u8 (c4.toNat : Int), .int .u8 (c5.toNat : Int), .int .u8 (c6.toNat : Int), .int .u8 (c7.toNat : Int)] 57) = w0 at *
  have hs0 := hb0.size
  refine (alive_ok w0).mono ?_
  rintro e w1 ⟨rfl, hb1⟩
  refine ⟨_, rfl, sel_f rfl ?_⟩
  refine (Big_ok a ha).mono ?_
  rintro e w2 ⟨rfl, hb2'⟩
  have hua : (a + 9223372036854775808).toNat < 18446744073709551616 := by omega
  have hub : (b + 9223372036854775808).toNat < 18446744073709551616 := by omega
  have hxa : ((a + 9223372036854775808).toNat : Int) = a + 9223372036854775808 := by omega
  have hxb : ((b + 9223372036854775808).toNat : Int) = b + 9223372036854775808 := by omega
  generalize (a + 9223372036854775808).toNat = ua at *
  have hb2 := hb1.trans (hb2'.mono hb1.size)
  refine ⟨_, _, _, _, _, _, _, _, rfl, ?_⟩
  refine (Big_ok b hb).mono ?_
  rintro e w3 ⟨rfl, hb3'⟩
  generalize (b + 9223372036854775808).toNat = ub at *
  have hb3 := hb2.trans (hb3'.mono hb2.size)
  refine ⟨_, _, _, _, _, _, _, _, rfl, alW_intro ?_⟩
  have hx0 := OwnB.lit (w := w3) (B := w3.heap.size) (e := 57) [0, 0, 0, 0, 0, 0, 0, 0] (cs := #[.int .u8 0, .int .u8 0, .int .u8 0, .int .u8 0, .int .u8 0, .int .u8 0, .int .u8 0, .int .u8 0]) rfl (Nat.le_refl _) (by simp)
  have hb4' := (Below.refl w3.heap.size w3).alloc (Nat.le_refl _) (.cells #[.int .u8 0, .int .u8 0, .int .u8 0, .int .u8 0, .int .u8 0, .int .u8 0, .int .u8 0, .int .u8 0] 57)
  have hs4 : (w3.alloc (.cells #[.int .u8 0, .int .u8 0, .int .u8 0, .int .u8 0, .int .u8 0, .int .u8 0, .int .u8 0, .int .u8 0] 57)).heap.size = w3.heap.size + 1 := by simp
  generalize w3.alloc (.cells #[.int .u8 0, .int .u8 0, .int .u8 0, .int .u8 0, .int .u8 0, .int .u8 0, .int .u8 0, .int .u8 0] 57) = w4 at *
  have hb4 := hb3.trans (hb4'.mono hb3.size)
  refine alW_intro ?_
  have hy0 := OwnB.lit (w := w4) (B := w4.heap.size) (e := 57) [0, 0, 0, 0, 0, 0, 0, 0] (cs := #[.int .u8 0, .int .u8 0, .int .u8 0, .int .u8 0, .int .u8 0, .int .u8 0, .int .u8 0, .int .u8 0]) rfl (Nat.le_refl _) (by simp)
  have hb5' := (Below.refl w4.heap.size w4).alloc (Nat.le_refl _) (.cells #[.int .u8 0, .int .u8 0, .int .u8 0, .int .u8 0, .int .u8 0, .int .u8 0, .int .u8 0, .int .u8 0] 57)
  generalize w4.alloc (.cells #[.int .u8 0, .int .u8 0, .int .u8 0, .int .u8 0, .int .u8 0, .int .u8 0, .int .u8 0, .int .u8 0] 57) = w5 at *
  have hx1 := hx0.keep hb5'
  have hb5 := hb4.trans (hb5'.mono hb4.size)
  simp only [add_mk, Nat.zero_add]
  refine st8o hx1 rfl ?_
  intro w6 hx6 hg6
  refine st8o (hy0.only hg6 (fun a h hk => by injection h with h; subst h; injection hk with hk; simp at hk; omega)) rfl ?_
  intro w7 hy7 hg7
  have hx7 := hx6.only hg7 (fun a h hk => by injection h with h; subst h; injection hk with hk; simp at hk; omega)
  have hs3 := hb3.size
  have hs5 := hb5'.size
  have hb6 : Below w0.heap.size w0 w6 := hb5.trans (below_gb hg6 (by omega) fun k hk => by injection hk with hk; omega)
  have hs6 := hg6.size
  have hb7 : Below w0.heap.size w0 w7 := hb6.trans (below_gb hg7 (by omega) fun k hk => by injection hk with hk; omega)
  refine drW_intro ?_
  have hb8 := hb7.trans (Below.drw (B := w0.heap.size) (w := w7))
  have hx8 : RB w7.drew (some ⟨w3.heap.size, 0, none⟩) (be8 ua) := hx7.reads.below (Below.drw (B := w7.heap.size)) (Nat.le_refl _)
  have hy8 : RB w7.drew (some ⟨w4.heap.size, 0, none⟩) (be8 ub) := hy7.reads.below (Below.drw (B := w7.heap.size)) (Nat.le_refl _)
  have hc8 : RB w7.drew (some ⟨w.heap.size, 0, none⟩) [c0, c1, c2, c3, c4, c5, c6, c7] := hc.reads.below hb8 (Nat.le_refl _)
  generalize w7.drew = w8 at *
  have hsl1 : slB (⟨w3.heap.size, 0, none⟩ : Addr) 0 8 1 = ⟨w3.heap.size, 0, none⟩ := rfl
  have hsl2 : slB (⟨w4.heap.size, 0, none⟩ : Addr) 0 8 1 = ⟨w4.heap.size, 0, none⟩ := rfl
  rw [hsl1, hsl2]
  refine ⟨fun w' => Below w8.heap.size w8 w', Below.refl _ _, ?_⟩
  refine (RBig_ok a ha).mono ?_
  have hua2 : (a + 9223372036854775808).toNat = ua := by omega
  rw [hua2]
  rintro e w9 ⟨A9, rfl, ho9, hb9⟩
  refine ⟨_, _, _, rfl, hb9, ?_⟩
  refine (Same_ok (hx8.below hb9 (Nat.le_refl _)) ho9.reads rfl rfl (by rw [be8_length]; omega)).mono ?_
  rintro e w10 ⟨rfl, hb10'⟩
  have hb10 := hb9.trans (hb10'.mono hb9.size)
  refine ⟨_, rfl, hb10, sel_f (by simp) ?_⟩
  refine hd_byte (i := 0) hx8 (by show _ < 8; decide) (hd_byte (i := 1) hx8 (by show _ < 8; decide) (hd_byte (i := 2) hx8 (by show _ < 8; decide) (hd_byte (i := 3) hx8 (by show _ < 8; decide) (hd_byte (i := 4) hx8 (by show _ < 8; decide) (hd_byte (i := 5) hx8 (by show _ < 8; decide) (hd_byte (i := 6) hx8 (by show _ < 8; decide) (hd_byte (i := 7) hx8 (by show _ < 8; decide) ?_)))))))
  refine (UnBig_ok (bB ua 0) (bB ua 1) (bB ua 2) (bB ua 3) (bB ua 4) (bB ua 5) (bB ua 6) (bB ua 7)).mono ?_
  rintro e w11 ⟨rfl, hb11'⟩
  have hb11 := hb10.trans (hb11'.mono hb10.size)
  have hva : (valB [bB ua 0, bB ua 1, bB ua 2, bB ua 3, bB ua 4, bB ua 5, bB ua 6, bB ua 7] : Int) - 9223372036854775808 = a := by
    rw [show valB [bB ua 0, bB ua 1, bB ua 2, bB ua 3, bB ua 4, bB ua 5, bB ua 6, bB ua 7] = ua from valB_be8 ua hua]; omega
  rw [hva]
  refine ⟨_, rfl, hb11, sel_f (by simp) ?_⟩
  iterate 2 refine hd_byte (i := 0) hc8 (by show _ < 8; decide) (hd_byte (i := 1) hc8 (by show _ < 8; decide) (hd_byte (i := 2) hc8 (by show _ < 8; decide) (hd_byte (i := 3) hc8 (by show _ < 8; decide) (hd_byte (i := 4) hc8 (by show _ < 8; decide) (hd_byte (i := 5) hc8 (by show _ < 8; decide) (hd_byte (i := 6) hc8 (by show _ < 8; decide) (hd_byte (i := 7) hc8 (by show _ < 8; decide) ?_)))))))
  refine (UnBig_ok c0 c1 c2 c3 c4 c5 c6 c7).mono ?_
  rintro e w12 ⟨rfl, hb12'⟩
  have hb12 := hb11.trans (hb12'.mono hb11.size)
  refine ⟨_, rfl, hb12, ?_⟩
  have hvc := valB_lt [c0, c1, c2, c3, c4, c5, c6, c7]
  have hvc : valB [c0, c1, c2, c3, c4, c5, c6, c7] < 18446744073709551616 := by simpa using hvc
  refine (Big_ok ((valB [c0, c1, c2, c3, c4, c5, c6, c7] : Int) - 9223372036854775808) (by omega)).mono ?_
  rw [show ((valB [c0, c1, c2, c3, c4, c5, c6, c7] : Int) - 9223372036854775808 + 9223372036854775808).toNat = valB [c0, c1, c2, c3, c4, c5, c6, c7] by omega, be8_valB]
  rintro e w13 ⟨rfl, hb13'⟩
  have hb13 := hb12.trans (hb13'.mono hb12.size)
  refine ⟨_, _, _, _, _, _, _, _, rfl, hb13, sel_f (by simp) (drW_intro ?_)⟩
  have hb14 := hb13.trans (Below.drw (B := w8.heap.size) (w := w13))
  refine (Order_ok (hx8.below hb14 (Nat.le_refl _)) (hy8.below hb14 (Nat.le_refl _)) rfl rfl (by rw [be8_length]; omega)).mono ?_
  rintro e w15 ⟨rfl, hb15'⟩
  have hb15 := hb14.trans (hb15'.mono hb14.size)
  refine ⟨_, rfl, ?_⟩
  rw [ordL_val _ _ (show (be8 ua).length = (be8 ub).length from rfl), valB_be8 ua hua, valB_be8 ub hub]
  have hend : Below w.heap.size w w15 := (hb0.trans (hb8.mono hs0)).trans (hb15.mono (Nat.le_trans hs0 hb8.size))
  by_cases h1 : a < b
  · rw [if_pos (by omega)]
    exact sel_t (by simpa using h1) (sel_t (by decide) ⟨trivial, hend⟩)
  · refine sel_f (by simpa using h1) ?_
    rw [if_neg (by omega)]
    by_cases h2 : b < a
    · rw [if_pos (by omega)]
      exact sel_f (by simp; omega) (sel_t (by simpa using h2) ⟨rfl, hend⟩)
    · rw [if_neg (by omega)]
      exact sel_t (by simp; omega) (sel_t (by decide) ⟨trivial, hend⟩)
theorem u8_of {n : Int} (h : (Lit.int .u8 n).wf = true) : ∃ c : UInt8, n = (c.toNat : Int) := by
  have := wf_u8 h
  exact ⟨UInt8.ofNat n.toNat, by rw [UInt8.toNat_ofNat']; omega⟩
theorem NumOrder_row {w : World} {a b : Int} {zs : List Int} (ha : (Lit.int .i64 a).wf = true) (hb : (Lit.int .i64 b).wf = true) (hl : zs.length = 8) (hz : ∀ z ∈ zs, (Lit.int .u8 z).wf = true) :
    Calls Try.prog 11 #[.int .i64 a, .int .i64 b, .agg (zs.map (.int .u8 ·)).toArray] w fun e w' => e = .returned (.bool true) ∧ Below w.heap.size w w' := by
  match zs, hl, hz with
  | [z0, z1, z2, z3, z4, z5, z6, z7], _, hz =>
    obtain ⟨c0, rfl⟩ := u8_of (hz z0 (by simp)); obtain ⟨c1, rfl⟩ := u8_of (hz z1 (by simp)); obtain ⟨c2, rfl⟩ := u8_of (hz z2 (by simp)); obtain ⟨c3, rfl⟩ := u8_of (hz z3 (by simp))
    obtain ⟨c4, rfl⟩ := u8_of (hz z4 (by simp)); obtain ⟨c5, rfl⟩ := u8_of (hz z5 (by simp)); obtain ⟨c6, rfl⟩ := u8_of (hz z6 (by simp)); obtain ⟨c7, rfl⟩ := u8_of (hz z7 (by simp))
    exact NumOrder_walk c0 c1 c2 c3 c4 c5 c6 c7 (wf_i64 ha) (wf_i64 hb)
end Go.Proofs.Ytkimodpighdgeaa.Rd
