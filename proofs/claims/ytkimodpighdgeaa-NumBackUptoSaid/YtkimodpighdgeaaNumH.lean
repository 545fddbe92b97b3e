/- The statement NumBack (by size), walked. -/
import Derived.Test.YtkimodpighdgeaaNumG
namespace Go.Proofs.Ytkimodpighdgeaa.Rd
open Go.Dn Go.RowKit
set_option linter.unusedVariables false
set_option linter.unusedSimpArgs false

/-- what stands ahead, what was put, what stands behind: read again -/
theorem getL_back (ahead behind : List UInt8) (u : Nat) (hu : u < 18446744073709551616) : getL ((ahead ++ putL u) ++ behind) (ahead.length : Int) = (u, ahead.length + (putL u).length, 0) := by
  rw [getL_in (by rw [List.length_append, List.length_append]; omega), List.append_assoc, List.drop_left, getR_putL u hu]
  rfl
theorem getL_cut (u : Nat) : (getL ((putL u).take ((putL u).length - 1)) 0).2.2 = 2 := by
  rw [← List.dropLast_eq_take, show (0 : Int) = ((0 : Nat) : Int) from rfl, getL_in (by omega), List.drop_zero]
  unfold putL
  rw [getR_cut 9 u 0 0 (by omega)]
  rfl
theorem textL_back (ahead behind s : List UInt8) (hs : s.length ≤ 1048576) : textL ((ahead ++ putT s) ++ behind) (ahead.length : Int) (s.length : Int) = (s, ahead.length + (putT s).length, 0) := by
  have hg : getL ((ahead ++ putT s) ++ behind) (ahead.length : Int) = (s.length, ahead.length + (putL s.length).length, 0) := by
    have := getL_back ahead (s ++ behind) s.length (by omega)
    rw [← this]; congr 1; unfold putT; simp
  unfold textL
  rw [hg]
  simp only
  rw [if_neg (by simp), if_neg (by omega), if_neg (by unfold putT; simp; omega)]
  have e : ((ahead ++ putT s) ++ behind).drop (ahead.length + (putL s.length).length) = s ++ behind := by
    unfold putT
    rw [show (ahead ++ (putL s.length ++ s)) ++ behind = (ahead ++ putL s.length) ++ (s ++ behind) by simp]
    exact List.drop_left' (by simp)
  rw [e, List.take_left]
  unfold putT
  rw [List.length_append, Nat.add_assoc]
theorem putL_pos (u : Nat) : 0 < (putL u).length := List.length_pos_iff.2 (putF_ne 9 u)
theorem NumBack_walk {w : World} {u : Nat} {v : Int} {A2 A3 A4 : Option Addr} {n2 n3 n4 c2 c3 c4 : Nat} {s ahead behind : List UInt8} (hu : u < 18446744073709551616) (hv : -9223372036854775808 ≤ v ∧ v ≤ 9223372036854775807)
    (hr2 : RB w A2 s) (hr3 : RB w A3 ahead) (hr4 : RB w A4 behind) (hn2 : n2 = s.length) (hn3 : n3 = ahead.length) (hn4 : n4 = behind.length) (hA2 : A2 = none → c2 = 0) (hl2 : s.length ≤ 1048576) (hl3 : ahead.length ≤ 1048576) (hl4 : behind.length ≤ 1048576) :
    Calls Try.prog 9 #[.int .u64 (u : Int), .int .i64 v, .slice A2 n2 c2, .slice A3 n3 c3, .slice A4 n4 c4] w fun e w' => e = .returned (.bool true) ∧ Below w.heap.size w w' := by
  subst hn2; subst hn3; subst hn4
  apply f_law01_NumBack.ok
  unfold f_law01_NumBack.wp
  have hp := putL_len u
  have hpp := putL_pos u
  have hq := putL_len (fold v)
  have ht := putT_len s
  refine (alive_ok w).mono ?_
  rintro e w1 ⟨rfl, hb1⟩
  refine ⟨_, rfl, sel_f rfl ?_⟩
  refine (Put_ok u hu).mono ?_
  rintro e w2 ⟨P2, d2, rfl, ho2, hb2'⟩
  have hb2 := hb1.trans (hb2'.mono hb1.size)
  refine ⟨_, _, _, rfl, ?_⟩
  refine (Cat_ok (hr3.below hb2 (Nat.le_refl _)) ho2.reads rfl rfl (by omega)).mono ?_
  rintro e w3 ⟨P3, d3, rfl, ho3, hb3'⟩
  have hb3 := hb2.trans (hb3'.mono hb2.size)
  refine ⟨_, _, _, rfl, ?_⟩
  refine (Cat_ok ho3.reads (hr4.below hb3 (Nat.le_refl _)) rfl rfl (by rw [List.length_append]; omega)).mono ?_
  rintro e w4 ⟨P4, d4, rfl, ho4, hb4'⟩
  have hb4 := hb3.trans (hb4'.mono hb3.size)
  refine ⟨_, _, _, rfl, ?_⟩
  refine (Get_ok (a := (ahead.length : Int)) ho4.reads rfl (by rw [List.length_append, List.length_append]; omega)).mono ?_
  rintro e w5 ⟨rfl, rfl⟩
  rw [getL_back ahead behind u hu]
  refine ⟨_, _, _, rfl, ?_⟩
  have ho2' := (ho2.keep hb3').keep hb4'
  rw [w64_in (x := ((putL u).length : Int) - 1) (by omega), show ((putL u).length : Int) - 1 = (((putL u).length - 1 : Nat) : Int) by omega]
  refine (Piece_ok (p := 0) (q := (putL u).length - 1) ho2'.reads rfl (by omega) (by omega) (by omega)).mono ?_
  rintro e w6 ⟨P6, d6, rfl, ho6, hb6'⟩
  have hb6 := hb4.trans (hb6'.mono hb4.size)
  rw [List.drop_zero] at ho6 ⊢
  refine ⟨_, _, _, rfl, ?_⟩
  refine (Get_ok (a := 0) ho6.reads rfl (by rw [List.length_take]; omega)).mono ?_
  rintro e w7 ⟨rfl, rfl⟩
  refine ⟨_, _, _, rfl, ?_⟩
  refine (PutS_ok v hv).mono ?_
  rintro e w8 ⟨P8, d8, rfl, ho8, hb8'⟩
  have hb8 := hb6.trans (hb8'.mono hb6.size)
  refine ⟨_, _, _, rfl, ?_⟩
  refine (Cat_ok (hr3.below hb8 (Nat.le_refl _)) ho8.reads rfl rfl (by omega)).mono ?_
  rintro e w9 ⟨P9, d9, rfl, ho9, hb9'⟩
  have hb9 := hb8.trans (hb9'.mono hb8.size)
  refine ⟨_, _, _, rfl, ?_⟩
  refine (Cat_ok ho9.reads (hr4.below hb9 (Nat.le_refl _)) rfl rfl (by rw [List.length_append]; omega)).mono ?_
  rintro e w10 ⟨P10, d10, rfl, ho10, hb10'⟩
  have hb10 := hb9.trans (hb10'.mono hb9.size)
  refine ⟨_, _, _, rfl, ?_⟩
  refine (GetS_ok (a := (ahead.length : Int)) ho10.reads rfl (by rw [List.length_append, List.length_append]; omega)).mono ?_
  rintro e w11 ⟨rfl, rfl⟩
  rw [getL_back ahead behind _ (fold_lt hv), unf_fold]
  refine ⟨_, _, _, rfl, ?_⟩
  refine (PutText_ok (hr2.below hb10 (Nat.le_refl _)) rfl hA2 (by omega)).mono ?_
  rintro e w12 ⟨P12, d12, rfl, ho12, hb12'⟩
  have hb12 := hb10.trans (hb12'.mono hb10.size)
  refine ⟨_, _, _, rfl, ?_⟩
  refine (Cat_ok (hr3.below hb12 (Nat.le_refl _)) ho12.reads rfl rfl (by omega)).mono ?_
  rintro e w13 ⟨P13, d13, rfl, ho13, hb13'⟩
  have hb13 := hb12.trans (hb13'.mono hb12.size)
  refine ⟨_, _, _, rfl, ?_⟩
  refine (Cat_ok ho13.reads (hr4.below hb13 (Nat.le_refl _)) rfl rfl (by rw [List.length_append]; omega)).mono ?_
  rintro e w14 ⟨P14, d14, rfl, ho14, hb14'⟩
  have hb14 := hb13.trans (hb14'.mono hb13.size)
  refine ⟨_, _, _, rfl, ?_⟩
  refine (GetText_ok (a := (ahead.length : Int)) (most := (s.length : Int)) ho14.reads rfl (by rw [List.length_append, List.length_append]; omega) ho14.le (by omega)).mono ?_
  rw [textL_back ahead behind s hl2]
  rintro e w15 ⟨P15, d15, rfl, ho15, hb15'⟩
  have hb15 := hb14.trans (hb15'.mono hb14.size)
  refine ⟨_, _, _, _, _, rfl, ?_⟩
  unfold f_law01_NumBack.j0
  refine sel_f (by simp) (sel_f ?_ (sel_f (by simp) (sel_f (by rw [getL_cut]; simp) (sel_f (by simp) (sel_f ?_ (sel_f (by simp) (sel_t (by simp) (sel_t ?_ ?_))))))))
  · rw [w64_in (by omega)]; simp
  · rw [w64_in (by omega)]; simp
  · rw [w64_in (by omega)]; simp
  · refine (Same_ok ho15.reads (hr2.below hb15 (Nat.le_refl _)) rfl rfl (by show s.length ≤ _; omega)).mono ?_
    rintro e w16 ⟨rfl, hb16⟩
    refine ⟨_, rfl, ?_⟩
    intro _
    exact ⟨by simp, hb15.trans (hb16.mono hb15.size)⟩
theorem NumBack_row {w : World} {u v : Int} {A2 A3 A4 : Option Addr} {n2 n3 n4 c2 c3 c4 : Nat} {z2 z3 z4 : List Int} (hu : (Lit.int .u64 u).wf = true) (hv : (Lit.int .i64 v).wf = true) (h2 : IsRow .u8 w A2 n2 c2 z2) (s2 : n2 ≤ 1048576) (h3 : IsRow .u8 w A3 n3 c3 z3) (s3 : n3 ≤ 1048576) (h4 : IsRow .u8 w A4 n4 c4 z4) (s4 : n4 ≤ 1048576) :
    Calls Try.prog 9 #[.int .u64 u, .int .i64 v, .slice A2 n2 c2, .slice A3 n3 c3, .slice A4 n4 c4] w fun e w' => e = .returned (.bool true) ∧ Below w.heap.size w w' := by
  obtain ⟨l2, hr2, hn2, hA2, _⟩ := rb_of_row h2
  obtain ⟨l3, hr3, hn3, _, _⟩ := rb_of_row h3
  obtain ⟨l4, hr4, hn4, _, _⟩ := rb_of_row h4
  have hu := wf_u64 hu
  obtain ⟨u, rfl⟩ := Int.eq_ofNat_of_zero_le hu.1
  exact NumBack_walk (by omega) (wf_i64 hv) hr2 hr3 hr4 hn2 hn3 hn4 hA2 (by omega) (by omega) (by omega)
end Go.Proofs.Ytkimodpighdgeaa.Rd
