/- The statements NumPuts and NumGets, walked. -/
import Derived.Test.YtkimodpighdgeaaNumE
namespace Go.Proofs.Ytkimodpighdgeaa.Rd
open Go.Dn Go.RowKit
set_option linter.unusedVariables false
set_option linter.unusedSimpArgs false

theorem OwnB.dj {w w' : World} {B e e' : Nat} {A A' : Option Addr} {c c' : Nat} {l l' : List UInt8} {B' : Nat} (h : OwnB w B e A c l) (h' : OwnB w' B' e' A' c' l') (hB : w.heap.size ≤ B') : Dj A' A := by
  intro a1 a2 h1 h2
  have := (h.block a2 h2).2
  have := (h'.block a1 h1).1
  omega
theorem putT_len (l : List UInt8) : (putT l).length ≤ l.length + 10 := by
  unfold putT; rw [List.length_append]; have := putL_len l.length; omega
/-- three rows that calls have made one behind the other, apart -/
theorem Apart3 {w0 w1 w2 w3 : World} {A1 A2 A3 : Option Addr} {n1 n2 n3 c1 c2 c3 : Nat} {l1 l2 l3 : List UInt8} (h1 : OwnB w1 w0.heap.size 5 A1 c1 l1) (h2 : OwnB w2 w1.heap.size 5 A2 c2 l2) (h3 : OwnB w3 w2.heap.size 5 A3 c3 l3)
    (b1 : Below w0.heap.size w0 w1) (b2 : Below w1.heap.size w1 w2) (b3 : Below w2.heap.size w2 w3) (hn1 : n1 = l1.length) (hn2 : n2 = l2.length) (hn3 : n3 = l3.length) (hlen : l1.length ≤ 140737488355000) (hlen2 : l2.length ≤ 140737488355000) :
    Calls Try.prog 17 #[.slice A1 n1 c1, .slice A2 n2 c2, .slice A3 n3 c3] w3 fun e w' => e = .returned (.bool (decide (l1 = l3) && decide (l2 = l3))) ∧ Below w0.heap.size w0 w' := by
  have hb : Below w0.heap.size w0 w3 := b1.trans ((b2.mono b1.size).trans (b3.mono (Nat.le_trans b1.size b2.size)))
  refine (Apart_ok (B := w0.heap.size) (h1.keep (b2.trans (b3.mono b2.size))) (h2.keep b3).reads h3.reads hn1 hn2 hn3 hlen hlen2 (OwnB.dj h1 h2 (Nat.le_refl _)) (OwnB.dj h1 h3 b2.size) hb.size).mono ?_
  rintro e w' ⟨rfl, hb'⟩
  exact ⟨rfl, hb.trans hb'⟩

theorem NumPuts_walk {w : World} {A : Option Addr} {n c u : Nat} {v : Int} {l : List UInt8} (hu : u < 18446744073709551616) (hv : -9223372036854775808 ≤ v ∧ v ≤ 9223372036854775807) (hr : RB w A l) (hn : n = l.length) (hlen : l.length ≤ 140737488351232) :
    Calls Try.prog 7 #[.int .u64 (u : Int), .int .i64 v, .slice A n c] w fun e w' => e = .returned (.bool true) ∧ Below w.heap.size w w' := by
  subst hn
  apply f_law01_NumPuts.ok
  unfold f_law01_NumPuts.wp
  refine (alive_ok w).mono ?_
  rintro e w1 ⟨rfl, hb1⟩
  refine ⟨_, rfl, sel_f rfl ?_⟩
  refine (Wide_ok (hr.below hb1 (Nat.le_refl _)) (by omega)).mono ?_
  rintro e w2 ⟨A2, c2, rfl, ho2, hb2⟩
  refine ⟨_, _, _, rfl, drW_intro ?_⟩
  have hle : (l ++ marks).length ≤ c2 := OwnB.le ho2
  have hml : (l ++ marks).length = l.length + 64 := by rw [List.length_append, marks_length]
  have hb12 := hb1.trans (hb2.mono hb1.size)
  have hb2d := hb12.trans (Below.drw (B := w.heap.size) (w := w2))
  have hs2 : w.heap.size ≤ w2.drew.heap.size := hb2d.size
  have hw : RB w2.drew A2 (l ++ marks) := ho2.reads.below (Below.drw (B := w2.heap.size)) (Nat.le_refl _)
  have hwl : RB w2.drew A2 l := by have := hw.take l.length; rwa [List.take_left] at this
  have hA2 : A2 ≠ none := fun h => by
    have h0 := ho2.nil0 h; omega
  refine req_intro (by simp; omega) (req_intro (by simp; omega) ?_)
  simp only [slA0, show ((l.length : Int).toNat - 0) = l.length by omega, Nat.sub_zero]
  have hpt := putT_len l
  refine (PutText_ok hwl rfl (fun h => absurd h hA2) (by omega)).mono ?_
  rintro e w3 ⟨A3, c3, rfl, ho3, hb3⟩
  refine ⟨_, _, _, rfl, ?_⟩
  refine (PutText_ok (hwl.below hb3 (Nat.le_refl _)) rfl (fun h => absurd h hA2) (by omega)).mono ?_
  rintro e w4 ⟨A4, c4, rfl, ho4, hb4⟩
  have hb34 := hb3.trans (hb4.mono hb3.size)
  refine ⟨_, _, _, rfl, ?_⟩
  refine (RPutText_ok (hr.below (hb2d.trans (hb34.mono hs2)) (Nat.le_refl _)) rfl (by omega)).mono ?_
  rintro e w5 ⟨A5, c5, rfl, ho5, hb5⟩
  refine ⟨_, _, _, rfl, ?_⟩
  refine (Apart3 ho3 ho4 ho5 hb3 hb4 hb5 rfl rfl rfl (by omega) (by omega)).mono ?_
  rintro e w6 ⟨rfl, hb6⟩
  have hb06 := hb2d.trans (hb6.mono hs2)
  refine ⟨_, rfl, sel_f (by simp) ?_⟩
  refine (Intact_ok (hw.below hb6 (Nat.le_refl _)) (hr.below hb06 (Nat.le_refl _)) (by omega) rfl).mono ?_
  rintro e w7 ⟨rfl, hb7⟩
  have hb07 := hb06.trans (hb7.mono hb06.size)
  refine ⟨_, rfl, sel_f (by simp) ?_⟩
  have hpl := putL_len u
  refine (Put_ok u hu).mono ?_
  rintro e w8 ⟨A8, c8, rfl, ho8, hb8⟩
  refine ⟨_, _, _, rfl, ?_⟩
  refine (Put_ok u hu).mono ?_
  rintro e w9 ⟨A9, c9, rfl, ho9, hb9⟩
  refine ⟨_, _, _, rfl, ?_⟩
  refine (RPut_ok u hu).mono ?_
  rintro e w10 ⟨A10, c10, rfl, ho10, hb10⟩
  refine ⟨_, _, _, rfl, ?_⟩
  refine (Apart3 ho8 ho9 ho10 hb8 hb9 hb10 rfl rfl rfl (by omega) (by omega)).mono ?_
  rintro e w11 ⟨rfl, hb11⟩
  have hb011 := hb07.trans (hb11.mono hb07.size)
  refine ⟨_, rfl, sel_t (by simp) ?_⟩
  have hpf := putL_len (fold v)
  refine (PutS_ok v hv).mono ?_
  rintro e w12 ⟨A12, c12, rfl, ho12, hb12'⟩
  refine ⟨_, _, _, rfl, ?_⟩
  refine (PutS_ok v hv).mono ?_
  rintro e w13 ⟨A13, c13, rfl, ho13, hb13⟩
  refine ⟨_, _, _, rfl, ?_⟩
  refine (Fold_ok v hv).mono ?_
  rintro e w14 ⟨rfl, rfl⟩
  refine ⟨_, rfl, ?_⟩
  refine (RPut_ok (fold v) (fold_lt hv)).mono ?_
  rintro e w15 ⟨A15, c15, rfl, ho15, hb15⟩
  refine ⟨_, _, _, rfl, ?_⟩
  refine (Apart3 ho12 ho13 ho15 hb12' hb13 hb15 rfl rfl rfl (by omega) (by omega)).mono ?_
  rintro e w16 ⟨rfl, hb16⟩
  exact ⟨_, rfl, by simp, hb011.trans (hb16.mono hb011.size)⟩
theorem wf_i64 {n : Int} (h : (Lit.int .i64 n).wf = true) : -9223372036854775808 ≤ n ∧ n ≤ 9223372036854775807 := by
  simp [Lit.wf, IntKind.min, IntKind.max, IntKind.signed, IntKind.bits] at h
  omega
theorem wf_u64 {n : Int} (h : (Lit.int .u64 n).wf = true) : 0 ≤ n ∧ n < 18446744073709551616 := by
  simp [Lit.wf, IntKind.min, IntKind.max, IntKind.signed, IntKind.bits] at h
  omega
theorem NumPuts_row {w : World} {u v : Int} {A : Option Addr} {n c : Nat} {zs : List Int} (hu : (Lit.int .u64 u).wf = true) (hv : (Lit.int .i64 v).wf = true) (h : IsRow .u8 w A n c zs) (hs : n * 1 ≤ 140737488351232) :
    Calls Try.prog 7 #[.int .u64 u, .int .i64 v, .slice A n c] w fun e w' => e = .returned (.bool true) ∧ Below w.heap.size w w' := by
  obtain ⟨l, hr, hn, _, _⟩ := rb_of_row h
  have hu := wf_u64 hu
  obtain ⟨u, rfl⟩ := Int.eq_ofNat_of_zero_le hu.1
  exact NumPuts_walk (by omega) (wf_i64 hv) hr hn (by omega)

theorem NumGets_walk {w : World} {A : Option Addr} {n c : Nat} {a most : Int} {l : List UInt8} (hm : -9223372036854775808 ≤ most ∧ most ≤ 9223372036854775807) (hr : RB w A l) (hn : n = l.length) (hlen : l.length ≤ 140737488351232) :
    Calls Try.prog 8 #[.slice A n c, .int .i64 a, .int .i64 most] w fun e w' => e = .returned (.bool true) ∧ Below w.heap.size w w' := by
  subst hn
  apply f_law01_NumGets.ok
  unfold f_law01_NumGets.wp
  refine (alive_ok w).mono ?_
  rintro e w1 ⟨rfl, hb1⟩
  refine ⟨_, rfl, sel_f rfl ?_⟩
  refine (Wide_ok (hr.below hb1 (Nat.le_refl _)) (by omega)).mono ?_
  rintro e w2 ⟨A2, c2, rfl, ho2, hb2⟩
  have hle : (l ++ marks).length ≤ c2 := OwnB.le ho2
  have hml : (l ++ marks).length = l.length + 64 := by rw [List.length_append, marks_length]
  have hb12 := hb1.trans (hb2.mono hb1.size)
  have hs2 := hb12.size
  have hw : RB w2 A2 (l ++ marks) := ho2.reads
  have hwl : RB w2 A2 l := by have := hw.take l.length; rwa [List.take_left] at this
  simp only [slA0, show ((l.length : Int).toNat - 0) = l.length by omega, Nat.sub_zero]
  refine ⟨_, _, _, rfl, req_intro (by simp; omega) ?_⟩
  refine (Get_ok hwl rfl (by omega)).mono ?_
  rintro e w3 ⟨rfl, rfl⟩
  refine ⟨_, _, _, rfl, req_intro (by simp; omega) ?_⟩
  refine (GetS_ok hwl rfl (by omega)).mono ?_
  rintro e w4 ⟨rfl, rfl⟩
  refine ⟨_, _, _, rfl, req_intro (by simp; omega) ?_⟩
  refine (GetText_ok hwl rfl (by omega) (by omega) hm).mono ?_
  rintro e w5 ⟨A5, c5, rfl, ho5, hb5⟩
  refine ⟨_, _, _, _, _, rfl, req_intro (by simp; omega) ?_⟩
  refine (GetText_ok (hwl.below hb5 (Nat.le_refl _)) rfl (by omega) (by omega) hm).mono ?_
  rintro e w6 ⟨A6, c6, rfl, ho6, hb6⟩
  have hb46 := hb5.trans (hb6.mono hb5.size)
  refine ⟨_, _, _, _, _, rfl, ?_⟩
  have hr6 := hr.below (hb12.trans (hb46.mono hs2)) (Nat.le_refl _)
  refine (RGet_ok hr6 rfl (by omega)).mono ?_
  rintro e w7 ⟨rfl, rfl⟩
  refine ⟨_, _, _, rfl, ?_⟩
  unfold f_law01_NumGets.j0
  refine (RGetS_ok hr6 rfl (by omega)).mono ?_
  rintro e w8 ⟨rfl, rfl⟩
  refine ⟨_, _, _, rfl, ?_⟩
  refine (RGetText_ok hr6 rfl (by omega) hm).mono ?_
  rintro e w9 ⟨A9, c9, rfl, ho9, hb9⟩
  refine ⟨_, _, _, _, _, rfl, ?_⟩
  refine sel_f (by simp) (sel_f (by simp) (sel_f (by simp) (sel_f (by simp) (sel_f (by simp) (sel_f (by simp) (sel_f (by simp) (sel_f (by simp) ?_)))))))
  have htl : (textL l a most).1.length ≤ l.length := by
    unfold textL
    simp only
    split
    · simp
    · split
      · simp
      · split
        · simp
        · simp; omega
  refine (Apart3 ho5 ho6 ho9 hb5 hb6 hb9 rfl rfl rfl (by omega) (by omega)).mono ?_
  rintro e w10 ⟨rfl, hb10⟩
  refine ⟨_, rfl, sel_t (by simp) ?_⟩
  have hb010 := hb12.trans (hb10.mono hs2)
  refine (Intact_ok (hw.below hb10 (Nat.le_refl _)) (hr.below hb010 (Nat.le_refl _)) (by omega) rfl).mono ?_
  rintro e w11 ⟨rfl, hb11⟩
  refine ⟨_, rfl, ?_⟩
  intro _
  exact ⟨rfl, hb010.trans (hb11.mono hb010.size)⟩
theorem NumGets_row {w : World} {A : Option Addr} {n c : Nat} {zs : List Int} {a most : Int} (h : IsRow .u8 w A n c zs) (hs : n * 1 ≤ 140737488351232) (ha : (Lit.int .i64 a).wf = true) (hm : (Lit.int .i64 most).wf = true) :
    Calls Try.prog 8 #[.slice A n c, .int .i64 a, .int .i64 most] w fun e w' => e = .returned (.bool true) ∧ Below w.heap.size w w' := by
  obtain ⟨l, hr, hn, _, _⟩ := rb_of_row h
  exact NumGets_walk (wf_i64 hm) hr hn (by omega)
end Go.Proofs.Ytkimodpighdgeaa.Rd
