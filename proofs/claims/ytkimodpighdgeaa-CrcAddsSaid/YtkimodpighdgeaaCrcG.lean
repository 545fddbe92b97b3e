/- The statement CrcSeals: bytes are sealed, and opened or not, as said. -/
import Derived.Test.YtkimodpighdgeaaCrcF
import Derived.Test.YtkimodpighdgeaaHelp2
namespace Go.Proofs.Ytkimodpighdgeaa.Rd
open Go.Dn Go.RowKit
set_option linter.unusedVariables false
set_option linter.unusedSimpArgs false

theorem RSeal_l0 {n : Nat} (hn32 : n < 4294967296) {B : Nat} {w0 : World} {K : Option Addr → Nat → Nat → World → Prop} (hK : ∀ A' c' w', OwnB w' B 5 A' c' (le4 n) → Below B w0 w' → B ≤ w'.heap.size → K A' 4 c' w') :
    ∀ (m k i : Nat) (A3 : Option Addr) (c3 : Nat) (w : World), 4 - i = m → i ≤ 4 → m < k → OwnB w B 5 A3 c3 ((le4 n).take i) → Below B w0 w → B ≤ w.heap.size →
      f_ref02_Seal.l0 k A3 i c3 ((n / 256 ^ i : Nat) : Int) (i : Int) w K := by
  intro m
  induction m with
  | zero =>
    intro k i A3 c3 w hm hi hk ho hb hBw
    obtain ⟨k, rfl⟩ : ∃ j, k = j + 1 := ⟨k - 1, by omega⟩
    simp only [f_ref02_Seal.l0]
    refine sel_f (by simp; omega) ?_
    obtain rfl : i = 4 := by omega
    exact hK _ _ _ ho hb hBw
  | succ m ih =>
    intro k i A3 c3 w hm hi hk ho hb hBw
    obtain ⟨k, rfl⟩ : ∃ j, k = j + 1 := ⟨k - 1, by omega⟩
    have hlt : i < (le4 n).length := by rw [le4_length]; omega
    simp only [f_ref02_Seal.l0]
    refine sel_t (by simp; omega) ?_
    have hx : (le4 n)[i] = UInt8.ofNat (n / 256 ^ i) := by
      rw [le4_length] at hlt
      match i, hlt with
      | 0, _ => simp [le4]
      | 1, _ => rfl
      | 2, _ => rfl
      | 3, _ => rfl
    have ew : IntKind.u8.wrap (((n / 256 ^ i : Nat) : Int).tmod 256) = ((le4 n)[i].toNat : Int) := by
      rw [hx, Int.tmod_eq_emod_of_nonneg (Int.natCast_nonneg _), u8w, UInt8.toNat_ofNat']; omega
    rw [ew]
    refine alW_intro ?_
    have h1 : RB (w.alloc (.cells #[.int .u8 ((le4 n)[i].toNat : Int)] 5)) (some ⟨w.heap.size, 0, none⟩) [(le4 n)[i]] :=
      (OwnB.lit (B := B) [(le4 n)[i]] rfl hBw (by simp)).reads
    have ho1 := ho.keep ((Below.refl w.heap.size w).alloc (Nat.le_refl _) (.cells #[.int .u8 ((le4 n)[i].toNat : Int)] 5))
    have htl : ((le4 n).take i).length = i := by rw [List.length_take, le4_length]; omega
    refine app_runs TBy ho1 htl.symm h1 rfl (fun h => by cases h) (by simp; omega) (by rw [htl]; simp; omega) ?_
    intro A' c' w' ho' hb' _ _
    refine ⟨_, _, _, rfl, ?_⟩
    rw [w64_in (by omega), show (i : Int) + 1 = ((i + 1 : Nat) : Int) by omega]
    have e : (le4 n).take i ++ [(le4 n)[i]] = (le4 n).take (i + 1) := by rw [List.take_succ_eq_append_getElem hlt]
    rw [e] at ho' ⊢
    have e2 : ((le4 n).take (i + 1)).length = i + 1 := by rw [List.length_take, le4_length]; omega
    have e3 : IntKind.u32.wrap (((n / 256 ^ i : Nat) : Int).tdiv 256) = ((n / 256 ^ (i + 1) : Nat) : Int) := by
      have h1 : n / 256 ^ i / 256 = n / 256 ^ (i + 1) := by rw [Nat.div_div_eq_div_mul, Nat.pow_succ]
      have h2 : n / 256 ^ i ≤ n := Nat.div_le_self _ _
      rw [← h1, Int.tdiv_eq_ediv_of_nonneg (Int.natCast_nonneg _), u32w]
      generalize n / 256 ^ i = q at *
      omega
    rw [e2, e3]
    refine ih k (i + 1) A' c' w' (by omega) (by omega) (by omega) ho' ?_ ?_
    · exact (hb.alloc hBw _).trans hb'
    · have := hb'.size; simp at this; omega
theorem RSeal_ok {w : World} {A : Option Addr} {n c : Nat} {l : List UInt8} (hr : RB w A l) (hn : n = l.length) (hlen : l.length ≤ 140737488355000) :
    Calls Try.prog 19 #[.slice A n c] w fun e w' => ∃ A' c', e = .returned (.slice A' (sealL l).length c') ∧ OwnB w' w.heap.size 5 A' c' (sealL l) ∧ Below w.heap.size w w' := by
  subst hn
  apply f_ref02_Seal.ok
  unfold f_ref02_Seal.wp
  refine alW_intro ?_
  have hb0 := (Below.refl w.heap.size w).alloc (Nat.le_refl _) (.cells #[] 5)
  have h0 := OwnB.lit (w := w) (B := w.heap.size) (e := 5) [] (cs := #[]) rfl (Nat.le_refl _) (by simp)
  refine (RSum_ok (hr.below hb0 (Nat.le_refl _)) (by omega)).mono ?_
  rintro e w1 ⟨rfl, rfl⟩
  refine ⟨_, rfl, 5, ?_⟩
  have := RSeal_l0 (n := crcSum l) (crcSum_lt l) (B := w.heap.size) (w0 := w) (K := fun A11 n11 c11 w12 => ∀ _ : Fr, Calls Try.prog 35 #[.slice A11 n11 c11, .slice A l.length c] w12 fun e13 w14 => ∃ (A15 : Option Addr) (n15 : Nat) (c15 : Nat), e13 = .returned (.slice A15 n15 c15) ∧
    (∃ A' c', Ending.returned (.slice A15 n15 c15) = .returned (.slice A' (sealL l).length c') ∧ OwnB w14 w.heap.size 5 A' c' (sealL l) ∧ Below w.heap.size w w14)) ?_ 4 5 0 _ _ _ (by omega) (by omega) (by omega) h0 hb0 (by simp)
  · simpa using this
  intro A2 c2 w2 ho2 hb2 hB2 _
  refine (Cat_ok ho2.reads (hr.below hb2 (Nat.le_refl _)) rfl rfl (by rw [le4_length]; omega)).mono ?_
  rintro e w3 ⟨A3, c3, rfl, ho3, hb3⟩
  exact ⟨_, _, _, rfl, A3, c3, rfl, ho3.mono hb2.size, hb2.trans (hb3.mono hb2.size)⟩
theorem openL_sealed {l : List UInt8} (h : 4 ≤ l.length) : (sealL (l.drop 4) = l) = (l.take 4 = le4 (crcSum (l.drop 4))) := by
  obtain ⟨a, b, c, d, r, rfl⟩ := four h
  unfold sealL
  simp only [List.drop_succ_cons, List.drop_zero, List.take_succ_cons, List.take_zero]
  rw [show a :: b :: c :: d :: r = [a, b, c, d] ++ r from rfl]
  simp only [List.append_cancel_right_eq]
  exact propext ⟨Eq.symm, Eq.symm⟩
theorem ROpen_ok {w : World} {A : Option Addr} {n c : Nat} {l : List UInt8} (hr : RB w A l) (hn : n = l.length) (hlen : l.length ≤ 140737488355000) :
    Calls Try.prog 21 #[.slice A n c] w fun e w' => ∃ A' c', e = .returned (.tuple #[.slice A' (openL l).1.length c', .bool (openL l).2]) ∧ OwnB w' w.heap.size 5 A' c' (openL l).1 ∧ Below w.heap.size w w' := by
  subst hn
  apply f_ref02_Open.ok
  unfold f_ref02_Open.wp
  by_cases h4 : 4 ≤ l.length
  · refine sel_f (by simp; omega) ?_
    refine (Piece_ok (p := 4) (q := l.length) hr rfl (by omega) (Nat.le_refl _) h4).mono ?_
    rintro e w1 ⟨A1, c1, rfl, ho1, hb1⟩
    rw [List.take_length] at ho1 ⊢
    refine ⟨_, _, _, rfl, ?_⟩
    refine (RSeal_ok ho1.reads rfl (by rw [List.length_drop]; omega)).mono ?_
    rintro e w2 ⟨A2, c2, rfl, ho2, hb2⟩
    refine ⟨_, _, _, rfl, ?_⟩
    have hb12 := hb1.trans (hb2.mono hb1.size)
    refine (Same_ok ho2.reads (hr.below hb12 (Nat.le_refl _)) rfl rfl (by unfold sealL; rw [List.length_append, le4_length, List.length_drop]; omega)).mono ?_
    rintro e w3 ⟨rfl, hb3⟩
    have hb13 := hb12.trans (hb3.mono hb12.size)
    refine ⟨_, rfl, ?_⟩
    unfold openL
    rw [if_pos h4]
    by_cases he : l.take 4 = le4 (crcSum (l.drop 4))
    · rw [if_pos he]
      have : sealL (l.drop 4) = l := by rw [openL_sealed h4]; exact he
      refine sel_f (by simp [this]) ⟨A1, c1, rfl, (ho1.keep (hb2.trans (hb3.mono hb2.size))), hb13⟩
    · rw [if_neg he]
      have : ¬ sealL (l.drop 4) = l := by rw [openL_sealed h4]; exact he
      exact sel_t (by simp [this]) ⟨none, 0, rfl, World.ownsRow_nil _ _ _ _, hb13⟩
  · refine sel_t (by simp; omega) ⟨none, 0, ?_, ?_, Below.refl _ _⟩
    · unfold openL; rw [if_neg h4]; rfl
    · unfold openL; rw [if_neg h4]; exact World.ownsRow_nil _ _ _ _

theorem OwnB.dj {w w' : World} {B e e' : Nat} {A A' : Option Addr} {c c' : Nat} {l l' : List UInt8} {B' : Nat} (h : OwnB w B e A c l) (h' : OwnB w' B' e' A' c' l') (hB : w.heap.size ≤ B') : Dj A' A := by
  intro a1 a2 h1 h2
  have := (h.block a2 h2).2
  have := (h'.block a1 h1).1
  omega
theorem openL_len (l : List UInt8) : (openL l).1.length ≤ l.length := by
  unfold openL; split
  · split
    · rw [List.length_drop]; omega
    · simp
  · simp
theorem CrcSeals_walk {w : World} {A : Option Addr} {n c : Nat} {l : List UInt8} (hr : RB w A l) (hn : n = l.length) (hlen : l.length ≤ 140737488351232) :
    Calls Try.prog 4 #[.slice A n c] w fun e w' => e = .returned (.bool true) ∧ Below w.heap.size w w' := by
  subst hn
  apply f_law02_CrcSeals.ok
  unfold f_law02_CrcSeals.wp
  refine (alive_ok w).mono ?_
  rintro e w1 ⟨rfl, hb1⟩
  refine ⟨_, rfl, sel_f rfl ?_⟩
  have hr1 := hr.below hb1 (Nat.le_refl _)
  refine (Wide_ok hr1 (by omega)).mono ?_
  rintro e w2 ⟨A2, c2, rfl, ho2, hb2⟩
  refine ⟨_, _, _, rfl, drW_intro ?_⟩
  have hle : (l ++ marks).length ≤ c2 := OwnB.le ho2
  have hml : (l ++ marks).length = l.length + 64 := by rw [List.length_append, marks_length]
  have hb12 := hb1.trans (hb2.mono hb1.size)
  have hb2d := hb12.trans (Below.drw (B := w.heap.size) (w := w2))
  have hs2 : w.heap.size ≤ w2.drew.heap.size := hb2d.size
  have hw : RB w2.drew A2 (l ++ marks) := ho2.reads.below (Below.drw (B := w2.heap.size)) (Nat.le_refl _)
  have hwl : RB w2.drew A2 l := by have := hw.take l.length; rwa [List.take_left] at this
  have hA2 : A2 ≠ none := fun h => by
    have h0 := ho2.nil0 h; omega
  refine req_intro (by simp; omega) (req_intro (by simp; omega) ?_)
  simp only [slA0, show ((l.length : Int).toNat - 0) = l.length by omega, Nat.sub_zero]
  refine (Seal_ok hwl rfl (fun h => absurd h hA2) (by omega)).mono ?_
  rintro e w3 ⟨A3, c3, rfl, ho3, hb3⟩
  refine ⟨_, _, _, rfl, ?_⟩
  refine (Seal_ok (hwl.below hb3 (Nat.le_refl _)) rfl (fun h => absurd h hA2) (by omega)).mono ?_
  rintro e w4 ⟨A4, c4, rfl, ho4, hb4⟩
  have hb34 := hb3.trans (hb4.mono hb3.size)
  refine ⟨_, _, _, rfl, ?_⟩
  have hr4 := hr.below (hb2d.trans (hb34.mono hs2)) (Nat.le_refl _)
  refine (RSeal_ok hr4 rfl (by omega)).mono ?_
  rintro e w5 ⟨A5, c5, rfl, ho5, hb5⟩
  have hb35 := hb34.trans (hb5.mono hb34.size)
  refine ⟨_, _, _, rfl, ?_⟩
  have hsl : (sealL l).length = l.length + 4 := by unfold sealL; rw [List.length_append, le4_length]; omega
  refine (Apart_ok (B := w2.drew.heap.size) (ho3.keep (hb4.trans (hb5.mono hb4.size))) (ho4.keep hb5).reads ho5.reads rfl rfl rfl (by omega) (by omega) (OwnB.dj ho3 ho4 (Nat.le_refl _)) (OwnB.dj ho3 ho5 hb4.size) hb35.size).mono ?_
  rintro e w6 ⟨rfl, hb6⟩
  have hb36 := hb35.trans hb6
  refine ⟨_, rfl, sel_f (by simp) ?_⟩
  have hwl6 := hwl.below hb36 (Nat.le_refl _)
  refine req_intro (by simp; omega) ?_
  refine (Open_ok hwl6 rfl (by omega) (by omega)).mono ?_
  rintro e w7 ⟨A7, c7, rfl, ho7, -, hb7⟩
  refine ⟨_, _, _, _, rfl, req_intro (by simp; omega) ?_⟩
  refine (Open_ok (hwl6.below hb7 (Nat.le_refl _)) rfl (by omega) (by omega)).mono ?_
  rintro e w8 ⟨A8, c8, rfl, ho8, -, hb8⟩
  have hb78 := hb7.trans (hb8.mono hb7.size)
  refine ⟨_, _, _, _, rfl, ?_⟩
  have hb06 := hb2d.trans (hb36.mono hs2)
  have hr8 := hr.below (hb06.trans (hb78.mono hb06.size)) (Nat.le_refl _)
  refine (ROpen_ok hr8 rfl (by omega)).mono ?_
  rintro e w9 ⟨A9, c9, rfl, ho9, hb9⟩
  have hb79 := hb78.trans (hb9.mono hb78.size)
  refine ⟨_, _, _, _, rfl, sel_t (by simp) ?_⟩
  have hol := openL_len l
  refine (Apart_ok (B := w6.heap.size) (ho7.keep (hb8.trans (hb9.mono hb8.size))) (ho8.keep hb9).reads ho9.reads rfl rfl rfl (by omega) (by omega) (OwnB.dj ho7 ho8 (Nat.le_refl _)) (OwnB.dj ho7 ho9 hb8.size) hb79.size).mono ?_
  rintro e w10 ⟨rfl, hb10⟩
  have hb710 := hb79.trans hb10
  refine ⟨_, rfl, sel_t (by simp) ?_⟩
  have hb310 := hb36.trans (hb710.mono hb36.size)
  have hb010 := hb2d.trans (hb310.mono hs2)
  refine (Intact_ok (hw.below hb310 (Nat.le_refl _)) (hr.below hb010 (Nat.le_refl _)) (by omega) rfl).mono ?_
  rintro e w11 ⟨rfl, hb11⟩
  exact ⟨_, rfl, rfl, hb010.trans (hb11.mono hb010.size)⟩

theorem CrcSeals_row {w : World} {A : Option Addr} {n c : Nat} {zs : List Int} (h : IsRow .u8 w A n c zs) (hs : n * 1 ≤ 140737488351232) :
    Calls Try.prog 4 #[.slice A n c] w fun e w' => e = .returned (.bool true) ∧ Below w.heap.size w w' := by
  obtain ⟨l, hr, hn, _, _⟩ := rb_of_row h
  exact CrcSeals_walk hr hn (by omega)
end Go.Proofs.Ytkimodpighdgeaa.Rd
