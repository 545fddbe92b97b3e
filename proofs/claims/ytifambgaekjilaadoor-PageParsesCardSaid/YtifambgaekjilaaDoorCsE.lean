/- Contracts of the document's sums of layer 2: Seal, Open. Conditions: lengths at most 2^46. -/
import Derived.Test.YtifambgaekjilaaDoorCsD
import Derived.Test.YtifambgaekjilaaDoorHp2
namespace Go.Proofs.YtifambgaekjilaaDoor.Rd
open Go.Dn Go.RowKit
set_option linter.unusedVariables false
set_option linter.unusedSimpArgs false
theorem RSeal_l0 {n : Nat} (hn32 : n < 4294967296) {B : Nat} {w0 : World} {K : Option Addr → Nat → Nat → World → Prop} (hK : ∀ A' c' w', OwnB w' B 5 A' c' (le4 n) → Below B w0 w' → B ≤ w'.heap.size → K A' 4 c' w') :
    ∀ (m k i : Nat) (A3 : Option Addr) (c3 : Nat) (w : World), 4 - i = m → i ≤ 4 → m < k → OwnB w B 5 A3 c3 ((le4 n).take i) → Below B w0 w → B ≤ w.heap.size →
      f_ref02_Seal.l0 k A3 i c3 ((n / 256 ^ i : Nat) : Int) (i : Int) w K := by
  intro m
  induction m with
  | zero =>
    intro k i A3 c3 w hm hi hk ho hb hBw
    obtain ⟨k, rfl⟩ : ∃ j, k = j + 1 := ⟨k - 1, by omega⟩
    simp only [f_ref02_Seal.l0]
    refine sel_f (by simp; omega) ?_
    obtain rfl : i = 4 := by omega
    exact hK _ _ _ ho hb hBw
  | succ m ih =>
    intro k i A3 c3 w hm hi hk ho hb hBw
    obtain ⟨k, rfl⟩ : ∃ j, k = j + 1 := ⟨k - 1, by omega⟩
    have hlt : i < (le4 n).length := by rw [le4_length]; omega
    simp only [f_ref02_Seal.l0]
    refine sel_t (by simp; omega) ?_
    have hx : (le4 n)[i] = UInt8.ofNat (n / 256 ^ i) := by
      rw [le4_length] at hlt
      match i, hlt with
      | 0, _ => simp [le4]
      | 1, _ => rfl
      | 2, _ => rfl
      | 3, _ => rfl
    have ew : IntKind.u8.wrap (((n / 256 ^ i : Nat) : Int).tmod 256) = ((le4 n)[i].toNat : Int) := by
      rw [hx, Int.tmod_eq_emod_of_nonneg (Int.natCast_nonneg _), u8w, UInt8.toNat_ofNat']; omega
    rw [ew]
    refine alW_intro ?_
    have h1 : Go.Dn.RB (w.alloc (.cells #[.int .u8 ((le4 n)[i].toNat : Int)] 5)) (some ⟨w.heap.size, 0, none⟩) [(le4 n)[i]] :=
      (OwnB.lit (B := B) [(le4 n)[i]] rfl hBw (by simp)).reads
    have ho1 := ho.keep ((Below.refl w.heap.size w).alloc (Nat.le_refl _) (.cells #[.int .u8 ((le4 n)[i].toNat : Int)] 5))
    have htl : ((le4 n).take i).length = i := by rw [List.length_take, le4_length]; omega
    refine app_runs TBy ho1 htl.symm h1 rfl (fun h => by cases h) (by simp; omega) (by rw [htl]; simp; omega) ?_
    intro A' c' w' ho' hb' _ _
    refine ⟨_, _, _, rfl, ?_⟩
    rw [w64_in (by omega), show (i : Int) + 1 = ((i + 1 : Nat) : Int) by omega]
    have e : (le4 n).take i ++ [(le4 n)[i]] = (le4 n).take (i + 1) := by rw [List.take_succ_eq_append_getElem hlt]
    rw [e] at ho' ⊢
    have e2 : ((le4 n).take (i + 1)).length = i + 1 := by rw [List.length_take, le4_length]; omega
    have e3 : IntKind.u32.wrap (((n / 256 ^ i : Nat) : Int).tdiv 256) = ((n / 256 ^ (i + 1) : Nat) : Int) := by
      have h1 : n / 256 ^ i / 256 = n / 256 ^ (i + 1) := by rw [Nat.div_div_eq_div_mul, Nat.pow_succ]
      have h2 : n / 256 ^ i ≤ n := Nat.div_le_self _ _
      rw [← h1, Int.tdiv_eq_ediv_of_nonneg (Int.natCast_nonneg _), u32w]
      generalize n / 256 ^ i = q at *
      omega
    rw [e2, e3]
    refine ih k (i + 1) A' c' w' (by omega) (by omega) (by omega) ho' ?_ ?_
    · exact (hb.alloc hBw _).trans hb'
    · have := hb'.size; simp at this; omega
theorem RSeal_ok {w : World} {A : Option Addr} {n c : Nat} {l : List UInt8} (hr : Go.Dn.RB w A l) (hn : n = l.length) (hlen : l.length ≤ 140737488355000) :
    Calls Tryd.prog 62 #[.slice A n c] w fun e w' => ∃ A' c', e = .returned (.slice A' (sealL l).length c') ∧ OwnB w' w.heap.size 5 A' c' (sealL l) ∧ Below w.heap.size w w' := by
  subst hn
  apply f_ref02_Seal.ok
  unfold f_ref02_Seal.wp
  refine alW_intro ?_
  have hb0 := (Below.refl w.heap.size w).alloc (Nat.le_refl _) (.cells #[] 5)
  have h0 := OwnB.lit (w := w) (B := w.heap.size) (e := 5) [] (cs := #[]) rfl (Nat.le_refl _) (by simp)
  refine (RSum_ok (hr.below hb0 (Nat.le_refl _)) (by omega)).mono ?_
  rintro e w1 ⟨rfl, rfl⟩
  refine ⟨_, rfl, 5, ?_⟩
  have := RSeal_l0 (n := crcSum l) (crcSum_lt l) (B := w.heap.size) (w0 := w) (K := fun A11 n11 c11 w12 => ∀ _ : Fr, Calls Tryd.prog 64 #[.slice A11 n11 c11, .slice A l.length c] w12 fun e13 w14 => ∃ (A15 : Option Addr) (n15 : Nat) (c15 : Nat), e13 = .returned (.slice A15 n15 c15) ∧
    (∃ A' c', Ending.returned (.slice A15 n15 c15) = .returned (.slice A' (sealL l).length c') ∧ OwnB w14 w.heap.size 5 A' c' (sealL l) ∧ Below w.heap.size w w14)) ?_ 4 5 0 _ _ _ (by omega) (by omega) (by omega) h0 hb0 (by simp)
  · simpa using this
  intro A2 c2 w2 ho2 hb2 hB2 _
  refine (Cat_ok ho2.reads (hr.below hb2 (Nat.le_refl _)) rfl rfl (by rw [le4_length]; omega)).mono ?_
  rintro e w3 ⟨A3, c3, rfl, ho3, hb3⟩
  exact ⟨_, _, _, rfl, A3, c3, rfl, ho3.mono hb2.size, hb2.trans (hb3.mono hb2.size)⟩
theorem openL_sealed {l : List UInt8} (h : 4 ≤ l.length) : (sealL (l.drop 4) = l) = (l.take 4 = le4 (crcSum (l.drop 4))) := by
  obtain ⟨a, b, c, d, r, rfl⟩ := four h
  unfold sealL
  simp only [List.drop_succ_cons, List.drop_zero, List.take_succ_cons, List.take_zero]
  rw [show a :: b :: c :: d :: r = [a, b, c, d] ++ r from rfl]
  simp only [List.append_cancel_right_eq]
  exact propext ⟨Eq.symm, Eq.symm⟩
theorem ROpen_ok {w : World} {A : Option Addr} {n c : Nat} {l : List UInt8} (hr : Go.Dn.RB w A l) (hn : n = l.length) (hlen : l.length ≤ 140737488355000) :
    Calls Tryd.prog 35 #[.slice A n c] w fun e w' => ∃ A' c', e = .returned (.tuple #[.slice A' (openL l).1.length c', .bool (openL l).2]) ∧ OwnB w' w.heap.size 5 A' c' (openL l).1 ∧ Below w.heap.size w w' := by
  subst hn
  apply f_ref02_Open.ok
  unfold f_ref02_Open.wp
  by_cases h4 : 4 ≤ l.length
  · refine sel_f (by simp; omega) ?_
    refine (Piece_ok (p := 4) (q := l.length) hr rfl (by omega) (Nat.le_refl _) h4).mono ?_
    rintro e w1 ⟨A1, c1, rfl, ho1, hb1⟩
    rw [List.take_length] at ho1 ⊢
    refine ⟨_, _, _, rfl, ?_⟩
    refine (RSeal_ok ho1.reads rfl (by rw [List.length_drop]; omega)).mono ?_
    rintro e w2 ⟨A2, c2, rfl, ho2, hb2⟩
    refine ⟨_, _, _, rfl, ?_⟩
    have hb12 := hb1.trans (hb2.mono hb1.size)
    refine (Same_ok ho2.reads (hr.below hb12 (Nat.le_refl _)) rfl rfl (by unfold sealL; rw [List.length_append, le4_length, List.length_drop]; omega)).mono ?_
    rintro e w3 ⟨rfl, hb3⟩
    have hb13 := hb12.trans (hb3.mono hb12.size)
    refine ⟨_, rfl, ?_⟩
    unfold openL
    rw [if_pos h4]
    by_cases he : l.take 4 = le4 (crcSum (l.drop 4))
    · rw [if_pos he]
      have : sealL (l.drop 4) = l := by rw [openL_sealed h4]; exact he
      refine sel_f (by simp [this]) ⟨A1, c1, rfl, (ho1.keep (hb2.trans (hb3.mono hb2.size))), hb13⟩
    · rw [if_neg he]
      have : ¬ sealL (l.drop 4) = l := by rw [openL_sealed h4]; exact he
      exact sel_t (by simp [this]) ⟨none, 0, rfl, World.ownsRow_nil _ _ _ _, hb13⟩
  · refine sel_t (by simp; omega) ⟨none, 0, ?_, ?_, Below.refl _ _⟩
    · unfold openL; rw [if_neg h4]; rfl
    · unfold openL; rw [if_neg h4]; exact World.ownsRow_nil _ _ _ _

end Go.Proofs.YtifambgaekjilaaDoor.Rd
