/- Contracts of the references' helpers over lists of bytes. Conditions: lengths at most 2^46. -/
import Derived.Test.YtakgoekfnhkgaaaDoorBase
import Derived.Test.YtakgoekfnhkgaaaDoorRd
namespace Go.Proofs.YtakgoekfnhkgaaaDoor.Rd
open Go.Dn Go.RowKit
set_option linter.unusedVariables false
set_option linter.unusedSimpArgs false

theorem TBy : ByteTy Tryd.prog 24 5 := ⟨by kernel_rfl, by kernel_rfl⟩

theorem u32w (x : Int) : IntKind.u32.wrap x = x % 4294967296 := by simp [IntKind.wrap, IntKind.bits, IntKind.signed]
theorem u8w (x : Int) : IntKind.u8.wrap x = x % 256 := by simp [IntKind.wrap, IntKind.bits, IntKind.signed]
/-! ### copies -/
theorem Copy_l0 {w0 : World} {A : Option Addr} {c : Nat} {l : List UInt8} {B : Nat} (hr : RB w0 A l) (hlen : l.length ≤ 140737488355328) (hB : w0.heap.size ≤ B)
    {K : Option Addr → Nat → Nat → World → Prop} (hK : ∀ A' c' w', OwnB w' B 5 A' c' l → Below B w0 w' → K A' l.length c' w') :
    ∀ (m k i : Nat) (A3 : Option Addr) (c3 : Nat) (w : World), l.length - i = m → i ≤ l.length → m < k → OwnB w B 5 A3 c3 (l.take i) → Below B w0 w → B ≤ w.heap.size →
      f_ref01_Copy.l0 k A l.length c A3 i c3 (i : Int) w K := by
  intro m
  induction m with
  | zero =>
    intro k i A3 c3 w hm hi hk ho hb hBw
    obtain ⟨k, rfl⟩ : ∃ j, k = j + 1 := ⟨k - 1, by omega⟩
    simp only [f_ref01_Copy.l0]
    refine sel_f (by simp; omega) ?_
    obtain rfl : i = l.length := by omega
    rw [List.take_length] at ho
    exact hK _ _ _ ho hb
  | succ m ih =>
    intro k i A3 c3 w hm hi hk ho hb hBw
    obtain ⟨k, rfl⟩ : ∃ j, k = j + 1 := ⟨k - 1, by omega⟩
    have hlt : i < l.length := by omega
    simp only [f_ref01_Copy.l0]
    refine sel_t (by simp; omega) ?_
    obtain ⟨a, rfl, hc⟩ := (hr.below hb hB) i hlt
    refine optB_some rfl (req_intro (by simp; omega) ?_)
    refine ldI_intro (x := (l[i].toNat : Int)) (by rw [Int.toNat_natCast, Nat.mul_one]; exact hc) ?_
    refine alW_intro ?_
    have h1 : RB (w.alloc (.cells #[.int .u8 (l[i].toNat : Int)] 5)) (some ⟨w.heap.size, 0, none⟩) [l[i]] :=
      (OwnB.lit (B := B) [l[i]] rfl hBw (by simp)).reads
    have ho1 := ho.keep ((Below.refl w.heap.size w).alloc (Nat.le_refl _) (.cells #[.int .u8 (l[i].toNat : Int)] 5))
    refine app_runs TBy ho1 (by simp; omega) h1 rfl (fun h => by cases h) (by simp; omega) (by simp; omega) ?_
    intro A' c' w' ho' hb' _ _
    refine ⟨_, _, _, rfl, ?_⟩
    rw [w64_in (by omega), show (i : Int) + 1 = ((i + 1 : Nat) : Int) by omega]
    have e : l.take i ++ [l[i]] = l.take (i + 1) := by rw [List.take_succ_eq_append_getElem hlt]
    rw [e] at ho' ⊢
    have e2 : (l.take (i + 1)).length = i + 1 := by simp; omega
    rw [e2]
    refine ih k (i + 1) A' c' w' (by omega) (by omega) (by omega) ho' ?_ ?_
    · exact (hb.alloc hBw _).trans hb'
    · have := hb'.size; simp at this; omega

theorem Copy_ok {w : World} {A : Option Addr} {c : Nat} {l : List UInt8} (hr : RB w A l) (hlen : l.length ≤ 140737488355328) :
    Calls Tryd.prog 40 #[.slice A l.length c] w fun e w' => ∃ A' c', e = .returned (.slice A' l.length c') ∧ OwnB w' w.heap.size 5 A' c' l ∧ Below w.heap.size w w' := by
  apply f_ref01_Copy.ok
  unfold f_ref01_Copy.wp
  refine alW_intro ⟨l.length + 1, ?_⟩
  have h0 := OwnB.lit (w := w) (B := w.heap.size) (e := 5) [] (cs := #[]) rfl (Nat.le_refl _) (by simp)
  refine Copy_l0 (w0 := w) (B := w.heap.size) hr hlen (Nat.le_refl _) ?_ l.length _ 0 _ _ _ (by omega) (by omega) (by omega) h0 ((Below.refl _ _).alloc (Nat.le_refl _) _) (by simp)
  intro A' c' w' ho hb _
  exact ⟨A', c', rfl, ho, hb⟩

/-! ### marks -/
def mark (i : Nat) : UInt8 := UInt8.ofNat (208 + i % 9)
def marks : List UInt8 := (List.range 64).map mark
theorem marks_length : marks.length = 64 := by simp [marks]
theorem mark_val (i : Nat) (h : i < 64) : IntKind.u8.wrap (IntKind.i64.wrap ((208 : Int) + ((i : Int).tmod (9 : Int)))) = ((mark i).toNat : Int) := by
  rw [Int.tmod_eq_emod_of_nonneg (by omega), w64_in (by omega), u8w]
  unfold mark
  rw [UInt8.toNat_ofNat']
  omega
theorem Wide_l0 {w0 : World} {B : Nat} {l : List UInt8} (hlen : l.length ≤ 140737488355000)
    {K : Option Addr → Nat → Nat → World → Prop} (hK : ∀ A' c' w', OwnB w' B 5 A' c' (l ++ marks) → Below B w0 w' → K A' (l ++ marks).length c' w') :
    ∀ (m k i n3 : Nat) (A3 : Option Addr) (c3 : Nat) (w : World), 64 - i = m → i ≤ 64 → m < k → n3 = l.length + i → OwnB w B 5 A3 c3 (l ++ marks.take i) → Below B w0 w → B ≤ w.heap.size →
      f_ref01_Wide.l0 k A3 n3 c3 (i : Int) w K := by
  intro m
  induction m with
  | zero =>
    intro k i n3 A3 c3 w hm hi hk hn ho hb hBw
    obtain ⟨k, rfl⟩ : ∃ j, k = j + 1 := ⟨k - 1, by omega⟩
    simp only [f_ref01_Wide.l0]
    refine sel_f (by simp; omega) ?_
    obtain rfl : i = 64 := by omega
    rw [show marks.take 64 = marks from List.take_of_length_le (by rw [marks_length]; omega)] at ho
    have := hK _ _ _ ho hb
    rw [List.length_append, marks_length] at this
    rw [hn]; exact this
  | succ m ih =>
    intro k i n3 A3 c3 w hm hi hk hn ho hb hBw
    obtain ⟨k, rfl⟩ : ∃ j, k = j + 1 := ⟨k - 1, by omega⟩
    have hlt : i < 64 := by omega
    simp only [f_ref01_Wide.l0]
    refine sel_t (by simp; omega) ?_
    rw [mark_val i hlt]
    refine alW_intro ?_
    have h1 : RB (w.alloc (.cells #[.int .u8 ((mark i).toNat : Int)] 5)) (some ⟨w.heap.size, 0, none⟩) [mark i] :=
      (OwnB.lit (B := B) [mark i] rfl hBw (by simp)).reads
    have ho1 := ho.keep ((Below.refl w.heap.size w).alloc (Nat.le_refl _) (.cells #[.int .u8 ((mark i).toNat : Int)] 5))
    refine app_runs TBy ho1 (by rw [hn, List.length_append, List.length_take, marks_length]; omega) h1 rfl (fun h => by cases h) (by simp; omega) (by rw [List.length_append, List.length_take, marks_length]; simp; omega) ?_
    intro A' c' w' ho' hb' _ _
    refine ⟨_, _, _, rfl, ?_⟩
    rw [w64_in (by omega), show (i : Int) + 1 = ((i + 1 : Nat) : Int) by omega]
    have e : l ++ marks.take i ++ [mark i] = l ++ marks.take (i + 1) := by
      rw [List.append_assoc, List.take_succ_eq_append_getElem (by rw [marks_length]; exact hlt)]
      simp [marks]
    rw [e] at ho' ⊢
    refine ih k (i + 1) _ A' c' w' (by omega) (by omega) (by omega) (by rw [List.length_append, List.length_take, marks_length]; omega) ho' ?_ ?_
    · exact (hb.alloc hBw _).trans hb'
    · have := hb'.size; simp at this; omega
theorem Wide_ok {w : World} {A : Option Addr} {c : Nat} {l : List UInt8} (hr : RB w A l) (hlen : l.length ≤ 140737488355000) :
    Calls Tryd.prog 15 #[.slice A l.length c] w fun e w' => ∃ A' c', e = .returned (.slice A' (l ++ marks).length c') ∧ OwnB w' w.heap.size 5 A' c' (l ++ marks) ∧ Below w.heap.size w w' := by
  apply f_ref01_Wide.ok
  unfold f_ref01_Wide.wp
  refine (Copy_ok hr (by omega)).mono ?_
  rintro e w1 ⟨A1, c1, rfl, ho, hb⟩
  refine ⟨_, _, _, rfl, 65, ?_⟩
  refine Wide_l0 (w0 := w) (B := w.heap.size) hlen ?_ 64 65 0 l.length A1 c1 w1 (by omega) (by omega) (by omega) (by omega) (by simpa using ho) hb hb.size
  intro A' c' w' ho' hb' _
  exact ⟨A', c', rfl, ho', hb'⟩

theorem Below.drw {B : Nat} {w : World} : Below B w w.drew := (Below.refl B w).drew
theorem Intact_l0 {w0 : World} {A : Option Addr} {c : Nat} {A1 : Option Addr} {c1 : Nat} {l l2 : List UInt8} (hr : RB w0 A (l ++ l2)) (hr1 : RB w0 A1 l) (hlen : l.length + l2.length ≤ 140737488355328) 
    {K : World → Prop} {Kr : Bool → World → Prop} (hK : ∀ w', Below w0.heap.size w0 w' → K w') :
    ∀ (m k i : Nat) (w : World), l.length - i = m → i ≤ l.length → m < k → Below w0.heap.size w0 w → f_ref01_Intact.l0 k A (l ++ l2).length c A1 l.length c1 (i : Int) w K Kr := by
  intro m
  induction m with
  | zero =>
    intro k i w hm hi hk hb
    obtain ⟨k, rfl⟩ : ∃ j, k = j + 1 := ⟨k - 1, by omega⟩
    simp only [f_ref01_Intact.l0]
    exact sel_f (by simp; omega) (hK w hb)
  | succ m ih =>
    intro k i w hm hi hk hb
    obtain ⟨k, rfl⟩ : ∃ j, k = j + 1 := ⟨k - 1, by omega⟩
    have hlt : i < l.length := by omega
    simp only [f_ref01_Intact.l0]
    refine sel_t (by simp; omega) (drW_intro ?_)
    have hb1 := hb.trans (Below.drw (B := w0.heap.size) (w := w))
    obtain ⟨a, rfl, hc⟩ := (hr.below hb1 (Nat.le_refl _)) i (by simp; omega)
    obtain ⟨a1, rfl, hc1⟩ := (hr1.below hb1 (Nat.le_refl _)) i hlt
    refine optB_some rfl (req_intro (by simp; omega) ?_)
    refine ldI_intro (x := (l[i].toNat : Int)) (by rw [Int.toNat_natCast, Nat.mul_one]; rw [List.getElem_append_left hlt] at hc; exact hc) ?_
    refine optB_some rfl (req_intro (by simp; omega) ?_)
    refine ldI_intro (x := (l[i].toNat : Int)) (by rw [Int.toNat_natCast, Nat.mul_one]; exact hc1) ?_
    refine sel_f (by simp) ?_
    rw [w64_in (by omega), show (i : Int) + 1 = ((i + 1 : Nat) : Int) by omega]
    exact ih k (i + 1) _ (by omega) (by omega) (by omega) hb1
theorem Intact_l1 {w : World} {A : Option Addr} {c : Nat} {A1 : Option Addr} {c1 : Nat} {l : List UInt8} (hr : RB w A (l ++ marks)) (hlen : l.length ≤ 140737488355000)
    {K : World → Prop} {Kr : Bool → World → Prop} (hK : K w) :
    ∀ (m k i : Nat), 64 - i = m → i ≤ 64 → m < k → f_ref01_Intact.l1 k A (l ++ marks).length c A1 l.length c1 (i : Int) w K Kr := by
  intro m
  induction m with
  | zero =>
    intro k i hm hi hk
    obtain ⟨k, rfl⟩ : ∃ j, k = j + 1 := ⟨k - 1, by omega⟩
    simp only [f_ref01_Intact.l1]
    exact sel_f (by simp; omega) hK
  | succ m ih =>
    intro k i hm hi hk
    obtain ⟨k, rfl⟩ : ∃ j, k = j + 1 := ⟨k - 1, by omega⟩
    have hlt : i < 64 := by omega
    simp only [f_ref01_Intact.l1]
    refine sel_t (by simp; omega) ?_
    rw [mark_val i hlt, w64_in (x := (l.length : Int) + i) (by omega), w64_in (x := (i : Int) + 1) (by omega), show (i : Int) + 1 = ((i + 1 : Nat) : Int) by omega, show (l.length : Int) + i = ((l.length + i : Nat) : Int) by omega]
    obtain ⟨a, rfl, hc⟩ := hr (l.length + i) (by rw [List.length_append, marks_length]; omega)
    refine optB_some rfl (req_intro (by rw [List.length_append, marks_length]; simp; omega) ?_)
    refine ldI_intro (x := ((mark i).toNat : Int)) (by
      rw [Int.toNat_natCast, Nat.mul_one, hc, List.getElem_append_right (by omega)]
      simp [marks, byteV]) ?_
    refine sel_f (by simp) ?_
    exact ih k (i + 1) (by omega) (by omega) (by omega)
theorem Intact_ok {w : World} {A : Option Addr} {n c : Nat} {A1 : Option Addr} {c1 : Nat} {l : List UInt8} (hr : RB w A (l ++ marks)) (hr1 : RB w A1 l) (hlen : l.length ≤ 140737488355000) (hn : n = (l ++ marks).length) :
    Calls Tryd.prog 18 #[.slice A n c, .slice A1 l.length c1] w fun e w' => e = .returned (.bool true) ∧ Below w.heap.size w w' := by
  subst hn
  apply f_ref01_Intact.ok
  unfold f_ref01_Intact.wp
  refine sel_f ?_ ⟨l.length + 1, ?_⟩
  · rw [w64_in (by omega), List.length_append, marks_length]; simp
  · refine Intact_l0 hr hr1 (by rw [marks_length]; omega) ?_ l.length _ 0 w (by omega) (by omega) (by omega) (Below.refl _ _)
    intro w' hb _
    refine ⟨65, Intact_l1 (hr.below hb (Nat.le_refl _)) hlen ?_ 64 65 0 (by omega) (by omega) (by omega)⟩
    intro _
    exact ⟨rfl, hb⟩
end Go.Proofs.YtakgoekfnhkgaaaDoor.Rd
