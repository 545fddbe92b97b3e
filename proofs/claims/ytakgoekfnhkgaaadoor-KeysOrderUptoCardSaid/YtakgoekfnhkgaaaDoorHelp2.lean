/- Contracts of the references' helpers that compare, cut, join and spoil lists of bytes. Conditions: lengths at most 2^46. -/
import Derived.Test.YtakgoekfnhkgaaaDoorHelp
namespace Go.Proofs.YtakgoekfnhkgaaaDoor.Rd
open Go.Dn Go.RowKit
set_option linter.unusedVariables false
set_option linter.unusedSimpArgs false

/-! ### comparing -/
theorem Same_l0 {w0 : World} {A : Option Addr} {c : Nat} {A1 : Option Addr} {c1 : Nat} {l l1 : List UInt8} (hr : RB w0 A l) (hr1 : RB w0 A1 l1) (hll : l.length = l1.length) (hlen : l.length ≤ 140737488355328)
    {K : World → Prop} {Kr : Bool → World → Prop} (hK : ∀ w', Below w0.heap.size w0 w' → l = l1 → K w') (hKr : ∀ w', Below w0.heap.size w0 w' → l ≠ l1 → Kr false w') :
    ∀ (m k i : Nat) (w : World), l.length - i = m → i ≤ l.length → m < k → l.take i = l1.take i → Below w0.heap.size w0 w → f_ref01_Same.l0 k A l.length c A1 l1.length c1 (i : Int) w K Kr := by
  intro m
  induction m with
  | zero =>
    intro k i w hm hi hk ht hb
    obtain ⟨k, rfl⟩ : ∃ j, k = j + 1 := ⟨k - 1, by omega⟩
    simp only [f_ref01_Same.l0]
    refine sel_f (by simp; omega) (hK w hb ?_)
    rwa [List.take_of_length_le (by omega), List.take_of_length_le (by omega)] at ht
  | succ m ih =>
    intro k i w hm hi hk ht hb
    obtain ⟨k, rfl⟩ : ∃ j, k = j + 1 := ⟨k - 1, by omega⟩
    have hlt : i < l.length := by omega
    have hlt1 : i < l1.length := by omega
    simp only [f_ref01_Same.l0]
    refine sel_t (by simp; omega) (drW_intro ?_)
    have hb1 := hb.trans (Below.drw (B := w0.heap.size) (w := w))
    obtain ⟨a, rfl, hc⟩ := (hr.below hb1 (Nat.le_refl _)) i hlt
    obtain ⟨a1, rfl, hc1⟩ := (hr1.below hb1 (Nat.le_refl _)) i hlt1
    refine optB_some rfl (req_intro (by simp; omega) ?_)
    refine ldI_intro (x := (l[i].toNat : Int)) (by rw [Int.toNat_natCast, Nat.mul_one]; exact hc) ?_
    refine optB_some rfl (req_intro (by simp; omega) ?_)
    refine ldI_intro (x := (l1[i].toNat : Int)) (by rw [Int.toNat_natCast, Nat.mul_one]; exact hc1) ?_
    by_cases he : l[i] = l1[i]
    · refine sel_f (by rw [he]; simp) ?_
      rw [w64_in (by omega), show (i : Int) + 1 = ((i + 1 : Nat) : Int) by omega]
      refine ih k (i + 1) _ (by omega) (by omega) (by omega) ?_ hb1
      rw [List.take_succ_eq_append_getElem hlt, List.take_succ_eq_append_getElem hlt1, ht, he]
    · refine sel_t ?_ (hKr _ hb1 ?_)
      · simp only [bne_iff_ne, ne_eq]
        intro h; exact he (UInt8.toNat.inj (by omega))
      · intro h; subst h; exact he rfl
theorem Same_ok {w : World} {A : Option Addr} {n c : Nat} {l : List UInt8} {A1 : Option Addr} {n1 c1 : Nat} {l1 : List UInt8} (hr : RB w A l) (hr1 : RB w A1 l1) (hn : n = l.length) (hn1 : n1 = l1.length) (hlen : l.length ≤ 140737488355328) :
    Calls Tryd.prog 24 #[.slice A n c, .slice A1 n1 c1] w fun e w' => e = .returned (.bool (decide (l = l1))) ∧ Below w.heap.size w w' := by
  subst hn; subst hn1
  apply f_ref01_Same.ok
  unfold f_ref01_Same.wp
  by_cases hll : l.length = l1.length
  · refine sel_f (by simp; omega) ⟨l.length + 1, ?_⟩
    refine Same_l0 (w0 := w) hr hr1 hll hlen ?_ ?_ l.length _ 0 w (by omega) (by omega) (by omega) rfl (Below.refl _ _)
    · intro w' hb he _; rw [decide_eq_true he]; exact ⟨rfl, hb⟩
    · intro w' hb he _; rw [decide_eq_false he]; exact ⟨rfl, hb⟩
  · refine sel_t (by simp; omega) ⟨?_, Below.refl _ _⟩
    rw [decide_eq_false]; intro h; exact hll (by rw [h])

/-! ### joining -/
theorem Cat_l0 {w0 : World} {A : Option Addr} {c : Nat} {l : List UInt8} {B : Nat} (hr : RB w0 A l) (hlen : l.length ≤ 140737488355328) (hB : w0.heap.size ≤ B)
    {K : Option Addr → Nat → Nat → World → Prop} (hK : ∀ A' c' w', OwnB w' B 5 A' c' l → Below B w0 w' → B ≤ w'.heap.size → K A' l.length c' w') :
    ∀ (m k i : Nat) (A3 : Option Addr) (c3 : Nat) (w : World), l.length - i = m → i ≤ l.length → m < k → OwnB w B 5 A3 c3 (l.take i) → Below B w0 w → B ≤ w.heap.size →
      f_ref01_Cat.l0 k A l.length c A3 i c3 (i : Int) w K := by
  intro m
  induction m with
  | zero =>
    intro k i A3 c3 w hm hi hk ho hb hBw
    obtain ⟨k, rfl⟩ : ∃ j, k = j + 1 := ⟨k - 1, by omega⟩
    simp only [f_ref01_Cat.l0]
    refine sel_f (by simp; omega) ?_
    obtain rfl : i = l.length := by omega
    rw [List.take_length] at ho
    exact hK _ _ _ ho hb hBw
  | succ m ih =>
    intro k i A3 c3 w hm hi hk ho hb hBw
    obtain ⟨k, rfl⟩ : ∃ j, k = j + 1 := ⟨k - 1, by omega⟩
    have hlt : i < l.length := by omega
    simp only [f_ref01_Cat.l0]
    refine sel_t (by simp; omega) ?_
    obtain ⟨a, rfl, hc⟩ := (hr.below hb hB) i hlt
    refine optB_some rfl (req_intro (by simp; omega) ?_)
    refine ldI_intro (x := (l[i].toNat : Int)) (by rw [Int.toNat_natCast, Nat.mul_one]; exact hc) ?_
    refine alW_intro ?_
    have h1 : RB (w.alloc (.cells #[.int .u8 (l[i].toNat : Int)] 5)) (some ⟨w.heap.size, 0, none⟩) [l[i]] :=
      (OwnB.lit (B := B) [l[i]] rfl hBw (by simp)).reads
    have ho1 := ho.keep ((Below.refl w.heap.size w).alloc (Nat.le_refl _) (.cells #[.int .u8 (l[i].toNat : Int)] 5))
    refine app_runs TBy ho1 (by simp; omega) h1 rfl (fun h => by cases h) (by simp; omega) (by simp; omega) ?_
    intro A' c' w' ho' hb' _ _
    refine ⟨_, _, _, rfl, ?_⟩
    rw [w64_in (by omega), show (i : Int) + 1 = ((i + 1 : Nat) : Int) by omega]
    have e : l.take i ++ [l[i]] = l.take (i + 1) := by rw [List.take_succ_eq_append_getElem hlt]
    rw [e] at ho' ⊢
    have e2 : (l.take (i + 1)).length = i + 1 := by simp; omega
    rw [e2]
    refine ih k (i + 1) A' c' w' (by omega) (by omega) (by omega) ho' ?_ ?_
    · exact (hb.alloc hBw _).trans hb'
    · have := hb'.size; simp at this; omega
theorem Cat_l1 {w0 : World} {A : Option Addr} {c : Nat} {l0 l : List UInt8} {B : Nat} (hr : RB w0 A l) (hlen : l0.length + l.length ≤ 140737488355328) (hB : w0.heap.size ≤ B)
    {K : Option Addr → Nat → Nat → World → Prop} (hK : ∀ A' c' w', OwnB w' B 5 A' c' (l0 ++ l) → Below B w0 w' → K A' (l0 ++ l).length c' w') :
    ∀ (m k i n3 : Nat) (A3 : Option Addr) (c3 : Nat) (w : World), l.length - i = m → i ≤ l.length → m < k → n3 = l0.length + i → OwnB w B 5 A3 c3 (l0 ++ l.take i) → Below B w0 w → B ≤ w.heap.size →
      f_ref01_Cat.l1 k A l.length c A3 n3 c3 (i : Int) w K := by
  intro m
  induction m with
  | zero =>
    intro k i n3 A3 c3 w hm hi hk hn ho hb hBw
    obtain ⟨k, rfl⟩ : ∃ j, k = j + 1 := ⟨k - 1, by omega⟩
    simp only [f_ref01_Cat.l1]
    refine sel_f (by simp; omega) ?_
    obtain rfl : i = l.length := by omega
    rw [List.take_length] at ho
    have := hK _ _ _ ho hb
    rw [List.length_append] at this
    rw [hn]; exact this
  | succ m ih =>
    intro k i n3 A3 c3 w hm hi hk hn ho hb hBw
    obtain ⟨k, rfl⟩ : ∃ j, k = j + 1 := ⟨k - 1, by omega⟩
    have hlt : i < l.length := by omega
    simp only [f_ref01_Cat.l1]
    refine sel_t (by simp; omega) ?_
    obtain ⟨a, rfl, hc⟩ := (hr.below hb hB) i hlt
    refine optB_some rfl (req_intro (by simp; omega) ?_)
    refine ldI_intro (x := (l[i].toNat : Int)) (by rw [Int.toNat_natCast, Nat.mul_one]; exact hc) ?_
    refine alW_intro ?_
    have h1 : RB (w.alloc (.cells #[.int .u8 (l[i].toNat : Int)] 5)) (some ⟨w.heap.size, 0, none⟩) [l[i]] :=
      (OwnB.lit (B := B) [l[i]] rfl hBw (by simp)).reads
    have ho1 := ho.keep ((Below.refl w.heap.size w).alloc (Nat.le_refl _) (.cells #[.int .u8 (l[i].toNat : Int)] 5))
    refine app_runs TBy ho1 (by rw [hn, List.length_append, List.length_take]; omega) h1 rfl (fun h => by cases h) (by simp; omega) (by rw [List.length_append, List.length_take]; simp; omega) ?_
    intro A' c' w' ho' hb' _ _
    refine ⟨_, _, _, rfl, ?_⟩
    rw [w64_in (by omega), show (i : Int) + 1 = ((i + 1 : Nat) : Int) by omega]
    have e : l0 ++ l.take i ++ [l[i]] = l0 ++ l.take (i + 1) := by rw [List.append_assoc, List.take_succ_eq_append_getElem hlt]
    rw [e] at ho' ⊢
    refine ih k (i + 1) _ A' c' w' (by omega) (by omega) (by omega) (by rw [List.length_append, List.length_take]; omega) ho' ?_ ?_
    · exact (hb.alloc hBw _).trans hb'
    · have := hb'.size; simp at this; omega
theorem Cat_ok {w : World} {A : Option Addr} {n c : Nat} {l : List UInt8} {A1 : Option Addr} {n1 c1 : Nat} {l1 : List UInt8} (hr : RB w A l) (hr1 : RB w A1 l1) (hn : n = l.length) (hn1 : n1 = l1.length) (hlen : l.length + l1.length ≤ 140737488355328) :
    Calls Tryd.prog 34 #[.slice A n c, .slice A1 n1 c1] w fun e w' => ∃ A' c', e = .returned (.slice A' (l ++ l1).length c') ∧ OwnB w' w.heap.size 5 A' c' (l ++ l1) ∧ Below w.heap.size w w' := by
  subst hn; subst hn1
  apply f_ref01_Cat.ok
  unfold f_ref01_Cat.wp
  refine alW_intro ⟨l.length + 1, ?_⟩
  have h0 := OwnB.lit (w := w) (B := w.heap.size) (e := 5) [] (cs := #[]) rfl (Nat.le_refl _) (by simp)
  refine Cat_l0 (w0 := w) (B := w.heap.size) hr (by omega) (Nat.le_refl _) ?_ l.length _ 0 _ _ _ (by omega) (by omega) (by omega) h0 ((Below.refl _ _).alloc (Nat.le_refl _) _) (by simp)
  intro A' c' w' ho hb hBw _
  refine ⟨l1.length + 1, ?_⟩
  refine Cat_l1 (w0 := w) (B := w.heap.size) (l0 := l) hr1 hlen (Nat.le_refl _) ?_ l1.length _ 0 _ _ _ _ (by omega) (by omega) (by omega) rfl (by simpa using ho) hb hBw
  intro A2 c2 w2 ho2 hb2 _
  exact ⟨A2, c2, rfl, ho2, hb2⟩

/-! ### cutting -/
theorem Piece_l1 {w0 : World} {A : Option Addr} {c : Nat} {l : List UInt8} {B p q : Nat} (hr : RB w0 A l) (hlen : l.length ≤ 140737488355328) (hB : w0.heap.size ≤ B) (hq : q ≤ l.length) (hpq : p ≤ q)
    {K : Option Addr → Nat → Nat → World → Prop} (hK : ∀ A' c' w', OwnB w' B 5 A' c' ((l.take q).drop p) → Below B w0 w' → K A' (q - p) c' w') :
    ∀ (m k i n3 : Nat) (A3 : Option Addr) (c3 : Nat) (w : World), q - i = m → p ≤ i → i ≤ q → m < k → n3 = i - p → OwnB w B 5 A3 c3 ((l.take i).drop p) → Below B w0 w → B ≤ w.heap.size →
      f_ref01_Piece.l1 k A l.length c (q : Int) A3 n3 c3 (i : Int) w K := by
  intro m
  induction m with
  | zero =>
    intro k i n3 A3 c3 w hm hpi hi hk hn ho hb hBw
    obtain ⟨k, rfl⟩ : ∃ j, k = j + 1 := ⟨k - 1, by omega⟩
    simp only [f_ref01_Piece.l1]
    obtain rfl : i = q := by omega
    have hfin : K A3 n3 c3 w := by rw [hn]; exact hK _ _ _ ho hb
    by_cases h : i < l.length
    · exact sel_t (by simp; omega) (sel_f (by simp) hfin)
    · exact sel_f (by simp; omega) hfin
  | succ m ih =>
    intro k i n3 A3 c3 w hm hpi hi hk hn ho hb hBw
    obtain ⟨k, rfl⟩ : ∃ j, k = j + 1 := ⟨k - 1, by omega⟩
    have hlt : i < l.length := by omega
    simp only [f_ref01_Piece.l1]
    refine sel_t (by simp; omega) (sel_t (by simp; omega) ?_)
    obtain ⟨a, rfl, hc⟩ := (hr.below hb hB) i hlt
    refine optB_some rfl (req_intro (by simp; omega) ?_)
    refine ldI_intro (x := (l[i].toNat : Int)) (by rw [Int.toNat_natCast, Nat.mul_one]; exact hc) ?_
    refine alW_intro ?_
    have h1 : RB (w.alloc (.cells #[.int .u8 (l[i].toNat : Int)] 5)) (some ⟨w.heap.size, 0, none⟩) [l[i]] :=
      (OwnB.lit (B := B) [l[i]] rfl hBw (by simp)).reads
    have ho1 := ho.keep ((Below.refl w.heap.size w).alloc (Nat.le_refl _) (.cells #[.int .u8 (l[i].toNat : Int)] 5))
    refine app_runs TBy ho1 (by rw [hn, List.length_drop, List.length_take]; omega) h1 rfl (fun h => by cases h) (by simp; omega) (by rw [List.length_drop, List.length_take]; simp; omega) ?_
    intro A' c' w' ho' hb' _ _
    refine ⟨_, _, _, rfl, ?_⟩
    rw [w64_in (by omega), show (i : Int) + 1 = ((i + 1 : Nat) : Int) by omega]
    have e : (l.take i).drop p ++ [l[i]] = (l.take (i + 1)).drop p := by
      rw [List.take_succ_eq_append_getElem hlt, List.drop_append_of_le_length (by rw [List.length_take]; omega)]
    rw [e] at ho' ⊢
    refine ih k (i + 1) _ A' c' w' (by omega) (by omega) (by omega) (by omega) (by rw [List.length_drop, List.length_take]; omega) ho' ?_ ?_
    · exact (hb.alloc hBw _).trans hb'
    · have := hb'.size; simp at this; omega
theorem Piece_ok {w : World} {A : Option Addr} {n c p q : Nat} {l : List UInt8} (hr : RB w A l) (hn : n = l.length) (hlen : l.length ≤ 140737488355328) (hq : q ≤ l.length) (hpq : p ≤ q) :
    Calls Tryd.prog 25 #[.slice A n c, .int .i64 (p : Int), .int .i64 (q : Int)] w fun e w' => ∃ A' c', e = .returned (.slice A' ((l.take q).drop p).length c') ∧ OwnB w' w.heap.size 5 A' c' ((l.take q).drop p) ∧ Below w.heap.size w w' := by
  subst hn
  apply f_ref01_Piece.ok
  unfold f_ref01_Piece.wp
  refine alW_intro (sel_f (by simp) ?_)
  unfold f_ref01_Piece.j0
  refine ⟨q - p + 1, ?_⟩
  have h0 := OwnB.lit (w := w) (B := w.heap.size) (e := 5) [] (cs := #[]) rfl (Nat.le_refl _) (by simp)
  have he : (l.take p).drop p = [] := List.drop_eq_nil_of_le (by rw [List.length_take]; omega)
  refine Piece_l1 (w0 := w) (B := w.heap.size) (p := p) hr hlen (Nat.le_refl _) hq hpq ?_ (q - p) _ p 0 _ _ _ rfl (Nat.le_refl _) hpq (by omega) (by omega) (by rw [he]; exact h0) ((Below.refl _ _).alloc (Nat.le_refl _) _) (by simp)
  intro A' c' w' ho hb _ _
  refine ⟨A', c', ?_, ho, hb⟩
  congr 2
  rw [List.length_drop, List.length_take]; omega

/-! ### spoiling -/
def flip (b : UInt8) : UInt8 := b ^^^ 90
theorem bxor90 (b : UInt8) : bxor .u8 (b.toNat : Int) 90 = ((flip b).toNat : Int) := by
  unfold bxor
  show IntKind.u8.wrap (((BitVec.ofInt 8 (b.toNat : Int)) ^^^ BitVec.ofInt 8 90).toNat : Int) = _
  rw [BitVec.toNat_xor]
  have hb := b.toNat_lt
  have e : (BitVec.ofInt 8 (b.toNat : Int)).toNat = b.toNat := by simp [BitVec.toNat_ofInt]
  rw [e, u8w]
  have h2 : (flip b).toNat = b.toNat ^^^ 90 := by unfold flip; rw [UInt8.toNat_xor]; rfl
  rw [h2]
  have := Nat.xor_lt_two_pow (n := 8) (x := b.toNat) (y := 90) (by omega) (by decide)
  show ((b.toNat ^^^ 90 : Nat) : Int) % 256 = _
  omega
theorem Spoil_l0 {w0 : World} {B g c : Nat} {l : List UInt8} (hlen : l.length ≤ 140737488355328)
    {K : World → Prop} (hK : ∀ w', OwnB w' B 5 (some ⟨g, 0, none⟩) c (l.map flip) → w0.grownBy w' (some g) → K w') :
    ∀ (m k i : Nat) (w : World), l.length - i = m → i ≤ l.length → m < k → OwnB w B 5 (some ⟨g, 0, none⟩) c ((l.take i).map flip ++ l.drop i) → w0.grownBy w (some g) →
      f_ref01_Spoil.l0 k (some ⟨g, 0, none⟩) l.length c (i : Int) w K := by
  intro m
  induction m with
  | zero =>
    intro k i w hm hi hk ho hg
    obtain ⟨k, rfl⟩ : ∃ j, k = j + 1 := ⟨k - 1, by omega⟩
    simp only [f_ref01_Spoil.l0]
    refine sel_f (by simp; omega) ?_
    obtain rfl : i = l.length := by omega
    rw [List.take_length, List.drop_length, List.append_nil] at ho
    exact hK _ ho hg
  | succ m ih =>
    intro k i w hm hi hk ho hg
    obtain ⟨k, rfl⟩ : ∃ j, k = j + 1 := ⟨k - 1, by omega⟩
    have hlt : i < l.length := by omega
    have hL : ((l.take i).map flip ++ l.drop i).length = l.length := by rw [List.length_append, List.length_map, List.length_take, List.length_drop]; omega
    simp only [f_ref01_Spoil.l0]
    refine sel_t (by simp; omega) ?_
    obtain ⟨a, ha, hc⟩ := ho.reads i (by omega)
    injection ha with ha; subst ha
    have hgi : ((l.take i).map flip ++ l.drop i)[i]'(by omega) = l[i] := by
      rw [List.getElem_append_right (by rw [List.length_map, List.length_take]; omega)]
      simp [show min i l.length = i by omega]
    rw [hgi] at hc
    refine optB_some rfl (req_intro (by simp; omega) ?_)
    refine ldI_intro (x := (l[i].toNat : Int)) (by rw [Int.toNat_natCast, Nat.mul_one]; exact hc) ?_
    refine optB_some rfl (req_intro (by simp; omega) ?_)
    rw [Int.toNat_natCast, Nat.mul_one, add_mk, Nat.zero_add, bxor90]
    have ho2 : w.ownsRow B 5 1 (.slice (some ⟨g, 0, none⟩) l.length c) l.length (((l.take i).map flip ++ l.drop i).map byteV) := by
      unfold OwnB at ho; rw [hL] at ho; exact ho
    obtain ⟨hs, hgs⟩ := World.ownsRow.stored ho2 i (byteV (flip l[i]))
    refine stW_intro ⟨⟨byteV l[i], by rw [add_mk, Nat.zero_add] at hc; exact hc⟩, World.ownsRow.frozenAt ho2 i⟩ ?_
    rw [w64_in (by omega), show (i : Int) + 1 = ((i + 1 : Nat) : Int) by omega]
    refine ih k (i + 1) _ (by omega) (by omega) (by omega) ?_ (gb_trans hg hgs)
    unfold OwnB
    have e : ((((l.take i).map flip ++ l.drop i).map byteV).set i (byteV (flip l[i]))) = ((l.take (i + 1)).map flip ++ l.drop (i + 1)).map byteV := by
      rw [← List.map_set]
      congr 1
      rw [List.set_append_right _ _ (by rw [List.length_map, List.length_take]; omega), List.drop_eq_getElem_cons hlt, List.take_succ_eq_append_getElem hlt, List.length_map, List.length_take, show i - min i l.length = 0 by omega]
      rw [List.set_cons_zero, List.map_append, List.append_assoc]
      rfl
    rw [e] at hs
    have hL2 : ((l.take (i + 1)).map flip ++ l.drop (i + 1)).length = l.length := by rw [List.length_append, List.length_map, List.length_take, List.length_drop]; omega
    rw [hL2]; exact hs
theorem Spoil_ok {w : World} {B : Nat} {A : Option Addr} {n c : Nat} {l : List UInt8} (ho : OwnB w B 5 A c l) (hn : n = l.length) (hlen : l.length ≤ 140737488355328) :
    Calls Tryd.prog 37 #[.slice A n c] w fun e w' => e = .returned (.tuple #[]) ∧ OwnB w' B 5 A c (l.map flip) ∧ w.grownBy w' (Value.slice A n c).ownBlock := by
  subst hn
  apply f_ref01_Spoil.ok
  unfold f_ref01_Spoil.wp
  refine ⟨l.length + 1, ?_⟩
  have hg0 : ∀ r, w.grownBy w r := fun r => ⟨rfl, rfl, rfl, Nat.le_refl _, fun _ _ _ => rfl⟩
  rcases ho.2 with ⟨h1, h2⟩ | ⟨g, cap, cur, hv, hbg, hgg, hnc, hcm, hcs, htake⟩
  · injection h1 with h1 _ h3
    subst h1; subst h3
    have : l = [] := List.length_eq_zero_iff.mp h2
    subst this
    simp only [f_ref01_Spoil.l0]
    exact sel_f (by simp) fun _ => ⟨trivial, ho, hg0 _⟩
  · injection hv with hA hn hc
    subst hA; subst hc
    refine Spoil_l0 (w0 := w) (B := B) hlen ?_ l.length _ 0 w (by omega) (by omega) (by omega) (by simpa using ho) (hg0 _)
    intro w' ho' hg' _
    exact ⟨rfl, ho', hg'⟩

theorem Turned_l0 {w0 : World} {A : Option Addr} {c : Nat} {A1 : Option Addr} {c1 : Nat} {l : List UInt8} (hr : RB w0 A (l.map flip)) (hr1 : RB w0 A1 l) (hlen : l.length ≤ 140737488355328)
    {K : World → Prop} {Kr : Bool → World → Prop} (hK : ∀ w', Below w0.heap.size w0 w' → K w') :
    ∀ (m k i : Nat) (w : World), l.length - i = m → i ≤ l.length → m < k → Below w0.heap.size w0 w → f_ref01_Turned.l0 k A l.length c A1 l.length c1 (i : Int) w K Kr := by
  intro m
  induction m with
  | zero =>
    intro k i w hm hi hk hb
    obtain ⟨k, rfl⟩ : ∃ j, k = j + 1 := ⟨k - 1, by omega⟩
    simp only [f_ref01_Turned.l0]
    exact sel_f (by simp; omega) (hK w hb)
  | succ m ih =>
    intro k i w hm hi hk hb
    obtain ⟨k, rfl⟩ : ∃ j, k = j + 1 := ⟨k - 1, by omega⟩
    have hlt : i < l.length := by omega
    simp only [f_ref01_Turned.l0]
    refine sel_t (by simp; omega) (drW_intro ?_)
    have hb1 := hb.trans (Below.drw (B := w0.heap.size) (w := w))
    obtain ⟨a, rfl, hc⟩ := (hr.below hb1 (Nat.le_refl _)) i (by simpa using hlt)
    obtain ⟨a1, rfl, hc1⟩ := (hr1.below hb1 (Nat.le_refl _)) i hlt
    refine optB_some rfl (req_intro (by simp; omega) ?_)
    refine ldI_intro (x := ((flip l[i]).toNat : Int)) (by rw [Int.toNat_natCast, Nat.mul_one, hc, List.getElem_map]; rfl) ?_
    refine optB_some rfl (req_intro (by simp; omega) ?_)
    refine ldI_intro (x := (l[i].toNat : Int)) (by rw [Int.toNat_natCast, Nat.mul_one]; exact hc1) ?_
    rw [bxor90]
    refine sel_f (by simp) ?_
    rw [w64_in (by omega), show (i : Int) + 1 = ((i + 1 : Nat) : Int) by omega]
    exact ih k (i + 1) _ (by omega) (by omega) (by omega) hb1
theorem Turned_ok {w : World} {A : Option Addr} {n c : Nat} {l : List UInt8} {A1 : Option Addr} {n1 c1 : Nat} (hr : RB w A (l.map flip)) (hr1 : RB w A1 l) (hn : n = l.length) (hn1 : n1 = l.length) (hlen : l.length ≤ 140737488355328) :
    Calls Tryd.prog 38 #[.slice A n c, .slice A1 n1 c1] w fun e w' => e = .returned (.bool true) ∧ Below w.heap.size w w' := by
  subst hn; subst hn1
  apply f_ref01_Turned.ok
  unfold f_ref01_Turned.wp
  refine sel_f (by simp) ⟨l.length + 1, ?_⟩
  refine Turned_l0 (w0 := w) hr hr1 hlen ?_ l.length _ 0 w (by omega) (by omega) (by omega) (Below.refl _ _)
  intro w' hb _
  exact ⟨rfl, hb⟩

/-! ### apart -/
def cnt (i : Nat) : UInt8 := UInt8.ofNat i
def cnts (n : Nat) : List UInt8 := (List.range n).map cnt
theorem cnts_length (n : Nat) : (cnts n).length = n := by simp [cnts]
theorem cnts_succ (n : Nat) : cnts n ++ [cnt n] = cnts (n + 1) := by simp [cnts, List.range_succ]
theorem ownBlock_of {A : Option Addr} {n c k : Nat} : (Value.slice A n c).ownBlock = some k ↔ ∃ a, A = some a ∧ a.block = k := by
  cases A with
  | none => simp [Value.ownBlock]
  | some a => simp [Value.ownBlock]
theorem Apart_l0 {w0 : World} {B : Nat} {A0 : Option Addr} {l : List UInt8} (hlen : l.length ≤ 140737488355000) (hB : B ≤ w0.heap.size) (hA0 : ∀ a, A0 = some a → B ≤ a.block ∧ a.block < w0.heap.size)
    {r : Option Nat} (hrA : ∀ a, A0 = some a → r = some a.block)
    {K : Option Addr → Nat → Nat → World → Prop} (hK : ∀ A' c' w', RB w' A0 l → w0.grownBy w' r → K A' (l.length + 70) c' w') :
    ∀ (m k i n3 : Nat) (A3 : Option Addr) (c3 : Nat) (w : World), 70 - i = m → i ≤ 70 → m < k → n3 = l.length + i → OwnB w B 5 A3 c3 (l ++ cnts i) → RB w A0 l → w0.grownBy w r → (A3 = A0 ∨ ∀ a, A3 = some a → w0.heap.size ≤ a.block) →
      f_ref01_Apart.l0 k A3 n3 c3 (i : Int) w K := by
  intro m
  induction m with
  | zero =>
    intro k i n3 A3 c3 w hm hi hk hn ho hr hg hd
    obtain ⟨k, rfl⟩ : ∃ j, k = j + 1 := ⟨k - 1, by omega⟩
    simp only [f_ref01_Apart.l0]
    refine sel_f (by simp; omega) ?_
    obtain rfl : i = 70 := by omega
    rw [hn]
    exact hK _ _ _ hr hg
  | succ m ih =>
    intro k i n3 A3 c3 w hm hi hk hn ho hr hg hd
    obtain ⟨k, rfl⟩ : ∃ j, k = j + 1 := ⟨k - 1, by omega⟩
    have hlt : i < 70 := by omega
    simp only [f_ref01_Apart.l0]
    refine sel_t (by simp; omega) ?_
    have ew : IntKind.u8.wrap (i : Int) = ((cnt i).toNat : Int) := by rw [u8w]; unfold cnt; rw [UInt8.toNat_ofNat']; omega
    rw [ew]
    refine alW_intro ?_
    have hBw : B ≤ w.heap.size := Nat.le_trans hB hg.size
    have h1 : RB (w.alloc (.cells #[.int .u8 ((cnt i).toNat : Int)] 5)) (some ⟨w.heap.size, 0, none⟩) [cnt i] :=
      (OwnB.lit (B := B) [cnt i] rfl hBw (by simp)).reads
    have hba := (Below.refl w.heap.size w).alloc (Nat.le_refl _) (.cells #[.int .u8 ((cnt i).toNat : Int)] 5)
    have ho1 := ho.keep hba
    have hr1 := hr.below hba (Nat.le_refl _)
    have hg1 : w0.grownBy (w.alloc (.cells #[.int .u8 ((cnt i).toNat : Int)] 5)) r := gb_below hg (hba.mono hg.size)
    refine app_keep TBy ho1 (by rw [hn, List.length_append, cnts_length]) h1 rfl (by simp) (Nat.le_trans hBw hba.size) (by rw [List.length_append, cnts_length, List.length_singleton]; omega) ?_
    intro A' c' w' ho' hg' hd' hr'
    refine ⟨_, _, _, rfl, ?_⟩
    rw [w64_in (by omega), show (i : Int) + 1 = ((i + 1 : Nat) : Int) by omega]
    have e : l ++ cnts i ++ [cnt i] = l ++ cnts (i + 1) := by rw [List.append_assoc, cnts_succ]
    rw [e] at ho' ⊢
    have hlw : w0.heap.size ≤ w.heap.size := hg.size
    refine ih k (i + 1) _ A' c' w' (by omega) (by omega) (by omega) (by rw [List.length_append, cnts_length]) ho' ?_ ?_ ?_
    · rcases hd with hd | hd
      · subst hd
        have := hr'.take l.length
        rwa [List.take_left] at this
      · refine hr1.only hg' fun a ha h => ?_
        obtain ⟨a3, h3, hb3⟩ := ownBlock_of.1 h.symm
        have := hd a3 h3
        have := (hA0 a ha).2
        omega
    · refine ⟨hg'.os.trans hg1.os, hg'.tape.trans hg1.tape, hg'.output.trans hg1.output, Nat.le_trans hg1.size hg'.size, fun j hj hn => ?_⟩
      refine (hg'.block j (Nat.lt_of_lt_of_le hj hg1.size) fun h => ?_).trans (hg1.block j hj hn)
      obtain ⟨a3, h3, hb3⟩ := ownBlock_of.1 h.symm
      rcases hd with hd | hd
      · subst hd
        exact hn (by rw [hrA a3 h3, hb3])
      · have := hd a3 h3; omega
    · rcases hd' with hd' | hd'
      · rw [hd']; exact hd
      · right; intro a ha; have := hd' a ha; simp at this; omega
theorem Apart_ok {w : World} {B : Nat} {A0 : Option Addr} {n0 c0 : Nat} {l0 : List UInt8} {A1 : Option Addr} {n1 c1 : Nat} {l1 : List UInt8} {A2 : Option Addr} {n2 c2 : Nat} {l2 : List UInt8}
    (ho : OwnB w B 5 A0 c0 l0) (hr1 : RB w A1 l1) (hr2 : RB w A2 l2) (hn0 : n0 = l0.length) (hn1 : n1 = l1.length) (hn2 : n2 = l2.length) (hlen : l0.length ≤ 140737488355000) (hlen1 : l1.length ≤ 140737488355000)
    (hd1 : Dj A1 A0) (hd2 : Dj A2 A0) (hB : B ≤ w.heap.size) :
    Calls Tryd.prog 12 #[.slice A0 n0 c0, .slice A1 n1 c1, .slice A2 n2 c2] w fun e w' => e = .returned (.bool (decide (l0 = l2) && decide (l1 = l2))) ∧ Below B w w' := by
  subst hn0; subst hn1; subst hn2
  apply f_ref01_Apart.ok
  unfold f_ref01_Apart.wp
  refine (Same_ok ho.reads hr2 rfl rfl (by omega)).mono ?_
  rintro e wa ⟨rfl, hba⟩
  refine ⟨_, rfl, ?_⟩
  by_cases h02 : l0 = l2
  · rw [decide_eq_true h02]
    refine sel_f rfl ?_
    refine (Same_ok (hr1.below hba (Nat.le_refl _)) (hr2.below hba (Nat.le_refl _)) rfl rfl (by omega)).mono ?_
    rintro e wb ⟨rfl, hbb⟩
    refine ⟨_, rfl, ?_⟩
    by_cases h12 : l1 = l2
    · rw [decide_eq_true h12]
      refine sel_f rfl ?_
      subst h02; subst h12
      have hab := hba.trans (hbb.mono hba.size)
      have hob := ho.keep hab
      refine (Spoil_ok hob rfl (by omega)).mono ?_
      rintro e wc ⟨rfl, hoc, hgc⟩
      refine ⟨rfl, 71, ?_⟩
      have hne1 : ∀ a, A1 = some a → some a.block ≠ (Value.slice A0 l1.length c0).ownBlock := fun a ha h => by
        obtain ⟨a0, h0, hb0⟩ := ownBlock_of.1 h.symm
        exact hd1 a a0 ha h0 hb0.symm
      have hne2 : ∀ a, A2 = some a → some a.block ≠ (Value.slice A0 l1.length c0).ownBlock := fun a ha h => by
        obtain ⟨a0, h0, hb0⟩ := ownBlock_of.1 h.symm
        exact hd2 a a0 ha h0 hb0.symm
      have hr1c := (hr1.below hab (Nat.le_refl _)).only hgc hne1
      have hr2c := (hr2.below hab (Nat.le_refl _)).only hgc hne2
      have hBc : B ≤ wc.heap.size := Nat.le_trans (Nat.le_trans hB hab.size) hgc.size
      have hbc : Below B w wc := (hab.mono hB).trans (below_gb hgc (Nat.le_trans hB hab.size) fun k hk => by
        obtain ⟨a, ha, hb⟩ := ownBlock_of.1 hk; rw [← hb]; exact (hob.block a ha).1)
      refine Apart_l0 (w0 := wc) (B := B) (A0 := A0) (l := l1.map flip) (r := (Value.slice A0 l1.length c0).ownBlock) (by simpa using hlen) hBc hoc.block (fun a ha => by rw [ha]; rfl) ?_ 70 71 0 _ A0 c0 wc rfl (by omega) (by omega) (by simp) (by simpa [cnts] using hoc) hoc.reads ⟨rfl, rfl, rfl, Nat.le_refl _, fun _ _ _ => rfl⟩ (.inl rfl)
      intro A' c' w' hr' hg' _
      rw [List.length_map] 
      refine sel_t (by rw [w64_in (by omega)]; simp) ?_
      have hr1d := hr1c.only hg' hne1
      have hr2d := hr2c.only hg' hne2
      have hbd : Below B w w' := hbc.trans (below_gb hg' hBc fun k hk => by
        obtain ⟨a, ha, hb⟩ := ownBlock_of.1 hk; rw [← hb]; exact (hob.block a ha).1)
      refine (Turned_ok hr' hr2d rfl rfl (by omega)).mono ?_
      rintro e we ⟨rfl, hbe⟩
      refine ⟨_, rfl, sel_t rfl ?_⟩
      refine (Same_ok (hr1d.below hbe (Nat.le_refl _)) (hr2d.below hbe (Nat.le_refl _)) rfl rfl (by omega)).mono ?_
      rintro e wf ⟨rfl, hbf⟩
      refine ⟨_, rfl, by simp, ?_⟩
      exact hbd.trans ((hbe.mono (Nat.le_trans hB hbd.size)).trans (hbf.mono (Nat.le_trans (Nat.le_trans hB hbd.size) hbe.size)))
    · rw [decide_eq_false h12]
      exact sel_t rfl ⟨by simp, (hba.mono hB).trans (hbb.mono (Nat.le_trans hB hba.size))⟩
  · rw [decide_eq_false h02]
    exact sel_t rfl ⟨by simp, hba.mono hB⟩
end Go.Proofs.YtakgoekfnhkgaaaDoor.Rd
