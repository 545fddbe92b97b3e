/- The statement CrcAdds, walked. -/
import Derived.Test.YtkimodpighdgeaaCrcI
namespace Go.Proofs.Ytkimodpighdgeaa.Rd
open Go.Dn Go.RowKit
set_option linter.unusedVariables false
set_option linter.unusedSimpArgs false

theorem bxor8 (x y : UInt8) : bxor .u8 (x.toNat : Int) (y.toNat : Int) = ((x ^^^ y).toNat : Int) := by
  have hx := x.toNat_lt; have hy := y.toNat_lt
  unfold bxor
  show IntKind.u8.wrap (((BitVec.ofInt 8 (x.toNat : Int)) ^^^ BitVec.ofInt 8 (y.toNat : Int)).toNat : Int) = _
  have e : ∀ z : UInt8, (BitVec.ofInt 8 (z.toNat : Int)).toNat = z.toNat := fun z => by have := z.toNat_lt; simp [BitVec.toNat_ofInt]
  rw [BitVec.toNat_xor, e, e, u8w, UInt8.toNat_xor]
  have := Nat.xor_lt_two_pow (n := 8) (x := x.toNat) (y := y.toNat) (by omega) (by omega)
  omega
def xorL (a b c : List UInt8) : List UInt8 := List.zipWith (fun x y => x ^^^ y) (List.zipWith (fun x y => x ^^^ y) a b) c
theorem xorL_len {a b c : List UInt8} (h1 : a.length = b.length) (h2 : a.length = c.length) : (xorL a b c).length = a.length := by
  unfold xorL; rw [List.length_zipWith, List.length_zipWith]; omega
theorem Adds_l0 {w0 : World} {Bs m : Nat} {A B C : Option Addr} {ca cb cc : Nat} {a b c : List UInt8} (ra : RB w0 A a) (rb : RB w0 B b) (rc : RB w0 C c) (ha : m ≤ a.length) (hb : m ≤ b.length) (hc : m ≤ c.length) (hlen : a.length ≤ 140737488351232) (hB : w0.heap.size ≤ Bs)
    {K : Option Addr → Nat → Nat → World → Prop} (hK : ∀ A' c' w', OwnB w' Bs 5 A' c' (xorL (a.take m) (b.take m) (c.take m)) → Below Bs w0 w' → K A' m c' w') :
    ∀ (r k i : Nat) (A3 : Option Addr) (c3 : Nat) (w : World), m - i = r → i ≤ m → r < k → OwnB w Bs 5 A3 c3 ((xorL (a.take m) (b.take m) (c.take m)).take i) → Below Bs w0 w → Bs ≤ w.heap.size →
      f_law02_CrcAdds.l0 k A a.length ca B b.length cb C c.length cc (m : Int) A3 i c3 (i : Int) w K := by
  have hx : (xorL (a.take m) (b.take m) (c.take m)).length = m := by
    rw [xorL_len (by rw [List.length_take, List.length_take]; omega) (by rw [List.length_take, List.length_take]; omega), List.length_take]; omega
  intro r
  induction r with
  | zero =>
    intro k i A3 c3 w hm hi hk ho hbw hBw
    obtain ⟨k, rfl⟩ : ∃ j, k = j + 1 := ⟨k - 1, by omega⟩
    simp only [f_law02_CrcAdds.l0]
    obtain rfl : i = m := by omega
    rw [List.take_of_length_le (by omega)] at ho
    exact sel_f (by simp) (hK _ _ _ ho hbw)
  | succ r ih =>
    intro k i A3 c3 w hm hi hk ho hbw hBw
    obtain ⟨k, rfl⟩ : ∃ j, k = j + 1 := ⟨k - 1, by omega⟩
    have hlt : i < m := by omega
    simp only [f_law02_CrcAdds.l0]
    refine sel_t (by simp; omega) (drW_intro ?_)
    have hbd := hbw.trans (Below.drw (B := Bs) (w := w))
    refine ⟨fun w' => Below Bs w0 w', hbd, ?_⟩
    have rd : ∀ {A : Option Addr} {l : List UInt8} (hr : RB w0 A l) (hl : i < l.length), ∃ p, A = some p ∧ ∀ w', Below Bs w0 w' → w'.cell? (p.add i) = some (byteV l[i]) := fun hr hl => by
      obtain ⟨p, hp, _⟩ := hr i hl
      refine ⟨p, hp, fun w' hw => ?_⟩
      obtain ⟨p', hp', hc⟩ := (hr.below hw hB) i hl
      rw [hp] at hp'; injection hp' with hp'; subst hp'; exact hc
    obtain ⟨pa, rfl, qa⟩ := rd ra (by omega)
    obtain ⟨pb, rfl, qb⟩ := rd rb (by omega)
    obtain ⟨pc, rfl, qc⟩ := rd rc (by omega)
    refine optB_some rfl (req_intro (by simp; omega) ⟨(a[i].toNat : Int), fun w' hw => by rw [Int.toNat_natCast, Nat.mul_one]; exact qa w' hw, ?_⟩)
    refine optB_some rfl (req_intro (by simp; omega) ⟨(b[i].toNat : Int), fun w' hw => by rw [Int.toNat_natCast, Nat.mul_one]; exact qb w' hw, ?_⟩)
    refine optB_some rfl (req_intro (by simp; omega) ⟨(c[i].toNat : Int), fun w' hw => by rw [Int.toNat_natCast, Nat.mul_one]; exact qc w' hw, ?_⟩)
    simp only [bxor8]
    have hxi : (xorL (a.take m) (b.take m) (c.take m))[i]'(by omega) = a[i] ^^^ b[i] ^^^ c[i] := by
      simp [xorL]
    refine alW_intro ⟨hbd.alloc (by simpa using hBw) _, ?_⟩
    have h1 : RB (w.drew.alloc (.cells #[.int .u8 ((a[i] ^^^ b[i] ^^^ c[i]).toNat : Int)] 5)) (some ⟨w.drew.heap.size, 0, none⟩) [a[i] ^^^ b[i] ^^^ c[i]] :=
      (OwnB.lit (B := Bs) [a[i] ^^^ b[i] ^^^ c[i]] rfl (by simpa using hBw) (by simp)).reads
    have ho1 := (ho.keep (Below.drw (B := w.heap.size))).keep ((Below.refl w.drew.heap.size w.drew).alloc (Nat.le_refl _) (.cells #[.int .u8 ((a[i] ^^^ b[i] ^^^ c[i]).toNat : Int)] 5))
    refine app_runs TBy ho1 (by rw [List.length_take, hx]; omega) h1 rfl (fun h => by cases h) (by simp; omega) (by rw [List.length_take, hx]; simp; omega) ?_
    intro A' c' w' ho' hb' _ _
    refine ⟨_, _, _, rfl, ?_⟩
    rw [w64_in (by omega), show (i : Int) + 1 = ((i + 1 : Nat) : Int) by omega]
    have e : (xorL (a.take m) (b.take m) (c.take m)).take i ++ [a[i] ^^^ b[i] ^^^ c[i]] = (xorL (a.take m) (b.take m) (c.take m)).take (i + 1) := by rw [← hxi, List.take_succ_eq_append_getElem (by omega)]
    rw [e] at ho' ⊢
    rw [show ((xorL (a.take m) (b.take m) (c.take m)).take (i + 1)).length = i + 1 by rw [List.length_take, hx]; omega]
    refine ih k (i + 1) A' c' w' (by omega) (by omega) (by omega) ho' ((hbd.alloc (by simpa using hBw) _).trans hb') ?_
    have := hb'.size; simp at this; omega

def fOn (l : List UInt8) (v : Value) (w : World) : Prop := ∃ A, v = .slice A 1 1 ∧ RP w A [l]
theorem fOn.keep {l : List UInt8} {v : Value} {w w' : World} (h : fOn l v w) (hb : Below w.heap.size w w') : fOn l v w' := by
  obtain ⟨A, e, hr⟩ := h; exact ⟨A, e, hr.below hb⟩
theorem one_ok {w : World} {A1 : Option Addr} {n1 c1 : Nat} {l1 : List UInt8} (h1 : fSl l1 (.slice A1 n1 c1) w) (hl1 : l1.length ≤ 140737488355328) :
    fOn l1 (.slice (some ⟨w.heap.size, 0, none⟩) 1 1) (w.alloc (.cells #[.slice A1 n1 c1] 22)) := by
  obtain ⟨_, _, e1, r1⟩ := h1
  injection e1 with e1 e1' e1''
  subst e1; subst e1'; subst e1''
  exact ⟨_, rfl, RP.one r1 hl1⟩
theorem sum1 {w : World} {A : Option Addr} {n c : Nat} {l1 : List UInt8} (h : fOn l1 (.slice A n c) w) : Calls Try.prog 15 #[.slice A n c] w fun e w' => e = .returned (.int .u32 (crcSum l1 : Int)) ∧ w' = w := by
  obtain ⟨_, e, hr⟩ := h
  injection e with e1 e2 e3
  subst e1; subst e2; subst e3
  have := Sum_ok (c := 1) hr (by show 1 ≤ _; decide)
  rwa [show [l1].flatten = l1 by simp] at this
def fA (x a b c : List UInt8) (i : Nat) (v : Value) (w : World) : Prop := match i with
  | 1 => fOn x v w | 2 => fNm (crcSum x) v w
  | 5 => fSl a v w | 6 => fOn a v w | 7 => fNm (crcSum a) v w
  | 10 => fSl b v w | 11 => fOn b v w | 12 => fNm (crcSum b) v w
  | 16 => fSl c v w | 17 => fOn c v w | 18 => fNm (crcSum c) v w
  | _ => True
theorem fA.keep {x a b c : List UInt8} {i : Nat} {v : Value} {w w' : World} (h : fA x a b c i v w) (hb : Below w.heap.size w w') : fA x a b c i v w' := by
  unfold fA at h ⊢
  split at h <;> first | exact fSl.keep h hb | exact fOn.keep h hb | exact h | trivial
theorem CrcAdds_walk {w : World} {A B C : Option Addr} {na nb nc ca cb cc : Nat} {a b c : List UInt8} (ra : RB w A a) (rb : RB w B b) (rc : RB w C c) (ha : na = a.length) (hb : nb = b.length) (hc : nc = c.length)
    (la : a.length ≤ 140737488351232) (lb : b.length ≤ 140737488351232) (lc : c.length ≤ 140737488351232) (ka : a.length ≤ ca) (kb : b.length ≤ cb) (kc : c.length ≤ cc) :
    Calls Try.prog 5 #[.slice A na ca, .slice B nb cb, .slice C nc cc] w fun e w' => e = .returned (.bool true) ∧ Below w.heap.size w w' := by
  subst ha; subst hb; subst hc
  apply f_law02_CrcAdds.ok
  unfold f_law02_CrcAdds.wp
  refine (alive_ok w).mono ?_
  rintro e w1 ⟨rfl, hb1⟩
  refine ⟨_, rfl, sel_f rfl (alW_intro ?_)⟩
  have ra := ra.below hb1 (Nat.le_refl _); have rb := rb.below hb1 (Nat.le_refl _); have rc := rc.below hb1 (Nat.le_refl _)
  have hs1 := hb1.size
  simp only [min_int]
  have hm1 : min (min a.length b.length) c.length ≤ a.length := by omega
  have hm2 : min (min a.length b.length) c.length ≤ b.length := by omega
  have hm3 : min (min a.length b.length) c.length ≤ c.length := by omega
  generalize min (min a.length b.length) c.length = m at *
  have h0 := OwnB.lit (w := w1) (B := w1.heap.size) (e := 5) [] (cs := #[]) rfl (Nat.le_refl _) (by simp)
  have hba := (Below.refl w1.heap.size w1).alloc (Nat.le_refl _) (.cells #[] 5)
  refine ⟨m + 1, Adds_l0 (w0 := w1) (Bs := w1.heap.size) ra rb rc hm1 hm2 hm3 la (Nat.le_refl _) ?_ m (m + 1) 0 _ 0 _ (by omega) (by omega) (by omega) h0 hba (by simp)⟩
  intro A8 c8 w2 ho hb2' _
  refine drW_intro ?_
  have hb2 := hb2'.trans (Below.drw (B := w1.heap.size) (w := w2))
  have rx : RB w2.drew A8 (xorL (a.take m) (b.take m) (c.take m)) := ho.reads.below (Below.drw (B := w2.heap.size)) (Nat.le_refl _)
  have ra := ra.below hb2 (Nat.le_refl _); have rb := rb.below hb2 (Nat.le_refl _); have rc := rc.below hb2 (Nat.le_refl _)
  have hs2 := hb2.size
  have hx : (xorL (a.take m) (b.take m) (c.take m)).length = m := by
    rw [xorL_len (by rw [List.length_take, List.length_take]; omega) (by rw [List.length_take, List.length_take]; omega), List.length_take]; omega
  generalize w2.drew = w3 at *
  refine ⟨f_law02_CrcAdds.h9_ok .., fun x y => Below x.heap.size x y, fA (xorL (a.take m) (b.take m) (c.take m)) (a.take m) (b.take m) (c.take m), fun _ => Below.refl _ _, fun x y z h1 h2 => h1.trans (h2.mono h1.size), fun i v x y _ h1 h2 => fA.keep h2 h1, ?_, ?_⟩
  · refine ⟨fun _ w4 g => alW_intro ⟨(Below.refl _ _).alloc (Nat.le_refl _) _, one_ok ⟨A8, c8, by rw [hx], rx.below g (Nat.le_refl _)⟩ (by omega)⟩, ?_, ?_⟩
    · intros
      rename_i A6 n6 c6 f6
      refine (sum1 f6).mono ?_
      rintro e w5 ⟨rfl, rfl⟩
      exact ⟨_, rfl, Below.refl _ _, rfl⟩
    refine ⟨fun _ w4 g => req_intro (by simp; omega) ⟨Below.refl _ _, fSl.cut (ra.below g (Nat.le_refl _)) (by omega)⟩, fun _ w4 g A2 n2 c2 f2 => alW_intro ⟨(Below.refl _ _).alloc (Nat.le_refl _) _, one_ok f2 (by rw [List.length_take]; omega)⟩, ?_, ?_⟩
    · intros
      rename_i A6 n6 c6 f6
      refine (sum1 f6).mono ?_
      rintro e w5 ⟨rfl, rfl⟩
      exact ⟨_, rfl, Below.refl _ _, rfl⟩
    refine ⟨fun _ w4 g => req_intro (by simp; omega) ⟨Below.refl _ _, fSl.cut (rb.below g (Nat.le_refl _)) (by omega)⟩, fun _ w4 g A2 n2 c2 f2 => alW_intro ⟨(Below.refl _ _).alloc (Nat.le_refl _) _, one_ok f2 (by rw [List.length_take]; omega)⟩, ?_, ?_⟩
    · intros
      rename_i A6 n6 c6 f6
      refine (sum1 f6).mono ?_
      rintro e w5 ⟨rfl, rfl⟩
      exact ⟨_, rfl, Below.refl _ _, rfl⟩
    refine ⟨fun _ w4 g => req_intro (by simp; omega) ⟨Below.refl _ _, fSl.cut (rc.below g (Nat.le_refl _)) (by omega)⟩, fun _ w4 g A2 n2 c2 f2 => alW_intro ⟨(Below.refl _ _).alloc (Nat.le_refl _) _, one_ok f2 (by rw [List.length_take]; omega)⟩, ?_, ?_⟩
    · intros
      rename_i A6 n6 c6 f6
      refine (sum1 f6).mono ?_
      rintro e w5 ⟨rfl, rfl⟩
      exact ⟨_, rfl, Below.refl _ _, rfl⟩
    trivial
  · intro w4 g
    intros
    rename_i f2 _ _ _ _ _ _ _ _ x7 f7 _ _ _ _ _ _ _ _ x12 f12 _ _ _ _ _ _ _ _ x18 f18
    have e2 := f2; have e7 := f7; have e12 := f12; have e18 := f18
    injection e2 with _ e2; injection e7 with _ e7; injection e12 with _ e12; injection e18 with _ e18
    subst e2; subst e7; subst e12; subst e18
    have hl := adds_law (a.take m) (b.take m) (c.take m) (by rw [List.length_take, List.length_take]; omega) (by rw [List.length_take, List.length_take]; omega)
    refine ⟨?_, (hb1.trans (hb2.mono hs1)).trans (g.mono (Nat.le_trans hs1 hs2))⟩
    rw [bxor_nat _ _ (crcSum_lt _) (crcSum_lt _), bxor_nat _ _ (Nat.xor_lt_two_pow (n := 32) (crcSum_lt _) (crcSum_lt _)) (crcSum_lt _), ← hl]
    simp [xorL]
theorem CrcAdds_row {w : World} {A B C : Option Addr} {na nb nc ca cb cc : Nat} {za zb zc : List Int} (ha : IsRow .u8 w A na ca za) (sa : na * 1 ≤ 140737488351232) (hb : IsRow .u8 w B nb cb zb) (sb : nb * 1 ≤ 140737488351232) (hc : IsRow .u8 w C nc cc zc) (sc : nc * 1 ≤ 140737488351232) :
    Calls Try.prog 5 #[.slice A na ca, .slice B nb cb, .slice C nc cc] w fun e w' => e = .returned (.bool true) ∧ Below w.heap.size w w' := by
  obtain ⟨a, ra, ea, _, ka⟩ := rb_of_row ha
  obtain ⟨b, rb, eb, _, kb⟩ := rb_of_row hb
  obtain ⟨c, rc, ec, _, kc⟩ := rb_of_row hc
  exact CrcAdds_walk ra rb rc ea eb ec (by omega) (by omega) (by omega) ka kb kc
end Go.Proofs.Ytkimodpighdgeaa.Rd
