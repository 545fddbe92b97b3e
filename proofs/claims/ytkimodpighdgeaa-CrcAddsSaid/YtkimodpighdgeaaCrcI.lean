/- The statement CrcBehind, walked. -/
import Derived.Test.YtkimodpighdgeaaCrcH
namespace Go.Proofs.Ytkimodpighdgeaa.Rd
open Go.Dn Go.RowKit
set_option linter.unusedVariables false
set_option linter.unusedSimpArgs false

def fSl (l : List UInt8) (v : Value) (w : World) : Prop := ∃ A c, v = .slice A l.length c ∧ RB w A l
def fPr (l1 l2 : List UInt8) (v : Value) (w : World) : Prop := ∃ A, v = .slice A 2 2 ∧ RP w A [l1, l2]
def fNm (x : Nat) (v : Value) (w : World) : Prop := v = .int .u32 (x : Int)
theorem RP.below {w w' : World} {A : Option Addr} {L : List (List UInt8)} (h : RP w A L) (hb : Below w.heap.size w w') : RP w' A L := fun i hi => by
  obtain ⟨a, A', c', ha, hc, hr, hl⟩ := h i hi
  refine ⟨a, A', c', ha, ?_, hr.below hb (Nat.le_refl _), hl⟩
  rw [hb.cell (p := a.add i) (World.block_lt_of_cell? w _ hc)]; exact hc
theorem fSl.keep {l : List UInt8} {v : Value} {w w' : World} (h : fSl l v w) (hb : Below w.heap.size w w') : fSl l v w' := by
  obtain ⟨A, c, e, hr⟩ := h; exact ⟨A, c, e, hr.below hb (Nat.le_refl _)⟩
theorem fPr.keep {l1 l2 : List UInt8} {v : Value} {w w' : World} (h : fPr l1 l2 v w) (hb : Below w.heap.size w w') : fPr l1 l2 v w' := by
  obtain ⟨A, e, hr⟩ := h; exact ⟨A, e, hr.below hb⟩
/-- two slices in a row of two -/
theorem pair_ok {w : World} {A1 A2 : Option Addr} {n1 n2 c1 c2 : Nat} {l1 l2 : List UInt8} (h1 : fSl l1 (.slice A1 n1 c1) w) (h2 : fSl l2 (.slice A2 n2 c2) w) (hl1 : l1.length ≤ 140737488355328) (hl2 : l2.length ≤ 140737488355328) :
    fPr l1 l2 (.slice (some ⟨w.heap.size, 0, none⟩) 2 2) (w.alloc (.cells #[.slice A1 n1 c1, .slice A2 n2 c2] 22)) := by
  obtain ⟨_, _, e1, r1⟩ := h1
  obtain ⟨_, _, e2, r2⟩ := h2
  injection e1 with e1 e1' e1''; injection e2 with e2 e2' e2''
  subst e1; subst e1'; subst e1''; subst e2; subst e2'; subst e2''
  have hb := (Below.refl w.heap.size w).alloc (Nat.le_refl _) (.cells #[.slice A1 l1.length c1, .slice A2 l2.length c2] 22)
  refine ⟨_, rfl, fun i hi => ?_⟩
  match i, hi with
  | 0, _ =>
    refine ⟨_, A1, c1, rfl, ?_, r1.below hb (Nat.le_refl _), hl1⟩
    rw [add_mk, World.cell?_alloc_at _ _ _ _ rfl]; rfl
  | 1, _ =>
    refine ⟨_, A2, c2, rfl, ?_, r2.below hb (Nat.le_refl _), hl2⟩
    rw [add_mk, World.cell?_alloc_at _ _ _ _ rfl]; rfl

theorem fSl.cut {w : World} {A : Option Addr} {c m : Nat} {l : List UInt8} (h : RB w A l) (hm : m ≤ l.length) : fSl (l.take m) (.slice (slA A 0 c 1) ((m : Int).toNat - 0) (c - 0)) w := by
  refine ⟨A, c - 0, ?_, h.take m⟩
  rw [slA0, List.length_take, Int.toNat_natCast, Nat.min_eq_left hm]; rfl
theorem sum2 {w : World} {A : Option Addr} {n c : Nat} {l1 l2 : List UInt8} (h : fPr l1 l2 (.slice A n c) w) : Calls Try.prog 15 #[.slice A n c] w fun e w' => e = .returned (.int .u32 (crcSum (l1 ++ l2) : Int)) ∧ w' = w := by
  obtain ⟨_, e, hr⟩ := h
  injection e with e1 e2 e3
  subst e1; subst e2; subst e3
  have := Sum_ok (c := 2) hr (by show 2 ≤ _; decide)
  rwa [show [l1, l2].flatten = l1 ++ l2 by simp] at this
def fB (a b c d : List UInt8) (i : Nat) (v : Value) (w : World) : Prop := match i with
  | 2 => fSl a v w | 5 => fSl c v w | 6 => fPr a c v w | 7 => fNm (crcSum (a ++ c)) v w
  | 10 => fSl b v w | 13 => fSl c v w | 14 => fPr b c v w | 15 => fNm (crcSum (b ++ c)) v w
  | 19 => fSl a v w | 22 => fSl d v w | 23 => fPr a d v w | 24 => fNm (crcSum (a ++ d)) v w
  | 27 => fSl b v w | 30 => fSl d v w | 31 => fPr b d v w | 32 => fNm (crcSum (b ++ d)) v w
  | _ => True
theorem fB.keep {a b c d : List UInt8} {i : Nat} {v : Value} {w w' : World} (h : fB a b c d i v w) (hb : Below w.heap.size w w') : fB a b c d i v w' := by
  unfold fB at h ⊢
  split at h <;> first | exact fSl.keep h hb | exact fPr.keep h hb | exact h | trivial
theorem min_int (x y : Nat) : (if (y : Int) < (x : Int) then (y : Int) else (x : Int)) = ((min x y : Nat) : Int) := by split <;> omega
theorem CrcBehind_walk {w : World} {A B C D : Option Addr} {na nb nc nd ca cb cc cd : Nat} {a b c d : List UInt8} (ra : RB w A a) (rb : RB w B b) (rc : RB w C c) (rd : RB w D d) (ha : na = a.length) (hb : nb = b.length) (hc : nc = c.length) (hd : nd = d.length)
    (la : a.length ≤ 140737488351232) (lb : b.length ≤ 140737488351232) (lc : c.length ≤ 140737488351232) (ld : d.length ≤ 140737488351232) (ka : a.length ≤ ca) (kb : b.length ≤ cb) (kc : c.length ≤ cc) (kd : d.length ≤ cd) :
    Calls Try.prog 6 #[.slice A na ca, .slice B nb cb, .slice C nc cc, .slice D nd cd] w fun e w' => e = .returned (.bool true) ∧ Below w.heap.size w w' := by
  subst ha; subst hb; subst hc; subst hd
  apply f_law02_CrcBehind.ok
  unfold f_law02_CrcBehind.wp
  refine (alive_ok w).mono ?_
  rintro e w1 ⟨rfl, hb1⟩
  refine ⟨_, rfl, sel_f rfl (drW_intro ?_)⟩
  have hb2 := hb1.trans (Below.drw (B := w.heap.size) (w := w1))
  have ra := ra.below hb2 (Nat.le_refl _); have rb := rb.below hb2 (Nat.le_refl _); have rc := rc.below hb2 (Nat.le_refl _); have rd := rd.below hb2 (Nat.le_refl _)
  have hs2 := hb2.size
  generalize w1.drew = w2 at *
  simp only [min_int]
  have hm1 := Nat.min_le_left a.length b.length; have hm2 := Nat.min_le_right a.length b.length
  have hk1 := Nat.min_le_left c.length d.length; have hk2 := Nat.min_le_right c.length d.length
  generalize min a.length b.length = m at *
  generalize min c.length d.length = k at *
  refine ⟨f_law02_CrcBehind.h4_ok .., fun x y => Below x.heap.size x y, fB (a.take m) (b.take m) (c.take k) (d.take k), fun _ => Below.refl _ _, fun x y z h1 h2 => h1.trans (h2.mono h1.size), fun i v x y _ h1 h2 => fB.keep h2 h1, ?_, ?_⟩
  · skip
    refine ⟨fun _ w3 g => req_intro (by simp; omega) ⟨Below.refl _ _, fSl.cut (ra.below g (Nat.le_refl _)) (by omega)⟩, fun _ w3 g => req_intro (by simp; omega) ⟨Below.refl _ _, fSl.cut (rc.below g (Nat.le_refl _)) (by omega)⟩,
      fun _ w3 g A2 n2 c2 f2 A5 n5 c5 f5 => alW_intro ⟨(Below.refl _ _).alloc (Nat.le_refl _) _, pair_ok f2 f5 (by rw [List.length_take]; omega) (by rw [List.length_take]; omega)⟩, ?_, ?_⟩
    · intros
      rename_i A6 n6 c6 f6
      refine (sum2 f6).mono ?_
      rintro e w4 ⟨rfl, rfl⟩
      exact ⟨_, rfl, Below.refl _ _, rfl⟩
    refine ⟨fun _ w3 g => req_intro (by simp; omega) ⟨Below.refl _ _, fSl.cut (rb.below g (Nat.le_refl _)) (by omega)⟩, fun _ w3 g => req_intro (by simp; omega) ⟨Below.refl _ _, fSl.cut (rc.below g (Nat.le_refl _)) (by omega)⟩,
      fun _ w3 g A2 n2 c2 f2 A5 n5 c5 f5 => alW_intro ⟨(Below.refl _ _).alloc (Nat.le_refl _) _, pair_ok f2 f5 (by rw [List.length_take]; omega) (by rw [List.length_take]; omega)⟩, ?_, ?_⟩
    · intros
      rename_i A6 n6 c6 f6
      refine (sum2 f6).mono ?_
      rintro e w4 ⟨rfl, rfl⟩
      exact ⟨_, rfl, Below.refl _ _, rfl⟩
    refine ⟨fun _ w3 g => req_intro (by simp; omega) ⟨Below.refl _ _, fSl.cut (ra.below g (Nat.le_refl _)) (by omega)⟩, fun _ w3 g => req_intro (by simp; omega) ⟨Below.refl _ _, fSl.cut (rd.below g (Nat.le_refl _)) (by omega)⟩,
      fun _ w3 g A2 n2 c2 f2 A5 n5 c5 f5 => alW_intro ⟨(Below.refl _ _).alloc (Nat.le_refl _) _, pair_ok f2 f5 (by rw [List.length_take]; omega) (by rw [List.length_take]; omega)⟩, ?_, ?_⟩
    · intros
      rename_i A6 n6 c6 f6
      refine (sum2 f6).mono ?_
      rintro e w4 ⟨rfl, rfl⟩
      exact ⟨_, rfl, Below.refl _ _, rfl⟩
    refine ⟨fun _ w3 g => req_intro (by simp; omega) ⟨Below.refl _ _, fSl.cut (rb.below g (Nat.le_refl _)) (by omega)⟩, fun _ w3 g => req_intro (by simp; omega) ⟨Below.refl _ _, fSl.cut (rd.below g (Nat.le_refl _)) (by omega)⟩,
      fun _ w3 g A2 n2 c2 f2 A5 n5 c5 f5 => alW_intro ⟨(Below.refl _ _).alloc (Nat.le_refl _) _, pair_ok f2 f5 (by rw [List.length_take]; omega) (by rw [List.length_take]; omega)⟩, ?_, ?_⟩
    · intros
      rename_i A6 n6 c6 f6
      refine (sum2 f6).mono ?_
      rintro e w4 ⟨rfl, rfl⟩
      exact ⟨_, rfl, Below.refl _ _, rfl⟩
    trivial
  · intro w3 g
    intros
    rename_i f7 _ _ _ _ _ _ _ _ _ _ _ _ x15 f15 _ _ _ _ _ _ _ _ _ _ _ _ x24 f24 _ _ _ _ _ _ _ _ _ _ _ _ x32 f32
    have e7 := f7; have e15 := f15; have e24 := f24; have e32 := f32
    injection e7 with _ e7; injection e15 with _ e15; injection e24 with _ e24; injection e32 with _ e32
    subst e7; subst e15; subst e24; subst e32
    have hl := behind_law (a.take m) (b.take m) (c.take k) (d.take k) (by rw [List.length_take, List.length_take]; omega)
    refine ⟨?_, hb2.trans (g.mono hs2)⟩
    rw [bxor_nat _ _ (crcSum_lt _) (crcSum_lt _), bxor_nat _ _ (crcSum_lt _) (crcSum_lt _), hl]
    simp
theorem CrcBehind_row {w : World} {A B C D : Option Addr} {na nb nc nd ca cb cc cd : Nat} {za zb zc zd : List Int} (ha : IsRow .u8 w A na ca za) (sa : na * 1 ≤ 140737488351232) (hb : IsRow .u8 w B nb cb zb) (sb : nb * 1 ≤ 140737488351232) (hc : IsRow .u8 w C nc cc zc) (sc : nc * 1 ≤ 140737488351232) (hd : IsRow .u8 w D nd cd zd) (sd : nd * 1 ≤ 140737488351232) :
    Calls Try.prog 6 #[.slice A na ca, .slice B nb cb, .slice C nc cc, .slice D nd cd] w fun e w' => e = .returned (.bool true) ∧ Below w.heap.size w w' := by
  obtain ⟨a, ra, ea, _, ka⟩ := rb_of_row ha
  obtain ⟨b, rb, eb, _, kb⟩ := rb_of_row hb
  obtain ⟨c, rc, ec, _, kc⟩ := rb_of_row hc
  obtain ⟨d, rd, ed, _, kd⟩ := rb_of_row hd
  exact CrcBehind_walk ra rb rc rd ea eb ec ed (by omega) (by omega) (by omega) (by omega) ka kb kc kd
end Go.Proofs.Ytkimodpighdgeaa.Rd
