/- KeysApart walked. Conditions: the world's shape. -/
import Derived.Test.YtakgoekfnhkgaaaDoorKeO
import Derived.Test.YtakgoekfnhkgaaaDoorRdL6
namespace Go.Proofs.YtakgoekfnhkgaaaDoor.Rd
open Go.Dn Go.RowKit
set_option linter.unusedVariables false
set_option linter.unusedSimpArgs false
set_option maxRecDepth 100000
section
variable {w : World} {A A1 A2 A3 : Option Addr} {c c1 c2 c3 B B1 B3 : Nat} {k l l1 l2 la lb : List UInt8} {s t : Int}
theorem sL_inj {a b : ByteArray} (h : sL a = sL b) : a = b := by
  unfold sL at h
  cases a; cases b
  congr 1
  exact Array.toList_inj.1 h
theorem Piece_any {n : Nat} {q : Nat} (hr : Go.Dn.RB w A l) (hn : n = l.length) (hlen : l.length ≤ 140737488355328) (hq : q ≤ l.length) :
    Calls Tryd.prog 25 #[.slice A n c, .int .i64 0, .int .i64 (q : Int)] w fun e w' => ∃ A' c', e = .returned (.slice A' (l.take q).length c') ∧ OwnB w' w.heap.size TU8 A' c' (l.take q) ∧ Below w.heap.size w w' := by
  have := Piece_ok (c := c) (p := 0) (q := q) hr hn hlen hq (Nat.zero_le _)
  rw [List.drop_zero] at this
  exact this
theorem apart_j0 {e1 e2 : Bool} {x1 x2 : Int} {n1 n2 : ByteArray} {V : List UInt8 × Int} {k : List UInt8} {c5 : Nat} {A5 : Option Addr} (hV : versL k s = V) (rl : Go.Dn.RB w A3 l) (hz3 : A3 = none → c3 = 0) (hc3 : l.length ≤ c3) (hl : l.length ≤ 22) (hkl : k.length ≤ 22) (rv : Go.Dn.RB w A5 V.1)
    (ht : -9223372036854775808 ≤ t ∧ t ≤ 9223372036854775807) (h1 : HB w B1 (rfC e1 x1) TRf) (h3 : HB w B3 (rfC e2 x2) TRf) (heq : k = l ↔ (e1 = e2 ∧ x1 = x2) ∧ n1 = n2) {Kr : Bool → World → Prop} (hK : ∀ w', Below w.heap.size w w' → Kr true w') :
    f_law04_KeysApart.j0 n1 n2 s t ⟨B1, 0, none⟩ ⟨B3, 0, none⟩ A3 l.length c3 A5 V.1.length c5 V.2 w Kr := by
  unfold f_law04_KeysApart.j0
  refine (Version_ok (t := t) rl hz3 hc3 (by omega) ht).mono ?_
  rintro _ w1 ⟨A6, c6, rfl, o6, g1⟩
  have s1 := g1.size
  refine ⟨_, _, _, _, rfl, ?_⟩
  by_cases bs : badT s
  · rw [versL_bad bs] at hV
    subst hV
    exact sel_t rfl (sel_t rfl (hK _ g1))
  rw [versL_ok bs] at hV
  subst hV
  by_cases bt : badT t
  · rw [versL_bad (k := l) bt]
    have hne : ((((escL k ++ [0, 0] ++ bigL s, (0 : Int)).1.length : Nat) : Int) == 0) = false := by
      rw [beq_eq_false_iff_ne]; simp [bigL, be8]; omega
    exact sel_f rfl (sel_t rfl (sel_f hne (hK _ g1)))
  have hek := escL_len k
  have hel := escL_len l
  rw [versL_ok (k := l) bt] at o6 ⊢
  dsimp only at o6 rv ⊢
  have hlv : (escL k ++ [0, 0] ++ bigL s).length = (escL k).length + 10 := by simp [bigL, be8]
  have hlw : (escL l ++ [0, 0] ++ bigL t).length = (escL l).length + 10 := by simp [bigL, be8]
  have ez : IntKind.i64.wrap (((escL k ++ [0, 0] ++ bigL s).length : Int) - 8) = (((escL k).length + 2 : Nat) : Int) := by rw [hlv]; exact w64n (by omega) (by omega)
  rw [ez]
  have hb := begins_iff (k := k) (l := l) (s := s) (t := t) ((escL k).length + 2) (by rw [hlv]; omega)
  have hsame := vers_same (k := k) (l := l) bs bt
  have h11 := h1.below g1
  have h31 := h3.below g1
  have rv1 := rv.below g1 (Nat.le_refl _)
  have nm : (n1.toList == n2.toList) = decide (n1 = n2) := by
    rw [sL_eq, decide_eq_decide]
    exact ⟨sL_inj, fun h => by rw [h]⟩
  have er : ∀ {P Q : World → Prop} {w' : World}, ((e1 = e2 ∧ x1 = x2) → P w') → (¬ (e1 = e2 ∧ x1 = x2) → Q w') → sel ((e1 == e2) && ((x1 == x2) && true)) (P w') (Q w') := fun hp hq => by
    by_cases h : e1 = e2 ∧ x1 = x2
    · exact sel_t (by simp [h.1, h.2]) (hp h)
    · refine sel_f ?_ (hq h)
      rw [Bool.and_true]
      by_cases h' : e1 = e2
      · have : x1 ≠ x2 := fun hx => h ⟨h', hx⟩
        simp [this]
      · simp [h']
  obtain ⟨X, hX⟩ : ∃ X, escL k ++ [0, 0] ++ bigL s = X := ⟨_, rfl⟩
  obtain ⟨Y, hY⟩ : ∃ Y, escL l ++ [0, 0] ++ bigL t = Y := ⟨_, rfl⟩
  rw [hX] at hlv hb hsame rv1 ⊢
  rw [hY] at hlw hb hsame o6 ⊢
  refine sel_f rfl (sel_f rfl ?_)
  by_cases q : (escL k).length + 2 ≤ Y.length
  · refine sel_t (by simp only [ge_iff_le, decide_eq_true_eq]; exact_mod_cast q) ((Piece_any o6.reads rfl (by omega) q).mono ?_)
    rintro _ w2 ⟨A7, c7, rfl, o7, g2⟩
    have s2 := g2.size
    refine ⟨_, _, _, rfl, (Piece_any (rv1.below g2 (Nat.le_refl _)) rfl (by omega) (by omega)).mono ?_⟩
    rintro _ w3 ⟨A8, c8, rfl, o8, g3⟩
    have s3 := g3.size
    refine ⟨_, _, _, rfl, (Same_ok (o7.keep g3).reads o8.reads rfl rfl (by rw [List.length_take]; omega)).mono ?_⟩
    rintro _ w4 ⟨rfl, g4⟩
    have s4 := g4.size
    have f14 : Below w1.heap.size w1 w4 := (g2.trans (g3.mono s2)).trans (g4.mono (by omega))
    have h14 := h11.below f14
    have h34 := h31.below f14
    have hbg : decide (Y.take ((escL k).length + 2) = X.take ((escL k).length + 2)) = decide (k = l) := by
      rw [decide_eq_decide]
      exact ⟨fun h => hb.1 ⟨q, h⟩, fun h => (hb.2 h).2⟩
    rw [hbg]
    have c04 := g1.trans (f14.mono s1)
    have fin : ∀ w', Below w4.heap.size w4 w' → Kr true w' := fun w' g => hK _ (c04.trans (g.mono (by omega)))
    refine ⟨_, rfl, hb_ldB0 h14 rfl (hb_ldI (j := 1) h14 rfl (hb_ldB0 h34 rfl (hb_ldI (j := 1) h34 rfl ?_)))⟩
    have lastS := Same_ok (w := w4) (c := c5) (c1 := c6) (rv1.below f14 (Nat.le_refl _)) (o6.reads.below f14 (Nat.le_refl _)) rfl rfl (by omega)
    have tail : Calls Tryd.prog 24 #[.slice A5 X.length c5, .slice A6 Y.length c6] w4 fun e57 w58 => ∃ (b59 : Bool), e57 = .returned (.bool b59) ∧ (sel (decide (k = l)) (Kr (b59 == (s == t)) w58) (Kr (b59 == false) w58)) := by
      refine lastS.mono ?_
      rintro _ w5 ⟨rfl, g5⟩
      refine ⟨_, rfl, ?_⟩
      by_cases hk : k = l
      · refine sel_t (decide_eq_true hk) ?_
        have : (decide (X = Y) == (s == t)) = true := by
          have e : decide (X = Y) = (s == t) := by
            rw [show (s == t) = decide (s = t) from rfl, decide_eq_decide, hsame]
            exact ⟨fun h => h.2, fun h => ⟨hk, h⟩⟩
          rw [e]; simp
        rw [this]
        exact fin _ g5
      · refine sel_f (decide_eq_false hk) ?_
        rw [decide_eq_false fun h => hk (hsame.1 h).1]
        exact fin _ g5
    refine er (P := fun w51 => sel (decide (k = l) == (n1.toList == n2.toList)) (Calls Tryd.prog 24 #[.slice A5 X.length c5, .slice A6 Y.length c6] w51 fun e57 w58 => ∃ (b59 : Bool), e57 = .returned (.bool b59) ∧ (sel (decide (k = l)) (Kr (b59 == (s == t)) w58) (Kr (b59 == false) w58))) (Kr false w51))
      (Q := fun w51 => sel (decide (k = l) == false) (Calls Tryd.prog 24 #[.slice A5 X.length c5, .slice A6 Y.length c6] w51 fun e57 w58 => ∃ (b59 : Bool), e57 = .returned (.bool b59) ∧ (sel (decide (k = l)) (Kr (b59 == (s == t)) w58) (Kr (b59 == false) w58))) (Kr false w51)) (fun he => ?_) (fun he => ?_)
    · refine sel_t ?_ tail
      rw [nm, beq_iff_eq, decide_eq_decide, heq]
      exact ⟨fun h => h.2, fun h => ⟨he, h⟩⟩
    · refine sel_t ?_ tail
      rw [beq_iff_eq]
      exact decide_eq_false fun h => he (heq.1 h).1
  · refine sel_f (by simp only [ge_iff_le, decide_eq_false_iff_not]; intro h; exact q (by exact_mod_cast h)) (hb_ldB0 h11 rfl (hb_ldI (j := 1) h11 rfl (hb_ldB0 h31 rfl (hb_ldI (j := 1) h31 rfl ?_))))
    have hk : k ≠ l := fun h => q (hb.2 h).1
    have fin : ∀ w', Below w1.heap.size w1 w' → Kr true w' := fun w' g => hK _ (g1.trans (g.mono s1))
    have tail : Calls Tryd.prog 24 #[.slice A5 X.length c5, .slice A6 Y.length c6] w1 fun e57 w58 => ∃ (b59 : Bool), e57 = .returned (.bool b59) ∧ (Kr (b59 == false) w58) := by
      refine (Same_ok (w := w1) (c := c5) (c1 := c6) rv1 o6.reads rfl rfl (by omega)).mono ?_
      rintro _ w5 ⟨rfl, g5⟩
      refine ⟨_, rfl, ?_⟩
      rw [decide_eq_false fun h => hk (hsame.1 h).1]
      exact fin _ g5
    refine er (P := fun w42 => sel (false == (n1.toList == n2.toList)) (Calls Tryd.prog 24 #[.slice A5 X.length c5, .slice A6 Y.length c6] w42 fun e57 w58 => ∃ (b59 : Bool), e57 = .returned (.bool b59) ∧ (Kr (b59 == false) w58)) (Kr false w42))
      (Q := fun w42 => sel (false == false) (Calls Tryd.prog 24 #[.slice A5 X.length c5, .slice A6 Y.length c6] w42 fun e57 w58 => ∃ (b59 : Bool), e57 = .returned (.bool b59) ∧ (Kr (b59 == false) w58)) (Kr false w42)) (fun he => ?_) (fun he => ?_)
    · refine sel_t ?_ tail
      rw [nm, decide_eq_false fun h => hk (heq.2 ⟨he, h⟩)]; rfl
    · exact sel_t rfl tail
set_option maxHeartbeats 1000000 in
theorem KeysApart_row (hS : w.ShapedOpen Tryd.prog) {e1 : Bool} {x1 : Int} (hx1 : (Lit.int .i64 x1).wf = true) {e2 : Bool} {x2 : Int} (hx2 : (Lit.int .i64 x2).wf = true) {n1 : ByteArray} (hn1 : n1.size ≤ 140737488351232) {n2 : ByteArray} (hn2 : n2.size ≤ 140737488351232) (hs : (Lit.int .i64 s).wf = true) (ht : (Lit.int .i64 t).wf = true) :
    Calls Tryd.prog 6 #[.agg #[.bool e1, .int .i64 x1], .agg #[.bool e2, .int .i64 x2], .string n1, .string n2, .int .i64 s, .int .i64 t] w fun r w' => r = .returned (.bool true) ∧ Below w.heap.size w w' := by
  apply f_law04_KeysApart.ok
  unfold f_law04_KeysApart.wp
  have hM := mx_of hS
  have hl1 : (sL n1).length ≤ 140737488351232 := by rw [← sL_size]; exact hn1
  have hl2 : (sL n2).length ≤ 140737488351232 := by rw [← sL_size]; exact hn2
  refine al_new fun w1 B1 q1 z1 h1 g1 => al_new fun w2 B3 q3 z3 h3 g2 => ?_
  have s1 := g1.size
  have s2 := g2.size
  have c02 := g1.trans (g2.mono s1)
  refine (alive_ok (hM.below c02)).mono ?_
  rintro _ w3 ⟨rfl, g3⟩
  have s3 := g3.size
  have h13 : HB w3 B1 (rfC e1 x1) TRf := HB.below (cs := rfC e1 x1) (HB.below (cs := rfC e1 x1) h1 g2) g3
  have h33 : HB w3 B3 (rfC e2 x2) TRf := HB.below (cs := rfC e2 x2) h3 g3
  refine ⟨_, rfl, sel_f rfl (hb_ldB0 h13 rfl (hb_ldI (j := 1) h13 rfl ((Prop_ok (s := n1) (by omega)).mono ?_)))⟩
  rintro _ w4 ⟨A4, c4, rfl, o4, g4⟩
  have s4 := g4.size
  have h34 := h33.below g4
  refine ⟨_, _, _, _, rfl, hb_ldB0 h34 rfl (hb_ldI (j := 1) h34 rfl ((Prop_ok (s := n2) (by omega)).mono ?_))⟩
  rintro _ w5 ⟨A5, c5, rfl, o5, g5⟩
  have s5 := g5.size
  have h15 := (h13.below g4).below g5
  have h35 := h34.below g5
  refine ⟨_, _, _, _, rfl, hb_ldB0 h15 rfl (hb_ldI (j := 1) h15 rfl (Elem_ok.mono ?_))⟩
  rintro _ w6 ⟨A6, c6, rfl, o6, g6⟩
  have s6 := g6.size
  have h16 := h15.below g6
  have h36 := h35.below g6
  have c36 : Below w3.heap.size w3 w6 := (g4.trans (g5.mono s4)).trans (g6.mono (by omega))
  have c06 : Below w.heap.size w w6 := (c02.trans (g3.mono (by omega))).trans (c36.mono (by omega))
  refine ⟨_, _, _, _, rfl, ?_⟩
  have prop0 : ∀ {e : Bool} {x : Int} {nm : List UInt8}, ((propL e x nm).2 = 0 ∧ ¬ badId x ∧ isName nm = true) ∨ ((propL e x nm).2 ≠ 0 ∧ (propL e x nm).1 = []) := fun {e x nm} => by
    unfold propL
    by_cases hb : badId x
    · rw [if_pos hb]; exact .inr ⟨by decide, rfl⟩
    · rw [if_neg hb]
      by_cases hn : isName nm = true
      · rw [if_pos hn]; exact .inl ⟨rfl, hb, hn⟩
      · rw [if_neg hn]; exact .inr ⟨by decide, rfl⟩
  rcases prop0 (e := e1) (x := x1) (nm := sL n1) with ⟨p1, b1, i1⟩ | ⟨p1, p2⟩
  case inr =>
    rw [p2]
    exact sel_t (by rw [bne_iff_ne]; exact p1) (sel_t rfl ⟨rfl, c06⟩)
  refine sel_f (by rw [p1]; rfl) ?_
  have hne1 : ((((propL e1 x1 (sL n1)).1.length : Nat) : Int) == 0) = false := by
    rw [beq_eq_false_iff_ne]
    unfold propL
    rw [if_neg b1, if_pos i1]
    simp [be4]; omega
  rcases prop0 (e := e2) (x := x2) (nm := sL n2) with ⟨p3, b2, i2⟩ | ⟨p3, p4⟩
  case inr =>
    rw [p4]
    exact sel_t (by rw [bne_iff_ne]; exact p3) (sel_f hne1 (sel_t rfl ⟨rfl, c06⟩))
  refine sel_f (by rw [p3]; rfl) ?_
  have pe : (elemL e1 x1).2 = 0 := by unfold elemL; rw [if_neg b1]
  rw [pe]
  refine sel_f rfl (drW_intro ?_)
  have gd : Below w6.heap.size w6 w6.drew := (Below.refl _ _).drew
  have h17 := h16.below gd
  have h37 := h36.below gd
  have r4 := (((o4.reads.below g5 (Nat.le_refl _)).below g6 (Nat.le_refl _)).below gd (Nat.le_refl _))
  have r5 := ((o5.reads.below g6 (Nat.le_refl _)).below gd (Nat.le_refl _))
  have r6 := (o6.reads.below gd (Nat.le_refl _))
  have n4 := o4.nil0
  have n5 := o5.nil0
  have le4 := o4.le
  have le5 := o5.le
  have sd := gd.size
  have c07 : Below w.heap.size w w6.drew := c06.trans (gd.mono (by omega))
  obtain ⟨w7, hw7⟩ : ∃ w7, w6.drew = w7 := ⟨_, rfl⟩
  rw [hw7] at gd h17 h37 r4 r5 r6 sd c07 ⊢
  have pl1 := propL_len e1 x1 (sL n1)
  have pl2 := propL_len e2 x2 (sL n2)
  have el := elemL_len e1 x1
  have inj := propL_inj (e1 := e1) (e2 := e2) b1 b2 i1 i2
  have inj' : (propL e1 x1 (sL n1)).1 = (propL e2 x2 (sL n2)).1 ↔ (e1 = e2 ∧ x1 = x2) ∧ n1 = n2 := by
    rw [inj]
    exact ⟨fun h => ⟨h.1, sL_inj h.2⟩, fun h => ⟨h.1, by rw [h.2]⟩⟩
  have ne1 := prop_elem (e1 := e1) (e2 := e1) (x2 := x1) b1 b1 i1
  have ne2 := prop_elem (e1 := e2) (e2 := e1) (x2 := x1) b2 b1 i2
  have nm : (n1.toList == n2.toList) = decide (n1 = n2) := by
    rw [sL_eq, decide_eq_decide]
    exact ⟨sL_inj, fun h => by rw [h]⟩
  obtain ⟨K1, hK1⟩ : ∃ K, (propL e1 x1 (sL n1)).1 = K := ⟨_, rfl⟩
  obtain ⟨K2, hK2⟩ : ∃ K, (propL e2 x2 (sL n2)).1 = K := ⟨_, rfl⟩
  rw [hK1] at r4 pl1 inj' ne1 le4 ⊢
  rw [hK2] at r5 pl2 inj' ne2 le5 ⊢
  refine ⟨fun a => HB a B1 (rfC e1 x1) TRf ∧ HB a B3 (rfC e2 x2) TRf, ⟨h17, h37⟩, e1, fun a ha => (ha.1.cell 0).trans rfl, x1, fun a ha => (ha.1.cell 1).trans rfl, e2, fun a ha => (ha.2.cell 0).trans rfl, x2, fun a ha => (ha.2.cell 1).trans rfl, (Same_ok r4 r5 rfl rfl (by omega)).mono ?_⟩
  rintro _ w8 ⟨rfl, g8⟩
  have s8 := g8.size
  have h18 := h17.below g8
  have h38 := h37.below g8
  have rest : Calls Tryd.prog 24 #[.slice A4 K1.length c4, .slice A6 (elemL e1 x1).1.length c6] w8 fun e32 w33 => ∃ (b34 : Bool), e32 = .returned (.bool b34) ∧ (
      sel b34 ((fun w33 => (Ending.returned (.bool false)) = .returned (.bool true) ∧ Below w.heap.size w w33) w33) (
      Calls Tryd.prog 24 #[.slice A5 K2.length c5, .slice A6 (elemL e1 x1).1.length c6] w33 fun e35 w36 => ∃ (b37 : Bool), e35 = .returned (.bool b37) ∧ (
      sel b37 ((fun w36 => (Ending.returned (.bool false)) = .returned (.bool true) ∧ Below w.heap.size w w36) w36) (
      Calls Tryd.prog 19 #[.slice A4 K1.length c4, .int .i64 s] w36 fun e38 w39 => ∃ (A40_0 : Option Addr) (n40_0 : Nat) (c40_0 : Nat) (x40_1 : Int), e38 = .returned (.tuple #[.slice A40_0 n40_0 c40_0, .int .i64 x40_1]) ∧ (
      f_law04_KeysApart.j0 n1 n2 s t (⟨B1, 0, Option.none⟩ : Addr) (⟨B3, 0, Option.none⟩ : Addr) A5 K2.length c5 A40_0 n40_0 c40_0 x40_1 w39 (fun (b73 : Bool) (w74 : World) => ∀ _ : Fr, (Ending.returned (.bool b73)) = .returned (.bool true) ∧ Below w.heap.size w w74)))))) := by
    refine (Same_ok (r4.below g8 (Nat.le_refl _)) (r6.below g8 (Nat.le_refl _)) rfl rfl (by omega)).mono ?_
    rintro _ w9 ⟨rfl, g9⟩
    have s9 := g9.size
    have f79 := g8.trans (g9.mono s8)
    refine ⟨_, rfl, sel_f (decide_eq_false ne1) ((Same_ok (r5.below f79 (Nat.le_refl _)) (r6.below f79 (Nat.le_refl _)) rfl rfl (by omega)).mono ?_)⟩
    rintro _ w10 ⟨rfl, g10⟩
    have s10 := g10.size
    have f710 := f79.trans (g10.mono (by omega))
    refine ⟨_, rfl, sel_f (decide_eq_false ne2) ((Version_ok (t := s) (r4.below f710 (Nat.le_refl _)) n4 le4 (by omega) (wf_i64 hs)).mono ?_)⟩
    rintro _ w11 ⟨A11, c11, rfl, o11, g11⟩
    have s11 := g11.size
    have f711 := f710.trans (g11.mono (by omega))
    have c011 := c07.trans (f711.mono (by omega))
    refine ⟨_, _, _, _, rfl, apart_j0 rfl (r5.below f711 (Nat.le_refl _)) n5 le5 pl2 pl1 o11.reads (wf_i64 ht) (h17.below f711) (h37.below f711) inj' fun w' g' _ => ⟨rfl, c011.trans (g'.mono (by omega))⟩⟩
  refine ⟨_, rfl, ⟨h18, h38⟩, ?_⟩
  by_cases h : e1 = e2 ∧ x1 = x2
  · refine sel_t (by simp [h.1, h.2]) (sel_f ?_ rest)
    rw [nm]
    have : decide (K1 = K2) = decide (n1 = n2) := by
      rw [decide_eq_decide, inj']
      exact ⟨fun q => q.2, fun q => ⟨h, q⟩⟩
    rw [this]; simp
  · refine sel_f ?_ (sel_f ?_ rest)
    · rw [Bool.and_true]
      by_cases h' : e1 = e2
      · have : x1 ≠ x2 := fun hx => h ⟨h', hx⟩
        simp [this]
      · simp [h']
    · rw [decide_eq_false fun q => h (inj'.1 q).1]; rfl
end
end Go.Proofs.YtakgoekfnhkgaaaDoor.Rd
