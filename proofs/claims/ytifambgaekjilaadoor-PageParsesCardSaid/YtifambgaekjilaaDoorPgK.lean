/- page: the document's calls over the empty page: that they end. Conditions: none. -/
import Derived.Test.YtifambgaekjilaaDoorPgD
import Derived.Test.YtifambgaekjilaaDoorHelp
namespace Go.Proofs.YtifambgaekjilaaDoor.Rd
open Go.Dn Go.RowKit
set_option linter.unusedVariables false
set_option linter.unusedSimpArgs false
set_option maxRecDepth 100000
abbrev TRp : TypeId := 32
def r4 (x0 x1 x2 : Int) (A : Option Addr) (n c : Nat) : Array Value := #[.int .i64 x0, .int .u8 x1, .int .u32 x2, .slice A n c]
abbrev z4 : Array Value := r4 0 0 0 none 0 0
def eP : Value := .agg #[.int .i64 0, .int .u8 0, .int .u32 0, .slice none 0 0]
section
variable {w : World} {b : Nat} {t : TypeId} {x0 x1 x2 y0 y1 y2 : Int} {A A' : Option Addr} {n c n' c' : Nat}
theorem ldR (h : HB w b (r4 x0 x1 x2 A n c) t) {K : Int → Int → Int → Option Addr → Nat → Nat → Prop} (hk : K x0 x1 x2 A n c) :
    ldI w (⟨b, 0, Option.none⟩ : Addr) .i64 fun y0 => ldI w ((⟨b, 0, Option.none⟩ : Addr).add 1) .u8 fun y1 => ldI w ((⟨b, 0, Option.none⟩ : Addr).add 2) .u32 fun y2 => ldS w ((⟨b, 0, Option.none⟩ : Addr).add 3) fun A n c => K y0 y1 y2 A n c :=
  hb_ldI0 h rfl (hb_ldI h (j := 1) rfl (hb_ldI h (j := 2) rfl (hb_ldS h (j := 3) rfl hk)))
theorem hdR {S : World → Prop} (h : ∀ w, S w → HB w b (r4 x0 x1 x2 A n c) t) {K : Int → Int → Int → Option Addr → Nat → Nat → Prop} (hk : K x0 x1 x2 A n c) :
    hdI S (⟨b, 0, Option.none⟩ : Addr) .i64 fun y0 => hdI S ((⟨b, 0, Option.none⟩ : Addr).add 1) .u8 fun y1 => hdI S ((⟨b, 0, Option.none⟩ : Addr).add 2) .u32 fun y2 => hdS S ((⟨b, 0, Option.none⟩ : Addr).add 3) fun A n c => K y0 y1 y2 A n c :=
  ⟨_, fun w hs => ((h w hs).cell 0).trans rfl, ⟨_, fun w hs => ((h w hs).cell 1).trans rfl, ⟨_, fun w hs => ((h w hs).cell 2).trans rfl, ⟨_, _, _, fun w hs => ((h w hs).cell 3).trans rfl, hk⟩⟩⟩⟩
theorem stR (h : HB w b (r4 y0 y1 y2 A' n' c') t) {K : World → Prop} (hk : ∀ w', HB w' b (r4 x0 x1 x2 A n c) t → Keeps (fun k => k = b) w w' → K w') :
    stW w (⟨b, 0, Option.none⟩ : Addr) (.int .i64 x0) fun w1 => stW w1 ((⟨b, 0, Option.none⟩ : Addr).add 1) (.int .u8 x1) fun w2 => stW w2 ((⟨b, 0, Option.none⟩ : Addr).add 2) (.int .u32 x2) fun w3 => stW w3 ((⟨b, 0, Option.none⟩ : Addr).add 3) (.slice A n c) fun w4 => K w4 :=
  hb_st0 h (by simp [r4]) fun w1 h1 k1 => hb_st h1 (by simp [r4]) fun w2 h2 k2 => hb_st h2 (by simp [r4]) fun w3 h3 k3 => hb_st h3 (by simp [r4]) fun w4 h4 k4 => hk w4 h4 (((k1.trans k2).trans k3).trans k4)
theorem keeps_b {w4 w5 : World} (g : Below w.heap.size w w4) (k : Keeps (fun k => k = b) w4 w5) (hb : w.heap.size ≤ b) : Below w.heap.size w w5 := g.trans (k.below g.size fun i hi e => by omega)
theorem R0Remove (w : World) (i : Int) : Calls Tryd.prog 48 #[eP, .int .i64 i] w fun e w' => e = .returned (.tuple #[eP, .int .i64 82]) ∧ Below w.heap.size w w' := by
  refine f_ref08_Remove.ok _ _ _ _ _ _ _ _ _ ?_
  unfold f_ref08_Remove.wp
  refine al_new fun w1 b1 e1 s1 h1 g1 => al_new fun w2 b2 e2 s2 h2 g2 => ?_
  have g02 : Below w.heap.size w w2 := g1.trans (g2.mono g1.size)
  have i1 : HB w2 b1 z4 TRp := h1.below g2
  have i2 : HB w2 b2 z4 TRp := h2
  by_cases q : i < 0
  · exact sel_t (by simpa using q) (ldR i1 (stR i2 fun w5 h5 k5 => ldR h5 ⟨rfl, keeps_b g02 k5 (by omega)⟩))
  · exact sel_f (by simpa using q) (hb_ldS i1 (j := 3) rfl (sel_t (by simp; omega) (ldR i1 (stR i2 fun w5 h5 k5 => ldR h5 ⟨rfl, keeps_b g02 k5 (by omega)⟩))))
theorem R0Used (w : World) : Calls Tryd.prog 63 #[eP] w fun e w' => e = .returned (.int .i64 18) ∧ Below w.heap.size w w' := by
  refine f_ref08_Used.ok _ _ _ _ _ _ _ _ ?_
  unfold f_ref08_Used.wp
  refine al_new fun w2 b2 e2 s2 h2 g2 => ⟨1, ?_⟩
  unfold f_ref08_Used.l0
  exact hb_ldS h2 (j := 3) rfl (sel_f rfl fun _ => ⟨rfl, g2⟩)
theorem R0Room (w : World) : Calls Tryd.prog 38 #[eP] w fun e w' => e = .returned (.int .i64 200) ∧ Below w.heap.size w w' := by
  refine f_ref08_Room.ok _ _ _ _ _ _ _ _ ?_
  unfold f_ref08_Room.wp
  refine al_new fun w2 b2 e2 s2 h2 g2 => ?_
  have i2 : HB w2 b2 z4 TRp := h2
  refine ldR i2 ((R0Used w2).mono ?_)
  rintro _ w3 ⟨rfl, g3⟩
  exact ⟨_, rfl, hb_ldS (i2.below g3) (j := 3) rfl (sel_f rfl (sel_f rfl (sel_t rfl ⟨rfl, g2.trans (g3.mono g2.size)⟩)))⟩
theorem R0Insert {u : List UInt8} (i : Int) (hr : Go.Dn.RB w A u) (hn : n = u.length) (hu : u.length ≤ 140737488355000) :
    Calls Tryd.prog 46 #[eP, .int .i64 i, .slice A n c] w fun e w' => ∃ (x0 x1 x2 : Int) (A' : Option Addr) (n' c' : Nat) (f : Int), e = .returned (.tuple #[.agg #[.int .i64 x0, .int .u8 x1, .int .u32 x2, .slice A' n' c'], .int .i64 f]) ∧ Below w.heap.size w w' := by
  subst hn
  refine f_ref08_Insert.ok _ _ _ _ _ _ _ _ _ _ _ _ ?_
  unfold f_ref08_Insert.wp
  refine al_new fun w1 b1 e1 s1 h1 g1 => al_new fun w2 b2 e2 s2 h2 g2 => ?_
  have g02 : Below w.heap.size w w2 := g1.trans (g2.mono g1.size)
  have i1 : HB w2 b1 z4 TRp := h1.below g2
  have i2 : HB w2 b2 z4 TRp := h2
  by_cases q : i < 0
  · exact sel_t (by simpa using q) (ldR i1 (stR i2 fun w5 h5 k5 => ldR h5 ⟨_, _, _, _, _, _, _, rfl, keeps_b g02 k5 (by omega)⟩))
  refine sel_f (by simpa using q) (hb_ldS i1 (j := 3) rfl ?_)
  by_cases q1 : i > 0
  · exact sel_t (by simpa using q1) (ldR i1 (stR i2 fun w5 h5 k5 => ldR h5 ⟨_, _, _, _, _, _, _, rfl, keeps_b g02 k5 (by omega)⟩))
  refine sel_f (by simpa using q1) ?_
  have hi0 : i = 0 := by omega
  subst hi0
  by_cases q2 : 200 < u.length
  · exact sel_t (by simp; omega) (ldR i1 (stR i2 fun w5 h5 k5 => ldR h5 ⟨_, _, _, _, _, _, _, rfl, keeps_b g02 k5 (by omega)⟩))
  refine sel_f (by simp; omega) (ldR i1 ((R0Room w2).mono ?_))
  rintro _ w3 ⟨rfl, g3⟩
  refine ⟨_, rfl, sel_f (by simp; omega) ?_⟩
  have g03 : Below w.heap.size w w3 := g02.trans (g3.mono g02.size)
  have sz3 := g3.size
  refine alW_intro ⟨2, ?_⟩
  have g4 : Below w3.heap.size w3 (w3.alloc (.cells #[] TB)) := (Below.refl _ _).alloc (Nat.le_refl _) _
  have o4 : OwnE eS 1 (w3.alloc (.cells #[] TB)) w3.heap.size TB (some ⟨w3.heap.size, 0, none⟩) 0 [] := OwnE.empty (Nat.le_refl _)
  have s4 : (w3.alloc (.cells #[] TB)).heap.size = w3.heap.size + 1 := Array.size_push _
  obtain ⟨w4, hw4⟩ : ∃ w4, w3.alloc (.cells #[] TB) = w4 := ⟨_, rfl⟩
  obtain ⟨b4, hb4⟩ : ∃ b4, w3.heap.size = b4 := ⟨_, rfl⟩
  rw [hw4] at g4 o4 s4 ⊢
  rw [hb4] at o4 s4 ⊢
  have g04 := g03.trans (g4.mono g03.size)
  have p1 := (i1.below g3).below g4
  have p2 := (i2.below g3).below g4
  unfold f_ref08_Insert.l0
  refine hb_ldS p1 (j := 3) rfl (sel_t rfl (sel_t rfl ((Copy_ok (hr.below g04 (Nat.le_refl _)) (by omega)).mono ?_)))
  rintro _ w5 ⟨A5, c5, rfl, o5, g5⟩
  have sz5 := g5.size
  refine ⟨_, _, _, rfl, put_e (K := fun A71 n71 c71 w69 => f_ref08_Insert.j1 ⟨b1, 0, none⟩ A71 n71 c71 0 w69 (fun A81 n81 c81 w82 => ∀ _ : Fr, f_ref08_Insert.l0 1 0 A u.length c ⟨b1, 0, none⟩ A81 n81 c81 (IntKind.i64.wrap (0 + 1)) w82 _)) RTs ES (by decide) (o4.below g5) rfl ((A5, u.length, c5) : SM) rfl (by omega) (by decide) fun A6 c6 w6 o6 k6 f6 => ?_⟩
  have n6 : ∀ k, Ob (some (⟨b4, 0, none⟩ : Addr)) k → k = b4 := by rintro k ⟨a, ha, rfl⟩; cases ha; rfl
  have q1 := (p1.below g5).keeps k6 fun ho => by have := n6 _ ho; omega
  have q2 := (p2.below g5).keeps k6 fun ho => by have := n6 _ ho; omega
  have g06 : Below w.heap.size w w6 := (g04.trans (g5.mono g04.size)).trans (k6.below (by have := g04.size; omega) fun k hk ho => by have := n6 _ ho; have := g03.size; omega)
  unfold f_ref08_Insert.j1
  refine hb_ldS q1 (j := 3) rfl (sel_f rfl fun _ => ?_)
  unfold f_ref08_Insert.l0
  refine hb_ldS q1 (j := 3) rfl (sel_f rfl fun _ => ?_)
  refine hb_st q1 (by simp [r4]) fun w7 h7 k7 => ?_
  have h7 : HB w7 b1 (r4 0 0 0 (some A6) _ c6) TRp := h7
  have g07 := keeps_b g06 k7 (by omega)
  exact ldR h7 (stR (q2.keeps k7 (by omega)) fun w8 h8 k8 => ldR h8 ⟨_, _, _, _, _, _, _, rfl, keeps_b g07 k8 (by omega)⟩)
theorem R0Replace {u : List UInt8} (i : Int) (w : World) :
    Calls Tryd.prog 47 #[eP, .int .i64 i, .slice A n c] w fun e w' => ∃ (x0 x1 x2 : Int) (A' : Option Addr) (n' c' : Nat) (f : Int), e = .returned (.tuple #[.agg #[.int .i64 x0, .int .u8 x1, .int .u32 x2, .slice A' n' c'], .int .i64 f]) ∧ Below w.heap.size w w' := by
  refine f_ref08_Replace.ok _ _ _ _ _ _ _ _ _ _ _ _ ?_
  unfold f_ref08_Replace.wp
  refine al_new fun w1 b1 e1 s1 h1 g1 => al_new fun w2 b2 e2 s2 h2 g2 => ?_
  have g02 : Below w.heap.size w w2 := g1.trans (g2.mono g1.size)
  have i1 : HB w2 b1 z4 TRp := h1.below g2
  have i2 : HB w2 b2 z4 TRp := h2
  refine ldR i1 ((R0Remove w2 i).mono ?_)
  rintro _ w3 ⟨rfl, g3⟩
  have g03 : Below w.heap.size w w3 := g02.trans (g3.mono g02.size)
  have sz3 := g3.size
  refine ⟨_, _, _, _, _, _, _, rfl, al_new fun w4 b4 e4 s4 h4 g4 => stR (show HB w4 b4 z4 TRp from h4) fun w5 h5 k5 => sel_t rfl ?_⟩
  have g05 := keeps_b (g03.trans (g4.mono g03.size)) k5 (by have := g03.size; omega)
  exact ldR (((i1.below g3).below g4).keeps k5 (by omega)) (stR (((i2.below g3).below g4).keeps k5 (by omega)) fun w8 h8 k8 => ldR h8 ⟨_, _, _, _, _, _, _, rfl, keeps_b g05 k8 (by omega)⟩)
end
end Go.Proofs.YtifambgaekjilaaDoor.Rd
