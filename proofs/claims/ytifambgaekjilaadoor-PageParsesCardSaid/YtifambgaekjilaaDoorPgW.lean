/- page: the document reads a page. Conditions: none. -/
import Derived.Test.YtifambgaekjilaaDoorPgV
namespace Go.Proofs.YtifambgaekjilaaDoor.Rd
open Go.Dn Go.RowKit
set_option linter.unusedVariables false
set_option linter.unusedSimpArgs false
set_option maxRecDepth 100000
theorem lsn_top {b : List UInt8} (h : b.length = 512) : 9223372036854775807 < lsnB b ↔ 127 < (bAt b 11).toNat := by
  obtain ⟨l, hl⟩ : ∃ l, (b.drop 4).take 8 = l := ⟨_, rfl⟩
  have hll : l.length = 8 := by rw [← hl, List.length_take, List.length_drop, h]; rfl
  have h7 : bAt b 11 = bAt l 7 := by rw [← hl, bAt_take _ _ _ (by decide), bAt_drop]
  unfold lsnB
  rw [hl, h7]
  match l, hll with
  | [a0, a1, a2, a3, a4, a5, a6, a7], _ =>
    have e : valS [a0, a1, a2, a3, a4, a5, a6, a7].reverse = ((((((((0 * 256 + a7.toNat) * 256 + a6.toNat) * 256 + a5.toNat) * 256 + a4.toNat) * 256 + a3.toNat) * 256 + a2.toNat) * 256 + a1.toNat) * 256 + a0.toNat) := rfl
    have e7 : bAt [a0, a1, a2, a3, a4, a5, a6, a7] 7 = a7 := rfl
    rw [e, e7]
    have := a0.toNat_lt
    have := a1.toNat_lt
    have := a2.toNat_lt
    have := a3.toNat_lt
    have := a4.toNat_lt
    have := a5.toNat_lt
    have := a6.toNat_lt
    have := a7.toNat_lt
    omega
theorem val2 {b : List UInt8} {j : Nat} (h : j + 2 ≤ b.length) : valS ((b.drop j).take 2).reverse = (bAt b j).toNat + 256 * (bAt b (j + 1)).toNat := by
  obtain ⟨l, hl⟩ : ∃ l, (b.drop j).take 2 = l := ⟨_, rfl⟩
  have hll : l.length = 2 := by rw [← hl, List.length_take, List.length_drop]; omega
  have h0 : bAt b j = bAt l 0 := by rw [← hl, bAt_take _ _ _ (by decide), bAt_drop, Nat.add_zero]
  have h1 : bAt b (j + 1) = bAt l 1 := by rw [← hl, bAt_take _ _ _ (by decide), bAt_drop]
  rw [hl, h0, h1]
  match l, hll with
  | [a0, a1], _ =>
    have e : valS [a0, a1].reverse = (0 * 256 + a1.toNat) * 256 + a0.toNat := rfl
    have e0 : bAt [a0, a1] 0 = a0 := rfl
    have e1 : bAt [a0, a1] 1 = a1 := rfl
    rw [e, e0, e1]; omega
def parseR (w : World) (b : List UInt8) (e : Ending) (w' : World) : Prop := Below w.heap.size w w' ∧ match parseL b with
  | none => ∃ (x0 x1 x2 : Int) (A : Option Addr) (n c : Nat), e = .returned (.tuple #[.agg #[.int .i64 x0, .int .u8 x1, .int .u32 x2, .slice A n c], .bool false])
  | some p => ∃ (A : Option Addr) (c : Nat), e = .returned (.tuple #[.agg #[.int .i64 (p.lsn : Int), .int .u8 (p.kind.toNat : Int), .int .u32 (p.extra : Int), .slice A p.items.length c], .bool true]) ∧ BBs w' w.heap.size w'.heap.size A p.items
section
variable {w w0 : World} {b1 b6 : Nat} {A : Option Addr} {c : Nat} {b : List UInt8} {x0 x1 x2 : Int}
/-- while the items are read -/
structure PS (w0 w : World) (b1 b6 : Nat) (x0 x1 x2 : Int) (acc : List (List UInt8)) : Prop where
  i1 : HB w b1 z4 TRp
  ex : ∃ (A6 : Option Addr) (c6 : Nat) (ms : List SM), HB w b6 (r4 x0 x1 x2 A6 acc.length c6) TRp ∧ OwnE eS 1 w w0.heap.size TB A6 c6 ms ∧ ItsM w (fun k => k < w0.heap.size) ms acc
  l1 : w0.heap.size ≤ b1
  l6 : w0.heap.size ≤ b6
  ne : b1 ≠ b6
  g : Below w0.heap.size w0 w
theorem PS.below {acc : List (List UInt8)} {w' : World} (h : PS w0 w b1 b6 x0 x1 x2 acc) (g : Below w.heap.size w w') : PS w0 w' b1 b6 x0 x1 x2 acc := by
  obtain ⟨A6, c6, ms, h1, h2, h3⟩ := h.ex
  exact ⟨h.i1.below g, ⟨A6, c6, ms, h1.below g, h2.below g, h3.below g⟩, h.l1, h.l6, h.ne, h.g.trans (g.mono h.g.size)⟩
theorem RParse_l0 {n : Nat} (hr : Go.Dn.RB w0 A b) (hl : b.length = 512) (hn : n ≤ 100) {K : Int → World → Prop} {Kr : Bool → World → Prop} :
    ∀ (m i e : Nat) (acc : List (List UInt8)) (w : World), m + i = n → e ≤ 512 → acc.length = i → PS w0 w b1 b6 x0 x1 x2 acc →
      (match parseI b (18 + 2 * n) m (18 + 2 * i) e acc with
        | none => ∀ w', HB w' b1 z4 TRp → Below w0.heap.size w0 w' → Kr false w'
        | some (its, e') => ∀ w', e' ≤ 512 → its.length = n → PS w0 w' b1 b6 x0 x1 x2 its → K (e' : Int) w') →
      f_ref08_Parse.l0 (m + 1) A b.length c ⟨b1, 0, none⟩ ⟨b6, 0, none⟩ (n : Int) (e : Int) (i : Int) w K Kr := by
  intro m
  induction m with
  | zero =>
    intro i e acc w hi he ha hs hK
    unfold f_ref08_Parse.l0
    unfold parseI at hK
    exact sel_f (by simp; omega) (hK w he (by omega) hs)
  | succ m ih =>
    intro i e acc w hi he ha hs hK
    have rb := hr.below hs.g (Nat.le_refl _)
    have v2 := val2 (b := b) (j := 18 + 2 * i) (by omega)
    obtain ⟨f, hf⟩ : ∃ f, (bAt b (18 + 2 * i)).toNat + 256 * (bAt b (18 + 2 * i + 1)).toNat = f := ⟨_, rfl⟩
    have q0 := (bAt b (18 + 2 * i)).toNat_lt
    have q1 := (bAt b (18 + 2 * i + 1)).toNat_lt
    unfold parseI at hK
    rw [hf] at v2 hK
    unfold f_ref08_Parse.l0
    refine sel_t (by simp; omega) ?_
    rw [w64_in (x := (2 : Int) * (i : Int)) (by omega), w64_in (x := (18 : Int) + (2 : Int) * (i : Int)) (by omega), show (18 : Int) + 2 * (i : Int) = ((18 + 2 * i : Nat) : Int) by omega]
    have hv := Rvalue_ok (c := c) (at_ := 18 + 2 * i) (k := 2) rb rfl (by decide) (by omega) (by omega)
    rw [v2] at hv
    refine hv.mono ?_
    rintro _ w ⟨rfl, rfl⟩
    refine ⟨_, rfl, ?_⟩
    rw [w64_in (x := (f : Int)) (by omega), w64_in (x := (2 : Int) * (n : Int)) (by omega), w64_in (x := (18 : Int) + (2 : Int) * (n : Int)) (by omega)]
    have bad : (match (none : Option (List (List UInt8) × Nat)) with
        | none => ∀ w', HB w' b1 z4 TRp → Below w0.heap.size w0 w' → Kr false w'
        | some (its, e') => ∀ w', e' ≤ 512 → its.length = n → PS w0 w' b1 b6 x0 x1 x2 its → K (e' : Int) w') → stW w (⟨b1, 0, Option.none⟩ : Addr) (.int .i64 (0 : Int)) fun w71 =>
      stW w71 ((⟨b1, 0, Option.none⟩ : Addr).add 1) (.int .u8 (0 : Int)) fun w72 =>
      stW w72 ((⟨b1, 0, Option.none⟩ : Addr).add 2) (.int .u32 (0 : Int)) fun w73 =>
      stW w73 ((⟨b1, 0, Option.none⟩ : Addr).add 3) (.slice none 0 0) fun w74 => Kr false w74 := fun hk =>
      stR hs.i1 fun w' h' k' => hk w' h' (hs.g.trans (k'.below hs.g.size fun j hj e => by have := hs.l1; omega))
    by_cases c1 : e < f
    · rw [if_pos (.inl c1)] at hK
      exact sel_t (by simp; omega) (bad hK)
    refine sel_f (by simp; omega) ?_
    by_cases c2 : f < 18 + 2 * n
    · rw [if_pos (.inr (.inl c2))] at hK
      exact sel_t (by simp; omega) (bad hK)
    refine sel_f (by simp; omega) ?_
    rw [w64_in (x := (e : Int) - (f : Int)) (by omega)]
    by_cases c3 : 200 < e - f
    · rw [if_pos (.inr (.inr c3))] at hK
      exact sel_t (by simp; omega) (bad hK)
    rw [if_neg (by omega)] at hK
    refine sel_f (by simp; omega) (drW_intro ?_)
    have gd : Below w.heap.size w w.drew := (Below.refl _ _).drew
    have hs2 := hs.below gd
    have rb2 := rb.below gd (Nat.le_refl _)
    obtain ⟨w2, hw2⟩ : ∃ w2, w.drew = w2 := ⟨_, rfl⟩
    rw [hw2] at hs2 rb2 ⊢
    obtain ⟨A6, c6, ms, i6, o6, t6⟩ := hs2.ex
    have hml : ms.length = acc.length := t6.1
    refine ⟨fun W => HB W b6 (r4 x0 x1 x2 A6 acc.length c6) TRp, i6, ⟨A6, acc.length, c6, fun W h => (HB.cell h 3).trans rfl, (Piece_ok (p := f) (q := e) rb2 rfl (by omega) (by omega) (by omega)).mono ?_⟩⟩
    rintro _ w3 ⟨A3, c3, rfl, o3, g3⟩
    have ex : (b.take e).drop f = (b.drop f).take (e - f) := List.drop_take
    rw [ex] at o3 ⊢
    obtain ⟨x, hx⟩ : ∃ x, (b.drop f).take (e - f) = x := ⟨_, rfl⟩
    rw [hx] at o3 hK ⊢
    have sz3 := g3.size
    have zg := hs2.g.size
    refine ⟨_, _, _, rfl, i6.below g3, al_new fun w4 b4 e4 s4 h4 g4 => ⟨(i6.below g3).below g4, ?_⟩⟩
    have o4 := (o6.below g3).below g4
    have hb4 : HB w4 b4 #[.slice A3 x.length c3] TB := h4
    refine app_e RTs ES (by decide) o4 hml.symm hb4 (x := ((A3, x.length, c3) : SM)) rfl (by omega) (by omega) fun A5 c5 w5 o5 k5 f5 => ⟨_, _, _, rfl, ?_⟩
    have nA : ∀ {k : Nat} {cs : Array Value}, HB w4 k cs TRp → ¬ Ob A6 k := fun {k cs} hb ho => absurd (ob_ty o4 _ ho _ _ hb) (by decide)
    have i64 := (i6.below g3).below g4
    have i6' := i64.keeps k5 (nA i64)
    have i14 := (hs2.i1.below g3).below g4
    have i1' := i14.keeps k5 (nA i14)
    refine hb_st i6' (j := 3) (by simp [r4]) fun w6 h6 k6 => ?_
    rw [show IntKind.i64.wrap ((i : Int) + 1) = ((i + 1 : Nat) : Int) by rw [w64_in (by omega)]; omega]
    have new3 : ItM w3 (fun k => k < w0.heap.size) (A3, x.length, c3) x := ItM.ofOwn o3 fun k hk => by omega
    have hT4 : ∀ k, Ob A6 k → ∀ cs, ¬ HB w4 k cs TU8 := fun k hk cs hc => absurd (ob_ty o4 _ hk _ _ hc) (by decide)
    have hT5 : ∀ k, k = b6 → ∀ cs, ¬ HB w5 k cs TU8 := fun k e cs hc => by subst e; exact absurd (HB.ty hc i6') (by decide)
    have new6 := ((new3.below g4).keepsT k5 hT4).keepsT k6 hT5
    have t6' := (((t6.below g3).below g4).keepsT k5 hT4).keepsT k6 hT5
    have o6' : OwnE eS 1 w6 w0.heap.size TB (some A5) c5 (ms ++ [((A3, x.length, c3) : SM)]) := o5.keeps k6 fun a ha e => absurd (ob_ty o5 _ ⟨a, ha, e⟩ _ _ i6') (by decide)
    have sz5 := k5.size
    have g06 : Below w0.heap.size w0 w6 := ((hs2.g.trans (g3.mono zg)).trans (g4.mono (by omega))).trans ((k5.below (by omega) fun k hk ⟨a, ha, e⟩ => by have := (o6.block a ha).1; omega).trans (k6.below (by omega) fun k hk e => by have := hs.l6; omega))
    have hl6 : (ms ++ [((A3, x.length, c3) : SM)]).length = (acc ++ [x]).length := by rw [List.length_append, List.length_append, hml]; rfl
    refine ih (i + 1) f (acc ++ [x]) w6 (by omega) (by omega) (by rw [List.length_append, List.length_singleton]; omega) ⟨i1'.keeps k6 hs.ne, ⟨some A5, c5, _, ?_, o6', ⟨hl6, fun j h1 h2 => ?_⟩⟩, hs.l1, hs.l6, hs.ne, g06⟩ ?_
    · rw [← hl6]; exact h6
    · rw [List.length_append, List.length_singleton] at h1
      by_cases hj : j < acc.length
      · have q := t6'.2 j (by omega) hj
        have a1 : (ms ++ [((A3, x.length, c3) : SM)])[j] = ms[j] := List.getElem_append_left (by omega)
        have a2 : (acc ++ [x])[j] = acc[j] := List.getElem_append_left hj
        rw [a1, a2]; exact q
      · have ej : j = ms.length := by omega
        subst ej
        rw [List.getElem_append_right (Nat.le_refl _), List.getElem_append_right (by omega)]
        simp only [Nat.sub_self, List.getElem_cons_zero, hml]
        exact new6
    · rw [show 18 + 2 * (i + 1) = 18 + 2 * i + 2 by omega]; exact hK
theorem RParse_l1 (hr : Go.Dn.RB w A b) (hl : b.length = 512) (i1 : HB w b1 z4 TRp) {e : Nat} (he : e ≤ 512) {K : World → Prop} {Kr : Bool → World → Prop} :
    ∀ (m j : Nat), m = e - j → (match zeroes ((b.drop j).take (e - j)) with | true => K w | false => ∀ w', HB w' b1 z4 TRp → Keeps (fun k => k = b1) w w' → Kr false w') → f_ref08_Parse.l1 (m + 1) A b.length c ⟨b1, 0, none⟩ (e : Int) (j : Int) w K Kr := by
  intro m
  induction m with
  | zero =>
    intro j hm hK
    unfold f_ref08_Parse.l1
    have : e - j = 0 := by omega
    rw [this, List.take_zero] at hK
    exact sel_f (by simp; omega) hK
  | succ m ih =>
    intro j hm hK
    have hlt : j < b.length := by omega
    unfold f_ref08_Parse.l1
    obtain ⟨a, ea, hc⟩ := rb_at hr hlt
    refine sel_t (by simp; omega) (optB_some ea (req_intro (by simp; omega) ?_))
    rw [Int.toNat_natCast]
    refine ldI_intro (x := ((bAt b j).toNat : Int)) hc ?_
    have e1 : (b.drop j).take (e - j) = bAt b j :: (b.drop (j + 1)).take (e - (j + 1)) := by
      rw [List.drop_eq_getElem_cons hlt, ← bAt_get hlt, show e - j = (e - (j + 1)) + 1 by omega, List.take_succ_cons]
    rw [e1] at hK
    unfold zeroes at hK
    rw [List.all_cons] at hK
    by_cases q : bAt b j = 0
    · rw [q]
      refine sel_f rfl ?_
      rw [q] at hK
      rw [show IntKind.i64.wrap ((j : Int) + 1) = ((j + 1 : Nat) : Int) by rw [w64_in (by omega)]; omega]
      exact ih (j + 1) (by omega) hK
    · have hq : (bAt b j == 0) = false := by simpa using q
      rw [hq] at hK
      refine sel_t ?_ (stR i1 fun w' h' k' => hK w' h' k')
      simp only [bne_iff_ne, ne_eq]
      intro h
      apply q
      apply UInt8.toNat.inj
      have : (0 : UInt8).toNat = 0 := rfl
      omega
/-- what is done of the first region -/
structure RI6 (w2 : World) (b : List UInt8) (A : Option Addr) (ls : Nat → Bool) (vv : Nat → Value) (w : World) : Prop where
  k : Keeps XF w2 w
  v1 : ls 1 = true → vv 1 = .int .u64 (lsnB b : Int)
  v4 : ls 4 = true → ∃ a, A = some a ∧ vv 4 = .pointer (some (a.add (12 * 1)))
  v5 : ls 5 = true → vv 5 = .int .u8 ((bAt b 12).toNat : Int)
  v7 : ls 7 = true → vv 7 = .int .u64 (extB b : Int)
  w11 : ls 11 = true → ls 10 = true
  v10 : ls 10 = true → ∃ k, vv 10 = .pointer (some ⟨k, 0, none⟩) ∧ w2.heap.size ≤ k ∧ HB w k (if ls 11 = true then r4 (lsnB b : Int) ((bAt b 12).toNat : Int) (extB b : Int) none 0 0 else z4) TRp
theorem upB_ne {ls : Nat → Bool} {i k : Nat} (h : k ≠ i) : upB ls i k = ls k := by unfold upB; rw [nbeq_false h]; rfl
theorem upB_eq {ls : Nat → Bool} {i : Nat} : upB ls i i = true := by unfold upB; rw [Nat.beq_refl]; rfl
theorem upV_ne {vv : Nat → Value} {i k : Nat} {v : Value} (h : k ≠ i) : upV vv i v k = vv k := by unfold upV; rw [nbeq_false h]; rfl
theorem upV_eq {vv : Nat → Value} {i : Nat} {v : Value} : upV vv i v i = v := by unfold upV; rw [Nat.beq_refl]; rfl
set_option maxHeartbeats 1000000 in
theorem RParse_ok {n : Nat} (hr : Go.Dn.RB w A b) (hn : n = b.length) (hlen : b.length ≤ 140737488355000) :
    Calls Tryd.prog 10 #[.slice A n c] w (parseR w b) := by
  subst hn
  apply f_ref08_Parse.ok
  unfold f_ref08_Parse.wp
  refine al_new fun w1 b1 e1 s1 h1 g1 => ?_
  have i1 : HB w1 b1 z4 TRp := h1
  -- a refusal
  have badE : ∀ {x0 x1 x2 : Int} {A : Option Addr} {n c : Nat} {w' : World}, parseL b = none → Below w.heap.size w w' → parseR w b (.returned (.tuple #[.agg #[.int .i64 x0, .int .u8 x1, .int .u32 x2, .slice A n c], .bool false])) w' := fun e g => by
    refine ⟨g, ?_⟩
    rw [e]
    exact ⟨_, _, _, _, _, _, rfl⟩
  have bad : ∀ {w2 : World}, parseL b = none → HB w2 b1 z4 TRp → Below w.heap.size w w2 →
      stW w2 (⟨b1, 0, Option.none⟩ : Addr) (.int .i64 (0 : Int)) fun w3 =>
      stW w3 ((⟨b1, 0, Option.none⟩ : Addr).add 1) (.int .u8 (0 : Int)) fun w4 =>
      stW w4 ((⟨b1, 0, Option.none⟩ : Addr).add 2) (.int .u32 (0 : Int)) fun w5 =>
      stW w5 ((⟨b1, 0, Option.none⟩ : Addr).add 3) (.slice none 0 0) fun w6 =>
      ldI w6 (⟨b1, 0, Option.none⟩ : Addr) .i64 fun x7 =>
      ldI w6 ((⟨b1, 0, Option.none⟩ : Addr).add 1) .u8 fun x8 =>
      ldI w6 ((⟨b1, 0, Option.none⟩ : Addr).add 2) .u32 fun x9 =>
      ldS w6 ((⟨b1, 0, Option.none⟩ : Addr).add 3) fun A10 n10 c10 =>
      parseR w b (.returned (.tuple #[.agg #[.int .i64 x7, .int .u8 x8, .int .u32 x9, .slice A10 n10 c10], .bool false])) w6 := fun {w2} e hb g =>
    stR hb fun w3 h3 k3 => ldR h3 (badE e (keeps_b g k3 (by omega)))
  by_cases q1 : b.length = 512
  case neg =>
    exact sel_t (by simp; omega) (bad (by unfold parseL; rw [if_pos (.inl q1)]) i1 g1)
  refine sel_f (by rw [q1]; rfl) ((ROpen_ok (hr.below g1 (Nat.le_refl _)) rfl hlen).mono ?_)
  rintro _ w2 ⟨A2, c2, rfl, o2, g2⟩
  have i2 := i1.below g2
  have g02 := g1.trans (g2.mono g1.size)
  have rb2 := hr.below g02 (Nat.le_refl _)
  refine ⟨_, _, _, _, rfl, ?_⟩
  by_cases q2 : (openL b).2 = false
  · exact sel_t (by rw [q2]; rfl) (bad (by unfold parseL; rw [if_pos (.inr (.inl q2))]) i2 g02)
  refine sel_f (by simpa using q2) ?_
  obtain ⟨a11, ea11, hc11⟩ := rb_at rb2 (j := 11) (by omega)
  refine optB_some ea11 (req_intro (by simp; omega) (ldI_intro (x := ((bAt b 11).toNat : Int)) hc11 ?_))
  have ltop := lsn_top q1
  by_cases q3 : 127 < (bAt b 11).toNat
  · exact sel_t (by simp; omega) (bad (by unfold parseL; rw [if_pos (.inr (.inr (.inl (ltop.2 q3))))]) i2 g02)
  refine sel_f (by simp; omega) ?_
  obtain ⟨a17, ea17, hc17⟩ := rb_at rb2 (j := 17) (by omega)
  refine optB_some ea17 (req_intro (by simp; omega) (ldI_intro (x := ((bAt b 17).toNat : Int)) hc17 ?_))
  by_cases q4 : 100 < (bAt b 17).toNat
  · exact sel_t (by simp; omega) (bad (by unfold parseL; rw [if_pos (.inr (.inr (.inr q4)))]) i2 g02)
  refine sel_f (by simp; omega) (drW_intro ?_)
  have hlsn : ¬ 9223372036854775807 < lsnB b := fun e => q3 (ltop.1 e)
  have gd : Below w2.heap.size w2 w2.drew := (Below.refl _ _).drew
  have i3 := i2.below gd
  have g03 := g02.trans (gd.mono g02.size)
  have rb3 := rb2.below gd (Nat.le_refl _)
  obtain ⟨w3, hw3⟩ : ∃ w3, w2.drew = w3 := ⟨_, rfl⟩
  rw [hw3] at i3 g03 rb3 ⊢
  have l8 : ((b.drop 4).take 8).length = 8 := by rw [List.length_take, List.length_drop, q1]; rfl
  have l4 : ((b.drop 13).take 4).length = 4 := by rw [List.length_take, List.length_drop, q1]; rfl
  have hext : extB b < 4294967296 := by
    have := valS_lt ((b.drop 13).take 4).reverse
    rw [List.length_reverse, l4] at this
    have h4 : (256 : Nat) ^ 4 = 4294967296 := by decide
    unfold extB
    omega
  have rbk : ∀ {a : World}, Keeps XF w3 a → Go.Dn.RB a A b := fun k => RBk rb3 k fun _ _ h => h
  have kal : ∀ {a : World} {k : Nat} {cs : Array Value} {t : TypeId}, HB w3 k cs t → Keeps XF w3 a → HB a k cs t := fun hb k => hb.keeps k fun h => h
  refine ⟨f_ref08_Parse.h6_ok _ _ _, RI6 w3 b A, ⟨.refl _ _, fun h => by (cases h), fun h => by (cases h), fun h => by (cases h), fun h => by (cases h), fun h => by (cases h), fun h => by (cases h)⟩, ⟨?_, ?_, ?_, ?_, ?_, ?_, trivial⟩, ?_⟩
  · intro _ ls vv a hls hI
    refine (Rvalue_ok (c := c) (at_ := 4) (k := 8) (rbk hI.k) rfl (by decide) (by omega) hlen).mono ?_
    rintro _ a' ⟨rfl, rfl⟩
    refine ⟨_, rfl, ⟨hI.k, fun _ => upV_eq, fun h => ?_, fun h => ?_, fun h => ?_, hI.w11, fun h => ?_⟩⟩
    · rw [upB_ne (by decide)] at h; rw [upV_ne (by decide)]; exact hI.v4 h
    · rw [upB_ne (by decide)] at h; rw [upV_ne (by decide)]; exact hI.v5 h
    · rw [upB_ne (by decide)] at h; rw [upV_ne (by decide)]; exact hI.v7 h
    · rw [upB_ne (by decide)] at h ⊢; rw [upV_ne (by decide)]; exact hI.v10 h
  · intro _ ls vv a hls hI
    refine optB_some ea17 (req_intro (by simp; omega) ⟨hI.k, fun h => ?_, fun h => ?_, fun h => ?_, fun h => ?_, hI.w11, fun h => ?_⟩)
    · rw [upB_ne (by decide)] at h; rw [upV_ne (by decide)]; exact hI.v1 h
    · exact ⟨a17, ea17, upV_eq⟩
    · rw [upB_ne (by decide)] at h; rw [upV_ne (by decide)]; exact hI.v5 h
    · rw [upB_ne (by decide)] at h; rw [upV_ne (by decide)]; exact hI.v7 h
    · rw [upB_ne (by decide)] at h ⊢; rw [upV_ne (by decide)]; exact hI.v10 h
  · intro _ ls vv a hls hI ae4 ⟨h4, e4⟩
    obtain ⟨a4, ea4, ev4⟩ := hI.v4 h4
    rw [ev4] at e4
    injection e4 with e4
    injection e4 with e4
    subst e4
    obtain ⟨a12, ea12, hc12⟩ := rb_at (rbk hI.k) (j := 12) (by omega)
    rw [ea4] at ea12
    injection ea12 with ea12
    subst ea12
    refine ldI_intro (x := ((bAt b 12).toNat : Int)) hc12 ⟨hI.k, fun h => ?_, fun h => ?_, fun h => ?_, fun h => ?_, hI.w11, fun h => ?_⟩
    · rw [upB_ne (by decide)] at h; rw [upV_ne (by decide)]; exact hI.v1 h
    · rw [upB_ne (by decide)] at h; rw [upV_ne (by decide)]; exact hI.v4 h
    · exact upV_eq
    · rw [upB_ne (by decide)] at h; rw [upV_ne (by decide)]; exact hI.v7 h
    · rw [upB_ne (by decide)] at h ⊢; rw [upV_ne (by decide)]; exact hI.v10 h
  · intro _ ls vv a hls hI xe1 _
    refine (Rvalue_ok (c := c) (at_ := 13) (k := 4) (rbk hI.k) rfl (by decide) (by omega) hlen).mono ?_
    rintro _ a' ⟨rfl, rfl⟩
    refine ⟨_, rfl, ⟨hI.k, fun h => ?_, fun h => ?_, fun h => ?_, fun _ => upV_eq, hI.w11, fun h => ?_⟩⟩
    · rw [upB_ne (by decide)] at h; rw [upV_ne (by decide)]; exact hI.v1 h
    · rw [upB_ne (by decide)] at h; rw [upV_ne (by decide)]; exact hI.v4 h
    · rw [upB_ne (by decide)] at h; rw [upV_ne (by decide)]; exact hI.v5 h
    · rw [upB_ne (by decide)] at h ⊢; rw [upV_ne (by decide)]; exact hI.v10 h
  · intro _ ls vv a hls hI
    have n11 : ¬ ls 11 = true := fun h => by rw [hI.w11 h] at hls; cases hls
    refine al_new fun a' k ek sk hk gk => ⟨hI.k.trans (.of_below gk), fun h => ?_, fun h => ?_, fun h => ?_, fun h => ?_, fun _ => upB_eq, fun h => ⟨k, upV_eq, by have := hI.k.size; omega, ?_⟩⟩
    · rw [upB_ne (by decide)] at h; rw [upV_ne (by decide)]; exact hI.v1 h
    · rw [upB_ne (by decide)] at h; rw [upV_ne (by decide)]; exact hI.v4 h
    · rw [upB_ne (by decide)] at h; rw [upV_ne (by decide)]; exact hI.v5 h
    · rw [upB_ne (by decide)] at h; rw [upV_ne (by decide)]; exact hI.v7 h
    · rw [upB_ne (by decide), if_neg n11]; exact hk
  · intro _ ls vv a hls hI xe1 ⟨d1, u1⟩ ae4 _ xe5 ⟨d5, u5⟩ xe7 ⟨d7, u7⟩ ae10 ⟨d10, u10⟩
    rw [hI.v1 d1] at u1
    rw [hI.v5 d5] at u5
    rw [hI.v7 d7] at u7
    obtain ⟨k, ev, hk, hb⟩ := hI.v10 d10
    rw [ev] at u10
    injection u1 with _ u1
    injection u5 with _ u5
    injection u7 with _ u7
    injection u10 with u10
    injection u10 with u10
    subst u1; subst u5; subst u7; subst u10
    rw [if_neg (by rw [hls]; decide)] at hb
    rw [w64_in (x := (lsnB b : Int)) (by omega), show IntKind.u32.wrap (extB b : Int) = (extB b : Int) by rw [u32w]; omega]
    refine stR hb fun a' h' k' => ⟨hI.k.trans' k' fun j hj e => by omega, fun h => ?_, fun h => ?_, fun h => ?_, fun h => ?_, fun _ => ?_, fun h => ⟨k, ?_, hk, ?_⟩⟩
    · rw [upB_ne (by decide)] at h; rw [upV_ne (by decide)]; exact hI.v1 h
    · rw [upB_ne (by decide)] at h; rw [upV_ne (by decide)]; exact hI.v4 h
    · rw [upB_ne (by decide)] at h; rw [upV_ne (by decide)]; exact hI.v5 h
    · rw [upB_ne (by decide)] at h; rw [upV_ne (by decide)]; exact hI.v7 h
    · rw [upB_ne (by decide)]; exact d10
    · rw [upV_ne (by decide)]; exact ev
    · rw [if_pos upB_eq]; exact h'
  intro ls vv w4 hI xe1 ⟨d1, u1⟩ ae4 _ xe5 ⟨d5, u5⟩ xe7 ⟨d7, u7⟩ ae10 ⟨d10, u10⟩ ⟨d11, u11⟩
  obtain ⟨k6, ev, hk6, hb6⟩ := hI.v10 d10
  rw [ev] at u10
  injection u10 with u10
  injection u10 with u10
  subst u10
  rw [if_pos d11] at hb6
  have i4 := kal i3 hI.k
  have g04 : Below w.heap.size w w4 := g03.trans ((bel_of hI.k).mono (by have := g03.size; omega))
  have rb4 := rbk hI.k
  have sz3 := i3.lt
  obtain ⟨a17', ea17', hc17'⟩ := rb_at rb4 (j := 17) (by omega)
  have c17 : (bAt b 17).toNat = cntB b := rfl
  refine optB_some ea17' (req_intro (by simp; omega) (ldI_intro (x := ((bAt b 17).toNat : Int)) hc17' ?_))
  rw [w64_in (x := ((bAt b 17).toNat : Int)) (by omega), c17]
  rw [c17] at q4
  have hsz := g03.size
  have PS4 : PS w w4 b1 k6 (lsnB b : Int) ((bAt b 12).toNat : Int) (extB b : Int) [] := ⟨i4, ⟨none, 0, [], hb6, OwnE.none _ _ _ _ _, rfl, fun j h => absurd h (Nat.not_lt_zero _)⟩, by omega, by omega, by omega, g04⟩
  refine ⟨cntB b + 1, RParse_l0 (n := cntB b) hr q1 (by omega) (cntB b) 0 512 [] w4 (by omega) (Nat.le_refl _) rfl PS4 ?_⟩
  have hpl : parseL b = match parseI b (18 + 2 * cntB b) (cntB b) 18 512 [] with
      | none => none
      | some (its, e) => if zeroes ((b.drop (18 + 2 * cntB b)).take (e - (18 + 2 * cntB b))) then some ⟨lsnB b, bAt b 12, extB b, its⟩ else none := by
    unfold parseL
    rw [if_neg (by
      rintro (q | q | q | q)
      · exact q q1
      · exact q2 q
      · exact hlsn q
      · exact q4 q)]
    cases parseI b (18 + 2 * cntB b) (cntB b) 18 512 [] with
    | none => rfl
    | some y => rfl
  rw [show 18 + 2 * 0 = 18 from rfl]
  cases hpi : parseI b (18 + 2 * cntB b) (cntB b) 18 512 [] with
  | none =>
    rw [hpi] at hpl
    intro w5 h5 g5 _
    exact ldR h5 (badE hpl g5)
  | some y =>
    obtain ⟨its, e⟩ := y
    rw [hpi] at hpl
    simp only at hpl ⊢
    intro w5 he hil P5 _
    have rb5 := hr.below P5.g (Nat.le_refl _)
    refine ⟨e - (18 + 2 * cntB b) + 1, ?_⟩
    rw [w64_in (x := (2 : Int) * (cntB b : Int)) (by omega), w64_in (x := (18 : Int) + (2 : Int) * (cntB b : Int)) (by omega), show (18 : Int) + 2 * (cntB b : Int) = ((18 + 2 * cntB b : Nat) : Int) by omega]
    refine RParse_l1 rb5 q1 P5.i1 he _ (18 + 2 * cntB b) rfl ?_
    cases hz : zeroes ((b.drop (18 + 2 * cntB b)).take (e - (18 + 2 * cntB b))) with
    | false =>
      rw [hz] at hpl
      simp only at hpl ⊢
      intro w6 h6 k6' _
      exact ldR h6 (badE (by rw [hpl]; rfl) (keeps_b P5.g k6' (by omega)))
    | true =>
      rw [hz] at hpl
      simp only at hpl ⊢
      intro _
      obtain ⟨A6, c6, ms, hb6', o6, t6⟩ := P5.ex
      refine ldR hb6' (stR P5.i1 fun w6 h6 k6' => ldR h6 ⟨keeps_b P5.g k6' (by omega), ?_⟩)
      rw [hpl]
      simp only [if_true]
      have hT : ∀ k, k = b1 → ∀ cs, ¬ HB w5 k cs TU8 := fun k e cs hc => by subst e; exact absurd (HB.ty hc P5.i1) (by decide)
      have t7 := t6.keepsT k6' hT
      have o7 : OwnE eS 1 w6 w.heap.size TB A6 c6 ms := o6.keeps k6' fun a ha e => absurd (ob_ty o6 _ ⟨a, ha, e⟩ _ _ P5.i1) (by decide)
      refine ⟨A6, c6, rfl, ⟨⟨ms, t7.1, o7.reads ES, fun j h1 h2 => ?_⟩, fun a ha => o7.block a ha⟩⟩
      have q := t7.2 j h1 h2
      refine ⟨q.n, q.rb, fun a ha => ⟨?_, (q.a a ha).1⟩⟩
      have := (q.a a ha).2
      omega
end
end Go.Proofs.YtifambgaekjilaaDoor.Rd
