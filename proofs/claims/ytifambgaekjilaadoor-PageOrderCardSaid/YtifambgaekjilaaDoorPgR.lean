/- The law PageRooms, walked: an item fits just if Room says so; what was put in is taken out. Conditions: a script, a number, bytes as arguments. -/
import Derived.Test.YtifambgaekjilaaDoorPgO
import Derived.Test.YtifambgaekjilaaDoorPgQ
import Derived.Test.YtifambgaekjilaaDoorRdL4
namespace Go.Proofs.YtifambgaekjilaaDoor.Rd
open Go.Dn Go.RowKit
set_option linter.unusedVariables false
set_option linter.unusedSimpArgs false
set_option maxRecDepth 100000
theorem roomL_le (p : Pg) : roomL p ≤ 200 := by
  unfold roomL
  repeat' split
  all_goals omega
theorem insL_code (p : Pg) {i : Int} {x : List UInt8} (h : 0 ≤ i ∧ i ≤ p.items.length) : ((insL p i x).2 = 0 ↔ (x.length : Int) ≤ roomL p) := by
  have := roomL_le p
  unfold insL
  rw [if_neg (by omega)]
  by_cases h1 : 200 < x.length
  · rw [if_pos h1]
    constructor
    · intro h; cases h
    · intro h; omega
  rw [if_neg h1]
  by_cases h2 : roomL p < x.length
  · rw [if_pos h2]
    constructor
    · intro h; cases h
    · intro h; omega
  rw [if_neg h2]
  exact ⟨fun _ => by omega, fun _ => rfl⟩
theorem insL_no {p : Pg} {i : Int} {x : List UInt8} (h : (insL p i x).2 ≠ 0) : (insL p i x).1 = p := by
  unfold insL at h ⊢
  repeat' split
  all_goals first | rfl | skip
  rename_i a b c
  rw [if_neg a, if_neg b, if_neg c] at h
  exact absurd rfl h
theorem insL_out {p : Pg} {i : Int} {x : List UInt8} (h : i < 0 ∨ (p.items.length : Int) < i) : insL p i x = (p, 82) := by unfold insL; rw [if_pos h]
theorem insL_yes {p : Pg} {i : Int} {x : List UInt8} (h : (insL p i x).2 = 0) : 0 ≤ i ∧ i ≤ p.items.length ∧ (insL p i x).1 = { p with items := p.items.take i.toNat ++ x :: p.items.drop i.toNat } := by
  unfold insL at h ⊢
  by_cases a : i < 0 ∨ (p.items.length : Int) < i
  · rw [if_pos a] at h; cases h
  rw [if_neg a] at h ⊢
  by_cases b : 200 < x.length
  · rw [if_pos b] at h; cases h
  rw [if_neg b] at h ⊢
  by_cases c : roomL p < x.length
  · rw [if_pos c] at h; cases h
  rw [if_neg c]
  exact ⟨by omega, by omega, rfl⟩
theorem rem_ins {p : Pg} {i : Int} {x : List UInt8} (h : 0 ≤ i ∧ i ≤ p.items.length) : remL { p with items := p.items.take i.toNat ++ x :: p.items.drop i.toNat } i = (p, 0) := by
  have hl : (p.items.take i.toNat).length = i.toNat := by rw [List.length_take]; omega
  unfold remL
  rw [if_neg (by simp only [List.length_append, List.length_cons, List.length_drop, hl]; omega)]
  have e1 : (p.items.take i.toNat ++ x :: p.items.drop i.toNat).take i.toNat = p.items.take i.toNat := by
    have := List.take_left (l₁ := p.items.take i.toNat) (l₂ := x :: p.items.drop i.toNat)
    rw [hl] at this; exact this
  have e2 : (p.items.take i.toNat ++ x :: p.items.drop i.toNat).drop (i.toNat + 1) = p.items.drop i.toNat := by
    rw [List.drop_append, hl, List.drop_of_length_le (by omega), show i.toNat + 1 - i.toNat = 1 by omega]; rfl
  show ((⟨p.lsn, p.kind, p.extra, _⟩ : Pg), (0 : Int)) = _
  rw [e1, e2, List.take_append_drop]
section
variable {w w1 w2 : World} {A2 A9 A11 : Option Addr} {c2 c9 c11 B9 : Nat} {x : List UInt8} {p : Pg} {ρ : RPg} {i : Int}
theorem PageRooms_j0 {K : Bool → World → Prop} (hi : 0 ≤ i ∧ i ≤ p.items.length) (hw : PM w1 w.heap.size XF ρ { p with items := p.items.take i.toNat ++ x :: p.items.drop i.toNat }) (hok : PgOk p) (g : Below w.heap.size w w1) {lo hi' : Nat} (b9 : BBs w1 lo hi' A9 p.items) (n9 : ∀ k, PN ρ k → k < lo ∨ hi' ≤ k)
    (o11 : OwnB w1 B9 TU8 A11 c11 (bytesL p)) (n11 : ∀ a, A11 = some a → ¬ PN ρ a.block) (hK : ∀ w', Below w.heap.size w w' → K true w') :
    f_law08_PageRooms.j0 i (some ⟨ρ.P, 0, none⟩) A9 p.items.length c9 (roomL p) A11 512 c11 w1 K := by
  unfold f_law08_PageRooms.j0
  refine (Remove_pg hw (i := i)).mono ?_
  rintro _ w2 ⟨rfl, h2, k2⟩
  rw [rem_ins hi] at h2 ⊢
  have h2 : PM w2 w.heap.size XF ρ p := h2
  have g2 := g.trans (hw.bel k2)
  have b2 := b9.keeps k2 n9
  have o2 := OwnB.keepsB o11 k2 n11
  refine ⟨_, rfl, sel_t rfl ((Items_pg h2).mono ?_)⟩
  rintro _ w3 ⟨A3, c3, rfl, b3, g3⟩
  have hx := hok.x
  refine ⟨_, _, _, rfl, (RSame_ok b3 (b2.below g3) rfl rfl (fun x hx' => by have := hx x hx'; omega) (by have := hok.n; omega)).mono ?_⟩
  rintro _ w4 ⟨rfl, g4⟩
  have g24 := g3.trans (g4.mono g3.size)
  refine ⟨_, rfl, sel_t (by simp) ((Room_pg (h2.below g24)).mono ?_)⟩
  rintro _ w4 ⟨rfl, rfl⟩
  refine ⟨_, rfl, sel_t (by simp) ((Bytes_pg (h2.below g24)).mono ?_)⟩
  rintro _ w5 ⟨A5, c5, rfl, o5, l5, g5⟩
  have g25 := g24.trans (g5.mono g24.size)
  refine ⟨_, _, _, rfl, (Same_ok o5.reads (o2.keep g25).reads l5.symm l5.symm (by rw [l5]; decide)).mono ?_⟩
  rintro _ w6 ⟨rfl, g6⟩
  have g26 := g25.trans (g6.mono g25.size)
  refine ⟨_, rfl, ?_⟩
  rw [show decide (bytesL p = bytesL p) = true from decide_eq_true rfl]
  exact hK w6 (g2.trans (g26.mono g2.size))
end
theorem PageRooms_row {w : World} {A A2 : Option Addr} {c c2 : Nat} {ops : List WOp} {x : List UInt8} {i : Int} (h : RWo w A ops) (_ : A = none → c = 0) (wi : (Lit.int .i64 i).wf = true) (hx : Go.Dn.RB w A2 x) (_ : A2 = none → c2 = 0) (_ : x.length ≤ c2) (hl : x.length ≤ 140737488355000) :
    Calls Tryd.prog 4 #[.slice A ops.length c, .int .i64 i, .slice A2 x.length c2] w fun e w' => e = .returned (.bool true) ∧ Below w.heap.size w w' := by
  apply f_law08_PageRooms.ok
  unfold f_law08_PageRooms.wp
  refine (Filled_ok h rfl).mono ?_
  rintro _ w1 ⟨ρ, rfl, h1, g1⟩
  refine ⟨_, rfl, sel_f rfl ((alive_ok w1).mono ?_)⟩
  rintro _ w2 ⟨rfl, g2⟩
  obtain ⟨p, hp⟩ : ∃ p, doAll p39 ops = p := ⟨_, rfl⟩
  rw [hp] at h1
  have h2 := h1.below g2
  have g02 := g1.trans (g2.mono g1.size)
  refine ⟨_, rfl, sel_f rfl ((Items_pg h2).mono ?_)⟩
  rintro _ w3 ⟨A3, c3, rfl, b3, g3⟩
  have h3 := h2.below g3
  refine ⟨_, _, _, rfl, (Room_pg h3).mono ?_⟩
  rintro _ w3 ⟨rfl, rfl⟩
  refine ⟨_, rfl, (Len_pg h3).mono ?_⟩
  rintro _ w3 ⟨rfl, rfl⟩
  refine ⟨_, rfl, (Bytes_pg h3).mono ?_⟩
  rintro _ w4 ⟨A4, c4, rfl, o4, l4, g4⟩
  have h4 := h3.below g4
  have g04 := (g02.trans (g3.mono g02.size)).trans (g4.mono (by have := g02.size; have := g3.size; omega))
  refine ⟨_, _, _, rfl, (Insert_pg h4 (i := i) (hx.below g04 (Nat.le_refl _)) rfl hl fun k hk => hk.elim).mono ?_⟩
  rintro _ w5 ⟨ρ5, rfl, e5, h5, n5, k5⟩
  have g05 := g04.trans (h4.bel k5)
  have sz3 := g3.size
  have sz4 := g4.size
  have sz5 := k5.size
  have hlt : ∀ k, PN ρ k → k < w2.heap.size := fun k hk => (h2.lt k hk).1
  have b5 := (b3.below g4).keeps k5 fun k hk => .inl (hlt k hk)
  have bl4 := o4.block
  have o5 := OwnB.keepsB o4 k5 fun a ha hk => by have := hlt _ hk; have := bl4 a ha; omega
  have hx5 : Go.Dn.RB w5 A2 x := hx.below g05 (Nat.le_refl _)
  have hn := h4.ok.n
  have e5' : ρ.P = ρ5.P := e5.symm
  -- a refused call
  have refused : (insL p i x).2 ≠ 0 → Calls Tryd.prog 15 #[.pointer (some ⟨ρ.P, 0, none⟩)] w5 fun e22 w23 => ∃ (A24 : Option Addr) (n24 : Nat) (c24 : Nat), e22 = .returned (.slice A24 n24 c24) ∧ (
      Calls Tryd.prog 14 #[.slice A24 n24 c24, .slice A4 512 c4] w23 fun e25 w26 => ∃ (b27 : Bool), e25 = .returned (.bool b27) ∧ (b27 = true ∧ Below w.heap.size w w26)) := fun hne => by
    have h5' := h5
    rw [insL_no hne] at h5'
    rw [e5']
    refine (Bytes_pg h5').mono ?_
    rintro _ w6 ⟨A6, c6, rfl, o6, l6, g6⟩
    refine ⟨_, _, _, rfl, (Same_ok o6.reads (o5.keep g6).reads l6.symm l4.symm (by rw [l6]; decide)).mono ?_⟩
    rintro _ w7 ⟨rfl, g7⟩
    exact ⟨_, rfl, by simp, (g05.trans (g6.mono g05.size)).trans (g7.mono (by have := g05.size; have := g6.size; omega))⟩
  have kk : ∀ {P Q R : Bool → World → Prop} {w' : World}, Calls Tryd.prog 15 #[.pointer (some ⟨ρ.P, 0, none⟩)] w5 (fun e22 w23 => ∃ (A24 : Option Addr) (n24 : Nat) (c24 : Nat), e22 = .returned (.slice A24 n24 c24) ∧ (
      Calls Tryd.prog 14 #[.slice A24 n24 c24, .slice A4 512 c4] w23 fun e25 w26 => ∃ (b27 : Bool), e25 = .returned (.bool b27) ∧ (b27 = true ∧ Below w.heap.size w w26))) → (∀ w26, Below w.heap.size w w26 → P true w26) →
      Calls Tryd.prog 15 #[.pointer (some ⟨ρ.P, 0, none⟩)] w5 (fun e22 w23 => ∃ (A24 : Option Addr) (n24 : Nat) (c24 : Nat), e22 = .returned (.slice A24 n24 c24) ∧ (
      Calls Tryd.prog 14 #[.slice A24 n24 c24, .slice A4 512 c4] w23 fun e25 w26 => ∃ (b27 : Bool), e25 = .returned (.bool b27) ∧ P b27 w26)) := fun hc hp => hc.mono fun e w6 ⟨A, n, c, he, h⟩ => ⟨A, n, c, he, h.mono fun e w7 ⟨b, hb, ht, hg⟩ => ⟨b, hb, by subst ht; exact hp _ hg⟩⟩
  refine ⟨_, rfl, ?_⟩
  by_cases q1 : 0 ≤ i
  case neg =>
    have eo := insL_out (p := p) (x := x) (i := i) (.inl (by omega))
    have ne : (insL p i x).2 ≠ 0 := by rw [eo]; show (82 : Int) ≠ 0; decide
    refine sel_f (by simpa using q1) (sel_f (by rw [eo]; rfl) (sel_t (by rw [eo]; rfl) (kk (P := fun b w' => sel b _ _) (Q := fun _ _ => True) (R := fun _ _ => True) (w' := w) (refused ne) fun w6 g6 => sel_t rfl ⟨?_, g6⟩)))
    rw [eo]; rfl
  refine sel_t (by simpa using q1) ?_
  by_cases q2 : i ≤ (p.items.length : Int)
  case neg =>
    have eo := insL_out (p := p) (x := x) (i := i) (.inr (by omega))
    have ne : (insL p i x).2 ≠ 0 := by rw [eo]; show (82 : Int) ≠ 0; decide
    refine sel_f (by simpa using q2) (sel_f (by rw [eo]; rfl) (sel_t (by rw [eo]; rfl) (kk (P := fun b w' => sel b _ _) (Q := fun _ _ => True) (R := fun _ _ => True) (w' := w) (refused ne) fun w6 g6 => sel_t rfl (sel_f (by simpa using q2) ⟨?_, g6⟩))))
    rw [eo]; rfl
  have cd := insL_code p (x := x) ⟨q1, q2⟩
  refine sel_t (by simpa using q2) (sel_f ?_ ?_)
  · by_cases q : (insL p i x).2 = 0
    · simp [q, cd.1 q]
    · have : ¬ (x.length : Int) ≤ roomL p := fun e => q (cd.2 e)
      simp [q, this]
  by_cases q : (insL p i x).2 = 0
  case neg =>
    exact sel_t (by simpa using q) (kk (P := fun b w' => sel b _ _) (Q := fun _ _ => True) (R := fun _ _ => True) (w' := w) (refused q) fun w6 g6 => sel_t rfl (sel_t (by simpa using q2) ⟨rfl, g6⟩))
  obtain ⟨_, _, ep⟩ := insL_yes q
  rw [ep] at h5
  have hit : (p.items.take i.toNat).length = i.toNat := by rw [List.length_take]; omega
  refine sel_f (by simp [q]) ?_
  rw [e5']
  refine (Item_pg h5 (i := i)).mono ?_
  rintro _ w6 ⟨A6, c6, x6, f6, rfl, o6, g6, hx6⟩
  rw [if_neg (by simp only [List.length_append, List.length_cons, List.length_drop, hit]; omega)] at hx6
  obtain ⟨rfl, hi6, hx6⟩ := hx6
  have ex : x6 = x := by
    rw [hx6]
    simp only [List.getElem_append_right (Nat.le_of_eq hit), hit, Nat.sub_self, List.getElem_cons_zero]
  subst ex
  refine ⟨_, _, _, _, rfl, sel_f rfl ((Same_ok o6.reads (hx5.below g6 (Nat.le_refl _)) rfl rfl (by omega)).mono ?_)⟩
  rintro _ w7 ⟨rfl, g7⟩
  have g57 := g6.trans (g7.mono g6.size)
  refine ⟨_, rfl, sel_f (by simp) ((Len_pg (h5.below g57)).mono ?_)⟩
  rintro _ w7 ⟨rfl, rfl⟩
  refine ⟨_, rfl, sel_f ?_ ?_⟩
  · simp only [List.length_append, List.length_cons, List.length_drop, hit]
    rw [w64_in (by omega)]
    simp
    omega
  have nn : ∀ k, PN ρ5 k → k < w2.heap.size ∨ w4.heap.size ≤ k := fun k hk => (n5 k hk).imp (hlt k) id
  exact PageRooms_j0 ⟨q1, q2⟩ (h5.below g57) h4.ok (g05.trans (g57.mono g05.size)) (b5.below g57) (fun k hk => by have := nn k hk; omega) (o5.keep g57) (fun a ha hk => by have := nn _ hk; have := bl4 a ha; omega) fun w' g' _ => ⟨rfl, g'⟩
end Go.Proofs.YtifambgaekjilaaDoor.Rd
