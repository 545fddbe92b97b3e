/- The law PageOrder, walked: slots that come and go move those behind them alone. Conditions: a script, a number, bytes as arguments. -/
import Derived.Test.YtifambgaekjilaaDoorPgR
import Derived.Test.YtifambgaekjilaaDoorRdL5
namespace Go.Proofs.YtifambgaekjilaaDoor.Rd
open Go.Dn Go.RowKit
set_option linter.unusedVariables false
set_option linter.unusedSimpArgs false
set_option maxRecDepth 100000
theorem hd_sl {S : World → Prop} {w : World} {A : Option Addr} {ms : List SM} (h : ∀ w', S w' → RowE eS 1 w' A ms) (hw : S w) {j : Nat} {z : Int} (hz : z = (j : Int)) (hj : j < ms.length) {N : Nat} (hN : N = ms.length) {K : Option Addr → Nat → Nat → Prop} (hk : K ms[j].1 ms[j].2.1 ms[j].2.2) :
    optB A fun a => req (decide (0 ≤ z ∧ z < (N : Int))) <| hdS S (a.add (z.toNat * 1)) K := by
  subst hz; subst hN
  obtain ⟨a, ea, _⟩ := h w hw j hj
  rw [Int.toNat_natCast]
  refine optB_some ea (req_intro (by simp; omega) ⟨_, _, _, fun w' hs => ?_, hk⟩)
  obtain ⟨a', ea', hc⟩ := h w' hs j hj
  rw [ea] at ea'; cases ea'
  have := hc 0 (by decide)
  rw [Go.Dn.add_zero] at this
  exact this
theorem bbs_ld' {w : World} {lo hi : Nat} {A : Option Addr} {its : List (List UInt8)} (h : BBs w lo hi A its) {i : Nat} (hi' : i < its.length) {N : Nat} (hN : N = its.length) {K : Option Addr → Nat → Nat → Prop} (hk : ∀ A1 c1, Go.Dn.RB w A1 its[i] → K A1 its[i].length c1) :
    optB A fun a => req (decide (0 ≤ (i : Int) ∧ (i : Int) < (N : Int))) <| ldS w (a.add ((i : Int).toNat * 1)) K := bbs_ld h hi' hN hk
section
variable {w w1 w2 w0 : World} {A2 A8 A9 A12 : Option Addr} {c2 c8 c9 c12 lo8 hi8 lo9 hi9 lo12 hi12 : Nat} {x : List UInt8} {p : Pg} {ρ : RPg} {was now : List (List UInt8)}
/-- one item replaced -/
theorem Order_l0 {i0 : Int} {i : Nat} (ei : i0 = (i : Int)) (hi : i < was.length) (en : now = was.set i x) (hx : ∀ y ∈ now, y.length ≤ 140737488355328) (hl : was.length ≤ 1000) {K : World → Prop} {Kr : Bool → World → Prop} :
    ∀ (m k : Nat) (w2 : World), m + k = was.length → BBs w2 lo8 hi8 A8 was → BBs w2 lo9 hi9 A9 now → Go.Dn.RB w2 A2 x → (∀ w', Below w2.heap.size w2 w' → K w') → f_law08_PageOrder.l0 (m + 1) i0 A2 x.length c2 A8 was.length c8 A9 now.length c9 (was.length : Int) (k : Int) w2 K Kr := by
  subst ei
  have hnl : now.length = was.length := by rw [en, List.length_set]
  intro m
  induction m with
  | zero =>
    intro k w2 hk b8 b9 r2 hK
    unfold f_law08_PageOrder.l0
    exact sel_f (by simp; omega) (hK w2 (Below.refl _ _))
  | succ m ih =>
    intro k w2 hk b8 b9 r2 hK
    have hlt : k < was.length := by omega
    have hlt9 : k < now.length := by omega
    unfold f_law08_PageOrder.l0
    refine sel_t (by simp; omega) (bbs_ld' b8 hlt rfl fun A17 c17 r17 => ?_)
    have next : ∀ {w3 : World}, Below w2.heap.size w2 w3 → f_law08_PageOrder.l0 (m + 1) (i : Int) A2 x.length c2 A8 was.length c8 A9 now.length c9 (was.length : Int) (IntKind.i64.wrap ((k : Int) + 1)) w3 K Kr := fun {w3} g => by
      rw [show IntKind.i64.wrap ((k : Int) + 1) = ((k + 1 : Nat) : Int) by rw [w64_in (by omega)]; omega]
      exact ih (k + 1) w3 (by omega) (b8.below g) (b9.below g) (r2.below g (Nat.le_refl _)) fun w' g' => hK w' (g.trans (g'.mono g.size))
    by_cases q : k = i
    · refine sel_t (by simp [q]) ?_
      unfold f_law08_PageOrder.j1
      refine bbs_ld' b9 hlt9 rfl fun A19 c19 r19 => (Same_ok r19 r2 rfl rfl (hx _ (List.getElem_mem hlt9))).mono ?_
      rintro _ w3 ⟨rfl, g3⟩
      have e : now[k] = x := by subst q; subst en; rw [List.getElem_set_self]
      exact ⟨_, rfl, sel_f (by simp [e]) fun _ => next g3⟩
    · refine sel_f (by simpa using (by omega : ¬ (k : Int) = (i : Int))) ?_
      unfold f_law08_PageOrder.j1
      refine bbs_ld' b9 hlt9 rfl fun A19 c19 r19 => (Same_ok r19 r17 rfl rfl (hx _ (List.getElem_mem hlt9))).mono ?_
      rintro _ w3 ⟨rfl, g3⟩
      have e : now[k] = was[k] := by subst en; rw [List.getElem_set, if_neg (fun e => q e.symm)]
      exact ⟨_, rfl, sel_f (by simp [e]) fun _ => next g3⟩
/-- one item put in -/
theorem Order_l3 {i0 : Int} {i : Nat} (ei : i0 = (i : Int)) (hi : i ≤ was.length) (en : now = was.take i ++ x :: was.drop i) (hx : ∀ y ∈ now, y.length ≤ 140737488355328) (hl : was.length ≤ 1000) {K : World → Prop} {Kr : Bool → World → Prop} :
    ∀ (m k : Nat) (w2 : World), m + k = now.length → BBs w2 lo8 hi8 A8 was → BBs w2 lo12 hi12 A12 now → Go.Dn.RB w2 A2 x → (∀ w', Below w2.heap.size w2 w' → K w') → f_law08_PageOrder.l3 (m + 1) i0 A2 x.length c2 A8 was.length c8 A12 now.length c12 (now.length : Int) (k : Int) w2 K Kr := by
  subst ei
  have hit : (was.take i).length = i := by rw [List.length_take]; omega
  have hnl : now.length = was.length + 1 := by rw [en, List.length_append, List.length_cons, List.length_drop, hit]; omega
  intro m
  induction m with
  | zero =>
    intro k w2 hk b8 b9 r2 hK
    unfold f_law08_PageOrder.l3
    exact sel_f (by simp; omega) (hK w2 (Below.refl _ _))
  | succ m ih =>
    intro k w2 hk b8 b9 r2 hK
    have hlt9 : k < now.length := by omega
    have next : ∀ {w3 : World}, Below w2.heap.size w2 w3 → f_law08_PageOrder.l3 (m + 1) (i : Int) A2 x.length c2 A8 was.length c8 A12 now.length c12 (now.length : Int) (IntKind.i64.wrap ((k : Int) + 1)) w3 K Kr := fun {w3} g => by
      rw [show IntKind.i64.wrap ((k : Int) + 1) = ((k + 1 : Nat) : Int) by rw [w64_in (by omega)]; omega]
      exact ih (k + 1) w3 (by omega) (b8.below g) (b9.below g) (r2.below g (Nat.le_refl _)) fun w' g' => hK w' (g.trans (g'.mono g.size))
    have gd : Below w2.heap.size w2 w2.drew := (Below.refl _ _).drew
    obtain ⟨⟨m8, l8, o8, v8⟩, _⟩ := b8.below gd
    obtain ⟨⟨m9, l9, o9, v9⟩, _⟩ := b9.below gd
    have r2' := r2.below gd (Nat.le_refl _)
    obtain ⟨w3, hw3⟩ : ∃ w3, w2.drew = w3 := ⟨_, rfl⟩
    unfold f_law08_PageOrder.l3
    refine sel_t (by simp; omega) (drW_intro ?_)
    rw [hw3] at gd o8 v8 o9 v9 r2' ⊢
    have hkm : k < m9.length := by omega
    obtain ⟨e9, rb9, _⟩ := v9 k hkm hlt9
    refine ⟨fun W => RowE eS 1 W A12 m9 ∧ RowE eS 1 W A8 m8, ⟨o9, o8⟩, ?_⟩
    have Sk : ∀ {w4 : World}, Below w3.heap.size w3 w4 → RowE eS 1 w4 A12 m9 ∧ RowE eS 1 w4 A8 m8 := fun g => ⟨o9.below ES g, o8.below ES g⟩
    have nx : ∀ {w4 : World}, Below w3.heap.size w3 w4 → Below w2.heap.size w2 w4 := fun g => gd.trans (g.mono gd.size)
    by_cases q1 : k < i
    · have hkw : k < was.length := by omega
      obtain ⟨e8, rb8, _⟩ := v8 k (by omega) hkw
      have e : now[k] = was[k] := by
        subst en
        rw [List.getElem_append_left (by omega), List.getElem_take]
      refine sel_t (by simp; omega) (hd_sl (fun w' h => h.1) ⟨o9, o8⟩ rfl hkm l9.symm (hd_sl (fun w' h => h.2) ⟨o9, o8⟩ rfl (by omega : k < m8.length) l8.symm ((Same_ok rb9 rb8 e9 e8 (hx _ (List.getElem_mem hlt9))).mono ?_)))
      rintro _ w4 ⟨rfl, g4⟩
      exact ⟨_, rfl, Sk g4, sel_f (by simp [e]) (sel_f (by simpa using (by omega : ¬ (k : Int) = (i : Int))) ⟨Sk g4, sel_f (by simp; omega) (next (nx g4))⟩)⟩
    refine sel_f (by simp; omega) ⟨⟨o9, o8⟩, ?_⟩
    by_cases q2 : k = i
    · have e : now[k] = x := by
        subst en; subst q2
        rw [List.getElem_append_right (by omega)]
        simp only [hit, Nat.sub_self, List.getElem_cons_zero]
      refine sel_t (by simp [q2]) (hd_sl (fun w' h => h.1) ⟨o9, o8⟩ rfl hkm l9.symm ((Same_ok rb9 r2' e9 rfl (hx _ (List.getElem_mem hlt9))).mono ?_))
      rintro _ w4 ⟨rfl, g4⟩
      exact ⟨_, rfl, Sk g4, sel_f (by simp [e]) (sel_f (by simp; omega) (next (nx g4)))⟩
    · have hkw : k - 1 < was.length := by omega
      obtain ⟨e8, rb8, _⟩ := v8 (k - 1) (by omega) hkw
      have e : now[k] = was[k - 1] := by
        subst en
        rw [List.getElem_append_right (by omega)]
        simp only [hit]
        rw [List.getElem_cons, dif_neg (by omega), List.getElem_drop]
        congr 1
        omega
      have ez : IntKind.i64.wrap ((k : Int) - 1) = ((k - 1 : Nat) : Int) := by rw [w64_in (by omega)]; omega
      refine sel_f (by simpa using (by omega : ¬ (k : Int) = (i : Int))) ⟨⟨o9, o8⟩, sel_t (by simp; omega) (hd_sl (fun w' h => h.1) ⟨o9, o8⟩ rfl hkm l9.symm (hd_sl (fun w' h => h.2) ⟨o9, o8⟩ ez (by omega : k - 1 < m8.length) l8.symm ((Same_ok rb9 rb8 e9 e8 (hx _ (List.getElem_mem hlt9))).mono ?_)))⟩
      rintro _ w4 ⟨rfl, g4⟩
      exact ⟨_, rfl, sel_f (by simp [e]) (next (nx g4))⟩
theorem Order_j2 {i0 : Int} (hp : PM w1 w.heap.size XF ρ p) (g : Below w.heap.size w w1) (b8 : BBs w1 lo8 hi8 A8 p.items) (n8 : ∀ k, PN ρ k → k < lo8 ∨ hi8 ≤ k) (h8 : hi8 ≤ w1.heap.size) (hx : Go.Dn.RB w A2 x) (hl : x.length ≤ 140737488355000) {K : Bool → World → Prop} (hK : ∀ w', Below w.heap.size w w' → K true w') :
    f_law08_PageOrder.j2 i0 A2 x.length c2 (some ⟨ρ.P, 0, none⟩) A8 p.items.length c8 w1 K := by
  have hxx := hp.ok.x
  have hn := hp.ok.n
  unfold f_law08_PageOrder.j2
  refine (Insert_pg hp (i := i0) (hx.below g (Nat.le_refl _)) rfl hl fun k hk => hk.elim).mono ?_
  rintro _ w2 ⟨ρ2, rfl, e2, h2, n2, k2⟩
  have g2 := g.trans (hp.bel k2)
  have b2 := b8.keeps k2 n8
  refine ⟨_, rfl, ?_⟩
  rw [← e2]
  by_cases q : (insL p i0 x).2 = 0
  case neg =>
    rw [insL_no q] at h2
    refine sel_t (by simpa using q) ((Items_pg h2).mono ?_)
    rintro _ w3 ⟨A3, c3, rfl, b3, g3⟩
    refine ⟨_, _, _, rfl, (RSame_ok b3 (b2.below g3) rfl rfl (fun y hy => by have := hxx y hy; omega) (by omega)).mono ?_⟩
    rintro _ w4 ⟨rfl, g4⟩
    refine ⟨_, rfl, ?_⟩
    rw [show decide (p.items = p.items) = true from decide_eq_true rfl]
    exact hK w4 ((g2.trans (g3.mono g2.size)).trans (g4.mono (by have := g2.size; have := g3.size; omega)))
  · obtain ⟨a1, a2, ep⟩ := insL_yes q
    rw [ep] at h2
    refine sel_f (by simp [q]) ((Items_pg h2).mono ?_)
    rintro _ w3 ⟨A3, c3, rfl, b3, g3⟩
    have g23 := g2.trans (g3.mono g2.size)
    have ok2 := h2.ok.x
    have hit : (p.items.take i0.toNat).length = i0.toNat := by rw [List.length_take]; omega
    refine ⟨_, _, _, rfl, (p.items.take i0.toNat ++ x :: p.items.drop i0.toNat).length + 1, ?_⟩
    refine Order_l3 (now := p.items.take i0.toNat ++ x :: p.items.drop i0.toNat) (i := i0.toNat) (by omega) (by omega) rfl (fun y hy => by have := ok2 y hy; omega) (by omega) _ 0 w3 (by omega) (b2.below g3) b3 (hx.below g23 (Nat.le_refl _)) fun w4 g4 _ => ?_
    have e : (((p.items.take i0.toNat ++ x :: p.items.drop i0.toNat).length : Int) == IntKind.i64.wrap ((p.items.length : Int) + 1)) = true := by
      rw [List.length_append, List.length_cons, List.length_drop, hit, w64_in (by omega)]
      simp; omega
    rw [e]
    exact hK w4 (g23.trans (g4.mono g23.size))
end
theorem repL_yes {p : Pg} {i : Int} {x : List UInt8} (h : (repL p i x).2 = 0) : (repL p i x).1 = { p with items := p.items.set i.toNat x } := by
  unfold repL at h ⊢
  by_cases a : i < 0 ∨ (p.items.length : Int) ≤ i
  · rw [if_pos a] at h; cases h
  rw [if_neg a] at h ⊢
  by_cases b : 200 < x.length
  · rw [if_pos b] at h; cases h
  rw [if_neg b] at h ⊢
  split at h
  · cases h
  · rename_i c
    rw [if_neg c]
theorem repL_no {p : Pg} {i : Int} {x : List UInt8} (h : (repL p i x).2 ≠ 0) : (repL p i x).1 = p := by
  unfold repL at h ⊢
  by_cases a : i < 0 ∨ (p.items.length : Int) ≤ i
  · rw [if_pos a]
  rw [if_neg a] at h ⊢
  by_cases b : 200 < x.length
  · rw [if_pos b]
  rw [if_neg b] at h ⊢
  split at h
  · rename_i c; rw [if_pos c]
  · exact absurd rfl h
theorem PageOrder_row {w : World} {A A2 : Option Addr} {c c2 : Nat} {ops : List WOp} {x : List UInt8} {i : Int} (h : RWo w A ops) (_ : A = none → c = 0) (wi : (Lit.int .i64 i).wf = true) (hx : Go.Dn.RB w A2 x) (_ : A2 = none → c2 = 0) (_ : x.length ≤ c2) (hl : x.length ≤ 140737488355000) :
    Calls Tryd.prog 5 #[.slice A ops.length c, .int .i64 i, .slice A2 x.length c2] w fun e w' => e = .returned (.bool true) ∧ Below w.heap.size w w' := by
  apply f_law08_PageOrder.ok
  unfold f_law08_PageOrder.wp
  refine (Filled_ok h rfl).mono ?_
  rintro _ w1 ⟨ρ, rfl, h1, g1⟩
  refine ⟨_, rfl, sel_f rfl ((alive_ok w1).mono ?_)⟩
  rintro _ w2 ⟨rfl, g2⟩
  obtain ⟨p, hp⟩ : ∃ p, doAll p39 ops = p := ⟨_, rfl⟩
  rw [hp] at h1
  have h2 := h1.below g2
  have g02 := g1.trans (g2.mono g1.size)
  refine ⟨_, rfl, sel_f rfl ((Items_pg h2).mono ?_)⟩
  rintro _ w3 ⟨A3, c3, rfl, b3, g3⟩
  have h3 := h2.below g3
  have g03 := g02.trans (g3.mono g02.size)
  have hlt : ∀ k, PN ρ k → k < w2.heap.size := fun k hk => (h2.lt k hk).1
  have tail : ∀ {w' : World}, Below w.heap.size w w' → (Ending.returned (.bool true)) = .returned (.bool true) ∧ Below w.heap.size w w' := fun g => ⟨rfl, g⟩
  have hxx := h3.ok.x
  have hn := h3.ok.n
  refine ⟨_, _, _, rfl, ?_⟩
  by_cases q1 : 0 ≤ i
  case neg => exact sel_f (by simpa using q1) (Order_j2 h3 g03 b3 (fun k hk => .inl (hlt k hk)) (Nat.le_refl _) hx hl fun w' g' _ => tail g')
  refine sel_t (by simpa using q1) ?_
  by_cases q2 : i < (p.items.length : Int)
  case neg => exact sel_f (by simpa using q2) (Order_j2 h3 g03 b3 (fun k hk => .inl (hlt k hk)) (Nat.le_refl _) hx hl fun w' g' _ => tail g')
  refine sel_t (by simpa using q2) ((Replace_pg h3 (i := i) (hx.below g03 (Nat.le_refl _)) rfl hl fun k hk => hk.elim).mono ?_)
  rintro _ w4 ⟨rfl, h4, k4⟩
  have g04 := g03.trans (h3.bel k4)
  have b4 := b3.keeps k4 fun k hk => .inl (hlt k hk)
  have sz4 := k4.size
  refine ⟨_, rfl, ?_⟩
  by_cases q : (repL p i x).2 = 0
  case neg =>
    rw [repL_no q] at h4
    exact sel_f (by simpa using q) (Order_j2 h4 g04 b4 (fun k hk => .inl (hlt k hk)) (by omega) hx hl fun w' g' _ => tail g')
  rw [repL_yes q] at h4
  refine sel_t (by simp [q]) ((Items_pg h4).mono ?_)
  rintro _ w5 ⟨A5, c5, rfl, b5, g5⟩
  have ok4 := h4.ok.x
  have g05 := g04.trans (g5.mono g04.size)
  refine ⟨_, _, _, rfl, p.items.length + 1, ?_⟩
  refine Order_l0 (now := p.items.set i.toNat x) (i := i.toNat) (by omega) (by omega) rfl (fun y hy => by have := ok4 y hy; omega) (by omega) _ 0 w5 (by omega) (b4.below g5) b5 (hx.below g05 (Nat.le_refl _)) fun w6 g6 _ => ?_
  have g06 := g05.trans (g6.mono g05.size)
  exact Order_j2 ((h4.below g5).below g6) g06 (b5.below g6) (fun k hk => .inl (by have := (h4.lt k hk).1; omega)) g6.size hx hl fun w' g' _ => tail g'
end Go.Proofs.YtifambgaekjilaaDoor.Rd
