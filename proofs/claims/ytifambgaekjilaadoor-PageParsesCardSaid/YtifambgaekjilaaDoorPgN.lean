/- page: a page behind a script; a page's items, and two such rows compared. Conditions: none. -/
import Derived.Test.YtifambgaekjilaaDoorPgM
namespace Go.Proofs.YtifambgaekjilaaDoor.Rd
open Go.Dn Go.RowKit
set_option linter.unusedVariables false
set_option linter.unusedSimpArgs false
set_option maxRecDepth 100000
abbrev XF : Nat → Prop := fun _ => False
def p39 : Pg := ⟨0, UInt8.ofNat ((3 : Int) % 256).toNat, 9, []⟩
theorem doAll_take (p : Pg) (ops : List WOp) {i : Nat} (h : i < ops.length) : doAll p (ops.take (i + 1)) = doP (doAll p (ops.take i)) ops[i] := by
  unfold doAll
  rw [List.take_succ_eq_append_getElem h, List.foldl_append]; rfl
section
variable {w w' w0 : World} {B : Nat} {X : Nat → Prop} {ρ : RPg} {p p' : Pg} {ops : List WOp} {A : Option Addr} {n c : Nat}
theorem PM.lo' (h : PM w B X ρ p) {B' : Nat} (hB : B' ≤ B) : PM w B' X ρ p := by
  obtain ⟨ms, h1, h2⟩ := h.rc
  refine ⟨h.hb, Nat.le_trans hB h.lo, ⟨ms, ⟨h1.1, ?_⟩, h2⟩, h.ok⟩
  rcases h1.2 with q | ⟨g, cap, cur, hv, hbg, r⟩
  · exact .inl q
  · exact .inr ⟨g, cap, cur, hv, Nat.le_trans hB hbg, r⟩
theorem Filled_ok (h : RWo w A ops) (hn : n = ops.length) :
    Calls Tryd.prog 16 #[.slice A n c] w fun e w' => ∃ ρ, e = .returned (.pointer (some ⟨ρ.P, 0, none⟩)) ∧ PM w' w.heap.size XF ρ (doAll p39 ops) ∧ Below w.heap.size w w' := by
  subst hn
  apply f_law08_filled.ok
  unfold f_law08_filled.wp
  have hlen := h.len
  refine (New_pg w 3 9 (by decide)).mono ?_
  rintro _ w1 ⟨ρ, rfl, h1, g1⟩
  refine ⟨_, rfl, ops.length + 1, ?_⟩
  have main : ∀ (m i : Nat) (ρ' : RPg) (w2 : World), m + i = ops.length → ρ'.P = ρ.P → PM w2 w.heap.size XF ρ' (doAll p39 (ops.take i)) → Below w.heap.size w w2 → f_law08_filled.l0 (m + 1) A ops.length c (some ⟨ρ.P, 0, none⟩) (i : Int) w2 (fun (w11 : World) => ∀ _ : Fr, ∃ ρ', (Ending.returned (.pointer (some ⟨ρ.P, 0, none⟩))) = .returned (.pointer (some ⟨ρ'.P, 0, none⟩)) ∧ PM w11 w.heap.size XF ρ' (doAll p39 ops) ∧ Below w.heap.size w w11) := by
    intro m
    induction m with
    | zero =>
      intro i ρ' w2 hi eP h2 g2
      unfold f_law08_filled.l0
      rw [List.take_of_length_le (by omega)] at h2
      exact sel_t rfl (sel_f (by simp; omega) fun _ => ⟨ρ', by rw [eP], h2, g2⟩)
    | succ m ih =>
      intro i ρ' w2 hi eP h2 g2
      have hlt : i < ops.length := by omega
      unfold f_law08_filled.l0
      refine sel_t rfl (sel_t (by simp; omega) (wop_ld rfl (h.below g2).row hlt ?_))
      rw [← eP]
      refine (Asks_ok h2 (fun k hk => hk.elim) (h.ok _ (List.getElem_mem hlt)) g2 (Nat.le_refl _)).mono ?_
      rintro _ w3 ⟨x0, x1, x2, A', n', c', b, rfl, ⟨ρ3, eP3, h3, n3⟩, k3⟩
      refine ⟨_, _, _, _, _, _, _, rfl, ?_⟩
      rw [show IntKind.i64.wrap ((i : Int) + 1) = ((i + 1 : Nat) : Int) by rw [w64_in (by omega)]; omega, eP]
      rw [← doAll_take p39 ops hlt] at h3
      exact ih (i + 1) ρ3 w3 (by omega) (eP3.trans eP) h3 (g2.trans (h2.bel k3))
  exact main ops.length 0 ρ w1 (by omega) rfl h1 g1
/-! ### rows of bytes -/
theorem ItM.ofOwn {N : Nat → Prop} {x : List UInt8} (o : OwnB w B TU8 A c x) (hN : ∀ k, B ≤ k → ¬ N k) : ItM w N (A, x.length, c) x := by
  refine ⟨rfl, o.le, o.reads, fun a ha => ⟨(o.block a ha).2, hN _ (o.block a ha).1⟩, fun a ha => ?_⟩
  have ha : A = some a := ha
  obtain ⟨_, hh⟩ := o
  rcases hh with ⟨hh, _⟩ | ⟨g, cap, cur, hv, _, hg, _⟩
  · injection hh with hh; rw [hh] at ha; cases ha
  · injection hv with hv
    have e : a.block = g := by rw [hv] at ha; cases ha; rfl
    exact ⟨cur, by rw [e]; exact hg⟩
/-- a row of texts whose blocks lie from lo on, ahead of hi -/
structure BBs (w : World) (lo hi : Nat) (A : Option Addr) (its : List (List UInt8)) : Prop where
  ex : ∃ ms : List SM, ms.length = its.length ∧ RowE eS 1 w A ms ∧ ∀ i (h : i < ms.length) (h' : i < its.length), ms[i].2.1 = its[i].length ∧ Go.Dn.RB w ms[i].1 its[i] ∧ ∀ a, ms[i].1 = some a → lo ≤ a.block ∧ a.block < hi
  bl : ∀ a, A = some a → lo ≤ a.block ∧ a.block < hi
theorem BBs.keeps {S : Nat → Prop} {lo hi : Nat} {its : List (List UInt8)} (h : BBs w lo hi A its) (k : Keeps S w w') (hS : ∀ k, S k → k < lo ∨ hi ≤ k) : BBs w' lo hi A its := by
  obtain ⟨⟨ms, h1, h2, h3⟩, h4⟩ := h
  refine ⟨⟨ms, h1, h2.keeps ES k fun a ha hs => ?_, fun i hi' hi2 => ?_⟩, h4⟩
  · have := h4 a ha
    rcases hS _ hs with q | q <;> omega
  · obtain ⟨q1, q2, q3⟩ := h3 i hi' hi2
    refine ⟨q1, RBk q2 k fun a ha hs => ?_, q3⟩
    have := q3 a ha
    rcases hS _ hs with q | q <;> omega
theorem BBs.below {lo hi : Nat} {its : List (List UInt8)} (h : BBs w lo hi A its) (k : Below w.heap.size w w') : BBs w' lo hi A its := h.keeps (S := XF) (.of_below k) fun _ h => h.elim
theorem bbs_ld {lo hi : Nat} {its : List (List UInt8)} (h : BBs w lo hi A its) {i : Nat} (hi' : i < its.length) {N : Nat} (hN : N = its.length) {K : Option Addr → Nat → Nat → Prop} (hk : ∀ A1 c1, Go.Dn.RB w A1 its[i] → K A1 its[i].length c1) :
    optB A fun a => req (decide (0 ≤ (i : Int) ∧ (i : Int) < (N : Int))) <| ldS w (a.add ((i : Int).toNat * 1)) K := by
  subst hN
  obtain ⟨⟨ms, h1, h2, h3⟩, _⟩ := h
  have him : i < ms.length := by omega
  obtain ⟨a, rfl, hc⟩ := h2 i him
  have hc0 := hc 0 (by decide)
  rw [Go.Dn.add_zero] at hc0
  obtain ⟨q1, q2, _⟩ := h3 i him hi'
  rw [Int.toNat_natCast]
  refine optB_some rfl (req_intro (by simp; omega) (ldS_intro (A := ms[i].1) (n := ms[i].2.1) (c := ms[i].2.2) hc0 ?_))
  rw [q1]; exact hk _ _ q2
theorem Items_pg (h : PM w B X ρ p) : Calls Tryd.prog 17 #[.pointer (some ⟨ρ.P, 0, none⟩)] w fun e w' => ∃ A c, e = .returned (.slice A p.items.length c) ∧ BBs w' w.heap.size w'.heap.size A p.items ∧ Below w.heap.size w w' := by
  have hn := h.ok.n
  apply f_law08_items.ok
  unfold f_law08_items.wp
  refine alW_intro ⟨p.items.length + 1, ?_⟩
  have main : ∀ (m i : Nat) (A : Option Addr) (c : Nat) (ms : List SM) (w2 : World), m + i = p.items.length → ms.length = i → OwnE eS 1 w2 w.heap.size TB A c ms → ItsM w2 (fun k => k < w.heap.size) ms (p.items.take i) → Below w.heap.size w w2 → w.heap.size ≤ w2.heap.size → f_law08_items.l0 (m + 1) (some ⟨ρ.P, 0, none⟩) A ms.length c (i : Int) w2 (fun (A14 : Option Addr) (n14 : Nat) (c14 : Nat) (w15 : World) => ∀ _ : Fr, ∃ A c, (Ending.returned (.slice A14 n14 c14)) = .returned (.slice A p.items.length c) ∧ BBs w15 w.heap.size w15.heap.size A p.items ∧ Below w.heap.size w w15) := by
    intro m
    induction m with
    | zero =>
      intro i A c ms w2 hi hl o2 t2 g2 z2
      unfold f_law08_items.l0
      refine (Len_pg (h.below g2)).mono ?_
      rintro _ _ ⟨rfl, rfl⟩
      refine ⟨_, rfl, sel_f (by simp; omega) fun _ => ⟨A, c, by rw [hl, show i = p.items.length by omega], ⟨⟨ms, by omega, o2.reads ES, fun j h1 h2 => ?_⟩, fun a ha => o2.block a ha⟩, g2⟩⟩
      have ht : p.items.take i = p.items := List.take_of_length_le (by omega)
      have q := t2.2 j h1 (by rw [ht]; exact h2)
      have e : (p.items.take i)[j]'(by rw [ht]; exact h2) = p.items[j] := by rw [List.getElem_take]
      rw [e] at q
      refine ⟨q.n, q.rb, fun a ha => ⟨?_, (q.a a ha).1⟩⟩
      have := (q.a a ha).2
      omega
    | succ m ih =>
      intro i A c ms w2 hi hl o2 t2 g2 z2
      have hlt : i < p.items.length := by omega
      unfold f_law08_items.l0
      refine (Len_pg (h.below g2)).mono ?_
      rintro _ _ ⟨rfl, rfl⟩
      refine ⟨_, rfl, sel_t (by simp; omega) ((Item_pg (h.below g2) (i := (i : Int))).mono ?_)⟩
      rintro _ w3 ⟨A3, c3, x, f, rfl, o3, g3, hx⟩
      rw [if_neg (by omega)] at hx
      obtain ⟨_, hi', hx⟩ := hx
      have hx : x = p.items[i] := by simpa using hx
      subst hx
      have sz3 := g3.size
      refine ⟨_, _, _, _, rfl, put_e RTs ES (by decide) (o2.below g3) rfl ((A3, p.items[i].length, c3) : SM) rfl (by omega) (by omega) fun A4 c4 w4 o4 k4 f4 => ?_⟩
      rw [show IntKind.i64.wrap ((i : Int) + 1) = ((i + 1 : Nat) : Int) by rw [w64_in (by omega)]; omega]
      have new : ItM w3 (fun k => k < w.heap.size) (A3, p.items[i].length, c3) p.items[i] := ItM.ofOwn o3 fun k hk => by omega
      have hT : ∀ k, Ob A k → ∀ cs, ¬ HB w3 k cs TU8 := fun k hk cs hc => absurd (ob_ty (o2.below g3) _ hk _ _ hc) (by decide)
      have t4 := (t2.below g3).keepsT k4 hT
      have n4 := new.keepsT k4 hT
      have g4 : Below w.heap.size w w4 := (g2.trans (g3.mono z2)).trans (k4.below (by omega) fun k hk ⟨a, ha, e⟩ => by have := (o2.block a ha).1; omega)
      refine ih (i + 1) (some A4) c4 (ms ++ [(A3, p.items[i].length, c3)]) w4 (by omega) (by rw [List.length_append, List.length_singleton]; omega) o4 ?_ g4 (by have := k4.size; omega)
      refine ⟨by rw [List.length_append, List.length_singleton, List.length_take]; omega, fun j h1 h2 => ?_⟩
      rw [List.length_append, List.length_singleton] at h1
      by_cases hj : j < i
      · have q := t4.2 j (by omega) (by rw [List.length_take]; omega)
        have e1 : (ms ++ [(A3, p.items[i].length, c3)])[j] = ms[j] := List.getElem_append_left (by omega)
        rw [e1, List.getElem_take]
        rw [List.getElem_take] at q
        exact q
      · have ej : j = ms.length := by omega
        subst ej
        rw [List.getElem_append_right (Nat.le_refl _), List.getElem_take]
        simp only [Nat.sub_self, List.getElem_cons_zero]
        simp only [hl]
        exact n4
  have g0 : Below w.heap.size w (w.alloc (.cells #[] TB)) := (Below.refl _ _).alloc (Nat.le_refl _) _
  exact main p.items.length 0 _ 0 [] _ (by omega) rfl (OwnE.empty (Nat.le_refl _)) ⟨by simp, fun j h1 h2 => absurd h1 (Nat.not_lt_zero _)⟩ g0 g0.size
theorem RSame_ok {A1 A2 : Option Addr} {lo1 hi1 lo2 hi2 n1 n2 c1 c2 : Nat} {l1 l2 : List (List UInt8)} (h1 : BBs w lo1 hi1 A1 l1) (h2 : BBs w lo2 hi2 A2 l2) (hn1 : n1 = l1.length) (hn2 : n2 = l2.length) (hm : ∀ x ∈ l1, x.length ≤ 140737488355328) (hl : l1.length ≤ 1000) :
    Calls Tryd.prog 23 #[.slice A1 n1 c1, .slice A2 n2 c2] w fun e w' => e = .returned (.bool (decide (l1 = l2))) ∧ Below w.heap.size w w' := by
  subst hn1; subst hn2
  apply f_ref08_Same.ok
  unfold f_ref08_Same.wp
  by_cases hll : l1.length = l2.length
  case neg =>
    refine sel_t (by simp; omega) ⟨?_, Below.refl _ _⟩
    rw [decide_eq_false (fun e => hll (by rw [e]))]
  refine sel_f (by simp; omega) ⟨l1.length + 1, ?_⟩
  have main : ∀ (m i : Nat) (w2 : World), m + i = l1.length → l1.take i = l2.take i → Below w.heap.size w w2 → f_ref08_Same.l0 (m + 1) A1 l1.length c1 A2 l2.length c2 (i : Int) w2 (fun (w10 : World) => ∀ _ : Fr, (Ending.returned (.bool true)) = .returned (.bool (decide (l1 = l2))) ∧ Below w.heap.size w w10) (fun (b11 : Bool) (w12 : World) => ∀ _ : Fr, (Ending.returned (.bool b11)) = .returned (.bool (decide (l1 = l2))) ∧ Below w.heap.size w w12) := by
    intro m
    induction m with
    | zero =>
      intro i w2 hi ht g2
      unfold f_ref08_Same.l0
      refine sel_f (by simp; omega) fun _ => ⟨?_, g2⟩
      rw [List.take_of_length_le (by omega), List.take_of_length_le (by omega)] at ht
      rw [decide_eq_true ht]
    | succ m ih =>
      intro i w2 hi ht g2
      have hlt : i < l1.length := by omega
      have hlt2 : i < l2.length := by omega
      unfold f_ref08_Same.l0
      refine sel_t (by simp; omega) (drW_intro ?_)
      have gd : Below w.heap.size w w2.drew := g2.drew
      refine bbs_ld (h1.below gd) hlt rfl fun B1 d1 r1 => bbs_ld (h2.below gd) hlt2 rfl fun B2 d2 r2 => (Same_ok r1 r2 rfl rfl (hm _ (List.getElem_mem hlt))).mono ?_
      rintro _ w3 ⟨rfl, g3⟩
      have g3' := gd.trans (g3.mono gd.size)
      refine ⟨_, rfl, ?_⟩
      by_cases he : l1[i] = l2[i]
      · refine sel_f (by simpa using he) ?_
        rw [show IntKind.i64.wrap ((i : Int) + 1) = ((i + 1 : Nat) : Int) by rw [w64_in (by omega)]; omega]
        exact ih (i + 1) w3 (by omega) (by rw [List.take_succ_eq_append_getElem hlt, List.take_succ_eq_append_getElem hlt2, ht, he]) g3'
      · refine sel_t (by simpa using he) fun _ => ⟨?_, g3'⟩
        rw [decide_eq_false fun e => he (by subst e; rfl)]
  exact main l1.length 0 w (by omega) rfl (Below.refl _ _)
end
end Go.Proofs.YtifambgaekjilaaDoor.Rd
