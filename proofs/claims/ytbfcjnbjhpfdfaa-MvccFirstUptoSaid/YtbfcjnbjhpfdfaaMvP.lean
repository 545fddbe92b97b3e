/- The table within a law; alive; the given calls. Conditions: none. -/
import Derived.Test.YtbfcjnbjhpfdfaaMvM
namespace Go.Dn
open Go.RowKit
set_option linter.unusedVariables false
/-- the table, all of it laid since w0 -/
structure LTb (w0 w : World) (F : Nat → Prop) (a : Nat) (tT tX : TypeId) (t : Tb) : Prop where
  tb : TB w F a tT tX t
  bl : Below w0.heap.size w0 w
  ge : ∀ k, F k → w0.heap.size ≤ k
section
variable {w0 w : World} {F : Nat → Prop} {a : Nat} {tT tX : TypeId} {t : Tb}
theorem LTb.lt (h : LTb w0 w F a tT tX t) {k : Nat} (hk : F k) : k < w.heap.size := h.tb.lt hk
theorem LTb.op (h : LTb w0 w F a tT tX t) {w' : World} {F' : Nat → Prop} {t' : Tb} (hT : TB w' F' a tT tX t') (hk : Keeps F w w') (hf : ∀ k, F' k → F k ∨ w.heap.size ≤ k) : LTb w0 w' F' a tT tX t' := by
  have := h.bl.size
  exact ⟨hT, h.bl.trans (hk.below (by omega) fun k hk hF => by have := h.ge k hF; omega), fun k hk => (hf k hk).elim (h.ge k) fun h => by omega⟩
theorem LTb.below (h : LTb w0 w F a tT tX t) {w' : World} (hb : Below w.heap.size w w') : LTb w0 w' F a tT tX t := by
  have := h.bl.size
  exact ⟨h.tb.below hb, h.bl.trans (hb.mono this), h.ge⟩
theorem LTb.keeps (h : LTb w0 w F a tT tX t) {S : Nat → Prop} {w' : World} (hk : Keeps S w w') (hS : ∀ k, S k → ¬ F k ∧ w0.heap.size ≤ k) : LTb w0 w' F a tT tX t := by
  have := h.bl.size
  exact ⟨h.tb.keeps hk fun k hF hs => (hS k hs).1 hF, h.bl.trans (hk.below (by omega) fun k hk hs => by have := (hS k hs).2; omega), h.ge⟩
end
/-- the given calls -/
structure ROps (w : World) (A : Option Addr) (ops : List MOp) : Prop where
  row : RowE opE 3 w A ops
  ok : ∀ o ∈ ops, OkOp w o
  lt : ops ≠ [] → ∀ a, A = some a → a.block < w.heap.size
theorem ROps.below {w w' : World} {A : Option Addr} {ops : List MOp} (h : ROps w A ops) (hb : Below w.heap.size w w') : ROps w' A ops :=
  ⟨h.row.below Eop hb, fun o ho => (h.ok o ho).below hb, fun hne a ha => Nat.lt_of_lt_of_le (h.lt hne a ha) hb.size⟩
theorem op_c0 {w : World} {a : Addr} {l : List MOp} (h : RowE opE 3 w (some a) l) {i : Nat} (hi : i < l.length) : w.cell? (a.add (i * 3)) = some (.int .i64 l[i].kind) := h.c0 Eop hi
theorem op_c1 {w : World} {a : Addr} {l : List MOp} (h : RowE opE 3 w (some a) l) {i : Nat} (hi : i < l.length) : w.cell? ((a.add (i * 3)).add 1) = some (.int .i64 l[i].n) := h.cj hi (by decide)
theorem op_c2 {w : World} {a : Addr} {l : List MOp} (h : RowE opE 3 w (some a) l) {i : Nat} (hi : i < l.length) : w.cell? ((a.add (i * 3)).add 2) = some (.slice l[i].A l[i].refs.length l[i].c) := h.cj hi (by decide)
/-- a call copied into a cell of its own -/
theorem box3 {w : World} {t : TypeId} {K : Nat → World → Prop} (o : MOp) (h : ∀ w' b, b = w.heap.size → HB w' b #[.int .i64 o.kind, .int .i64 o.n, .slice o.A o.refs.length o.c] t → Below w.heap.size w w' → w.heap.size < w'.heap.size → K b w') :
    alW w (.cells #[.int .i64 (0 : Int), .int .i64 (0 : Int), .slice none 0 0] t) fun B w1 => stW w1 (⟨B, 0, none⟩ : Addr) (.int .i64 o.kind) fun w2 => stW w2 ((⟨B, 0, none⟩ : Addr).add 1) (.int .i64 o.n) fun w3 =>
      stW w3 ((⟨B, 0, none⟩ : Addr).add 2) (.slice o.A o.refs.length o.c) fun w4 => K B w4 := by
  refine al_new fun w1 b e s1 hb hbl => hb_st0 hb (by decide) fun w2 hb2 k2 => hb_st (j := 1) hb2 (by simp) fun w3 hb3 k3 => hb_st (j := 2) hb3 (by simp) fun w4 hb4 k4 => h w4 b e hb4 ?_ ?_
  · exact hbl.trans (((k2.trans k3).trans k4).below (by omega) (fun k hk => by subst e; omega))
  · have := k2.size; have := k3.size; have := k4.size; omega
end Go.Dn
namespace Go.Proofs.Ytbfcjnbjhpfdfaa.Rd
open Go.Dn Go.RowKit
set_option linter.unusedVariables false
set_option maxRecDepth 100000
abbrev LT (w0 w : World) (F : Nat → Prop) (a : Nat) (t : Tb) : Prop := LTb w0 w F a 60 81 t
theorem LT.new (w : World) (l : Int) : Calls Try.prog 8 #[.int .i64 l] w fun e w' => ∃ F a, e = .returned (eP a) ∧ LT w w' F a (Tb.new l) := by
  refine (New_ok w l).mono fun e w' he => ?_
  obtain ⟨F, a, rfl, h1, h2, h3⟩ := he
  exact ⟨F, a, rfl, h1, h2, h3⟩
variable {w0 w : World} {F : Nat → Prop} {a : Nat} {t : Tb}
theorem LT.begin (h : LT w0 w F a t) (hlen : (t.txs.length : Int) < 4611686018427387904) : Calls Try.prog 18 #[eP a] w fun e w' => e = .returned (.tuple #[.int .i64 t.begin.2.1, .int .i64 t.begin.2.2]) ∧ ∃ F', LT w0 w' F' a t.begin.1 ∧ Keeps F w w' ∧ ∀ k, F' k → F k ∨ w.heap.size ≤ k := by
  refine (Begin_ok h.tb hlen).mono fun e w' he => ?_
  obtain ⟨rfl, F', h1, h2, h3⟩ := he
  exact ⟨rfl, F', h.op h1 h2 h3, h2, h3⟩
theorem LT.touch (h : LT w0 w F a t) {n : Int} (hn : W64 n) {A : Option Addr} {c : Nat} {refs : List Rf} (hr : ∀ r ∈ refs, W64 r.2) (hsm : (refs.length : Int) < 4611686018427387904) (hR : RR w A refs) (hA : refs ≠ [] → ∀ g, A = some g → ¬ F g.block) :
    Calls Try.prog 19 #[eP a, .int .i64 n, .slice A refs.length c] w fun e w' => e = .returned (.int .i64 (t.touch n refs).2) ∧ ∃ F', LT w0 w' F' a (t.touch n refs).1 ∧ Keeps F w w' ∧ ∀ k, F' k → F k := by
  refine (Touch_ok h.tb hn hr hsm hR hA).mono fun e w' he => ?_
  obtain ⟨rfl, F', h1, h2, h3⟩ := he
  exact ⟨rfl, F', h.op h1 h2 fun k hk => .inl (h3 k hk), h2, h3⟩
theorem LT.commit (h : LT w0 w F a t) {n : Int} (hn : W64 n) : Calls Try.prog 21 #[eP a, .int .i64 n] w fun e w' => e = .returned (.tuple #[.int .i64 (t.commit n).2.1, .int .i64 (t.commit n).2.2]) ∧ ∃ F', LT w0 w' F' a (t.commit n).1 ∧ Keeps F w w' ∧ ∀ k, F' k → F k := by
  refine (Commit_ok h.tb hn).mono fun e w' he => ?_
  obtain ⟨rfl, F', h1, h2, h3⟩ := he
  exact ⟨rfl, F', h.op h1 h2 fun k hk => .inl (h3 k hk), h2, h3⟩
theorem LT.abort (h : LT w0 w F a t) {n : Int} (hn : W64 n) : Calls Try.prog 22 #[eP a, .int .i64 n] w fun e w' => e = .returned (.int .i64 (t.abort n).2) ∧ ∃ F', LT w0 w' F' a (t.abort n).1 ∧ Keeps F w w' ∧ ∀ k, F' k → F k := by
  refine (Abort_ok h.tb hn).mono fun e w' he => ?_
  obtain ⟨rfl, F', h1, h2, h3⟩ := he
  exact ⟨rfl, F', h.op h1 h2 fun k hk => .inl (h3 k hk), h2, h3⟩
theorem LT.try_ (h : LT w0 w F a t) {n : Int} (hn : W64 n) : Calls Try.prog 24 #[eP a, .int .i64 n] w fun e w' => e = .returned (.int .i64 (t.try_ n)) ∧ LT w0 w' F a t ∧ Below w.heap.size w w' :=
  (Try_ok h.tb hn).mono fun e w' he => ⟨he.1, h.below he.2, he.2⟩
theorem LT.start (h : LT w0 w F a t) {n : Int} (hn : W64 n) : Calls Try.prog 20 #[eP a, .int .i64 n] w fun e w' => e = .returned (.tuple #[.int .i64 (t.startOf n).1, .int .i64 (t.startOf n).2]) ∧ w' = w := Start_ok h.tb hn
theorem LT.last (h : LT w0 w F a t) : Calls Try.prog 13 #[eP a] w fun e w' => e = .returned (.int .i64 t.last) ∧ w' = w := Last_ok h.tb
theorem LT.hor (h : LT w0 w F a t) : Calls Try.prog 14 #[eP a] w fun e w' => e = .returned (.int .i64 t.hor) ∧ LT w0 w' F a t ∧ Below w.heap.size w w' :=
  (Horizon_ok h.tb).mono fun e w' he => ⟨he.1, h.below he.2, he.2⟩
theorem LT.live (h : LT w0 w F a t) : Calls Try.prog 12 #[eP a] w fun e w' => ∃ A c, e = .returned (.slice A t.lives.length c) ∧ OwnI w' w.heap.size 3 A c t.lives ∧ LT w0 w' F a t ∧ Below w.heap.size w w' := by
  refine (Live_ok h.tb).mono fun e w' he => ?_
  obtain ⟨A, c, rfl, h1, h2⟩ := he
  exact ⟨A, c, rfl, h1, h.below h2, h2⟩
theorem rr_one {w : World} {b : Nat} {r : Rf} {t : TypeId} (h : HB w b #[.bool r.1, .int .i64 r.2] t) : RR w (some ⟨b, 0, none⟩) [r] := fun i hi => by
  have : i = 0 := by simp at hi; omega
  subst this
  exact ⟨_, rfl, h.cell 0, h.cell 1⟩
theorem w64s {n : Int} (h1 : -100 ≤ n) (h2 : n ≤ 100) : W64 n := by unfold W64; omega
theorem one_rf : ∀ r ∈ [((false, 7) : Rf)], W64 r.2 := fun r hr => by
  have e : r = (false, 7) := by simpa using hr
  rw [e]; exact w64s (by decide) (by decide)
theorem alive_ok (w : World) : Calls Try.prog 9 #[] w fun e w' => e = .returned (.bool true) ∧ Below w.heap.size w w' := by
  apply f_law14_alive.ok
  unfold f_law14_alive.wp
  refine (LT.new w 4).mono fun e w1 he => ?_
  obtain ⟨F1, a, rfl, T1⟩ := he
  refine ⟨_, rfl, sel_f rfl ((T1.begin (by decide)).mono fun e w2 he => ?_)⟩
  obtain ⟨rfl, F2, T2, _, _⟩ := he
  refine ⟨_, _, rfl, (T2.begin (by decide)).mono fun e w3 he => ?_⟩
  obtain ⟨rfl, F3, T3, _, _⟩ := he
  refine ⟨_, _, rfl, al_new fun w4 b4 e4 s4 h4 g4 => ?_⟩
  have T4 : LT w w4 F3 a _ := T3.below g4
  refine (T4.touch (n := 1) (w64s (by decide) (by decide)) (refs := [(false, 7)]) one_rf (by decide) (rr_one h4) (fun _ g hg hF => by injection hg with hg; subst hg; have := T3.lt hF; simp only at this; omega)).mono fun e w5 he => ?_
  obtain ⟨rfl, F5, T5, _, _⟩ := he
  refine ⟨_, rfl, al_new fun w6 b6 e6 s6 h6 g6 => ?_⟩
  have T6 : LT w w6 F5 a _ := T5.below g6
  refine (T6.touch (n := 2) (w64s (by decide) (by decide)) (refs := [(false, 7)]) one_rf (by decide) (rr_one h6) (fun _ g hg hF => by injection hg with hg; subst hg; have := T5.lt hF; simp only at this; omega)).mono fun e w7 he => ?_
  obtain ⟨rfl, F7, T7, _, _⟩ := he
  refine ⟨_, rfl, (T7.commit (n := 2) (w64s (by decide) (by decide))).mono fun e w8 he => ?_⟩
  obtain ⟨rfl, F8, T8, _, _⟩ := he
  refine ⟨_, _, rfl, (T8.commit (n := 1) (w64s (by decide) (by decide))).mono fun e w9 he => ?_⟩
  obtain ⟨rfl, F9, T9, _, _⟩ := he
  refine ⟨_, _, rfl, (T9.begin (by decide)).mono fun e w10 he => ?_⟩
  obtain ⟨rfl, F10, T10, _, _⟩ := he
  refine ⟨_, _, rfl, (T10.start (n := 3) (w64s (by decide) (by decide))).mono fun e w11 he => ?_⟩
  obtain ⟨rfl, hw⟩ := he
  subst w11
  refine ⟨_, _, rfl, sel_t (by decide) (sel_t (by decide) (sel_t (by decide) (sel_t (by decide) (sel_t (by decide) (sel_t (by decide) (sel_t (by decide) (sel_t (by decide) (sel_t (by decide) (sel_t (by decide) (sel_t (by decide) (sel_t (by decide) (sel_t (by decide) (T10.last.mono fun e w12 he => ?_)))))))))))))⟩
  obtain ⟨rfl, hw⟩ := he
  subst w12
  refine ⟨_, rfl, sel_t (by decide) (T10.live.mono fun e w13 he => ?_)⟩
  obtain ⟨A, c, rfl, _, T13, _⟩ := he
  refine ⟨_, _, _, rfl, sel_t (by decide) (T13.hor.mono fun e w14 he => ?_)⟩
  obtain ⟨rfl, T14, _⟩ := he
  refine ⟨_, rfl, sel_t (by decide) ((T14.try_ (n := 3) (w64s (by decide) (by decide))).mono fun e w15 he => ?_)⟩
  obtain ⟨rfl, T15, _⟩ := he
  refine ⟨_, rfl, sel_t (by decide) ((T15.abort (n := 3) (w64s (by decide) (by decide))).mono fun e w16 he => ?_)⟩
  obtain ⟨rfl, F16, T16, _, _⟩ := he
  exact ⟨_, rfl, rfl, T16.bl⟩
end Go.Proofs.Ytbfcjnbjhpfdfaa.Rd
