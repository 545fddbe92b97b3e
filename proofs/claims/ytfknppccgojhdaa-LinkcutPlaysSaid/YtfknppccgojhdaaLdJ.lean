/- The document's path, its greatest edge and its sum. Conditions: none. -/
import Derived.Test.YtfknppccgojhdaaLdI
namespace Go.Dn
open Go.RowKit
set_option linter.unusedVariables false
theorem Wk.split {es : List E} {q : List E} {v : Int} : ∀ {p : List E} {u : Int}, Wk es u (p ++ q) v → ∃ m, Wk es u p m ∧ Wk es m q v
  | [], u, h => ⟨u, .nil _, h⟩
  | e :: p, u, h => by
    cases h with
    | cons he hm h =>
      obtain ⟨m, h1, h2⟩ := Wk.split h
      exact ⟨m, .cons he hm h1, h2⟩
def stk : Int → List E → List Int
  | u, [] => [u]
  | u, e :: p => u :: stk (oth e u) p
theorem stk_snoc {es : List E} : ∀ {p : List E} {u m : Int}, Wk es u p m → ∀ e, stk u (p ++ [e]) = stk u p ++ [oth e m]
  | [], u, m, h, e => by cases h; rfl
  | a :: p, u, m, h, e => by
    cases h with
    | cons he hm h => simp only [List.cons_append, stk]; rw [stk_snoc h e]
theorem stk_last {es : List E} : ∀ {p : List E} {u m : Int}, Wk es u p m → m ∈ stk u p
  | [], u, m, h => by cases h; simp [stk]
  | a :: p, u, m, h => by
    cases h with
    | cons he hm h => exact List.mem_cons_of_mem _ (stk_last h)
def Vis (es : List E) (u : Int) (used : List Int) (x : Int) : Prop := x = u ∨ ∃ e ∈ es, e.id ∈ used ∧ (e.u = x ∨ e.v = x)
/-- what holds while the document looks for a path -/
structure WayI (es : List E) (u v : Int) (path : List E) (at_ : Int) (used : List Int) : Prop where
  wk : Wk es u path at_
  nb : NB path
  sub : ∀ e ∈ path, e.id ∈ used
  pl : path.length ≤ used.length
  nd : used.Nodup
  ui : ∀ i ∈ used, i ∈ es.map E.id
  vv : Vis es u used v → at_ = v
  dn : ∀ x, Vis es u used x → x ∈ stk u path ∨ ∀ e ∈ es, (e.u = x ∨ e.v = x) → e.id ∈ used
theorem WayI.start (es : List E) (u v : Int) : WayI es u v [] u [] :=
  ⟨.nil _, trivial, by simp, Nat.le_refl _, .nil, by simp, fun h => h.elim (fun h => h.symm) (fun ⟨e, _, h, _⟩ => by cases h), fun x h => h.elim (fun h => .inl (by simp [stk, h])) (fun ⟨e, _, h, _⟩ => by cases h)⟩
theorem MxP.snoc {q : List E} {x o : E} (h1 : o ∈ q ++ [x]) (h2 : ∀ a ∈ q ++ [x], leE a o) : MxP (q ++ [x]) o := ⟨fun h => absurd h (by simp), fun _ => ⟨h1, h2⟩⟩
theorem vis_snoc {es : List E} (hi : ∀ e ∈ es, ∀ e' ∈ es, e.id = e'.id → e = e') {u : Int} {used : List Int} {e : E} (he : e ∈ es) {x : Int} : Vis es u (used ++ [e.id]) x ↔ Vis es u used x ∨ e.u = x ∨ e.v = x := by
  constructor
  · rintro (h1 | ⟨a, ha, hh, h2⟩)
    · exact .inl (.inl h1)
    · rcases List.mem_append.1 hh with h3 | h3
      · exact .inl (.inr ⟨a, ha, h3, h2⟩)
      · have := hi a ha e he (List.mem_singleton.1 h3)
        subst this; exact .inr h2
  · rintro ((h1 | ⟨a, ha, hh, h2⟩) | h)
    · exact .inl h1
    · exact .inr ⟨a, ha, List.mem_append_left _ hh, h2⟩
    · exact .inr ⟨e, he, by simp, h⟩
theorem WayI.push {es : List E} (hi : ∀ e ∈ es, ∀ e' ∈ es, e.id = e'.id → e = e') {u v at_ : Int} {path : List E} {used : List Int} (h : WayI es u v path at_ used) (hne : at_ ≠ v) {e : E} (he : e ∈ es) (hm : e.u = at_ ∨ e.v = at_) (hn : e.id ∉ used) : WayI es u v (path ++ [e]) (oth e at_) (used ++ [e.id]) := by
  refine ⟨h.wk.app (.cons he hm (.nil _)), ?_, ?_, by have := h.pl; simp; omega, ?_, ?_, ?_, ?_⟩
  · rw [NB.app]
    refine ⟨h.nb, trivial, fun a ha b hb hab => ?_⟩
    simp only [List.head?_cons, Option.mem_def, Option.some.injEq] at hb
    subst hb
    exact hn (hab ▸ h.sub a (List.mem_of_getLast? ha))
  · intro a ha
    rcases List.mem_append.1 ha with ha | ha
    · exact List.mem_append_left _ (h.sub a ha)
    · rw [List.mem_singleton.1 ha]; simp
  · rw [List.nodup_append]
    exact ⟨h.nd, by simp, fun a ha b hb hab => hn (by rw [← List.mem_singleton.1 hb, ← hab]; exact ha)⟩
  · intro i hi
    rcases List.mem_append.1 hi with hi | hi
    · exact h.ui i hi
    · rw [List.mem_singleton.1 hi]; exact List.mem_map_of_mem he
  · intro hV
    rcases (vis_snoc hi he).1 hV with h1 | h1
    · exact absurd (h.vv h1) hne
    · exact (oth_only hm h1 fun h => hne h.symm).symm
  · intro x hx
    rw [stk_snoc h.wk]
    rcases (vis_snoc hi he).1 hx with h1 | h1
    · rcases h.dn x h1 with h2 | h2
      · exact .inl (List.mem_append_left _ h2)
      · exact .inr fun a ha hh => List.mem_append_left _ (h2 a ha hh)
    · by_cases hx2 : x = at_
      · subst hx2; exact .inl (List.mem_append_left _ (stk_last h.wk))
      · exact .inl (by rw [oth_only hm h1 hx2]; simp)
theorem WayI.pop {es : List E} {u v at_ : Int} {path : List E} {e : E} {used : List Int} (h : WayI es u v (path ++ [e]) at_ used) (hne : at_ ≠ v) (hn : ∀ a ∈ es, (a.u = at_ ∨ a.v = at_) → a.id ∈ used) : WayI es u v path (oth e at_) used := by
  obtain ⟨m, h1, h2⟩ := h.wk.split
  cases h2 with
  | cons he hm h3 =>
    cases h3
    rw [oth_oth hm]
    refine ⟨h1, (NB.app.1 h.nb).1, fun a ha => h.sub a (by simp [ha]), by have := h.pl; simp at this; omega, h.nd, h.ui, fun hV => absurd (h.vv hV) hne, fun x hx => ?_⟩
    rcases h.dn x hx with h4 | h4
    · rw [stk_snoc h1, List.mem_append, List.mem_singleton] at h4
      rcases h4 with h4 | h4
      · exact .inl h4
      · subst h4; exact .inr hn
    · exact .inr h4
theorem WayI.none {es : List E} {u v at_ : Int} {used : List Int} (h : WayI es u v [] at_ used) (hne : at_ ≠ v) (hn : ∀ a ∈ es, (a.u = at_ ∨ a.v = at_) → a.id ∈ used) : ¬ ∃ p, Wk es u p v := by
  rintro ⟨p, hp⟩
  have hu : at_ = u := by
    have := h.wk
    generalize at_ = b at this
    cases this; rfl
  subst hu
  have all : ∀ x, Vis es at_ used x → ∀ e ∈ es, (e.u = x ∨ e.v = x) → e.id ∈ used := fun x hx => by
    rcases h.dn x hx with h4 | h4
    · simp only [stk, List.mem_singleton] at h4
      subst h4; exact hn
    · exact h4
  have := hp.inv (Q := Vis es at_ used) (fun e he => ⟨fun hq => .inr ⟨e, he, all _ hq e he (.inl rfl), .inr rfl⟩, fun hq => .inr ⟨e, he, all _ hq e he (.inr rfl), .inl rfl⟩⟩) (.inl rfl)
  exact hne (h.vv this)
end Go.Dn
namespace Go.Proofs.Ytfknppccgojhdaa.Rd
open Go.Dn Go.RowKit
set_option linter.unusedVariables false
set_option maxRecDepth 100000
theorem other_ok (w : World) (e : E) (v : Int) : Calls Try.prog 46 #[.agg (eC e), .int .i64 v] w fun en w' => en = .returned (.int .i64 (oth e v)) ∧ Below w.heap.size w w' := by
  apply f_ref06_other.ok
  unfold f_ref06_other.wp
  refine al_new fun w1 b1 e1 s1 h1 g1 => ?_
  have h1 : HB w1 b1 (eC e) 33 := h1
  refine hb_ldI h1 (j := 1) rfl ?_
  unfold oth
  by_cases h : e.u = v
  · refine sel_t (by simp [h]) (hb_ldI h1 (j := 2) rfl ⟨by rw [if_pos h], g1⟩)
  · refine sel_f (by simp [h]) (hb_ldI h1 (j := 1) rfl ⟨by rw [if_neg h], g1⟩)
theorem Ahead_ok (w : World) (a b : E) : Calls Try.prog 47 #[.agg (eC a), .agg (eC b)] w fun en w' => (∃ x, en = .returned (.bool x) ∧ (x = true ↔ a.w < b.w ∨ (a.w = b.w ∧ a.id < b.id))) ∧ Below w.heap.size w w' := by
  apply f_ref06_Ahead.ok
  unfold f_ref06_Ahead.wp
  refine al_new fun w1 b1 e1 s1 h1 g1 => al_new fun w2 b2 e2 s2 h2 g2 => ?_
  have hb := g1.trans (g2.mono (by omega))
  have h1 : HB w2 b1 (eC a) 33 := h1.below g2
  have h2 : HB w2 b2 (eC b) 33 := h2
  refine hb_ldI h1 (j := 3) rfl (hb_ldI h2 (j := 3) rfl ?_)
  by_cases k1 : a.w < b.w
  · exact sel_t (by simpa using k1) ⟨⟨true, rfl, by simp [k1]⟩, hb⟩
  · refine sel_f (by simpa using k1) (hb_ldI h1 (j := 3) rfl (hb_ldI h2 (j := 3) rfl ?_))
    by_cases k2 : a.w = b.w
    · refine sel_t (by simpa using k2) (hb_ldI0 h1 rfl (hb_ldI0 h2 rfl ⟨⟨_, rfl, ?_⟩, hb⟩))
      rw [decide_eq_true_iff]; omega
    · exact sel_f (by simpa using k2) ⟨⟨false, rfl, by simp [k1, k2]⟩, hb⟩
theorem Sum_ok {w : World} {A : Option Addr} {n c : Nat} {l : List E} (r : RE w A l) (hn : n = l.length) (hl : l.length ≤ 4096) (hw : ∀ e ∈ l, 0 ≤ e.w ∧ e.w ≤ 1099511627776) :
    Calls Try.prog 41 #[.slice A n c] w fun en w' => en = .returned (.int .i64 (sumW l)) ∧ w' = w := by
  subst hn
  apply f_ref06_Sum.ok
  unfold f_ref06_Sum.wp
  refine ⟨l.length + 1, ?_⟩
  have bd : ∀ q : List E, (∀ e ∈ q, 0 ≤ e.w ∧ e.w ≤ 1099511627776) → 0 ≤ sumW q ∧ sumW q ≤ 1099511627776 * q.length := by
    intro q
    induction q with
    | nil => intro _; simp [sumW]
    | cons a q ih =>
      intro hq
      have h2 := ih fun e he => hq e (by simp [he])
      have h3 := hq a (by simp)
      simp only [sumW, List.map_cons, List.sum_cons, List.length_cons] at h2 ⊢
      omega
  have key : ∀ (m i : Nat), l.length - i = m → i ≤ l.length → f_ref06_Sum.l0 (m + 1) A l.length c (sumW (l.take i)) (i : Int) w (fun x3 w4 => ∀ _ : Fr, (fun en w' => en = Ending.returned (.int .i64 (sumW l)) ∧ w' = w) (.returned (.int .i64 x3)) w4) := by
    intro m
    induction m with
    | zero =>
      intro i hm hi
      have : i = l.length := by omega
      subst this
      unfold f_ref06_Sum.l0
      rw [List.take_length]
      exact sel_f (by simp) fun _ => ⟨rfl, rfl⟩
    | succ m ih =>
      intro i hm hi
      have hlt : i < l.length := by omega
      obtain ⟨a, rfl, q⟩ := r i hlt
      have tk := List.take_succ_eq_append_getElem hlt
      have b1 := bd (l.take (i + 1)) fun e he => hw e (List.mem_of_mem_take he)
      have e2 : sumW (l.take i) + l[i].w = sumW (l.take (i + 1)) := by rw [tk, sumW_app]; simp [sumW]
      have ln : (l.take (i + 1)).length = i + 1 := by rw [List.length_take]; omega
      rw [ln] at b1
      unfold f_ref06_Sum.l0
      refine sel_t (by simpa using hlt) (optB_some rfl (req_intro (by simp; omega) (ldI_intro (by rw [Int.toNat_natCast]; exact q.c3) ?_)))
      rw [e2, w64_in (by omega), w64_in (by omega), show (i : Int) + 1 = ((i + 1 : Nat) : Int) by omega]
      exact ih (i + 1) (by omega) (by omega)
  exact key l.length 0 (by omega) (by omega)
theorem Most_ok {w : World} {A : Option Addr} {n c : Nat} {l : List E} (r : RE w A l) (hn : n = l.length) (hl : l.length ≤ 4096) :
    Calls Try.prog 40 #[.slice A n c] w fun en w' => (∃ m, en = .returned (.agg (eC m)) ∧ MxP l m) ∧ Below w.heap.size w w' := by
  subst hn
  apply f_ref06_Most.ok
  unfold f_ref06_Most.wp
  refine al_new fun w1 b1 e1 s1 h1 g1 => al_new fun w2 b3 e3 s3 h3 g2 => putE (e := zE) h3 rfl fun w3 h33 k3 => ?_
  have hb := g1.trans (g2.mono (by omega))
  have hb3 := HB.belK hb k3 (by omega)
  have h13 : HB w3 b1 (eC zE) 33 := (h1.below g2).keeps k3 (by omega)
  refine ⟨l.length + 1, ?_⟩
  have key : ∀ (m i : Nat) (w4 : World) (o : E), l.length - i = m → i ≤ l.length → HB w4 b3 (eC o) 33 → HB w4 b1 (eC zE) 33 → Below w.heap.size w w4 → MxP (l.take i) o → f_ref06_Most.l0 (m + 1) A l.length c (⟨b3, 0, none⟩ : Addr) (i : Int) w4 (fun (w41 : World) => ∀ _ : Fr,
      ldI w41 (⟨b3, 0, none⟩ : Addr) .i64 fun x42 => ldI w41 ((⟨b3, 0, none⟩ : Addr).add 1) .i64 fun x43 => ldI w41 ((⟨b3, 0, none⟩ : Addr).add 2) .i64 fun x44 => ldI w41 ((⟨b3, 0, none⟩ : Addr).add 3) .i64 fun x45 =>
      stW w41 (⟨b1, 0, none⟩ : Addr) (.int .i64 x42) fun w46 => stW w46 ((⟨b1, 0, none⟩ : Addr).add 1) (.int .i64 x43) fun w47 => stW w47 ((⟨b1, 0, none⟩ : Addr).add 2) (.int .i64 x44) fun w48 => stW w48 ((⟨b1, 0, none⟩ : Addr).add 3) (.int .i64 x45) fun w49 =>
      ldI w49 (⟨b1, 0, none⟩ : Addr) .i64 fun x50 => ldI w49 ((⟨b1, 0, none⟩ : Addr).add 1) .i64 fun x51 => ldI w49 ((⟨b1, 0, none⟩ : Addr).add 2) .i64 fun x52 => ldI w49 ((⟨b1, 0, none⟩ : Addr).add 3) .i64 fun x53 =>
      (fun en w' => (∃ m, en = Ending.returned (.agg (eC m)) ∧ MxP l m) ∧ Below w.heap.size w w') (.returned (.agg #[.int .i64 x50, .int .i64 x51, .int .i64 x52, .int .i64 x53])) w49) := by
    intro m
    induction m with
    | zero =>
      intro i w4 o hm hi h3 h1 hb hx
      have : i = l.length := by omega
      subst this
      rw [List.take_length] at hx
      unfold f_ref06_Most.l0
      refine sel_f (by simp) fun _ => getE h3 (putE h1 rfl o fun w5 h5 k5 => getE h5 ⟨⟨o, rfl, hx⟩, HB.belK hb k5 (by omega)⟩)
    | succ m ih =>
      intro i w4 o hm hi h3 h1 hb hx
      have hlt : i < l.length := by omega
      have hbd := hb.drew
      obtain ⟨a, rfl, q⟩ := (r.below hbd) i hlt
      have hw : IntKind.i64.wrap ((i : Int) + 1) = ((i + 1 : Nat) : Int) := by rw [w64_in (by omega)]; omega
      have tk := List.take_succ_eq_append_getElem hlt
      have h3d : HB w4.drew b3 (eC o) 33 := h3
      have h1d : HB w4.drew b1 (eC zE) 33 := h1
      unfold f_ref06_Most.l0
      refine sel_t (by simpa using hlt) (drW_intro ?_)
      rw [hw]
      by_cases i0 : i = 0
      · refine sel_t (by simp [i0]) (optB_some rfl (req_intro (by simp; omega) (rowE q (putE h3d rfl l[i] fun w5 h5 k5 => ?_))))
        refine ih (i + 1) w5 l[i] (by omega) (by omega) h5 (h1d.keeps k5 (by omega)) (HB.belK hbd k5 (by omega)) ?_
        rw [tk]
        refine MxP.snoc (List.mem_append_right _ (List.mem_singleton.2 rfl)) fun x hx => ?_
        rw [show l.take i = [] by rw [i0]; rfl, List.nil_append, List.mem_singleton] at hx
        subst hx; exact .inr ⟨rfl, Int.le_refl _⟩
      · have hne : l.take i ≠ [] := fun h => by
          have := congrArg List.length h
          rw [List.length_take, List.length_nil] at this; omega
        obtain ⟨m1, m2⟩ := hx.s hne
        refine sel_f (by simp; omega) (getE h3d (optB_some rfl (req_intro (by simp; omega) (rowE q ((Ahead_ok _ o l[i]).mono ?_)))))
        rintro _ w5 ⟨⟨x, rfl, hxx⟩, g5⟩
        have hb5 := hbd.trans (g5.mono hbd.size)
        refine ⟨_, rfl, ?_⟩
        cases x with
        | true =>
          have ha := hxx.1 rfl
          obtain ⟨a', e', q5⟩ := (r.below hb5) i hlt
          injection e' with e'; subst e'
          refine sel_t rfl (optB_some rfl (req_intro (by simp; omega) (rowE q5 (putE (h3d.below g5) rfl l[i] fun w6 h6 k6 => ?_))))
          refine ih (i + 1) w6 l[i] (by omega) (by omega) h6 ((h1d.below g5).keeps k6 (by omega)) (HB.belK hb5 k6 (by omega)) ?_
          rw [tk]
          refine MxP.snoc (List.mem_append_right _ (List.mem_singleton.2 rfl)) fun y hy => ?_
          rcases List.mem_append.1 hy with hy | hy
          · have := m2 y hy; unfold leE at *; omega
          · rw [List.mem_singleton.1 hy]; exact .inr ⟨rfl, Int.le_refl _⟩
        | false =>
          have ha : ¬ (o.w < l[i].w ∨ (o.w = l[i].w ∧ o.id < l[i].id)) := fun h => by have := hxx.2 h; cases this
          refine sel_f rfl (ih (i + 1) w5 o (by omega) (by omega) (h3d.below g5) (h1d.below g5) hb5 ?_)
          rw [tk]
          refine MxP.snoc (List.mem_append_left _ m1) fun y hy => ?_
          rcases List.mem_append.1 hy with hy | hy
          · exact m2 y hy
          · rw [List.mem_singleton.1 hy]; unfold leE; omega
  exact key l.length 0 w3 zE (by omega) (by omega) h33 h13 hb3 ⟨fun _ => rfl, fun h => absurd rfl h⟩
end Go.Proofs.Ytfknppccgojhdaa.Rd
