/- Walks along edges and ways in a rooted forest, in plain words: a walk that never turns back is the way, and the only one. Conditions: none. -/
import Derived.Test.YtfknppccgojhdaaLcL
namespace Go.Dn
open Go.RowKit
set_option linter.unusedVariables false
/-! ### walks -/
def oth (e : E) (m : Int) : Int := if e.u = m then e.v else e.u
inductive Wk (es : List E) : Int → List E → Int → Prop
  | nil (u : Int) : Wk es u [] u
  | cons {e : E} {m v : Int} {p : List E} (he : e ∈ es) (hm : e.u = m ∨ e.v = m) (h : Wk es (oth e m) p v) : Wk es m (e :: p) v
def NB : List E → Prop
  | [] => True
  | [_] => True
  | a :: b :: l => a.id ≠ b.id ∧ NB (b :: l)
theorem NB.tail {a : E} {l : List E} (h : NB (a :: l)) : NB l := by
  cases l with
  | nil => trivial
  | cons b l => exact h.2
def nds (vn en : Int → Nat) : Int → List E → List Nat
  | _, [] => []
  | m, e :: p => en e.id :: vn (oth e m) :: nds vn en (oth e m) p
/-- vertices and edges, and the nodes that stand for them -/
structure Gr (vs : List Int) (es : List E) (vn en : Int → Nat) (own : Nat → E) (S : Nat → Prop) : Prop where
  vnd : vs.Nodup
  vr : ∀ v ∈ vs, 1 ≤ v ∧ v ≤ 2147483647
  vl : vs.length ≤ 2048
  eid : (es.map E.id).Nodup
  er : ∀ e ∈ es, 1 ≤ e.id ∧ e.id ≤ 2147483647 ∧ e.u ∈ vs ∧ e.v ∈ vs ∧ e.u ≠ e.v ∧ 0 ≤ e.w ∧ e.w ≤ 1099511627776
  vz : ∀ v, v ∉ vs → vn v = 0
  ez : ∀ i, i ∉ es.map E.id → en i = 0
  vS : ∀ v ∈ vs, S (vn v) ∧ own (vn v) = zE
  eS : ∀ e ∈ es, S (en e.id) ∧ own (en e.id) = e
  vi : ∀ u ∈ vs, ∀ v ∈ vs, vn u = vn v → u = v
  Sx : ∀ y, S y → (∃ v ∈ vs, y = vn v) ∨ (∃ e ∈ es, y = en e.id)
def Gn (es : List E) (vn en : Int → Nat) (y z : Nat) : Prop := ∃ e ∈ es, (y = en e.id ∧ (z = vn e.u ∨ z = vn e.v)) ∨ (z = en e.id ∧ (y = vn e.u ∨ y = vn e.v))
theorem Gr.ven {vs : List Int} {es : List E} {vn en : Int → Nat} {own : Nat → E} {S : Nat → Prop} (g : Gr vs es vn en own S) {v : Int} {e : E} (hv : v ∈ vs) (he : e ∈ es) : vn v ≠ en e.id := fun h => by
  have h1 := (g.vS v hv).2
  rw [h, (g.eS e he).2] at h1
  have := (g.er e he).1
  rw [h1] at this; simp [zE] at this
theorem Gr.ei {vs : List Int} {es : List E} {vn en : Int → Nat} {own : Nat → E} {S : Nat → Prop} (g : Gr vs es vn en own S) {e e' : E} (he : e ∈ es) (he' : e' ∈ es) (h : en e.id = en e'.id) : e = e' := by
  rw [← (g.eS e he).2, ← (g.eS e' he').2, h]
theorem Gr.idi {vs : List Int} {es : List E} {vn en : Int → Nat} {own : Nat → E} {S : Nat → Prop} (g : Gr vs es vn en own S) {e e' : E} (he : e ∈ es) (he' : e' ∈ es) (h : e.id = e'.id) : e = e' := g.ei he he' (by rw [h])
theorem oth_mem {vs : List Int} {es : List E} {vn en : Int → Nat} {own : Nat → E} {S : Nat → Prop} (g : Gr vs es vn en own S) {e : E} (he : e ∈ es) (m : Int) : oth e m ∈ vs := by
  unfold oth
  have := g.er e he
  split
  · exact this.2.2.2.1
  · exact this.2.2.1
theorem oth_ne {vs : List Int} {es : List E} {vn en : Int → Nat} {own : Nat → E} {S : Nat → Prop} (g : Gr vs es vn en own S) {e : E} (he : e ∈ es) {m : Int} (hm : e.u = m ∨ e.v = m) : oth e m ≠ m := by
  have := (g.er e he).2.2.2.2.1
  unfold oth
  split
  · rename_i h; rw [← h]; exact fun e => this e.symm
  · rename_i h; exact h
theorem oth_end (e : E) (m : Int) : e.u = oth e m ∨ e.v = oth e m := by unfold oth; split <;> simp
theorem oth_only {e : E} {m n : Int} (hm : e.u = m ∨ e.v = m) (hn : e.u = n ∨ e.v = n) (h : n ≠ m) : n = oth e m := by
  unfold oth
  split
  · rename_i h1
    rcases hn with h2 | h2
    · exact absurd (h2.symm.trans h1) h
    · exact h2.symm
  · rename_i h1
    rcases hn with h2 | h2
    · exact h2.symm
    · rcases hm with h3 | h3
      · exact absurd h3 h1
      · exact absurd (h2.symm.trans h3) h
theorem gn_ev {es : List E} {vn en : Int → Nat} {e : E} (he : e ∈ es) {m : Int} (hm : e.u = m ∨ e.v = m) : Gn es vn en (en e.id) (vn m) := ⟨e, he, .inl ⟨rfl, hm.imp (fun h => by rw [h]) (fun h => by rw [h])⟩⟩
/-- whom an edge's node touches, whom a vertex's -/
theorem gn_of_e {vs : List Int} {es : List E} {vn en : Int → Nat} {own : Nat → E} {S : Nat → Prop} (g : Gr vs es vn en own S) {e : E} (he : e ∈ es) {z : Nat} (h : Gn es vn en (en e.id) z) : ∃ n, (e.u = n ∨ e.v = n) ∧ z = vn n := by
  obtain ⟨e', he', h | h⟩ := h
  · have := g.ei he he' h.1
    subst this
    rcases h.2 with h2 | h2
    · exact ⟨_, .inl rfl, h2⟩
    · exact ⟨_, .inr rfl, h2⟩
  · exfalso
    rcases h.2 with h2 | h2
    · exact g.ven (g.er e' he').2.2.1 he h2.symm
    · exact g.ven (g.er e' he').2.2.2.1 he h2.symm
theorem gn_of_v {vs : List Int} {es : List E} {vn en : Int → Nat} {own : Nat → E} {S : Nat → Prop} (g : Gr vs es vn en own S) {v : Int} (hv : v ∈ vs) {z : Nat} (h : Gn es vn en (vn v) z) : ∃ e ∈ es, (e.u = v ∨ e.v = v) ∧ z = en e.id := by
  obtain ⟨e', he', h | h⟩ := h
  · exact absurd h.1 (g.ven hv he')
  · refine ⟨e', he', ?_, h.1⟩
    rcases h.2 with h2 | h2
    · exact .inl (g.vi _ hv _ (g.er e' he').2.2.1 h2).symm
    · exact .inr (g.vi _ hv _ (g.er e' he').2.2.2.1 h2).symm
/-! ### rooted forests -/
structure Tr (S : Nat → Prop) (par : Nat → Nat) : Prop where
  up : ∀ y, S y → ∃ c, Up par y c
  ps : ∀ y, S y → par y = 0 ∨ S (par y)
  nz : ∀ y, S y → y ≠ 0
theorem Up.inS {S : Nat → Prop} {par : Nat → Nat} (t : Tr S par) {x : Nat} {c : List Nat} (h : Up par x c) : S x → ∀ y ∈ c, S y := by
  induction h with
  | zero => intro hx; exact absurd rfl (t.nz 0 hx)
  | step h0 h ih =>
    intro hx y hy
    simp only [List.mem_append, List.mem_singleton] at hy
    rcases hy with hy | rfl
    · rcases t.ps _ hx with h1 | h1
      · rw [h1] at h
        cases h with
        | zero => simp at hy
        | step h2 _ => exact absurd rfl h2
      · exact ih h1 y hy
    · exact hx
/-- another root: the same neighbours -/
theorem Tr.reroot {S : Nat → Prop} {par : Nat → Nat} (t : Tr S par) {a : Nat} (ha : S a) : ∃ par', par' a = 0 ∧ Tr S par' ∧ ∀ y z, AdjS S par' y z ↔ AdjS S par y z := by
  obtain ⟨c, hc⟩ := t.up a ha
  have hS := hc.inS t ha
  have nd := hc.nodup
  have hch := hc.chn.1
  have hl := hc.chn.2
  have c0 := hc.nz
  have hne : c ≠ [] := fun e => by rw [e] at hl; exact t.nz a ha hl.symm
  have hac : a ∈ c := by rw [← hl]; exact lst_mem hne
  have hrev : Chn (turnP par c) 0 c.reverse := (chn_rev nd).congr fun y hy => by unfold turnP; rw [if_pos (by simpa using hy)]
  have upc : ∀ y ∈ c, ∃ d, Up (turnP par c) y d := by
    intro y hy
    obtain ⟨l1, l2, e⟩ := List.append_of_mem (List.mem_reverse.2 hy)
    have h1 := hrev
    rw [e, show l1 ++ y :: l2 = (l1 ++ [y]) ++ l2 by simp] at h1
    have := Up.down (par := turnP par c) (q := 0) (c := []) .zero (chn_app.1 h1).1 (fun z hz => c0 z (List.mem_reverse.1 (by rw [e]; simp at hz ⊢; rcases hz with hz | hz <;> simp [hz])))
    rw [lst_app] at this
    exact ⟨_, this⟩
  refine ⟨turnP par c, ?_, ⟨?_, ?_, t.nz⟩, turn_adj hch nd t.nz c0⟩
  · -- the last of the way has none behind it
    unfold turnP
    rw [if_pos hac]
    have : ∀ {l : List Nat} {q : Nat}, l.Nodup → l ≠ [] → nxt l (lst q l) = 0 := by
      intro l
      induction l with
      | nil => intro q _ h; exact absurd rfl h
      | cons x l ih =>
        intro q hn _
        cases l with
        | nil => rfl
        | cons y l =>
          have hn2 := List.nodup_cons.1 hn
          show nxt (x :: y :: l) (lst x (y :: l)) = 0
          rw [nxt_ne (fun e => hn2.1 (by rw [← e]; exact lst_mem (by simp)))]
          exact ih hn2.2 (by simp)
    have := this (l := c) (q := 0) nd hne
    rw [hl] at this; exact this
  · intro y hy
    obtain ⟨d, hd⟩ := t.up y hy
    clear hy
    induction hd with
    | zero => exact ⟨[], .zero⟩
    | step k0 k ih =>
      rename_i x d
      by_cases e : x ∈ c
      · exact upc x e
      · obtain ⟨d', hd'⟩ := ih
        exact ⟨_, .step k0 (by unfold turnP at hd' ⊢; rw [if_neg e]; exact hd')⟩
  · intro y hy
    unfold turnP
    by_cases e : y ∈ c
    · rw [if_pos e]
      by_cases e2 : nxt c y = 0
      · exact .inl e2
      · exact .inr (hS _ (nxt_mem e2))
    · rw [if_neg e]; exact t.ps y hy
theorem adj_same {S : Nat → Prop} {par : Nat → Nat} (t : Tr S par) {y z : Nat} (h : AdjS S par y z) : SameC par y z := by
  have key : ∀ {y z}, S y → S z → par y = z → SameC par y z := by
    intro y z hy hz e
    obtain ⟨c, hc⟩ := t.up z hz
    refine ⟨c ++ [y], c, .step (t.nz y hy) (by rw [e]; exact hc), hc, ?_⟩
    cases c with
    | nil => have := hc.chn.2; exact absurd this.symm (t.nz z hz)
    | cons a c => rfl
  rcases h.2.2 with e | e
  · exact key h.1 h.2.1 e
  · obtain ⟨a, b, h1, h2, h3⟩ := key h.2.1 h.1 e
    exact ⟨b, a, h2, h1, h3.symm⟩
theorem SameC.trans {par : Nat → Nat} {x y z : Nat} (h : SameC par x y) (k : SameC par y z) : SameC par x z := by
  obtain ⟨a, b, h1, h2, h3⟩ := h
  obtain ⟨c, d, k1, k2, k3⟩ := k
  have := h2.unique k1
  subst this
  exact ⟨a, d, h1, k2, h3.trans k3⟩
theorem SameC.symm {par : Nat → Nat} {x y : Nat} (h : SameC par x y) : SameC par y x := by
  obtain ⟨a, b, h1, h2, h3⟩ := h
  exact ⟨b, a, h2, h1, h3.symm⟩
/-- nodes of one tree: what holds of a node and of the neighbours of those of which it holds, holds of all -/
theorem SameC.closed {S : Nat → Prop} {par : Nat → Nat} (t : Tr S par) {Q : Nat → Prop} (hQ : ∀ y z, AdjS S par y z → Q y → Q z) {a b : Nat} (ha : S a) (hb : S b) (h : SameC par a b) : Q a → Q b := by
  obtain ⟨ca, cb, h1, h2, h3⟩ := h
  have head : ∀ {x c ρ}, Up par x c → S x → c.head? = some ρ → (Q ρ ↔ Q x) := by
    intro x c ρ hu
    induction hu with
    | zero => intro _ h; simp at h
    | step k0 k ih =>
      rename_i x c
      intro hx hρ
      cases c with
      | nil => simp at hρ; subst hρ; exact Iff.rfl
      | cons y c =>
        have hρ' : (y :: c).head? = some ρ := by simpa using hρ
        have hp : S (par x) := by
          rcases t.ps x hx with e | e
          · rw [e] at k; have := k.chn.2
            have h0 := k.nz y (by simp)
            exfalso
            have h9 := k.unique .zero
            simp at h9
          · exact e
        rw [ih hp hρ']
        exact ⟨hQ _ _ ⟨hp, hx, .inr rfl⟩, hQ _ _ ⟨hx, hp, .inl rfl⟩⟩
  obtain ⟨ρ, hρ⟩ : ∃ ρ, ca.head? = some ρ := by
    cases ca with
    | nil => have := h1.chn.2; exact absurd this.symm (t.nz a ha)
    | cons y c => exact ⟨y, rfl⟩
  intro hq
  exact (head h2 hb (h3 ▸ hρ)).1 ((head h1 ha hρ).2 hq)
theorem SameC.congr {S : Nat → Prop} {par par' : Nat → Nat} (t : Tr S par) (t' : Tr S par') (hadj : ∀ y z, AdjS S par' y z ↔ AdjS S par y z) {a b : Nat} (ha : S a) (hb : S b) (h : SameC par a b) : SameC par' a b := by
  refine SameC.closed t (Q := fun y => SameC par' a y) (fun y z hyz hy => hy.trans (adj_same t' ((hadj y z).2 hyz))) ha hb h ?_
  obtain ⟨c, hc⟩ := t'.up a ha
  exact ⟨c, c, hc, hc, rfl⟩
/-! ### the two together -/
section
variable {vs : List Int} {es : List E} {vn en : Int → Nat} {own : Nat → E} {S : Nat → Prop} {par : Nat → Nat}
theorem wk_up (g : Gr vs es vn en own S) (t : Tr S par) (ha : ∀ y z, AdjS S par y z ↔ Gn es vn en y z) : ∀ {p : List E} {m v : Int} {c : List Nat}, m ∈ vs → Up par (vn m) c → (∀ e l, p = e :: l → par (vn m) ≠ en e.id) → Wk es m p v → NB p → Up par (vn v) (c ++ nds vn en m p)
  | [], m, v, c, hm, hu, _, hw, _ => by
    cases hw
    simpa [nds] using hu
  | e :: p, m, v, c, hm, hu, hp, hw, hn => by
    cases hw with
    | cons he hem hw =>
      have h1 : par (en e.id) = vn m := by
        rcases ((ha _ _).2 (gn_ev (vn := vn) he hem)).2.2 with h | h
        · exact h
        · exact absurd h (hp e p rfl)
      have eS := (g.eS e he).1
      have h2 : Up par (en e.id) (c ++ [en e.id]) := .step (t.nz _ eS) (by rw [h1]; exact hu)
      have hom := oth_mem g he m
      have h3 : par (vn (oth e m)) = en e.id := by
        rcases ((ha _ _).2 (gn_ev (vn := vn) he (oth_end e m))).2.2 with h | h
        · exact absurd (g.vi _ hom _ hm (h.symm.trans h1)) (oth_ne g he hem)
        · exact h
      have h4 : Up par (vn (oth e m)) ((c ++ [en e.id]) ++ [vn (oth e m)]) := .step (t.nz _ (g.vS _ hom).1) (by rw [h3]; exact h2)
      have := wk_up g t ha hom h4 (fun e' l hl => by
        rw [h3]
        intro h
        subst hl
        cases hw with
        | cons he' _ _ => exact hn.1 (by rw [g.ei he he' h])) hw hn.tail
      simpa [nds] using this
theorem nds_inj (g : Gr vs es vn en own S) : ∀ {p q : List E} {m : Int}, (∀ e ∈ p, e ∈ es) → (∀ e ∈ q, e ∈ es) → nds vn en m p = nds vn en m q → p = q
  | [], [], _, _, _, _ => rfl
  | [], _ :: _, _, _, _, h => by simp [nds] at h
  | _ :: _, [], _, _, _, h => by simp [nds] at h
  | e :: p, e' :: q, m, hp, hq, h => by
    simp only [nds, List.cons.injEq] at h
    have := g.ei (hp e (by simp)) (hq e' (by simp)) h.1
    subst this
    rw [nds_inj g (fun x hx => hp x (by simp [hx])) (fun x hx => hq x (by simp [hx])) h.2.2]
theorem Wk.mem {p : List E} {m v : Int} (h : Wk es m p v) : ∀ e ∈ p, e ∈ es := by
  induction h with
  | nil => simp
  | cons he _ _ ih => intro x hx; rcases List.mem_cons.1 hx with rfl | hx; exact he; exact ih x hx
theorem Wk.endV (g : Gr vs es vn en own S) {p : List E} {m v : Int} (h : Wk es m p v) (hm : m ∈ vs) : v ∈ vs := by
  induction h with
  | nil => exact hm
  | cons he _ _ ih => exact ih (oth_mem g he _)
/-- walks that never turn back are unique -/
theorem wk_uniq (g : Gr vs es vn en own S) (t : Tr S par) (ha : ∀ y z, AdjS S par y z ↔ Gn es vn en y z) {p q : List E} {u v : Int} (hu : u ∈ vs) (hp : Wk es u p v) (np : NB p) (hq : Wk es u q v) (nq : NB q) : p = q := by
  obtain ⟨par', h0, t', hadj⟩ := t.reroot (g.vS u hu).1
  have ha' : ∀ y z, AdjS S par' y z ↔ Gn es vn en y z := fun y z => (hadj y z).trans (ha y z)
  have up : Up par' (vn u) ([] ++ [vn u]) := .step (t.nz _ (g.vS u hu).1) (by rw [h0]; exact .zero)
  have ne : ∀ {p : List E}, (∀ e ∈ p, e ∈ es) → ∀ e l, p = e :: l → par' (vn u) ≠ en e.id := fun hm e l hl => by
    rw [h0]; exact fun h => t.nz _ (g.eS e (hm e (by rw [hl]; simp))).1 h.symm
  have h1 := wk_up g t' ha' hu up (ne hp.mem) hp np
  have h2 := wk_up g t' ha' hu up (ne hq.mem) hq nq
  have := h1.unique h2
  exact nds_inj g hp.mem hq.mem (List.append_cancel_left this)
/-- a way down from a vertex is a walk that never turns back -/
theorem chn_wk (g : Gr vs es vn en own S) (t : Tr S par) (ha : ∀ y z, AdjS S par y z ↔ Gn es vn en y z) : ∀ (n : Nat) {l : List Nat} {m v : Int}, l.length ≤ n → m ∈ vs → v ∈ vs → Chn par (vn m) l → (∀ y ∈ l, S y) → (vn m :: l).Nodup → lst (vn m) l = vn v → ∃ p, Wk es m p v ∧ NB p ∧ l = nds vn en m p
  | n, [], m, v, _, hm, hv, _, _, _, hl => by
    have := g.vi m hm v hv hl
    subst this
    exact ⟨[], .nil m, trivial, rfl⟩
  | n, [x], m, v, _, hm, hv, hc, hS, _, hl => by
    exfalso
    have hadj : AdjS S par (vn m) x := ⟨(g.vS m hm).1, hS x (by simp), .inr hc.1⟩
    obtain ⟨e, he, _, hx⟩ := gn_of_v g hm ((ha _ _).1 hadj)
    have : x = vn v := hl
    exact g.ven hv he (this.symm.trans hx)
  | 0, x :: y :: l, m, v, hle, _, _, _, _, _, _ => by simp at hle
  | n + 1, x :: y :: l, m, v, hle, hm, hv, hc, hS, hn, hl => by
    have hadj : AdjS S par (vn m) x := ⟨(g.vS m hm).1, hS x (by simp), .inr hc.1⟩
    obtain ⟨e, he, hem, hx⟩ := gn_of_v g hm ((ha _ _).1 hadj)
    have hadj2 : AdjS S par x y := ⟨hS x (by simp), hS y (by simp), .inr hc.2.1⟩
    rw [hx] at hadj2
    obtain ⟨n', hn', hy⟩ := gn_of_e g he ((ha _ _).1 hadj2)
    have hne : n' ≠ m := by
      intro e; rw [e] at hy
      simp only [List.nodup_cons, List.mem_cons, not_or] at hn
      exact hn.1.2.1 hy.symm
    have hn2 := oth_only hem hn' hne
    subst hn2
    have hc2 := hc.2.2
    rw [hy] at hc2
    have hnd : (vn (oth e m) :: l).Nodup := by rw [← hy]; exact (List.nodup_cons.1 (List.nodup_cons.1 hn).2).2
    obtain ⟨p, h1, h2, h3⟩ := chn_wk g t ha n (by simp at hle; omega) (oth_mem g he m) hv hc2 (fun z hz => hS z (by simp [hz])) hnd (by rw [← hy]; exact hl)
    refine ⟨e :: p, .cons he hem h1, ?_, by rw [hx, hy, h3]; rfl⟩
    cases p with
    | nil => trivial
    | cons e' p =>
      refine ⟨fun hid => ?_, h2⟩
      have hn2' := (List.nodup_cons.1 hn).2
      have hxl : x ∈ l := by rw [hx, hid, h3]; simp [nds]
      exact (List.nodup_cons.1 hn2').1 (List.mem_cons_of_mem _ hxl)
theorem wk_same (g : Gr vs es vn en own S) (t : Tr S par) (ha : ∀ y z, AdjS S par y z ↔ Gn es vn en y z) {p : List E} {u v : Int} (h : Wk es u p v) : u ∈ vs → SameC par (vn u) (vn v) := by
  induction h with
  | nil u =>
    intro hu
    obtain ⟨c, hc⟩ := t.up _ (g.vS u hu).1
    exact ⟨c, c, hc, hc, rfl⟩
  | cons he hm h ih =>
    rename_i e m v p
    intro hu
    exact (adj_same t ((ha _ _).2 (gn_ev (vn := vn) he hm))).symm.trans ((adj_same t ((ha _ _).2 (gn_ev (vn := vn) he (oth_end e m)))).trans (ih (oth_mem g he m)))
/-- joined: just if there is a walk that never turns back -/
theorem same_wk (g : Gr vs es vn en own S) (t : Tr S par) (ha : ∀ y z, AdjS S par y z ↔ Gn es vn en y z) {u v : Int} (hu : u ∈ vs) (hv : v ∈ vs) : SameC par (vn u) (vn v) ↔ ∃ p, Wk es u p v ∧ NB p := by
  constructor
  · intro h
    obtain ⟨par', h0, t', hadj⟩ := t.reroot (g.vS u hu).1
    have ha' : ∀ y z, AdjS S par' y z ↔ Gn es vn en y z := fun y z => (hadj y z).trans (ha y z)
    obtain ⟨ca, cb, h1, h2, h3⟩ := h.congr t t' hadj (g.vS u hu).1 (g.vS v hv).1
    have up : Up par' (vn u) ([] ++ [vn u]) := .step (t.nz _ (g.vS u hu).1) (by rw [h0]; exact .zero)
    have := h1.unique up
    subst this
    cases cb with
    | nil => simp at h3
    | cons x l =>
      have : x = vn u := by simpa using h3.symm
      subst this
      have hc := h2.chn
      obtain ⟨p, q1, q2, q3⟩ := chn_wk g t' ha' l.length (Nat.le_refl _) hu hv hc.1.2 (fun y hy => h2.inS t' (g.vS v hv).1 y (by simp [hy])) h2.nodup hc.2
      exact ⟨p, q1, q2⟩
  · rintro ⟨p, hp, _⟩
    exact wk_same g t ha hp hu
end
end Go.Dn
