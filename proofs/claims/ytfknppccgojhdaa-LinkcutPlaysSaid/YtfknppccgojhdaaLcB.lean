/- Splay trees with lazy turns, in plain words: what they hold, in which order, and what their sums are. Conditions: none. -/
import Derived.Test.YtfknppccgojhdaaLcA
namespace Go.Dn
set_option linter.unusedVariables false
set_option linter.unusedSimpArgs false

/-! ### edges and their sums -/
def zE : E := ⟨0, 0, 0, 0⟩
def gtr (a b : E) : E := if a.id = 0 ∨ (0 < b.id ∧ (a.w < b.w ∨ (a.w = b.w ∧ a.id < b.id))) then b else a
def leE (a b : E) : Prop := a.w < b.w ∨ (a.w = b.w ∧ a.id ≤ b.id)
structure IsMx (own : Nat → E) (l : List Nat) (e : E) : Prop where
  z : e.id = 0 → e = zE ∧ ∀ x ∈ l, (own x).id = 0
  s : e.id ≠ 0 → 0 < e.id ∧ (∃ x ∈ l, own x = e) ∧ ∀ x ∈ l, (own x).id ≠ 0 → leE (own x) e
def wOf (own : Nat → E) : List Nat → Int
  | [] => 0
  | x :: l => (own x).w + wOf own l
def k1 (e : E) : Int := if 0 < e.id then 1 else 0
def kOf (own : Nat → E) : List Nat → Int
  | [] => 0
  | x :: l => k1 (own x) + kOf own l
theorem wOf_append (own : Nat → E) (a b : List Nat) : wOf own (a ++ b) = wOf own a + wOf own b := by
  induction a with
  | nil => simp [wOf]
  | cons x a ih => simp [wOf, ih, Int.add_assoc]
theorem kOf_append (own : Nat → E) (a b : List Nat) : kOf own (a ++ b) = kOf own a + kOf own b := by
  induction a with
  | nil => simp [kOf]
  | cons x a ih => simp [kOf, ih, Int.add_assoc]
theorem wOf_perm (own : Nat → E) {a b : List Nat} (h : a.Perm b) : wOf own a = wOf own b := by
  induction h with
  | nil => rfl
  | cons x _ ih => simp [wOf, ih]
  | swap x y l => simp only [wOf]; omega
  | trans _ _ h1 h2 => exact h1.trans h2
theorem kOf_perm (own : Nat → E) {a b : List Nat} (h : a.Perm b) : kOf own a = kOf own b := by
  induction h with
  | nil => rfl
  | cons x _ ih => simp [kOf, ih]
  | swap x y l => simp only [kOf]; omega
  | trans _ _ h1 h2 => exact h1.trans h2
def OwnOk (own : Nat → E) : Prop := ∀ x, own x = zE ∨ 0 < (own x).id
theorem IsMx.one {own : Nat → E} (ho : OwnOk own) (x : Nat) : IsMx own [x] (own x) where
  z := fun h => by
    rcases ho x with h1 | h1
    · exact ⟨h1, fun y hy => by simp at hy; subst hy; exact h⟩
    · omega
  s := fun h => by
    rcases ho x with h1 | h1
    · rw [h1] at h; exact absurd rfl h
    · exact ⟨h1, ⟨x, by simp, rfl⟩, fun y hy _ => by simp at hy; subst hy; exact .inr ⟨rfl, Int.le_refl _⟩⟩
theorem IsMx.congr {own : Nat → E} {a b : List Nat} {e : E} (h : IsMx own a e) (hm : ∀ x, x ∈ b ↔ x ∈ a) : IsMx own b e where
  z := fun h0 => ⟨(h.z h0).1, fun x hx => (h.z h0).2 x ((hm x).1 hx)⟩
  s := fun h0 => by
    obtain ⟨h1, ⟨x, hx, he⟩, h3⟩ := h.s h0
    exact ⟨h1, ⟨x, (hm x).2 hx, he⟩, fun y hy => h3 y ((hm y).1 hy)⟩
theorem IsMx.id_nn {own : Nat → E} {a : List Nat} {e : E} (h : IsMx own a e) : 0 ≤ e.id := by
  by_cases h0 : e.id = 0
  · omega
  · have := (h.s h0).1; omega
theorem leE_trans {a b c : E} (h : leE a b) (k : leE b c) : leE a c := by
  unfold leE at *; omega
theorem IsMx.app {own : Nat → E} {A B : List Nat} {a b : E} (ha : IsMx own A a) (hb : IsMx own B b) : IsMx own (A ++ B) (gtr a b) := by
  have na := ha.id_nn
  have nb := hb.id_nn
  unfold gtr
  by_cases a0 : a.id = 0
  · rw [if_pos (.inl a0)]
    obtain ⟨ea, ea'⟩ := ha.z a0
    refine ⟨fun h0 => ⟨(hb.z h0).1, fun x hx => ?_⟩, fun h0 => ?_⟩
    · rcases List.mem_append.1 hx with hx | hx
      · exact ea' x hx
      · exact (hb.z h0).2 x hx
    · obtain ⟨h1, ⟨x, hx, he⟩, h3⟩ := hb.s h0
      refine ⟨h1, ⟨x, List.mem_append.2 (.inr hx), he⟩, fun y hy hn => ?_⟩
      rcases List.mem_append.1 hy with hy | hy
      · exact absurd (ea' y hy) hn
      · exact h3 y hy hn
  · obtain ⟨a1, ⟨x, hx, he⟩, a3⟩ := ha.s a0
    by_cases b0 : b.id = 0
    · rw [if_neg (by omega)]
      obtain ⟨eb, eb'⟩ := hb.z b0
      refine ⟨fun h0 => absurd h0 a0, fun h0 => ⟨a1, ⟨x, List.mem_append.2 (.inl hx), he⟩, fun y hy hn => ?_⟩⟩
      rcases List.mem_append.1 hy with hy | hy
      · exact a3 y hy hn
      · exact absurd (eb' y hy) hn
    · obtain ⟨b1, ⟨x', hx', he'⟩, b3⟩ := hb.s b0
      by_cases hc : a.id = 0 ∨ (0 < b.id ∧ (a.w < b.w ∨ (a.w = b.w ∧ a.id < b.id)))
      · rw [if_pos hc]
        refine ⟨fun h0 => absurd h0 b0, fun h0 => ⟨b1, ⟨x', List.mem_append.2 (.inr hx'), he'⟩, fun y hy hn => ?_⟩⟩
        rcases List.mem_append.1 hy with hy | hy
        · exact leE_trans (a3 y hy hn) (by unfold leE; omega)
        · exact b3 y hy hn
      · rw [if_neg hc]
        refine ⟨fun h0 => absurd h0 a0, fun h0 => ⟨a1, ⟨x, List.mem_append.2 (.inl hx), he⟩, fun y hy hn => ?_⟩⟩
        rcases List.mem_append.1 hy with hy | hy
        · exact a3 y hy hn
        · exact leE_trans (b3 y hy hn) (by unfold leE; omega)
/-- a node's sums are those of these nodes -/
structure Ag (own : Nat → E) (l : List Nat) (d : Nd) : Prop where
  mx : IsMx own l d.mx
  sr : d.sr = wOf own l
  si : d.si = kOf own l
theorem Ag.perm {own : Nat → E} {a b : List Nat} {d : Nd} (h : Ag own a d) (p : a.Perm b) : Ag own b d :=
  ⟨h.mx.congr fun x => p.mem_iff.symm, h.sr.trans (wOf_perm own p), h.si.trans (kOf_perm own p)⟩
/-- sums of whatever different nodes of S are small -/
def Sm (own : Nat → E) (S : Nat → Prop) : Prop := ∀ l : List Nat, l.Nodup → (∀ x ∈ l, S x) → In53 (wOf own l) ∧ In53 (kOf own l)

/-! ### trees -/
inductive ST where
  | nil
  | node (x : Nat) (t : Bool) (l r : ST)
namespace ST
def root : ST → Nat
  | nil => 0
  | node x _ _ _ => x
def ids : ST → List Nat
  | nil => []
  | node x _ l r => ids l ++ x :: ids r
def flat : ST → List Nat
  | nil => []
  | node x t l r => if t then (flat l ++ x :: flat r).reverse else flat l ++ x :: flat r
def tog : ST → ST
  | nil => nil
  | node x t l r => node x (!t) l r
theorem flat_tog (t : ST) : (tog t).flat = t.flat.reverse := by
  cases t with
  | nil => rfl
  | node x t l r => cases t <;> simp [tog, flat]
theorem ids_tog (t : ST) : (tog t).ids = t.ids := by cases t <;> rfl
theorem root_tog (t : ST) : (tog t).root = t.root := by cases t <;> rfl
theorem flat_perm : ∀ t : ST, t.flat.Perm t.ids
  | nil => List.Perm.refl _
  | node x t l r => by
    have h : (flat l ++ x :: flat r).Perm (ids l ++ x :: ids r) := (flat_perm l).append ((flat_perm r).cons x)
    cases t
    · simpa [flat, ids] using h
    · simpa only [flat, ids, if_true] using (List.reverse_perm _).trans h
def push : ST → ST
  | nil => nil
  | node x t l r => if t then node x false (tog r) (tog l) else node x t l r
theorem push_flat (t : ST) : t.push.flat = t.flat := by
  cases t with
  | nil => rfl
  | node x t l r => cases t <;> simp [push, flat, flat_tog]
theorem swap_perm (a b : List Nat) (x : Nat) : (a ++ x :: b).Perm (b ++ x :: a) :=
  (List.perm_middle).trans ((List.Perm.cons x List.perm_append_comm).trans List.perm_middle.symm)
theorem push_ids (t : ST) : t.push.ids.Perm t.ids := by
  cases t with
  | nil => exact List.Perm.refl _
  | node x t l r =>
    cases t
    · exact List.Perm.refl _
    · simp only [push, ids, ids_tog, if_true]; exact swap_perm _ _ _
theorem push_root (t : ST) : t.push.root = t.root := by
  cases t with
  | nil => rfl
  | node x t l r => cases t <;> rfl
end ST
/-- a place on the way down: side, node, its turn, the other child -/
structure Fm where
  s : Bool
  p : Nat
  t : Bool
  sib : ST
def plug1 (f : Fm) (t : ST) : ST := if f.s then .node f.p f.t f.sib t else .node f.p f.t t f.sib
def plug : List Fm → ST → ST
  | [], t => t
  | f :: k, t => plug k (plug1 f t)
def upOf : List Fm → Nat → Nat
  | [], pp => pp
  | f :: _, _ => f.p
def kids : List Fm → List Nat
  | [] => []
  | f :: k => f.p :: (f.sib.ids ++ kids k)
theorem plug1_ids (f : Fm) (t : ST) : (plug1 f t).ids.Perm (t.ids ++ f.p :: f.sib.ids) := by
  unfold plug1
  cases f.s
  · exact List.Perm.refl _
  · simp only [if_true, ST.ids]; exact ST.swap_perm _ _ _
theorem plug1_root (f : Fm) (t : ST) : (plug1 f t).root = f.p := by unfold plug1; cases f.s <;> rfl
theorem plug_ids : ∀ (k : List Fm) (t : ST), (plug k t).ids.Perm (t.ids ++ kids k)
  | [], t => by simp [plug, kids]
  | f :: k, t => by
    refine (plug_ids k _).trans ?_
    refine (((plug1_ids f t).append_right _)).trans ?_
    simp [kids]
theorem plug1_flat (f : Fm) {t t' : ST} (h : t.flat = t'.flat) : (plug1 f t).flat = (plug1 f t').flat := by
  unfold plug1
  cases f.s <;> simp [ST.flat, h]
theorem plug_flat : ∀ (k : List Fm) {t t' : ST} (h : t.flat = t'.flat), (plug k t).flat = (plug k t').flat
  | [], _, _, h => h
  | f :: k, _, _, h => plug_flat k (plug1_flat f h)

/-! ### trees in memory -/
def OkS (N : Nat → Nd) (own : Nat → E) : ST → Nat → Prop
  | .nil, _ => True
  | .node x t l r, up => x ≠ 0 ∧ (N x).up = up ∧ (N x).c0 = l.root ∧ (N x).c1 = r.root ∧ (N x).tn = t ∧ Ag own (l.ids ++ x :: r.ids) (N x) ∧ OkS N own l x ∧ OkS N own r x
theorem OkS.congr {N N' : Nat → Nd} {own : Nat → E} : ∀ {t : ST} {up : Nat}, OkS N own t up → (∀ y ∈ t.ids, N' y = N y) → OkS N' own t up
  | .nil, _, _, _ => trivial
  | .node x t l r, up, ⟨h1, h2, h3, h4, h5, h6, h7, h8⟩, hN => by
    have e : N' x = N x := hN x (by simp [ST.ids])
    refine ⟨h1, by rw [e]; exact h2, by rw [e]; exact h3, by rw [e]; exact h4, by rw [e]; exact h5, by rw [e]; exact h6, ?_, ?_⟩
    · exact OkS.congr h7 fun y hy => hN y (by simp [ST.ids, hy])
    · exact OkS.congr h8 fun y hy => hN y (by simp [ST.ids, hy])
theorem OkS.nz {N : Nat → Nd} {own : Nat → E} : ∀ {t : ST} {up : Nat}, OkS N own t up → ∀ y ∈ t.ids, y ≠ 0
  | .nil, _, _, y, hy => by simp [ST.ids] at hy
  | .node x t l r, up, ⟨h1, h2, h3, h4, h5, h6, h7, h8⟩, y, hy => by
    simp only [ST.ids, List.mem_append, List.mem_cons] at hy
    rcases hy with hy | rfl | hy
    · exact h7.nz y hy
    · exact h1
    · exact h8.nz y hy
theorem root_mem {t : ST} (h : t.root ≠ 0) : t.root ∈ t.ids := by
  cases t with
  | nil => exact absurd rfl h
  | node x t l r => simp [ST.ids, ST.root]
theorem OkS.nil_of_root {N : Nat → Nd} {own : Nat → E} {t : ST} {up : Nat} (h : OkS N own t up) (h0 : t.root = 0) : t = .nil := by
  cases t with
  | nil => rfl
  | node x t l r => exact absurd h0 h.1
/-- children lie in the tree -/
theorem OkS.kid {N : Nat → Nd} {own : Nat → E} : ∀ {t : ST} {up : Nat}, OkS N own t up → ∀ y ∈ t.ids, ((N y).c0 = 0 ∨ (N y).c0 ∈ t.ids) ∧ ((N y).c1 = 0 ∨ (N y).c1 ∈ t.ids)
  | .nil, _, _, y, hy => by simp [ST.ids] at hy
  | .node x t l r, up, ⟨h1, h2, h3, h4, h5, h6, h7, h8⟩, y, hy => by
    simp only [ST.ids, List.mem_append, List.mem_cons] at hy ⊢
    rcases hy with hy | rfl | hy
    · have := h7.kid y hy
      exact ⟨this.1.imp id .inl, this.2.imp id .inl⟩
    · constructor
      · rw [h3]
        by_cases h0 : l.root = 0
        · exact .inl h0
        · exact .inr (.inl (root_mem h0))
      · rw [h4]
        by_cases h0 : r.root = 0
        · exact .inl h0
        · exact .inr (.inr (.inr (root_mem h0)))
    · have := h8.kid y hy
      exact ⟨this.1.imp id fun h => .inr (.inr h), this.2.imp id fun h => .inr (.inr h)⟩
/-- who has no parent is a root -/
theorem OkS.up_in {N : Nat → Nd} {own : Nat → E} : ∀ {t : ST} {up : Nat}, OkS N own t up → ∀ y ∈ t.ids, y = t.root ∧ (N y).up = up ∨ (N y).up ∈ t.ids
  | .nil, _, _, y, hy => by simp [ST.ids] at hy
  | .node x t l r, up, ⟨h1, h2, h3, h4, h5, h6, h7, h8⟩, y, hy => by
    simp only [ST.ids, List.mem_append, List.mem_cons] at hy ⊢
    rcases hy with hy | rfl | hy
    · rcases h7.up_in y hy with h | h
      · exact .inr (.inr (.inl h.2))
      · exact .inr (.inl h)
    · exact .inl ⟨rfl, h2⟩
    · rcases h8.up_in y hy with h | h
      · exact .inr (.inr (.inl h.2))
      · exact .inr (.inr (.inr h))
/-- another parent -/
theorem OkS.reup {N N' : Nat → Nd} {own : Nat → E} {t : ST} {up u' : Nat} (h : OkS N own t up) (hd : t.ids.Nodup) (hr : t.root ≠ 0 → N' t.root = { N t.root with up := u' }) (hN : ∀ y ∈ t.ids, y ≠ t.root → N' y = N y) : OkS N' own t u' := by
  cases t with
  | nil => trivial
  | node x t l r =>
    obtain ⟨h1, h2, h3, h4, h5, h6, h7, h8⟩ := h
    have e : N' x = { N x with up := u' } := hr h1
    simp only [ST.ids, List.nodup_append, List.nodup_cons] at hd
    obtain ⟨d1, ⟨d2, d3⟩, d4⟩ := hd
    refine ⟨h1, by rw [e], by rw [e]; exact h3, by rw [e]; exact h4, by rw [e]; exact h5, by rw [e]; exact ⟨h6.mx, h6.sr, h6.si⟩, ?_, ?_⟩
    · exact h7.congr fun y hy => hN y (by simp [ST.ids, hy]) (fun e => by simp only [ST.root] at e; subst e; exact d4 y hy y (by simp) rfl)
    · exact h8.congr fun y hy => hN y (by simp [ST.ids, hy]) (fun e => by simp only [ST.root] at e; subst e; exact d2 hy)
theorem OkS.tog {N N' : Nat → Nd} {own : Nat → E} {t : ST} {up : Nat} (h : OkS N own t up) (hd : t.ids.Nodup) (hr : t.root ≠ 0 → N' t.root = { N t.root with tn := !(N t.root).tn }) (hN : ∀ y ∈ t.ids, y ≠ t.root → N' y = N y) : OkS N' own t.tog up := by
  cases t with
  | nil => trivial
  | node x t l r =>
    obtain ⟨h1, h2, h3, h4, h5, h6, h7, h8⟩ := h
    have e : N' x = { N x with tn := !(N x).tn } := hr h1
    simp only [ST.ids, List.nodup_append, List.nodup_cons] at hd
    obtain ⟨d1, ⟨d2, d3⟩, d4⟩ := hd
    refine ⟨h1, by rw [e]; exact h2, by rw [e]; exact h3, by rw [e]; exact h4, by rw [e, h5], by rw [e]; exact ⟨h6.mx, h6.sr, h6.si⟩, ?_, ?_⟩
    · exact h7.congr fun y hy => hN y (by simp [ST.ids, hy]) (fun e => by simp only [ST.root] at e; subst e; exact d4 y hy y (by simp) rfl)
    · exact h8.congr fun y hy => hN y (by simp [ST.ids, hy]) (fun e => by simp only [ST.root] at e; subst e; exact d2 hy)
/-- what is plugged in is there -/
theorem OkS.sub1 {N : Nat → Nd} {own : Nat → E} {f : Fm} {t : ST} {up : Nat} (h : OkS N own (plug1 f t) up) : f.p ≠ 0 ∧ (N f.p).up = up ∧ (N f.p).c0 = (if f.s then f.sib.root else t.root) ∧ (N f.p).c1 = (if f.s then t.root else f.sib.root) ∧ (N f.p).tn = f.t ∧ Ag own (plug1 f t).ids (N f.p) ∧ OkS N own t f.p ∧ OkS N own f.sib f.p := by
  unfold plug1 at h ⊢
  cases hs : f.s
  · rw [hs] at h
    obtain ⟨h1, h2, h3, h4, h5, h6, h7, h8⟩ := h
    exact ⟨h1, h2, h3, h4, h5, h6, h7, h8⟩
  · rw [hs] at h
    obtain ⟨h1, h2, h3, h4, h5, h6, h7, h8⟩ := h
    exact ⟨h1, h2, h3, h4, h5, h6, h8, h7⟩
theorem OkS.plug1 {N : Nat → Nd} {own : Nat → E} {f : Fm} {t : ST} {up : Nat} (h1 : f.p ≠ 0) (h2 : (N f.p).up = up) (h3 : (N f.p).c0 = (if f.s then f.sib.root else t.root)) (h4 : (N f.p).c1 = (if f.s then t.root else f.sib.root)) (h5 : (N f.p).tn = f.t)
    (h6 : Ag own (Go.Dn.plug1 f t).ids (N f.p)) (h7 : OkS N own t f.p) (h8 : OkS N own f.sib f.p) : OkS N own (Go.Dn.plug1 f t) up := by
  unfold Go.Dn.plug1 at h6 ⊢
  cases hs : f.s
  · rw [hs] at h3 h4 h6
    exact ⟨h1, h2, h3, h4, h5, h6, h7, h8⟩
  · rw [hs] at h3 h4 h6
    exact ⟨h1, h2, h3, h4, h5, h6, h8, h7⟩
theorem OkS.sub {N : Nat → Nd} {own : Nat → E} : ∀ (k : List Fm) {t : ST} {pp : Nat}, OkS N own (plug k t) pp → OkS N own t (upOf k pp)
  | [], _, _, h => h
  | f :: k, t, pp, h => (OkS.sub1 (OkS.sub k h)).2.2.2.2.2.2.1
/-- another tree of the same root and the same nodes plugged in -/
theorem OkS.swap0 {N N' : Nat → Nd} {own : Nat → E} : ∀ (k : List Fm) {t t' : ST} {pp : Nat}, OkS N own (plug k t) pp → t'.root = t.root → t'.ids.Perm t.ids → OkS N' own t' (upOf k pp) → (∀ y ∈ kids k, N' y = N y) → OkS N' own (plug k t') pp
  | [], _, _, _, _, _, _, h, _ => h
  | f :: k, t, t', pp, h, hr, hp, h', hN => by
    have hs := OkS.sub k h
    obtain ⟨h1, h2, h3, h4, h5, h6, h7, h8⟩ := hs.sub1
    have e : N' f.p = N f.p := hN f.p (by simp [kids])
    refine OkS.swap0 k (t := Go.Dn.plug1 f t) (t' := Go.Dn.plug1 f t') h (by rw [plug1_root, plug1_root]) ?_ ?_ (fun y hy => hN y (by simp [kids, hy]))
    · exact (plug1_ids f t').trans ((hp.append_right _).trans (plug1_ids f t).symm)
    · refine OkS.plug1 h1 (by rw [e]; exact h2) (by rw [e, hr]; exact h3) (by rw [e, hr]; exact h4) (by rw [e]; exact h5) ?_ h' (h8.congr fun y hy => hN y (by simp [kids, hy]))
      rw [e]
      exact h6.perm ((plug1_ids f t).trans ((hp.symm.append_right _).trans (plug1_ids f t').symm))
def setc (s : Bool) (d : Nd) (v : Nat) : Nd := if s then { d with c1 := v } else { d with c0 := v }
def getc (s : Bool) (d : Nd) : Nat := if s then d.c1 else d.c0
/-- another tree of another root plugged in -/
theorem OkS.swap1 {N N' : Nat → Nd} {own : Nat → E} (k : List Fm) {t t' : ST} {pp : Nat} (h : OkS N own (plug k t) pp) (hd : (plug k t).ids.Nodup) (hp : t'.ids.Perm t.ids) (h' : OkS N' own t' (upOf k pp)) (hN : ∀ y ∈ kids k, y ≠ upOf k pp → N' y = N y)
    (hk : ∀ f k', k = f :: k' → N' f.p = setc f.s (N f.p) t'.root) : OkS N' own (plug k t') pp := by
  cases k with
  | nil => exact h'
  | cons f k =>
    have hs := OkS.sub k h
    obtain ⟨h1, h2, h3, h4, h5, h6, h7, h8⟩ := hs.sub1
    have e := hk f k rfl
    have hd2 : (t.ids ++ kids (f :: k)).Nodup := (plug_ids (f :: k) t).nodup_iff.1 hd
    simp only [kids, List.nodup_append, List.nodup_cons, List.mem_append, List.mem_cons] at hd2
    obtain ⟨_, ⟨d1, d2, d3, d4⟩, _⟩ := hd2
    refine OkS.swap0 (N := N) k (t := Go.Dn.plug1 f t) (t' := Go.Dn.plug1 f t') h (by rw [plug1_root, plug1_root]) ?_ ?_ (fun y hy => hN y (by simp [kids, hy]) (fun e => d1 (.inr (by simp only [upOf] at e; subst e; exact hy))))
    · exact (plug1_ids f t').trans ((hp.append_right _).trans (plug1_ids f t).symm)
    · have h8' := h8.congr (N' := N') fun y hy => hN y (by simp [kids, hy]) (fun e => d1 (.inl (by simp only [upOf] at e; subst e; exact hy)))
      have h6' : Ag own (Go.Dn.plug1 f t').ids (N f.p) := h6.perm ((plug1_ids f t).trans ((hp.symm.append_right _).trans (plug1_ids f t').symm))
      cases hf : f.s
      · rw [hf] at e h3 h4
        simp only [setc, Bool.false_eq_true, if_false] at e h3 h4
        refine OkS.plug1 h1 (by rw [e]; exact h2) (by rw [e, hf]; rfl) (by rw [e, hf]; exact h4) (by rw [e]; exact h5) (by rw [e]; exact ⟨h6'.mx, h6'.sr, h6'.si⟩) h' h8'
      · rw [hf] at e h3 h4
        simp only [setc, if_true] at e h3 h4
        refine OkS.plug1 h1 (by rw [e]; exact h2) (by rw [e, hf]; exact h3) (by rw [e, hf]; rfl) (by rw [e]; exact h5) (by rw [e]; exact ⟨h6'.mx, h6'.sr, h6'.si⟩) h' h8'
end Go.Dn
