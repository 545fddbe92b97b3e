/- The farthest two of a list of vertices, and of two lists together, in plain terms · Distances in a forest: four points of a tree · The rope in memory: a block of three cells, a row of nodes of thirteen cells each, a row of seeds; words for reading and writing nodes · Trees in an arena, in plain terms: what left, right, up, size and the farthest two of a node say, and what stays of it when other nodes turn · Maps at whatever keys and elements, as lists of pairs; a range over one that lays nothing into it · Distances as a service; Plus and pull, walked · The inner calls of a rope, walked: merge, split, free, root, index on trees -/
import Derived.Test.YtklnlnjgaadjbaaZ3F
import Derived.Test.YtklnlnjgaadjbaaZ3B
import Derived.Test.YtklnlnjgaadjbaaZ3A
import Derived.Test.YtklnlnjgaadjbaaZ3E
import Derived.Test.YtklnlnjgaadjbaaZ3D
import Derived.Maps.OwnSet
import Derived.Maps.RangeRun
import Derived.WalkArith
set_option linter.unusedSectionVars false
set_option linter.unusedSimpArgs false
set_option linter.unusedVariables false
namespace Go.Dn
structure Rc where
 f : Int
 a : Int
 b : Int
 d : Int
def zR : Rc := ⟨0, 0, 0, 0⟩
def oneR (v : Int) : Rc := if v = 0 then zR else ⟨1, v, v, 0⟩
section
variable (D : Int → Int → Int)
def bst (f u v : Int) (m : Rc) : Rc := if D u v > m.d then ⟨f, u, v, D u v⟩ else m
def mxR (r o : Rc) : Rc := if o.d > r.d then o else r
def plR (r o : Rc) : Rc :=
 if r.a = 0 then o else if o.a = 0 then r else
 bst D r.f r.b o.b (bst D r.f r.b o.a (bst D r.f r.a o.b (bst D r.f r.a o.a (mxR r o))))
structure Fb (l : List Int) (m : Rc) : Prop where
 f : m.f = 1
 a : m.a ∈ l
 b : m.b ∈ l
 d : m.d = D m.a m.b
def Fa (l : List Int) (m : Rc) : Prop := (l = [] ∧ m = zR) ∨ (Fb D l m ∧ ∀ x ∈ l, ∀ y ∈ l, D x y ≤ m.d)
structure M4 (l : List Int) : Prop where
 nz : ∀ x ∈ l, x ≠ 0
 z : ∀ x ∈ l, D x x = 0
 s : ∀ x ∈ l, ∀ y ∈ l, D x y = D y x
 f : ∀ x ∈ l, ∀ y ∈ l, ∀ z ∈ l, ∀ t ∈ l, D x y + D z t ≤ D x z + D y t ∨ D x y + D z t ≤ D x t + D y z
end
section
variable {D : Int → Int → Int} {l k : List Int} {m o : Rc}
theorem M4.mono (h : M4 D l) (hs : ∀ x ∈ k, x ∈ l) : M4 D k := ⟨fun x hx => h.nz x (hs x hx), fun x hx => h.z x (hs x hx), fun x hx y hy => h.s x (hs x hx) y (hs y hy), fun x hx y hy z hz t ht => h.f x (hs x hx) y (hs y hy) z (hs z hz) t (hs t ht)⟩
theorem M4.congr {D' : Int → Int → Int} (h : M4 D l) (hs : ∀ x ∈ l, ∀ y ∈ l, D' x y = D x y) : M4 D' l := ⟨h.nz, fun x hx => by rw [hs x hx x hx]; exact h.z x hx, fun x hx y hy => by rw [hs x hx y hy, hs y hy x hx]; exact h.s x hx y hy, fun x hx y hy z hz t ht => by
 rw [hs x hx y hy, hs z hz t ht, hs x hx z hz, hs y hy t ht, hs x hx t ht, hs y hy z hz]; exact h.f x hx y hy z hz t ht⟩
theorem Fa.congr {D' : Int → Int → Int} (h : Fa D l m) (hs : ∀ x ∈ l, ∀ y ∈ l, D' x y = D x y) : Fa D' l m := by
 rcases h with h | ⟨⟨h1, h2, h3, h4⟩, h5⟩
 ·exact .inl h
 ·exact .inr ⟨⟨h1, h2, h3, h4.trans (hs _ h2 _ h3).symm⟩, fun x hx y hy => by rw [hs x hx y hy]; exact h5 x hx y hy⟩
theorem Fa.same (h : Fa D l m) (hs : ∀ x, x ∈ k ↔ x ∈ l) : Fa D k m := by
 rcases h with ⟨rfl, h⟩ | ⟨⟨h1, h2, h3, h4⟩, h5⟩
 ·exact .inl ⟨List.eq_nil_iff_forall_not_mem.2 (fun x hx => (by have := (hs x).1 hx; cases this)), h⟩
 ·exact .inr ⟨⟨h1, (hs _).2 h2, (hs _).2 h3, h4⟩, fun x hx y hy => h5 x ((hs x).1 hx) y ((hs y).1 hy)⟩
theorem Fb.mono (h : Fb D l m) (hs : ∀ x ∈ l, x ∈ k) : Fb D k m := ⟨h.f, hs _ h.a, hs _ h.b, h.d⟩
theorem Fb.bst (h : Fb D l m) {f u v : Int} (hf : f = 1) (hu : u ∈ l) (hv : v ∈ l) : Fb D l (bst D f u v m) ∧ m.d ≤ (bst D f u v m).d ∧ D u v ≤ (bst D f u v m).d := by
 unfold Go.Dn.bst
 split
 ·exact ⟨⟨hf, hu, hv, rfl⟩, by show m.d ≤ D u v; omega, Int.le_refl _⟩
 ·exact ⟨h, by omega, by omega⟩
theorem Fa.one {v : Int} (h : v ≠ 0) (hz : D v v = 0) : Fa D [v] (oneR v) := by
 unfold oneR
 rw [if_neg h]
 exact .inr ⟨⟨rfl, by simp, by simp, hz.symm⟩, fun x hx y hy => by
  rw [List.mem_singleton] at hx hy; subst hx; subst hy; rw [hz]; exact Int.le_refl _⟩
theorem Fa.plus (h1 : Fa D l m) (h2 : Fa D k o) (h4 : M4 D (l ++ k)) : Fa D (l ++ k) (plR D m o) := by
 rcases h1 with ⟨rfl, rfl⟩ | ⟨b1, c1⟩
 ·unfold plR; rw [if_pos (show zR.a = 0 from rfl)]; exact h2
 have na : m.a ≠ 0 := h4.nz _ (List.mem_append_left _ b1.a)
 rcases h2 with ⟨rfl, rfl⟩ | ⟨b2, c2⟩
 ·unfold plR; rw [if_neg na, if_pos (show zR.a = 0 from rfl), List.append_nil]; exact .inr ⟨b1, c1⟩
 have no : o.a ≠ 0 := h4.nz _ (List.mem_append_right _ b2.a)
 unfold plR
 rw [if_neg na, if_neg no]
 have L : ∀ x ∈ l, x ∈ l ++ k := fun x hx => List.mem_append_left _ hx
 have R : ∀ x ∈ k, x ∈ l ++ k := fun x hx => List.mem_append_right _ hx
 have b0 : Fb D (l ++ k) (mxR m o) ∧ m.d ≤ (mxR m o).d ∧ o.d ≤ (mxR m o).d := by
  unfold mxR
  split
  ·exact ⟨b2.mono R, by omega, by omega⟩
  ·exact ⟨b1.mono L, by omega, by omega⟩
 obtain ⟨q0, q1, q2⟩ := b0
 obtain ⟨r0, r1, r2⟩ := q0.bst b1.f (L _ b1.a) (R _ b2.a)
 obtain ⟨s0, s1, s2⟩ := r0.bst b1.f (L _ b1.a) (R _ b2.b)
 obtain ⟨t0, t1, t2⟩ := s0.bst b1.f (L _ b1.b) (R _ b2.a)
 obtain ⟨u0, u1, u2⟩ := t0.bst b1.f (L _ b1.b) (R _ b2.b)
 refine .inr ⟨u0, ?_⟩
 generalize (Go.Dn.bst D m.f m.b o.b (Go.Dn.bst D m.f m.b o.a (Go.Dn.bst D m.f m.a o.b (Go.Dn.bst D m.f m.a o.a (mxR m o))))).d = z at *
 have z1 : ∀ x ∈ l, ∀ y ∈ k, D x y ≤ z := by
  intro x hx y hy
  have e1 := h4.f x (L _ hx) y (R _ hy) o.a (R _ b2.a) o.b (R _ b2.b)
  have y1 := c2 y hy _ b2.b
  have y2 := c2 y hy _ b2.a
  have e2 := h4.f x (L _ hx) o.a (R _ b2.a) m.a (L _ b1.a) m.b (L _ b1.b)
  have e3 := h4.f x (L _ hx) o.b (R _ b2.b) m.a (L _ b1.a) m.b (L _ b1.b)
  have x1 := c1 x hx _ b1.a
  have x2 := c1 x hx _ b1.b
  have s1' := h4.s o.a (R _ b2.a) m.a (L _ b1.a)
  have s2' := h4.s o.a (R _ b2.a) m.b (L _ b1.b)
  have s3' := h4.s o.b (R _ b2.b) m.a (L _ b1.a)
  have s4' := h4.s o.b (R _ b2.b) m.b (L _ b1.b)
  have d1 := b1.d
  have d2 := b2.d
  omega
 intro x hx y hy
 rcases List.mem_append.1 hx with hx' | hx' <;> rcases List.mem_append.1 hy with hy' | hy'
 ·have := c1 x hx' y hy'; omega
 ·exact z1 x hx' y hy'
 ·rw [h4.s x hx y hy]; exact z1 y hy' x hx'
 ·have := c2 x hx' y hy'; omega
theorem Fa.nz (h : Fa D l m) (hl : l ≠ []) : Fb D l m ∧ ∀ x ∈ l, ∀ y ∈ l, D x y ≤ m.d := h.elim (fun h => absurd h.1 hl) id
end
def vxs (V : Nat → Int) (l : List Nat) : List Int := (l.map V).filter fun v => decide (v ≠ 0)
theorem vxs_mem {V : Nat → Int} {l : List Nat} {v : Int} : v ∈ vxs V l ↔ v ≠ 0 ∧ ∃ i ∈ l, V i = v := by
 unfold vxs
 rw [List.mem_filter, List.mem_map]
 simp [and_comm]
theorem vxs_app (V : Nat → Int) (l m : List Nat) : vxs V (l ++ m) = vxs V l ++ vxs V m := by simp [vxs]
theorem vxs_one (V : Nat → Int) (a : Nat) : vxs V [a] = if V a = 0 then [] else [V a] := by
 unfold vxs
 by_cases h : V a = 0 <;> simp [h]
theorem vxs_congr {V V' : Nat → Int} {l : List Nat} (h : ∀ i ∈ l, V' i = V i) : vxs V' l = vxs V l := by unfold vxs; rw [List.map_congr_left h]
theorem Fa.own {D : Int → Int → Int} {V : Nat → Int} {a : Nat} (h : V a ≠ 0 → D (V a) (V a) = 0) : Fa D (vxs V [a]) (oneR (V a)) := by
 rw [vxs_one]
 by_cases e : V a = 0
 ·rw [if_pos e, e]; exact .inl ⟨rfl, rfl⟩
 ·rw [if_neg e]; exact Fa.one e (h e)
theorem fork {es : List E} (hi : ∀ e ∈ es, ∀ e' ∈ es, e.id = e'.id → e = e') : ∀ (P Q : List E), (∀ e ∈ P, e ∈ es) → (∀ e ∈ Q, e ∈ es) → ∃ A B C, P = A ++ B ∧ Q = A ++ C ∧ ∀ b ∈ B.head?, ∀ c ∈ C.head?, b.id ≠ c.id
 | [], Q, _, _ => ⟨[], [], Q, rfl, rfl, fun b hb => by simp at hb⟩
 | e :: P, [], _, _ => ⟨[], e :: P, [], rfl, rfl, fun b _ c hc => by simp at hc⟩
 | e :: P, f :: Q, h1, h2 => by
  by_cases hid : e.id = f.id
  ·have := hi e (h1 e (by simp)) f (h2 f (by simp)) hid
   subst this
   obtain ⟨A, B, C, rfl, rfl, h⟩ := fork hi P Q (fun x hx => h1 x (by simp [hx])) fun x hx => h2 x (by simp [hx])
   exact ⟨e :: A, B, C, rfl, rfl, h⟩
  ·exact ⟨[], e :: P, f :: Q, rfl, rfl, fun b hb c hc => by
    simp only [List.head?_cons, Option.mem_def, Option.some.injEq] at hb hc
    subst hb; subst hc; exact hid⟩
theorem Wk.part {es : List E} {q : List E} {v : Int} : ∀ {p : List E} {u : Int}, Wk es u (p ++ q) v → ∃ m, Wk es u p m ∧ Wk es m q v
 | [], u, h => ⟨u, .nil u, h⟩
 | e :: p, u, h => by
  rw [List.cons_append] at h
  cases h with
  | cons h1 h2 h =>
   obtain ⟨m, a, b⟩ := Wk.part h
   exact ⟨m, .cons h1 h2 a, b⟩
theorem Wk.fun_ {es : List E} {p : List E} : ∀ {u v v' : Int}, Wk es u p v → Wk es u p v' → v = v' := by
 induction p with
 | nil => intro u v v' h k; cases h; cases k; rfl
 | cons e p ih => intro u v v' h k; cases h with | cons _ _ h => cases k with | cons _ _ k => exact ih h k
def Ja (es : List E) (u v : Int) : Prop := ∃ p, Wk es u p v ∧ NB p
open Classical in
noncomputable def dS (es : List E) (u v : Int) : Int := if h : Ja es u v then sumW h.choose else 0
end Go.Dn
namespace Go.Proofs.Ytklnlnjgaadjbaa.Rd
open Go.Dn Go.RowKit
section
variable {vs : List Int} {es : List E}
theorem VE.hi (g : VE vs es) : ∀ e ∈ es, ∀ e' ∈ es, e.id = e'.id → e = e' := ids_inj g.eid
theorem VE.hw (g : VE vs es) : ∀ e ∈ es, 0 ≤ e.w := fun e he => (g.er e he).2.2.2.2.2.1
theorem dS_of (g : VE vs es) {u v : Int} (hu : u ∈ vs) {p : List E} (hp : Wk es u p v) (np : NB p) : dS es u v = sumW p := by
 have h : Ja es u v := ⟨p, hp, np⟩
 unfold dS
 rw [dif_pos h, g.uq u v _ p hu h.choose_spec.1 h.choose_spec.2 hp np]
theorem dS_no {u v : Int} (h : ¬ Ja es u v) : dS es u v = 0 := by unfold dS; rw [dif_neg h]
theorem _root_.Go.Dn.Wk.out {u v : Int} {p : List E} (h : Wk es u p v) (he : ∀ e ∈ es, e.u ∈ vs ∧ e.v ∈ vs) (hu : u ∉ vs) : p = [] ∧ v = u := by
 cases h with
 | nil => exact ⟨rfl, rfl⟩
 | cons h1 h2 _ => rcases h2 with rfl | rfl; exact absurd (he _ h1).1 hu; exact absurd (he _ h1).2 hu
theorem VE.he (g : VE vs es) : ∀ e ∈ es, e.u ∈ vs ∧ e.v ∈ vs := fun e he => ⟨(g.er e he).2.2.1, (g.er e he).2.2.2.1⟩
theorem _root_.Go.Dn.Wk.inV (g : VE vs es) {u v : Int} {p : List E} (h : Wk es u p v) (hu : u ∈ vs) : v ∈ vs := by
 induction h with
 | nil => exact hu
 | cons h1 h2 _ ih => exact ih (by unfold oth; split; exact (g.he _ h1).2; exact (g.he _ h1).1)
theorem dS_self (g : VE vs es) (u : Int) : dS es u u = 0 := by
 by_cases hu : u ∈ vs
 ·rw [dS_of g hu (.nil u) trivial]; rfl
 ·by_cases h : Ja es u u
  ·unfold dS
   rw [dif_pos h, (h.choose_spec.1.out g.he hu).1]; rfl
  ·exact dS_no h
theorem _root_.Go.Dn.Ja.symm {u v : Int} (h : Ja es u v) : Ja es v u := by obtain ⟨p, hp, np⟩ := h; exact ⟨_, hp.rev, np.rev⟩
theorem _root_.Go.Dn.Ja.trans (g : VE vs es) {u v x : Int} (h : Ja es u v) (k : Ja es v x) : Ja es u x := by
 obtain ⟨p, hp, np⟩ := h
 obtain ⟨q, hq, nq⟩ := k
 obtain ⟨r, hr, nr, _⟩ := (hp.app hq).red2 g.hi g.hw
 exact ⟨r, hr, nr⟩
theorem _root_.Go.Dn.Ja.refl (es : List E) (u : Int) : Ja es u u := ⟨[], .nil u, trivial⟩
theorem dS_symm (g : VE vs es) {u v : Int} (hu : u ∈ vs) (hv : v ∈ vs) : dS es u v = dS es v u := by
 by_cases h : Ja es u v
 ·obtain ⟨p, hp, np⟩ := h
  rw [dS_of g hu hp np, dS_of g hv hp.rev np.rev, sumW_rev]
 ·rw [dS_no h, dS_no fun k => h k.symm]
theorem dS_le (g : VE vs es) {u v : Int} (hu : u ∈ vs) {p : List E} (hp : Wk es u p v) : dS es u v ≤ sumW p := by
 obtain ⟨q, hq, nq, hs, _⟩ := hp.red2 g.hi g.hw
 rw [dS_of g hu hq nq]; exact hs
theorem VE.along {u v : Int} (g : VE vs es) {mx : E} {W K c : Int} (h : AlongR vs es u v mx W K c) : W = dS es u v ∨ (W = 0 ∧ ¬ (u ∈ vs ∧ v ∈ vs)) := by
 rcases h with ⟨h, _, rfl, _⟩ | ⟨hu, hv, h, _, rfl, _⟩ | ⟨hu, hv, p, hp, np, _, rfl, _⟩
 ·exact .inr ⟨rfl, h⟩
 ·exact .inl (dS_no h).symm
 ·exact .inl (dS_of g hu hp np).symm
theorem VE.along0 {u v : Int} (g : VE vs es) {mx : E} {W K c : Int} (h : AlongR vs es u v mx W K c) : W = dS es u v := by
 rcases g.along h with h | ⟨rfl, h2⟩
 ·exact h
 ·by_cases hu : u ∈ vs
  ·by_cases k : Ja es u v
   ·obtain ⟨p, hp, np⟩ := k
    exact absurd ⟨hu, hp.inV g hu⟩ h2
   ·exact (dS_no k).symm
  ·by_cases k : Ja es u v
   ·have := k
    obtain ⟨p, hp, np⟩ := k
    have := (hp.out g.he hu).2
    subst this
    exact (dS_self g v).symm
   ·exact (dS_no k).symm
theorem dS_four (g : VE vs es) {x y z t : Int} (hx : x ∈ vs) (h1 : Ja es x y) (h2 : Ja es x z) (h3 : Ja es x t) : dS es x y + dS es z t ≤ dS es x z + dS es y t ∨ dS es x y + dS es z t ≤ dS es x t + dS es y z := by
 obtain ⟨P, hP, nP⟩ := h1
 obtain ⟨Q, hQ, nQ⟩ := h2
 have hy := hP.inV g hx
 have hz := hQ.inV g hx
 obtain ⟨A, B, C, rfl, rfl, hBC⟩ := fork g.hi P Q hP.mem hQ.mem
 obtain ⟨m, wA, wB⟩ := hP.part
 obtain ⟨m', wA', wC⟩ := hQ.part
 have := wA.fun_ wA'
 subst this
 have hm := wA.inV g hx
 obtain ⟨H, wH, nH⟩ : Ja es m t := Ja.trans g (Ja.symm ⟨A, wA, (NB.app.1 nP).1⟩) h3
 have ht := wH.inV g hm
 obtain ⟨nA, nB, hAB⟩ := NB.app.1 nP
 obtain ⟨_, nC, hAC⟩ := NB.app.1 nQ
 have dxy : dS es x y = sumW A + sumW B := by rw [dS_of g hx hP nP, sumW_app]
 have dxz : dS es x z = sumW A + sumW C := by rw [dS_of g hx hQ nQ, sumW_app]
 have dyz : dS es y z = sumW B + sumW C := by
  rw [dS_of g hy (wB.rev.app wC) (NB.app.2 ⟨nB.rev, nC, fun a ha b hb => hBC a (by rw [List.getLast?_reverse] at ha; exact ha) b hb⟩), sumW_app, sumW_rev]
 have lx : dS es x t ≤ sumW A + sumW H := by rw [← sumW_app]; exact dS_le g hx (wA.app wH)
 have ly : dS es y t ≤ sumW B + sumW H := by rw [← sumW_rev B, ← sumW_app]; exact dS_le g hy (wB.rev.app wH)
 have lz : dS es z t ≤ sumW C + sumW H := by rw [← sumW_rev C, ← sumW_app]; exact dS_le g hz (wC.rev.app wH)
 have ex : (∀ a ∈ A.getLast?, ∀ b ∈ H.head?, a.id ≠ b.id) → dS es x t = sumW A + sumW H := fun h => by
  rw [dS_of g hx (wA.app wH) (NB.app.2 ⟨nA, nH, h⟩), sumW_app]
 have ey : (∀ a ∈ B.head?, ∀ b ∈ H.head?, a.id ≠ b.id) → dS es y t = sumW B + sumW H := fun h => by
  rw [dS_of g hy (wB.rev.app wH) (NB.app.2 ⟨nB.rev, nH, fun a ha b hb => h a (by rw [List.getLast?_reverse] at ha; exact ha) b hb⟩), sumW_app, sumW_rev]
 by_cases c1 : ∀ a ∈ A.getLast?, ∀ b ∈ H.head?, a.id ≠ b.id
 ·have := ex c1; right; omega
 ·by_cases c2 : ∀ a ∈ B.head?, ∀ b ∈ H.head?, a.id ≠ b.id
  ·have := ey c2; left; omega
  ·exfalso
   simp only [Classical.not_forall, Classical.not_not, exists_prop] at c1 c2
   obtain ⟨a, ha, b, hb, e1⟩ := c1
   obtain ⟨a', ha', b', hb', e2⟩ := c2
   have : b = b' := by rw [Option.mem_def] at hb hb'; rw [hb] at hb'; injection hb'
   subst this
   exact hAB a ha a' ha' (e1.trans e2.symm)
end
end Go.Proofs.Ytklnlnjgaadjbaa.Rd
namespace Go.Dn
open Go.RowKit
def st (N : Nat → Nat → Int) (i j : Nat) (v : Int) : Nat → Nat → Int := fun i' j' => if i' = i ∧ j' = j then v else N i' j'
theorem st_same (N : Nat → Nat → Int) (i j : Nat) (v : Int) : st N i j v i j = v := by simp [st]
theorem st_i (N : Nat → Nat → Int) {i i' : Nat} (j j' : Nat) (v : Int) (h : i' ≠ i) : st N i j v i' j' = N i' j' := by simp [st, h]
theorem st_j (N : Nat → Nat → Int) (i i' : Nat) {j j' : Nat} (v : Int) (h : j' ≠ j) : st N i j v i' j' = N i' j' := by simp [st, h]
end Go.Dn
namespace Go.Proofs.Ytklnlnjgaadjbaa.Rd
open Go.Dn Go.RowKit
set_option maxRecDepth 100000
structure RC where
 F : Nat
 B : Nat
 R : Nat
 g : Nat
 c : Nat
 n : Nat
 As : Option Addr
 sl : List Int
 sc : Nat
 st : Int
def kd : Nat → IntKind
 | 3 => .u64
 | _ => .i64
def pF (F : Nat) (f : Int) : Option Addr := if f = 0 then none else some ⟨F, 0, none⟩
def vd (F j : Nat) (x : Int) : Value := if j = 5 ∨ j = 9 then .pointer (pF F x) else .int (kd j) x
theorem vd_int {F j : Nat} (x : Int) (h : j ≠ 5 ∧ j ≠ 9) : vd F j x = .int (kd j) x := by unfold vd; rw [if_neg (by omega)]
theorem vd_ptr {F j : Nat} (x : Int) (h : j = 5 ∨ j = 9) : vd F j x = .pointer (pF F x) := by unfold vd; rw [if_pos h]
structure Rp (w : World) (r : RC) (N : Nat → Nat → Int) : Prop where
 obj : w.heap[r.R]? = some (Obj.cells #[.slice (some ⟨r.g, 0, none⟩) r.n r.c, .slice r.As r.sl.length r.sc, .int .u64 r.st] 95)
 own : w.ownsRow r.B 120 13 (.slice (some ⟨r.g, 0, none⟩) r.n r.c) r.n (enc 13 r.n fun i j => vd r.F j (N i j))
 hB : r.B ≤ r.R
 gR : r.g ≠ r.R
 sds : RI w r.As r.sl
 sap : ∀ a, r.As = some a → r.B ≤ a.block ∧ a.block < w.heap.size ∧ a.block ≠ r.R ∧ a.block ≠ r.g
def Sr (r : RC) (k : Nat) : Prop := k = r.R ∨ k = r.g
theorem Rp.R_lt {w : World} {r : RC} {N : Nat → Nat → Int} (h : Rp w r N) : r.R < w.heap.size := (Array.getElem?_eq_some_iff.1 h.obj).1
theorem Rp.g_lt {w : World} {r : RC} {N : Nat → Nat → Int} (h : Rp w r N) : r.B ≤ r.g ∧ r.g < w.heap.size := World.ownsRow.lt h.own r.g rfl
theorem Rp.keeps {S : Nat → Prop} {w w' : World} {r : RC} {N : Nat → Nat → Int} (h : Rp w r N) (k : Keeps S w w') (h1 : ¬ S r.R) (h2 : ¬ S r.g) (h3 : ∀ a, r.As = some a → ¬ S a.block) : Rp w' r N :=
 ⟨(k.block _ h.R_lt h1).trans h.obj, Keeps.own h.own k (fun i hi => by injection hi with hi; subst hi; exact h2), h.hB, h.gR, h.sds.keeps k h3, fun a ha => let ⟨x1, x2, x3⟩ := h.sap a ha; ⟨x1, Nat.lt_of_lt_of_le x2 k.size, x3⟩⟩
theorem Rp.below {w w' : World} {r : RC} {N : Nat → Nat → Int} (h : Rp w r N) (hb : Below w.heap.size w w') : Rp w' r N := h.keeps (S := fun _ => False) (.of_below hb) id id (fun _ _ => id)
theorem Rp.drew {w : World} {r : RC} {N : Nat → Nat → Int} (h : Rp w r N) : Rp w.drew r N := h.below (Below.refl _ _).drew
theorem Rp.alloc {w : World} {r : RC} {N : Nat → Nat → Int} (h : Rp w r N) (o : Obj) : Rp (w.alloc o) r N := h.below ((Below.refl _ _).alloc (Nat.le_refl _) _)
theorem Rp.sl0 {w : World} {r : RC} {N : Nat → Nat → Int} (h : Rp w r N) : w.cell? ⟨r.R, 0, none⟩ = some (.slice (some ⟨r.g, 0, none⟩) r.n r.c) := by rw [cell_of_row w _ _ _ _ _ h.obj]; rfl
theorem Rp.sl1 {w : World} {r : RC} {N : Nat → Nat → Int} (h : Rp w r N) : w.cell? ((⟨r.R, 0, none⟩ : Addr).add 1) = some (.slice r.As r.sl.length r.sc) := by rw [add_mk, cell_of_row w _ _ _ _ _ h.obj]; rfl
theorem Rp.sl2 {w : World} {r : RC} {N : Nat → Nat → Int} (h : Rp w r N) : w.cell? ((⟨r.R, 0, none⟩ : Addr).add 2) = some (.int .u64 r.st) := by rw [add_mk, cell_of_row w _ _ _ _ _ h.obj]; rfl
theorem Rp.cellV {w : World} {r : RC} {N : Nat → Nat → Int} (h : Rp w r N) {i j : Nat} (hi : i < r.n) {x : Int} (hx : x = (i : Int)) (hj : j < 13) : w.cell? (((⟨r.g, 0, none⟩ : Addr).add (x.toNat * 13)).add j) = some (vd r.F j (N i j)) := by
 subst hx
 rw [add_add, Int.toNat_natCast, add_mk, World.ownsRow.cellAt h.own _ (by omega), Nat.zero_add, enc_get hi hj]
theorem Rp.cell {w : World} {r : RC} {N : Nat → Nat → Int} (h : Rp w r N) {i j : Nat} (hi : i < r.n) {x : Int} (hx : x = (i : Int)) (hj : j < 13 ∧ j ≠ 5 ∧ j ≠ 9) : w.cell? (((⟨r.g, 0, none⟩ : Addr).add (x.toNat * 13)).add j) = some (.int (kd j) (N i j)) := by
 rw [h.cellV hi hx hj.1, vd_int _ hj.2]
theorem Rp.cellP {w : World} {r : RC} {N : Nat → Nat → Int} (h : Rp w r N) {i j : Nat} (hi : i < r.n) {x : Int} (hx : x = (i : Int)) (hj : j = 5 ∨ j = 9) : w.cell? (((⟨r.g, 0, none⟩ : Addr).add (x.toNat * 13)).add j) = some (.pointer (pF r.F (N i j))) := by
 rw [h.cellV hi hx (by omega), vd_ptr _ hj]
theorem Rp.cell0 {w : World} {r : RC} {N : Nat → Nat → Int} (h : Rp w r N) {i : Nat} (hi : i < r.n) {x : Int} (hx : x = (i : Int)) : w.cell? ((⟨r.g, 0, none⟩ : Addr).add (x.toNat * 13)) = some (.int .i64 (N i 0)) := by
 have := h.cell (j := 0) hi hx (by omega)
 rw [add_add, Nat.add_zero] at this
 exact this
theorem Rp.set {w : World} {r : RC} {N : Nat → Nat → Int} (h : Rp w r N) {i j : Nat} (hi : i < r.n) (hj : j < 13) (v : Int) : Rp (w.setCell ⟨r.g, i * 13 + j, none⟩ (vd r.F j v)) r (Dn.st N i j v) ∧ Keeps (Sr r) w (w.setCell ⟨r.g, i * 13 + j, none⟩ (vd r.F j v)) := by
 obtain ⟨ho, hg⟩ := World.ownsRow.stored h.own (i * 13 + j) (vd r.F j v)
 have hk : Keeps (fun k => k = r.g) w (w.setCell ⟨r.g, i * 13 + j, none⟩ (vd r.F j v)) := ⟨hg.os, hg.tape, hg.output, hg.size, fun k hk hn => hg.block k hk (by simpa using hn)⟩
 refine ⟨⟨(hk.block _ h.R_lt (fun e => h.gR e.symm)).trans h.obj, ?_, h.hB, h.gR, h.sds.keeps hk (fun a ha => (h.sap a ha).2.2.2), fun a ha => let ⟨x1, x2, x3⟩ := h.sap a ha; ⟨x1, Nat.lt_of_lt_of_le x2 hk.size, x3⟩⟩, hk.mono fun k _ e => .inr e⟩
 rw [enc_set hi hj] at ho
 have e : (enc 13 r.n fun i' j' => if i' = i ∧ j' = j then vd r.F j v else vd r.F j' (N i' j')) = enc 13 r.n fun i' j' => vd r.F j' (Dn.st N i j v i' j') := by
  apply enc_congr
  intro i' _ j' _
  unfold Dn.st
  split
  ·rename_i h; obtain ⟨rfl, rfl⟩ := h; rfl
  ·rfl
 rw [e] at ho
 exact ho
theorem Rp.wr {w : World} {r : RC} {N : Nat → Nat → Int} (h : Rp w r N) {i j : Nat} (hi : i < r.n) (hj : j < 13) : Wr w ⟨r.g, i * 13 + j, none⟩ := by
 refine ⟨⟨vd r.F j (N i j), ?_⟩, World.ownsRow.frozenAt h.own _⟩
 rw [World.ownsRow.cellAt h.own _ (by omega), enc_get hi hj]
theorem nd_ld {w : World} {r : RC} {N : Nat → Nat → Int} (h : Rp w r N) {i : Nat} (hi : i < r.n) {x : Int} (hx : x = (i : Int)) {j : Nat} (hj : j < 13 ∧ j ≠ 5 ∧ j ≠ 9) {K : Int → Prop} (hk : K (N i j)) : ldI w (((⟨r.g, 0, none⟩ : Addr).add (x.toNat * 13)).add j) (kd j) K := ldI_intro (h.cell hi hx hj) hk
theorem nd_ldP {w : World} {r : RC} {N : Nat → Nat → Int} (h : Rp w r N) {i : Nat} (hi : i < r.n) {x : Int} (hx : x = (i : Int)) {j : Nat} (hj : j = 5 ∨ j = 9) {K : Option Addr → Prop} (hk : K (pF r.F (N i j))) : ldP w (((⟨r.g, 0, none⟩ : Addr).add (x.toNat * 13)).add j) K := ⟨_, h.cellP hi hx hj, hk⟩
theorem nd_ld0 {w : World} {r : RC} {N : Nat → Nat → Int} (h : Rp w r N) {i : Nat} (hi : i < r.n) {x : Int} (hx : x = (i : Int)) {K : Int → Prop} (hk : K (N i 0)) : ldI w ((⟨r.g, 0, none⟩ : Addr).add (x.toNat * 13)) .i64 K := ldI_intro (h.cell0 hi hx) hk
theorem nd_at {w : World} {r : RC} {N : Nat → Nat → Int} (h : Rp w r N) {i : Nat} (hi : i < r.n) {x : Int} (hx : x = (i : Int)) {K : Addr → Prop} (hk : K (⟨r.g, 0, none⟩ : Addr)) : ldS w ⟨r.R, 0, none⟩ fun A n' _ => optB A fun a => req (decide (0 ≤ x ∧ x < (n' : Int))) (K a) :=
 ldS_intro h.sl0 (optB_some rfl (req_intro (by subst hx; simp; omega) hk))
theorem nd_rd {w : World} {r : RC} {N : Nat → Nat → Int} (h : Rp w r N) {i : Nat} (hi : i < r.n) {x : Int} (hx : x = (i : Int)) {j : Nat} (hj : j < 13 ∧ j ≠ 5 ∧ j ≠ 9) {K : Int → Prop} (hk : K (N i j)) : ldS w ⟨r.R, 0, none⟩ fun A n' _ => optB A fun a => req (decide (0 ≤ x ∧ x < (n' : Int))) (ldI w ((a.add (x.toNat * 13)).add j) (kd j) K) :=
 nd_at (K := fun a => ldI w ((a.add (x.toNat * 13)).add j) (kd j) K) h hi hx (nd_ld h hi hx hj hk)
theorem nd_rd0 {w : World} {r : RC} {N : Nat → Nat → Int} (h : Rp w r N) {i : Nat} (hi : i < r.n) {x : Int} (hx : x = (i : Int)) {K : Int → Prop} (hk : K (N i 0)) : ldS w ⟨r.R, 0, none⟩ fun A n' _ => optB A fun a => req (decide (0 ≤ x ∧ x < (n' : Int))) (ldI w (a.add (x.toNat * 13)) .i64 K) :=
 nd_at (K := fun a => ldI w (a.add (x.toNat * 13)) .i64 K) h hi hx (nd_ld0 h hi hx hk)
theorem nd_stV {w : World} {r : RC} {N : Nat → Nat → Int} (h : Rp w r N) {i : Nat} (hi : i < r.n) {x : Int} (hx : x = (i : Int)) {j : Nat} (hj : j < 13) {v : Int} {K : World → Prop} (hk : ∀ w', Rp w' r (Dn.st N i j v) → Keeps (Sr r) w w' → K w') : stW w (((⟨r.g, 0, none⟩ : Addr).add (x.toNat * 13)).add j) (vd r.F j v) K := by
 subst hx
 rw [add_add, Int.toNat_natCast, add_mk, Nat.zero_add]
 exact stW_intro (h.wr hi hj) (hk _ (h.set hi hj v).1 (h.set hi hj v).2)
theorem nd_st {w : World} {r : RC} {N : Nat → Nat → Int} (h : Rp w r N) {i : Nat} (hi : i < r.n) {x : Int} (hx : x = (i : Int)) {j : Nat} (hj : j < 13 ∧ j ≠ 5 ∧ j ≠ 9) {v : Int} {K : World → Prop} (hk : ∀ w', Rp w' r (Dn.st N i j v) → Keeps (Sr r) w w' → K w') : stW w (((⟨r.g, 0, none⟩ : Addr).add (x.toNat * 13)).add j) (.int (kd j) v) K := by
 have := nd_stV h hi hx hj.1 (v := v) hk
 rw [vd_int _ hj.2] at this
 exact this
theorem nd_stP {w : World} {r : RC} {N : Nat → Nat → Int} (h : Rp w r N) {i : Nat} (hi : i < r.n) {x : Int} (hx : x = (i : Int)) {j : Nat} (hj : j = 5 ∨ j = 9) {v : Int} {K : World → Prop} (hk : ∀ w', Rp w' r (Dn.st N i j v) → Keeps (Sr r) w w' → K w') : stW w (((⟨r.g, 0, none⟩ : Addr).add (x.toNat * 13)).add j) (.pointer (pF r.F v)) K := by
 have := nd_stV h hi hx (by omega) (v := v) hk
 rw [vd_ptr _ hj] at this
 exact this
theorem nd_st0 {w : World} {r : RC} {N : Nat → Nat → Int} (h : Rp w r N) {i : Nat} (hi : i < r.n) {x : Int} (hx : x = (i : Int)) {v : Int} {K : World → Prop} (hk : ∀ w', Rp w' r (Dn.st N i 0 v) → Keeps (Sr r) w w' → K w') : stW w ((⟨r.g, 0, none⟩ : Addr).add (x.toNat * 13)) (.int .i64 v) K := by
 have := nd_st h hi hx (j := 0) (by omega) (v := v) hk
 rw [add_add, Nat.add_zero] at this
 exact this
end Go.Proofs.Ytklnlnjgaadjbaa.Rd
namespace Go.Dn
inductive Tp where
 | nil
 | node (l : Tp) (a : Nat) (r : Tp)
def Tp.root : Tp → Nat
 | .nil => 0
 | .node _ a _ => a
def Tp.ids : Tp → List Nat
 | .nil => []
 | .node l a r => l.ids ++ a :: r.ids
def ownR (N : Nat → Nat → Int) (a : Nat) : Rc := ⟨N a 5, N a 6, N a 7, N a 8⟩
def allR (N : Nat → Nat → Int) (a : Nat) : Rc := ⟨N a 9, N a 10, N a 11, N a 12⟩
def vx (N : Nat → Nat → Int) (l : List Nat) : List Int := vxs (fun i => N i 6) l
theorem vx_congr {N N' : Nat → Nat → Int} {l : List Nat} (h : ∀ i ∈ l, N' i 6 = N i 6) : vx N' l = vx N l := vxs_congr h
def OkT (D : Int → Int → Int) (N : Nat → Nat → Int) (n : Nat) : Tp → Prop
 | .nil => True
 | .node l a r => 0 < a ∧ a < n ∧ N a 0 = (l.root : Int) ∧ N a 1 = (r.root : Int) ∧ N a 4 = ((l.ids.length + 1 + r.ids.length : Nat) : Int) ∧ Fa D (vx N (l.ids ++ a :: r.ids)) (allR N a) ∧
  (l.root ≠ 0 → N l.root 2 = (a : Int)) ∧ (r.root ≠ 0 → N r.root 2 = (a : Int)) ∧ OkT D N n l ∧ OkT D N n r
section
variable {D : Int → Int → Int}
theorem OkT.root_pos {N : Nat → Nat → Int} {n : Nat} : ∀ {t : Tp}, OkT D N n t → (t.root = 0 ↔ t = .nil)
 | .nil, _ => by simp [Tp.root]
 | .node l a r, h => by simp [Tp.root]; have := h.1; omega
theorem Tp.root_mem {t : Tp} (h : t.root ≠ 0) : t.root ∈ t.ids := by
 cases t with
 | nil => exact absurd rfl h
 | node l a r => simp [Tp.ids, Tp.root]
theorem OkT.lt {N : Nat → Nat → Int} {n : Nat} : ∀ {t : Tp}, OkT D N n t → ∀ i ∈ t.ids, 0 < i ∧ i < n
 | .nil, _ => by simp [Tp.ids]
 | .node l a r, h => by
  intro i hi
  simp only [Tp.ids, List.mem_append, List.mem_cons] at hi
  rcases hi with hi | rfl | hi
  ·exact OkT.lt h.2.2.2.2.2.2.2.2.1 i hi
  ·exact ⟨h.1, h.2.1⟩
  ·exact OkT.lt h.2.2.2.2.2.2.2.2.2 i hi
theorem OkT.root_lt {N : Nat → Nat → Int} {n : Nat} {t : Tp} (h : OkT D N n t) (hn : 0 < n) : t.root < n := by
 by_cases h0 : t.root = 0
 ·omega
 ·exact (h.lt _ (Tp.root_mem h0)).2
theorem allR_congr {N N' : Nat → Nat → Int} {a : Nat} (h : ∀ j, 9 ≤ j → N' a j = N a j) : allR N' a = allR N a := by
 unfold allR; rw [h 9 (by omega), h 10 (by omega), h 11 (by omega), h 12 (by omega)]
theorem OkT.congr {N N' : Nat → Nat → Int} {n n' : Nat} (hn : n ≤ n') : ∀ {t : Tp}, t.ids.Nodup → OkT D N n t → (∀ i ∈ t.ids, ∀ j, j ≠ 3 → (j ≠ 2 ∨ i ≠ t.root) → N' i j = N i j) → OkT D N' n' t
 | .nil, _, _, _ => trivial
 | .node l a r, nd, h, hc => by
  obtain ⟨h1, h2, h3, h4, h5, h6, h8, h9, hl, hr⟩ := h
  simp only [Tp.ids, List.nodup_append, List.nodup_cons, List.mem_cons] at nd
  obtain ⟨ndl, ⟨har, ndr⟩, hd⟩ := nd
  have hal : a ∉ l.ids := fun h => hd a h a (.inl rfl) rfl
  have ma : a ∈ (Tp.node l a r).ids := by simp [Tp.ids]
  have ml : ∀ i ∈ l.ids, i ∈ (Tp.node l a r).ids := fun i h => by simp [Tp.ids, h]
  have mr : ∀ i ∈ r.ids, i ∈ (Tp.node l a r).ids := fun i h => by simp [Tp.ids, h]
  refine ⟨h1, by omega, ?_, ?_, ?_, ?_, ?_, ?_, ?_, ?_⟩
  ·rw [hc a ma 0 (by omega) (.inl (by omega))]; exact h3
  ·rw [hc a ma 1 (by omega) (.inl (by omega))]; exact h4
  ·rw [hc a ma 4 (by omega) (.inl (by omega))]; exact h5
  ·rw [vx_congr (N := N) (l := l.ids ++ a :: r.ids) fun i hi => hc i hi 6 (by omega) (.inl (by omega)), allR_congr fun j hj => hc a ma j (by omega) (.inl (by omega))]; exact h6
  ·intro h0
   have := Tp.root_mem h0
   rw [hc _ (ml _ this) 2 (by omega) (.inr (fun e => hal (by have e : l.root = a := e; rw [← e]; exact this)))]; exact h8 h0
  ·intro h0
   have := Tp.root_mem h0
   rw [hc _ (mr _ this) 2 (by omega) (.inr (fun e => har (by have e : r.root = a := e; rw [← e]; exact this)))]; exact h9 h0
  ·exact OkT.congr hn ndl hl fun i hi j hj _ => hc i (ml i hi) j hj (.inr (fun e => by simp only [Tp.root] at e; rw [e] at hi; exact hal hi))
  ·exact OkT.congr hn ndr hr fun i hi j hj _ => hc i (mr i hi) j hj (.inr (fun e => by simp only [Tp.root] at e; rw [e] at hi; exact har hi))
theorem OkT.dist {D' : Int → Int → Int} {N : Nat → Nat → Int} {n : Nat} : ∀ {t : Tp}, OkT D N n t → (∀ x ∈ vx N t.ids, ∀ y ∈ vx N t.ids, D' x y = D x y) → OkT D' N n t
 | .nil, _, _ => trivial
 | .node l a r, h, hd => by
  obtain ⟨h1, h2, h3, h4, h5, h6, h8, h9, hl, hr⟩ := h
  have e : vx N (Tp.node l a r).ids = vx N l.ids ++ (vx N [a] ++ vx N r.ids) := by
   show vxs _ (l.ids ++ a :: r.ids) = _
   rw [show l.ids ++ a :: r.ids = l.ids ++ ([a] ++ r.ids) by simp, vxs_app, vxs_app]; rfl
  have ml : ∀ x ∈ vx N l.ids, x ∈ vx N (Tp.node l a r).ids := fun x hx => by rw [e]; exact List.mem_append_left _ hx
  have mr : ∀ x ∈ vx N r.ids, x ∈ vx N (Tp.node l a r).ids := fun x hx => by rw [e]; exact List.mem_append_right _ (List.mem_append_right _ hx)
  exact ⟨h1, h2, h3, h4, h5, h6.congr hd, h8, h9, hl.dist fun x hx y hy => hd x (ml x hx) y (ml y hy), hr.dist fun x hx y hy => hd x (mr x hx) y (mr y hy)⟩
theorem OkT.sz {N : Nat → Nat → Int} {n : Nat} {t : Tp} (h : OkT D N n t) (h0 : t.root ≠ 0) : N t.root 4 = (t.ids.length : Int) := by
 cases t with
 | nil => exact absurd rfl h0
 | node l a r => simp only [Tp.root, Tp.ids, List.length_append, List.length_cons]; rw [h.2.2.2.2.1]; congr 1; omega
theorem OkT.all {N : Nat → Nat → Int} {n : Nat} {t : Tp} (h : OkT D N n t) (h0 : t.root ≠ 0) : Fa D (vx N t.ids) (allR N t.root) := by
 cases t with
 | nil => exact absurd rfl h0
 | node l a r => exact h.2.2.2.2.2.1
structure Chg (ids : List Nat) (N N' : Nat → Nat → Int) : Prop where
 out : ∀ i, i ∉ ids → ∀ j, N' i j = N i j
 own : ∀ i j, j = 3 ∨ j = 5 ∨ j = 6 ∨ j = 7 ∨ j = 8 → N' i j = N i j
theorem Chg.refl (ids : List Nat) (N : Nat → Nat → Int) : Chg ids N N := ⟨fun _ _ _ => rfl, fun _ _ _ => rfl⟩
theorem Chg.trans {ids : List Nat} {a b c : Nat → Nat → Int} (h : Chg ids a b) (k : Chg ids b c) : Chg ids a c := ⟨fun i hi j => (k.out i hi j).trans (h.out i hi j), fun i j hj => (k.own i j hj).trans (h.own i j hj)⟩
theorem Chg.mono {ids ids' : List Nat} {a b : Nat → Nat → Int} (h : Chg ids a b) (hs : ∀ i ∈ ids, i ∈ ids') : Chg ids' a b := ⟨fun i hi j => h.out i (fun x => hi (hs i x)) j, h.own⟩
theorem Chg.st {ids : List Nat} {N : Nat → Nat → Int} {i j : Nat} {v : Int} (hi : i ∈ ids) (hj : j ≠ 3 ∧ j ≠ 5 ∧ j ≠ 6 ∧ j ≠ 7 ∧ j ≠ 8) : Chg ids N (Dn.st N i j v) :=
 ⟨fun k hk l => st_i _ _ _ _ (fun e => hk (e ▸ hi)), fun k l hl => st_j _ _ _ _ (by omega)⟩
theorem Chg.vx {ids : List Nat} {N N' : Nat → Nat → Int} (h : Chg ids N N') (l : List Nat) : Dn.vx N' l = Dn.vx N l := vx_congr fun i _ => h.own i 6 (by omega)
def setA (N : Nat → Nat → Int) (a : Nat) (m : Rc) : Nat → Nat → Int := st (st (st (st N a 9 m.f) a 10 m.a) a 11 m.b) a 12 m.d
theorem setA_at (N : Nat → Nat → Int) (a : Nat) (m : Rc) : allR (setA N a m) a = m := by simp [allR, setA, st]
theorem setA_j {N : Nat → Nat → Int} {a : Nat} {m : Rc} {i j : Nat} (h : j < 9 ∨ 12 < j) : setA N a m i j = N i j := by
 unfold setA
 rw [st_j _ _ _ _ (by omega), st_j _ _ _ _ (by omega), st_j _ _ _ _ (by omega), st_j _ _ _ _ (by omega)]
theorem setA_i {N : Nat → Nat → Int} {a : Nat} {m : Rc} {i j : Nat} (h : i ≠ a) : setA N a m i j = N i j := by
 unfold setA
 rw [st_i _ _ _ _ h, st_i _ _ _ _ h, st_i _ _ _ _ h, st_i _ _ _ _ h]
theorem Chg.setA {ids : List Nat} {N : Nat → Nat → Int} {a : Nat} {m : Rc} (hi : a ∈ ids) : Chg ids N (Dn.setA N a m) :=
 (((Chg.st hi (by omega)).trans (Chg.st hi (by omega))).trans (Chg.st hi (by omega))).trans (Chg.st hi (by omega))
end
section
variable (D : Int → Int → Int)
def pl0 (N : Nat → Nat → Int) (a : Nat) : Nat → Nat → Int := setA (st N a 4 1) a (ownR N a)
def pullL (N : Nat → Nat → Int) (a l : Nat) : Nat → Nat → Int :=
 if l = 0 then N else st (setA (st N a 4 (IntKind.i64.wrap (N a 4 + N l 4))) a (plR D (allR N l) (allR N a))) l 2 a
def pullR (N : Nat → Nat → Int) (a x : Nat) : Nat → Nat → Int :=
 if x = 0 then N else st (setA (st N a 4 (IntKind.i64.wrap (N a 4 + N x 4))) a (plR D (allR N a) (allR N x))) x 2 a
def pullF (N : Nat → Nat → Int) (a l x : Nat) : Nat → Nat → Int := pullR D (pullL D (pl0 N a) a l) a x
end
section
variable {D : Int → Int → Int}
theorem allR_st {N : Nat → Nat → Int} {i j a : Nat} {v : Int} (h : j < 9) : allR (st N i j v) a = allR N a := allR_congr fun k hk => st_j _ _ _ _ (by omega)
theorem allR_setA {N : Nat → Nat → Int} {a b : Nat} {m : Rc} (h : b ≠ a) : allR (setA N a m) b = allR N b := allR_congr fun k hk => setA_i h
theorem pull_tree {N : Nat → Nat → Int} {n a : Nat} {tl tr : Tp} (hn : n ≤ 65537) (ha : 0 < a ∧ a < n) (hl : OkT D N n tl) (hr : OkT D N n tr) (nd : (tl.ids ++ a :: tr.ids).Nodup) (h0 : N a 0 = (tl.root : Int)) (h1 : N a 1 = (tr.root : Int)) (hv : ownR N a = oneR (N a 6)) (h4 : M4 D (vx N (tl.ids ++ a :: tr.ids))) :
  OkT D (pullF D N a tl.root tr.root) n (.node tl a tr) ∧ Chg (tl.ids ++ a :: tr.ids) N (pullF D N a tl.root tr.root) ∧ pullF D N a tl.root tr.root a 2 = N a 2 := by
 have nd' := nd
 have hlen : (tl.ids ++ a :: tr.ids).length ≤ n := nodup_le _ _ nd fun i hi => by
  simp only [List.mem_append, List.mem_cons] at hi
  rcases hi with hi | rfl | hi
  ·exact (hl.lt i hi).2
  ·exact ha.2
  ·exact (hr.lt i hi).2
 simp only [List.length_append, List.length_cons] at hlen
 simp only [List.nodup_append, List.nodup_cons, List.mem_cons] at nd
 obtain ⟨ndl, ⟨har, ndr⟩, hd⟩ := nd
 have hal : a ∉ tl.ids := fun h => hd a h a (.inl rfl) rfl
 have ma : a ∈ tl.ids ++ a :: tr.ids := by simp
 have c0 : Chg (tl.ids ++ a :: tr.ids) N (pl0 N a) := (Chg.st ma (by omega)).trans (Chg.setA ma)
 have cL : Chg (tl.ids ++ a :: tr.ids) (pl0 N a) (pullL D (pl0 N a) a tl.root) := by
  unfold pullL
  split
  ·exact Chg.refl _ _
  ·rename_i h
   exact ((Chg.st ma (by omega)).trans (Chg.setA ma)).trans (Chg.st (by simp [Tp.root_mem h]) (by omega))
 have cR : Chg (tl.ids ++ a :: tr.ids) (pullL D (pl0 N a) a tl.root) (pullF D N a tl.root tr.root) := by
  unfold pullF pullR
  split
  ·exact Chg.refl _ _
  ·rename_i h
   exact ((Chg.st ma (by omega)).trans (Chg.setA ma)).trans (Chg.st (by simp [Tp.root_mem h]) (by omega))
 have cF := (c0.trans cL).trans cR
 have la : tl.root ≠ 0 → tl.root ≠ a := fun h e => hal (e ▸ Tp.root_mem h)
 have ra : tr.root ≠ 0 → tr.root ≠ a := fun h e => har (e ▸ Tp.root_mem h)
 have lr : tl.root ≠ 0 → tr.root ≠ 0 → tr.root ≠ tl.root := fun h h' e => hd _ (Tp.root_mem h) _ (.inr (Tp.root_mem h')) e.symm
 have aj : ∀ i, i ≠ a → ∀ j, (j ≠ 2 ∨ (i ≠ tl.root ∧ i ≠ tr.root)) → pullF D N a tl.root tr.root i j = N i j := by
  intro i hi j hj
  have q : ∀ (M : Nat → Nat → Int) (k : Nat) (v : Int), (j ≠ 2 ∨ i ≠ k) → st M k 2 v i j = M i j := fun M k v h => by
   unfold st; rw [if_neg]; rintro ⟨e1, e2⟩; rcases h with h | h; exact h e2; exact h e1
  have e1 : pl0 N a i j = N i j := by unfold pl0; rw [setA_i hi, st_i _ _ _ _ hi]
  have e2 : pullL D (pl0 N a) a tl.root i j = N i j := by
   unfold pullL
   split
   ·exact e1
   ·rw [q _ _ _ (by rcases hj with h | h; exact .inl h; exact .inr h.1), setA_i hi, st_i _ _ _ _ hi, e1]
  unfold pullF pullR
  split
  ·exact e2
  ·rw [q _ _ _ (by rcases hj with h | h; exact .inl h; exact .inr h.2), setA_i hi, st_i _ _ _ _ hi, e2]
 have a01 : ∀ j, j = 0 ∨ j = 1 ∨ j = 2 → pullF D N a tl.root tr.root a j = N a j := by
  intro j hj
  have q : ∀ (M : Nat → Nat → Int) (k : Nat) (v : Int), k ≠ a → st M k 2 v a j = M a j := fun M k v h => st_i _ _ _ _ (fun e => h e.symm)
  have e1 : pl0 N a a j = N a j := by unfold pl0; rw [setA_j (by omega), st_j _ _ _ _ (by omega)]
  have e2 : pullL D (pl0 N a) a tl.root a j = N a j := by
   unfold pullL
   split
   ·exact e1
   ·rename_i h
    rw [q _ _ _ (la h), setA_j (by omega), st_j _ _ _ _ (by omega), e1]
  unfold pullF pullR
  split
  ·exact e2
  ·rename_i h
   rw [q _ _ _ (ra h), setA_j (by omega), st_j _ _ _ _ (by omega), e2]
 have okl : OkT D (pullF D N a tl.root tr.root) n tl := hl.congr (Nat.le_refl _) ndl fun i hi j _ hj => aj i (fun e => hal (e ▸ hi)) j (by
  rcases hj with hj | hj
  ·exact .inl hj
  ·refine .inr ⟨hj, fun e => ?_⟩
   by_cases h : tr.root = 0
   ·have := (hl.lt i hi).1; omega
   ·exact hd i hi tr.root (.inr (Tp.root_mem h)) e)
 have okr : OkT D (pullF D N a tl.root tr.root) n tr := hr.congr (Nat.le_refl _) ndr fun i hi j _ hj => aj i (fun e => har (e ▸ hi)) j (by
  rcases hj with hj | hj
  ·exact .inl hj
  ·refine .inr ⟨fun e => ?_, hj⟩
   by_cases h : tl.root = 0
   ·have := (hr.lt i hi).1; omega
   ·exact hd tl.root (Tp.root_mem h) i (.inr hi) e.symm)
 have nl : tl.root = 0 → tl.ids = [] := fun h => by rw [hl.root_pos.1 h]; rfl
 have nr : tr.root = 0 → tr.ids = [] := fun h => by rw [hr.root_pos.1 h]; rfl
 have z0 : pl0 N a a 4 = 1 := by unfold pl0; rw [setA_j (by omega), st_same]
 have zL : pullL D (pl0 N a) a tl.root a 4 = ((tl.ids.length + 1 : Nat) : Int) := by
  unfold pullL
  split
  ·rename_i h; rw [z0, nl h]; rfl
  ·rename_i h
   rw [st_j _ _ _ _ (by omega), setA_j (by omega), st_same, z0, c0eq la h, hl.sz h, w64_in (by omega)]
   omega
 have zF : pullF D N a tl.root tr.root a 4 = ((tl.ids.length + 1 + tr.ids.length : Nat) : Int) := by
  unfold pullF pullR
  split
  ·rename_i h; rw [zL, nr h]; rfl
  ·rename_i h
   have : pullL D (pl0 N a) a tl.root tr.root 4 = N tr.root 4 := by
    unfold pullL
    split
    ·exact c0eq ra h
    ·rw [st_j _ _ _ _ (by omega), setA_i (ra h), st_i _ _ _ _ (ra h)]; exact c0eq ra h
   rw [st_j _ _ _ _ (by omega), setA_j (by omega), st_same, zL, this, hr.sz h, w64_in (by omega)]
   omega
 have e3 : vx N (tl.ids ++ a :: tr.ids) = (vx N tl.ids ++ vx N [a]) ++ vx N tr.ids := by
  unfold vx
  rw [show tl.ids ++ a :: tr.ids = (tl.ids ++ [a]) ++ tr.ids by simp, vxs_app, vxs_app]
 rw [e3] at h4
 have f0 : Fa D (vx N [a]) (allR (pl0 N a) a) := by
  unfold pl0
  rw [setA_at, hv]
  refine Fa.own (V := fun i => N i 6) fun hne => h4.z _ (List.mem_append_left _ (List.mem_append_right _ ?_))
  unfold vx
  rw [vxs_one, if_neg hne]; simp
 have fL : Fa D (vx N tl.ids ++ vx N [a]) (allR (pullL D (pl0 N a) a tl.root) a) := by
  unfold pullL
  split
  ·rename_i h; rw [nl h]; exact f0
  ·rename_i h
   rw [allR_st (by omega), setA_at]
   have : allR (pl0 N a) tl.root = allR N tl.root := by unfold pl0; rw [allR_setA (la h), allR_st (by omega)]
   rw [this]
   exact (hl.all h).plus f0 (h4.mono fun x hx => List.mem_append_left _ hx)
 have fF : Fa D ((vx N tl.ids ++ vx N [a]) ++ vx N tr.ids) (allR (pullF D N a tl.root tr.root) a) := by
  unfold pullF pullR
  split
  ·rename_i h; rw [nr h]; show Fa D (_ ++ []) _; rw [List.append_nil]; exact fL
  ·rename_i h
   rw [allR_st (by omega), setA_at]
   have : allR (pullL D (pl0 N a) a tl.root) tr.root = allR N tr.root := by
    have e0 : allR (pl0 N a) tr.root = allR N tr.root := by unfold pl0; rw [allR_setA (ra h), allR_st (by omega)]
    unfold pullL
    split
    ·exact e0
    ·rw [allR_st (by omega), allR_setA (ra h), allR_st (by omega), e0]
   rw [this]
   exact fL.plus (hr.all h) h4
 refine ⟨⟨ha.1, ha.2, by rw [a01 0 (.inl rfl)]; exact h0, by rw [a01 1 (.inr (.inl rfl))]; exact h1, zF, ?_, ?_, ?_, okl, okr⟩, cF, a01 2 (.inr (.inr rfl))⟩
 ·rw [cF.vx, e3]; exact fF
 ·intro e1
  have eL : pullL D (pl0 N a) a tl.root tl.root 2 = (a : Int) := by unfold pullL; rw [if_neg e1, st_same]
  unfold pullF pullR
  split
  ·exact eL
  ·rename_i h
   rw [st_i _ _ _ _ (fun e => lr e1 h e.symm), setA_i (la e1), st_i _ _ _ _ (la e1), eL]
 ·intro e2
  unfold pullF pullR
  rw [if_neg e2, st_same]
where c0eq {N : Nat → Nat → Int} {a x : Nat} (h : x ≠ 0 → x ≠ a) (hx : x ≠ 0) : pl0 N a x 4 = N x 4 := by unfold pl0; rw [setA_i (h hx), st_i _ _ _ _ (h hx)]
end
end Go.Dn
namespace Go.Dn
open Go.RowKit
open Go.ChangeMaps (setBlock heap_setBlock_same heap_setBlock_other)
theorem sb_same {w : World} {b : Nat} {o o' : Obj} (h : w.heap[b]? = some o) : (setBlock w b o').heap[b]? = some o' := by
 have := (Array.getElem?_eq_some_iff.1 h).1
 simp [setBlock, this]
theorem sb_other {w : World} {b i : Nat} {o' : Obj} (h : i ≠ b) : (setBlock w b o').heap[i]? = w.heap[i]? := by
 unfold setBlock
 simp only
 rw [Array.getElem?_setIfInBounds_ne (Ne.symm h)]
theorem pw_mem {α : Type} {R : α → α → Prop} : ∀ {l : List α}, l.Pairwise R → ∀ {a b : α}, a ∈ l → b ∈ l → a = b ∨ R a b ∨ R b a
 | [], _, _, _, h, _ => by cases h
 | x :: l, hp, a, b, ha, hb => by
  obtain ⟨h1, h2⟩ := List.pairwise_cons.1 hp
  rcases List.mem_cons.1 ha with ea | ha <;> rcases List.mem_cons.1 hb with eb | hb
  ·exact .inl (ea.trans eb.symm)
  ·exact .inr (.inl (ea ▸ h1 _ hb))
  ·exact .inr (.inr (eb ▸ h1 _ ha))
  ·exact pw_mem h2 ha hb
section
variable {κ β : Type} [DecidableEq κ]
def lk (m : List (κ × β)) (x : κ) : Option β := match m with
 | [] => none
 | p :: r => if p.1 = x then some p.2 else lk r x
def hasK (m : List (κ × β)) (x : κ) : Bool := m.any fun p => decide (p.1 = x)
def putK (m : List (κ × β)) (x : κ) (v : β) : List (κ × β) := if hasK m x then m.map (fun p => if p.1 = x then (x, v) else p) else m ++ [(x, v)]
def delK (m : List (κ × β)) (x : κ) : List (κ × β) := m.filter fun p => !decide (p.1 = x)
def NdK (m : List (κ × β)) : Prop := (m.map (·.1)).Nodup
theorem hasK_iff {m : List (κ × β)} {x : κ} : hasK m x = true ↔ ∃ v, (x, v) ∈ m := by
 unfold hasK
 rw [List.any_eq_true]
 constructor
 ·rintro ⟨⟨y, v⟩, hp, e⟩
  simp only [decide_eq_true_eq] at e
  subst e; exact ⟨v, hp⟩
 ·rintro ⟨v, h⟩; exact ⟨_, h, by simp⟩
theorem lk_none {m : List (κ × β)} {x : κ} (h : ∀ p ∈ m, p.1 ≠ x) : lk m x = none := by
 induction m with
 | nil => rfl
 | cons p r ih => rw [lk, if_neg (h p (by simp))]; exact ih fun q hq => h q (by simp [hq])
theorem lk_mem {m : List (κ × β)} (nd : NdK m) {x : κ} {v : β} (h : (x, v) ∈ m) : lk m x = some v := by
 induction m with
 | nil => cases h
 | cons p r ih =>
  unfold NdK at nd
  rw [List.map_cons, List.nodup_cons] at nd
  rcases List.mem_cons.1 h with e | h
  ·subst e; rw [lk, if_pos rfl]
  ·rw [lk, if_neg fun e => nd.1 (by rw [e]; exact List.mem_map.2 ⟨_, h, rfl⟩)]
   exact ih nd.2 h
theorem lk_some {m : List (κ × β)} {x : κ} {v : β} (h : lk m x = some v) : (x, v) ∈ m := by
 induction m with
 | nil => cases h
 | cons p r ih =>
  rw [lk] at h
  split at h
  ·rename_i e
   injection h with h; subst h; subst e; simp
  ·exact List.mem_cons_of_mem _ (ih h)
theorem lk_none_iff {m : List (κ × β)} {x : κ} : lk m x = none ↔ ∀ p ∈ m, p.1 ≠ x := by
 refine ⟨fun h p hp e => ?_, lk_none⟩
 induction m with
 | nil => cases hp
 | cons q r ih =>
  rw [lk] at h
  split at h
  ·cases h
  ·rename_i hq
   rcases List.mem_cons.1 hp with e' | hp
   ·subst e'; exact hq e
   ·exact ih h hp
theorem lk_putK {m : List (κ × β)} {x : κ} {v : β} (y : κ) : lk (putK m x v) y = if x = y then some v else lk m y := by
 unfold putK
 split
 ·rename_i hh
  obtain ⟨u, h⟩ := hasK_iff.1 hh
  clear hh
  induction m generalizing u with
  | nil => cases h
  | cons p r ih =>
   rw [List.map_cons]
   by_cases e : p.1 = x
   ·rw [if_pos e, lk]
    by_cases e2 : x = y
    ·rw [if_pos e2, if_pos e2]
    ·rw [if_neg e2, if_neg e2, lk, if_neg (fun e3 => e2 (e ▸ e3))]
     by_cases hr : ∃ u, (x, u) ∈ r
     ·obtain ⟨u', hr⟩ := hr
      have := ih u' hr
      rw [if_neg e2] at this; exact this
     ·have : r.map (fun p => if p.1 = x then (x, v) else p) = r := by
       refine (List.map_congr_left fun q hq => ?_).trans (List.map_id _)
       rw [if_neg fun e4 => hr ⟨q.2, by rw [← e4]; exact hq⟩]; rfl
      rw [this]
   ·rw [if_neg e, lk, lk]
    have hr : (x, u) ∈ r := by
     rcases List.mem_cons.1 h with e2 | h
     ·exact absurd (congrArg Prod.fst e2).symm e
     ·exact h
    by_cases e2 : p.1 = y
    ·rw [if_pos e2, if_pos e2, if_neg (fun e3 => e (e2.trans e3.symm))]
    ·rw [if_neg e2, if_neg e2]; exact ih u hr
 ·rename_i h
  have hn : ∀ p ∈ m, p.1 ≠ x := fun p hp e => h (hasK_iff.2 ⟨p.2, by rw [← e]; exact hp⟩)
  clear h
  induction m with
  | nil => rfl
  | cons p r ih =>
   rw [List.cons_append, lk, lk]
   by_cases e2 : p.1 = y
   ·rw [if_pos e2, if_pos e2, if_neg fun e3 => hn p (by simp) (e2.trans e3.symm)]
   ·rw [if_neg e2, if_neg e2]; exact ih fun q hq => hn q (by simp [hq])
theorem lk_delK {m : List (κ × β)} {x : κ} (y : κ) : lk (delK m x) y = if x = y then none else lk m y := by
 unfold delK
 induction m with
 | nil => simp [lk]
 | cons p r ih =>
  by_cases e : p.1 = x
  ·rw [List.filter_cons_of_neg (by simp [e]), ih, lk]
   by_cases e2 : x = y
   ·rw [if_pos e2, if_pos e2]
   ·rw [if_neg e2, if_neg e2, if_neg fun e3 => e2 (e ▸ e3)]
  ·rw [List.filter_cons_of_pos (by simp [e]), lk, lk, ih]
   by_cases e2 : p.1 = y
   ·rw [if_pos e2, if_pos e2, if_neg fun e3 => e (e2.trans e3.symm)]
   ·rw [if_neg e2, if_neg e2]
theorem keys_putK {m : List (κ × β)} {x : κ} {v : β} : (putK m x v).map (·.1) = if hasK m x then m.map (·.1) else m.map (·.1) ++ [x] := by
 unfold putK
 split
 ·rw [List.map_map]
  refine List.map_congr_left fun p hp => ?_
  show (if p.1 = x then (x, v) else p).1 = p.1
  split
  ·rename_i e; exact e.symm
  ·rfl
 ·rw [List.map_append]; rfl
theorem NdK.put {m : List (κ × β)} (nd : NdK m) (x : κ) (v : β) : NdK (putK m x v) := by
 unfold NdK
 rw [keys_putK]
 split
 ·exact nd
 ·rename_i h
  refine List.nodup_append.2 ⟨nd, by simp, fun a ha b hb e => h ?_⟩
  obtain ⟨p, hp, rfl⟩ := List.mem_map.1 ha
  have : b = x := by simpa using hb
  exact hasK_iff.2 ⟨p.2, by rw [← this, ← e]; exact hp⟩
theorem NdK.del {m : List (κ × β)} (nd : NdK m) (x : κ) : NdK (delK m x) := by
 unfold NdK delK
 exact nd.sublist (List.filter_sublist.map _)
theorem length_putK {m : List (κ × β)} {x : κ} {v : β} : (putK m x v).length = if hasK m x then m.length else m.length + 1 := by
 have := congrArg List.length (keys_putK (m := m) (x := x) (v := v))
 rw [List.length_map] at this
 rw [this]
 split <;> simp
theorem set_putK {m : List (κ × β)} (nd : NdK m) {j : Nat} {x : κ} {u v : β} (h : m[j]? = some (x, u)) : m.set j (x, v) = putK m x v := by
 unfold putK
 rw [if_pos (hasK_iff.2 ⟨u, List.mem_of_getElem? h⟩)]
 induction m generalizing j with
 | nil => cases h
 | cons p r ih =>
  unfold NdK at nd
  rw [List.map_cons, List.nodup_cons] at nd
  cases j with
  | zero =>
   simp only [List.getElem?_cons_zero, Option.some.injEq] at h
   subst h
   rw [List.set_cons_zero, List.map_cons, if_pos rfl]
   congr 1
   refine ((List.map_congr_left fun q hq => ?_).trans (List.map_id _)).symm
   rw [if_neg fun e => nd.1 (List.mem_map.2 ⟨q, hq, e⟩)]; rfl
  | succ j =>
   simp only [List.getElem?_cons_succ] at h
   have hne : p.1 ≠ x := fun e => nd.1 (by rw [e]; exact List.mem_map.2 ⟨_, List.mem_of_getElem? h, rfl⟩)
   rw [List.set_cons_succ, List.map_cons, if_neg hne, ih nd.2 h]
theorem erase_delK {m : List (κ × β)} (nd : NdK m) {j : Nat} {x : κ} {u : β} (h : m[j]? = some (x, u)) : m.eraseIdx j = delK m x := by
 unfold delK
 induction m generalizing j with
 | nil => cases h
 | cons p r ih =>
  unfold NdK at nd
  rw [List.map_cons, List.nodup_cons] at nd
  cases j with
  | zero =>
   simp only [List.getElem?_cons_zero, Option.some.injEq] at h
   subst h
   rw [List.eraseIdx_cons_zero, List.filter_cons_of_neg (by simp)]
   refine (List.filter_eq_self.2 fun q hq => ?_).symm
   have : q.1 ≠ x := fun e => nd.1 (List.mem_map.2 ⟨q, hq, e⟩)
   simp [this]
  | succ j =>
   simp only [List.getElem?_cons_succ] at h
   have hne : p.1 ≠ x := fun e => nd.1 (by rw [e]; exact List.mem_map.2 ⟨_, List.mem_of_getElem? h, rfl⟩)
   rw [List.eraseIdx_cons_succ, List.filter_cons_of_pos (by simp [hne]), ih nd.2 h]
theorem delK_none {m : List (κ × β)} {x : κ} (h : ∀ p ∈ m, p.1 ≠ x) : delK m x = m := List.filter_eq_self.2 fun p hp => by simp [h p hp]
structure KT (P : Program) (t k e : TypeId) (eK : κ → Value) (okK : κ → Prop) : Prop where
 und : P.underlying t = some (.map k e)
 kd : Maps.Keyed P k
 key : ∀ x, okK x → ∃ l, keyOf P k (eK x) = some l
 inj : ∀ x y, eK x = eK y → x = y
structure GM (w : World) (eK : κ → Value) (eV : β → Value) (okK : κ → Prop) (b : Nat) (m : List (κ × β)) : Prop where
 ok : ∀ p ∈ m, okK p.1
 nd : NdK m
 dat : ∃ es clock, w.heap[b]? = some (.map es clock) ∧ MapKept.Stamped es clock ∧ es.toList.map (fun e => (e.key, e.val)) = m.map fun p => (eK p.1, eV p.2)
variable {P : Program} {t k e : TypeId} {eK : κ → Value} {eV : β → Value} {okK : κ → Prop} {w : World} {b : Nat} {m : List (κ × β)}
theorem GM.new (w : World) : GM (w.alloc (.map #[] 0)) eK eV okK w.heap.size [] :=
 ⟨by simp, by simp [NdK], #[], 0, (MapKept.heap_alloc w _).1, MapKept.stamped_empty 0, rfl⟩
theorem GM.lt (h : GM w eK eV okK b m) : b < w.heap.size := by
 obtain ⟨es, clock, hb, _⟩ := h.dat
 exact (Array.getElem?_eq_some_iff.1 hb).1
theorem GM.keeps {S : Nat → Prop} {w' : World} (h : GM w eK eV okK b m) (hk : Keeps S w w') (hb : ¬ S b) : GM w' eK eV okK b m := by
 have hlt := h.lt
 obtain ⟨es, clock, hh, r⟩ := h.dat
 exact ⟨h.ok, h.nd, es, clock, (hk.block b hlt hb).trans hh, r⟩
theorem GM.below {w' : World} (h : GM w eK eV okK b m) (hb : Below w.heap.size w w') : GM w' eK eV okK b m := h.keeps (S := fun _ => False) (.of_below hb) id
theorem at_pair {es : List MapEntry} (he : es.map (fun e => (e.key, e.val)) = m.map fun p => (eK p.1, eV p.2)) {j : Nat} {e0 : MapEntry} (hj : es[j]? = some e0) : ∃ x v, m[j]? = some (x, v) ∧ e0.key = eK x ∧ e0.val = eV v := by
 have h := congrArg (·[j]?) he
 simp only [List.getElem?_map, hj, Option.map_some] at h
 cases hm : m[j]? with
 | none => rw [hm] at h; cases h
 | some p =>
  rw [hm] at h
  simp only [Option.map_some, Option.some.injEq, Prod.mk.injEq] at h
  exact ⟨p.1, p.2, rfl, h.1, h.2⟩
theorem keys_ok (T : KT P t k e eK okK) (ok : ∀ p ∈ m, okK p.1) {es : List MapEntry} (he : es.map (fun e => (e.key, e.val)) = m.map fun p => (eK p.1, eV p.2)) : ∀ x ∈ es, ∃ l, keyOf P k x.key = some l := fun x hx => by
 obtain ⟨j, hj, rfl⟩ := List.getElem_of_mem hx
 obtain ⟨y, v, hm, hk, _⟩ := at_pair he (List.getElem?_eq_getElem hj)
 rw [hk]; exact T.key y (ok _ (List.mem_of_getElem? hm))
theorem GM.run_look (T : KT P t k e eK okK) (h : GM w eK eV okK b m) (c : Bool) {x : κ} (hx : okK x) {z : Value} (hz : (zeroValue e).run P w = .ok z w) :
  (Instr.lookup t (.map (some b)) (eK x) c).run P w = .ok (match lk m x with | some v => if c then .tuple #[eV v, .bool true] else eV v | none => if c then .tuple #[z, .bool false] else z) w := by
 obtain ⟨es, clock, hb, hst, he⟩ := h.dat
 obtain ⟨l, hl⟩ := T.key x hx
 rcases T.kd.find w hl es.toList (keys_ok T h.ok he) with ⟨h1, h2⟩ | ⟨j, e0, h1, h2, h3⟩
 ·have : lk m x = none := lk_none fun p hp e' => by
   obtain ⟨j, hj, rfl⟩ := List.getElem_of_mem hp
   have hlen := congrArg List.length he
   simp only [List.length_map] at hlen
   have hj' : j < es.toList.length := by omega
   obtain ⟨y, v, hm, hk, _⟩ := at_pair he (List.getElem?_eq_getElem hj')
   rw [List.getElem?_eq_getElem hj] at hm
   injection hm with hm
   refine h2 _ (List.getElem_mem hj') ?_
   rw [hk, ← e', hm]
  rw [this]
  simp [Instr.lookup, run_underlying T.und, MapKept.run_getObj_map hb, T.kd.check w _ hl, h1, hz, Result.andThen]
 ·obtain ⟨y, v, hm, hk, hv⟩ := at_pair he h2
  have hy : y = x := T.inj _ _ (hk.symm.trans h3)
  subst hy
  rw [lk_mem h.nd (List.mem_of_getElem? hm)]
  simp [Instr.lookup, run_underlying T.und, MapKept.run_getObj_map hb, T.kd.check w _ hl, h1, hv, Result.andThen]
theorem GM.look (T : KT P t k e eK okK) (h : GM w eK eV okK b m) {x : κ} (hx : okK x) {z : Value} (hz : (zeroValue e).run P w = .ok z w) {K : Value → World → Prop}
  (hk : K (match lk m x with | some v => eV v | none => z) w) : Runs P (Instr.lookup t (.map (some b)) (eK x) false) w K := by
 refine runs_of (h.run_look T false hx hz) ?_
 cases hq : lk m x <;> rw [hq] at hk <;> exact hk
theorem GM.look2 (T : KT P t k e eK okK) (h : GM w eK eV okK b m) {x : κ} (hx : okK x) {z : Value} (hz : (zeroValue e).run P w = .ok z w) {K : Value → World → Prop}
  (hk : K (match lk m x with | some v => .tuple #[eV v, .bool true] | none => .tuple #[z, .bool false]) w) : Runs P (Instr.lookup t (.map (some b)) (eK x) true) w K := by
 refine runs_of (h.run_look T true hx hz) ?_
 cases hq : lk m x <;> rw [hq] at hk <;> exact hk
theorem GM.len (T : KT P t k e eK okK) (h : GM w eK eV okK b m) {ty : TypeId} {K : Value → World → Prop} (hk : K (.int .i64 (m.length : Int)) w) :
  Runs P (Builtin.len_ #[t] ty #[.map (some b)]) w K := by
 obtain ⟨es, clock, hb, hst, he⟩ := h.dat
 have hlen := congrArg List.length he
 simp only [List.length_map, Array.length_toList] at hlen
 refine runs_of (w' := w) (a := .int .i64 (m.length : Int)) ?_ hk
 rw [← hlen]
 simp [Builtin.len_, run_underlying T.und, MapKept.run_getObj_map hb, goInt, Result.andThen]
theorem keeps_setBlock {w : World} {b : Nat} {o o' : Obj} (hb : w.heap[b]? = some o) : Keeps (fun k => k = b) w (setBlock w b o') :=
 ⟨rfl, rfl, rfl, by simp [setBlock], fun i _ hi => sb_other hi⟩
theorem GM.upd (T : KT P t k e eK okK) (h : GM w eK eV okK b m) {x : κ} (hx : okK x) {v : β} {K : Unit → World → Prop}
  (hk : ∀ w', GM w' eK eV okK b (putK m x v) → Keeps (fun k => k = b) w w' → K () w') : Runs P (Instr.mapUpdate t (.map (some b)) (eK x) (eV v)) w K := by
 obtain ⟨es, clock, hb, hst, he⟩ := h.dat
 obtain ⟨l, hl⟩ := T.key x hx
 have ok' : ∀ p ∈ putK m x v, okK p.1 := fun p hp => by
  have : p.1 ∈ (putK m x v).map (·.1) := List.mem_map_of_mem hp
  rw [keys_putK] at this
  have h1 : ∀ y ∈ m.map (·.1), okK y := fun y hy => by
   obtain ⟨q, hq, rfl⟩ := List.mem_map.1 hy
   exact h.ok q hq
  split at this
  ·exact h1 _ this
  ·rcases List.mem_append.1 this with h2 | h2
   ·exact h1 _ h2
   ·have : p.1 = x := by simpa using h2
    rw [this]; exact hx
 rcases T.kd.find w hl es.toList (keys_ok T h.ok he) with ⟨h1, h2⟩ | ⟨j, e0, h1, h2, h3⟩
 ·have hno : hasK m x = false := by
   rw [Bool.eq_false_iff]
   intro hh
   obtain ⟨u, hu⟩ := hasK_iff.1 hh
   obtain ⟨j, hj, hju⟩ := List.getElem_of_mem hu
   have hlen := congrArg List.length he
   simp only [List.length_map] at hlen
   have hj' : j < es.toList.length := by omega
   obtain ⟨y, v, hm, hk, _⟩ := at_pair he (List.getElem?_eq_getElem hj')
   rw [List.getElem?_eq_getElem hj, hju] at hm
   injection hm with hm
   injection hm with hm1 hm2
   exact h2 _ (List.getElem_mem hj') (by rw [hk, hm1])
  refine runs_of (a := ()) (w' := setBlock w b (.map (es.push ⟨eK x, eV v, clock⟩) (clock + 1))) ?_ (hk _ ⟨ok', h.nd.put x v, _, _, sb_same hb, MapKept.stamped_push hst h2, ?_⟩ (keeps_setBlock hb))
  ·simp [Instr.mapUpdate, run_underlying T.und, MapKept.run_getObj_map hb, T.kd.check w false hl, h1, MapKept.run_setObj_map _ hb, Result.andThen, setBlock]
  ·unfold putK
   rw [hno]
   simp [he]
 ·obtain ⟨y, u, hm, hky, hv⟩ := at_pair he h2
  have hy : y = x := T.inj _ _ (hky.symm.trans h3)
  subst hy
  have hj : es[j]? = some e0 := by simpa using h2
  have hkeyf : ∀ e' ∈ es.toList, es[j]? = some e' → ({ e' with key := eK y, val := eV v } : MapEntry).key = e'.key := fun e' _ he' => by rw [hj] at he'; cases he'; exact h3.symm
  refine runs_of (a := ()) (w' := setBlock w b (.map (es.modify j (fun e' => { e' with key := eK y, val := eV v })) clock)) ?_ (hk _ ⟨ok', h.nd.put y v, _, _, sb_same hb, MapKept.stamped_modify hst _ _ (fun _ _ => rfl) hkeyf, ?_⟩ (keeps_setBlock hb))
  ·simp [Instr.mapUpdate, run_underlying T.und, MapKept.run_getObj_map hb, T.kd.check w false hl, h1, hj, h3, T.kd.stays w hl, MapKept.run_setObj_map _ hb, Result.andThen, setBlock]
  ·rw [← set_putK h.nd hm, Array.toList_modify, ChangeMaps.modify_eq_set _ _ _ _ h2, List.map_set, he, List.map_set]
theorem GM.del (T : KT P t k e eK okK) (h : GM w eK eV okK b m) {x : κ} (hx : okK x) {ty : TypeId} {K : Value → World → Prop}
  (hk : ∀ w', GM w' eK eV okK b (delK m x) → Keeps (fun k => k = b) w w' → K (.tuple #[]) w') : Runs P (Builtin.delete_ #[t, k] ty #[.map (some b), eK x]) w K := by
 obtain ⟨es, clock, hb, hst, he⟩ := h.dat
 obtain ⟨l, hl⟩ := T.key x hx
 have ok' : ∀ p ∈ delK m x, okK p.1 := fun p hp => h.ok p (List.mem_filter.1 hp).1
 rcases T.kd.find w hl es.toList (keys_ok T h.ok he) with ⟨h1, h2⟩ | ⟨j, e0, h1, h2, h3⟩
 ·have hno : ∀ p ∈ m, p.1 ≠ x := fun p hp e' => by
   obtain ⟨j, hj, hju⟩ := List.getElem_of_mem hp
   have hlen := congrArg List.length he
   simp only [List.length_map] at hlen
   have hj' : j < es.toList.length := by omega
   obtain ⟨y, v, hm, hk, _⟩ := at_pair he (List.getElem?_eq_getElem hj')
   rw [List.getElem?_eq_getElem hj, hju] at hm
   injection hm with hm
   exact h2 _ (List.getElem_mem hj') (by rw [hk, ← e', hm])
  refine runs_of (a := .tuple #[]) (w' := setBlock w b (.map es clock)) ?_ (hk _ ⟨ok', h.nd.del x, _, _, sb_same hb, hst, ?_⟩ (keeps_setBlock hb))
  ·simp [Builtin.delete_, run_underlying T.und, MapKept.run_getObj_map hb, T.kd.check w _ hl, h1, MapKept.run_setObj_map _ hb, Result.andThen, setBlock]
  ·rw [delK_none hno, he]
 ·obtain ⟨y, u, hm, hky, hv⟩ := at_pair he h2
  have hy : y = x := T.inj _ _ (hky.symm.trans h3)
  subst hy
  have hjl : j < es.toList.length := (List.getElem?_eq_some_iff.1 h2).1
  have hjs : j < es.size := by simpa using hjl
  have hsub : (es.eraseIdxIfInBounds j).toList = es.toList.eraseIdx j := by
   unfold Array.eraseIdxIfInBounds
   rw [dif_pos hjs]
   simp
  refine runs_of (a := .tuple #[]) (w' := setBlock w b (.map (es.eraseIdxIfInBounds j) clock)) ?_ (hk _ ⟨ok', h.nd.del y, _, _, sb_same hb, MapKept.stamped_erase hst j, ?_⟩ (keeps_setBlock hb))
  ·simp [Builtin.delete_, run_underlying T.und, MapKept.run_getObj_map hb, T.kd.check w _ hl, h1, MapKept.run_setObj_map _ hb, Result.andThen, setBlock]
  ·rw [hsub, ← erase_delK h.nd hm, ChangeMaps.map_eraseIdx, ChangeMaps.map_eraseIdx, he]
structure GI (w : World) (eK : κ → Value) (eV : β → Value) (okK : κ → Prop) (b r : Nat) (m left : List (κ × β)) (cur : Option (κ × β)) : Prop where
 ok : ∀ p ∈ m, okK p.1
 nd : NdK m
 sub : ∀ p ∈ left, p ∈ m
 curL : ∀ p, cur = some p → ∀ q ∈ left, q.1 ≠ p.1
 dat : ∃ (es : Array MapEntry) (clock since : Nat) (seen : Array Nat) (last : Nat), w.heap[b]? = some (.map es clock) ∧ MapKept.Stamped es clock ∧ es.toList.map (fun e => (e.key, e.val)) = m.map (fun p => (eK p.1, eV p.2)) ∧
  w.heap[r]? = some (.mapIter (some b) since seen last) ∧ (∀ x ∈ es.toList, x.born < since) ∧ since ≤ last ∧ since ≤ clock ∧ (leftOf es seen).toList.map (fun e => (e.key, e.val)) = left.map (fun p => (eK p.1, eV p.2)) ∧
  ∀ p, cur = some p → p ∈ m ∧ ∃ e0 ∈ es.toList, e0.key = eK p.1 ∧ e0.val = eV p.2 ∧ (∃ s : Array Nat, seen = s.push e0.born) ∧ last = clock
variable {r : Nat} {left : List (κ × β)} {cur : Option (κ × β)}
theorem GI.gm (h : GI w eK eV okK b r m left cur) : GM w eK eV okK b m := by
 obtain ⟨es, clock, since, seen, last, hb, hst, he, _⟩ := h.dat
 exact ⟨h.ok, h.nd, es, clock, hb, hst, he⟩
theorem GI.lt (h : GI w eK eV okK b r m left cur) : r < w.heap.size := by
 obtain ⟨es, clock, since, seen, last, hb, hst, he, hr, _⟩ := h.dat
 exact (Array.getElem?_eq_some_iff.1 hr).1
theorem GI.keeps {S : Nat → Prop} {w' : World} (h : GI w eK eV okK b r m left cur) (hk : Keeps S w w') (hb : ¬ S b) (hr : ¬ S r) : GI w' eK eV okK b r m left cur := by
 have h1 := h.gm.lt
 have h2 := h.lt
 obtain ⟨es, clock, since, seen, last, hbb, hst, he, hrr, x⟩ := h.dat
 exact ⟨h.ok, h.nd, h.sub, h.curL, es, clock, since, seen, last, (hk.block b h1 hb).trans hbb, hst, he, (hk.block r h2 hr).trans hrr, x⟩
theorem GI.below {w' : World} (h : GI w eK eV okK b r m left cur) (hb : Below w.heap.size w w') : GI w' eK eV okK b r m left cur := h.keeps (S := fun _ => False) (.of_below hb) id id
theorem GM.range (T : KT P t k e eK okK) (h : GM w eK eV okK b m) {K : Value → World → Prop}
  (hk : ∀ w' r, r = w.heap.size → w'.heap.size = r + 1 → GI w' eK eV okK b r m m none → Below w.heap.size w w' → K (.pointer (some ⟨r, 0, none⟩)) w') : Runs P (Instr.range t (.map (some b))) w K := by
 obtain ⟨es, clock, hb, hst, he⟩ := h.dat
 refine runs_of (run_range_map w t k e b es clock T.und hb) (hk _ _ rfl (by simp) ⟨h.ok, h.nd, fun p hp => hp, (fun p hp => by cases hp), es, clock, clock, #[], clock, ?_, hst, he, heap_alloc_new w _, fun x hx => hst.1 x hx, Nat.le_refl _, Nat.le_refl _, ?_, fun p hp => by cases hp⟩ ((Below.refl _ _).alloc (Nat.le_refl _) _))
 ·rw [heap_alloc_old w _ h.lt]; exact hb
 ·have : leftOf es #[] = es := by
   unfold leftOf
   exact Array.filter_eq_self.2 fun x hx => by simp
  rw [this]; exact he
theorem GI.next (h : GI w eK eV okK b r m left cur) {ty : TypeId} {K : Value → World → Prop}
  (h0 : left = [] → K (.tuple #[.bool false]) w)
  (h1 : ∀ x v w', (x, v) ∈ left → GI w' eK eV okK b r m (delK left x) (some (x, v)) → (delK left x).length < left.length → Keeps (fun k => k = r) w w' → w'.heap.size = w.heap.size → K (.tuple #[.bool true, eK x, eV v]) w')
  (inj : ∀ x y, eK x = eK y → x = y) : Runs P (Instr.next (.pointer (some ⟨r, 0, none⟩)) false ty) w K := by
 obtain ⟨es, clock, since, seen, last, hb, hst, he, hr, hold, hsl, hsc, hl, _⟩ := h.dat
 have ndl : NdK left := by
  have hs : ((leftOf es seen).toList.map fun e => (e.key, e.val)).Sublist (es.toList.map fun e => (e.key, e.val)) := by
   unfold leftOf
   rw [Array.toList_filter]
   exact List.filter_sublist.map _
  rw [hl, he] at hs
  have hk1 : (left.map fun p => (eK p.1, eV p.2)).map (·.1) = (left.map (·.1)).map eK := by simp
  have hk2 : (m.map fun p => (eK p.1, eV p.2)).map (·.1) = (m.map (·.1)).map eK := by simp
  have h3 := hs.map (·.1)
  rw [hk1, hk2] at h3
  have h4 : ((m.map (·.1)).map eK).Nodup := by
   have := h.nd
   unfold NdK at this
   exact List.pairwise_map.2 (this.imp fun hne e => hne (inj _ _ e))
  have h5 := h4.sublist h3
  exact (List.pairwise_map.1 h5).imp fun hne e => hne (by rw [e])
 rcases run_next_at (P := P) w ty r b since last seen es clock hr hb hold hsl with ⟨hz, hrun⟩ | ⟨e0, he0, w1, hw1, hrun⟩
 ·refine runs_of hrun (h0 ?_)
  have : (leftOf es seen).toList.length = left.length := by simpa using congrArg List.length hl
  rw [Array.length_toList, hz] at this
  exact List.length_eq_zero_iff.1 this.symm
 ·obtain ⟨j, hj, hje⟩ := List.getElem_of_mem he0
  obtain ⟨x, v, hm, hky, hv⟩ := at_pair hl (List.getElem?_eq_getElem hj)
  rw [hje] at hky hv
  have hmem : (x, v) ∈ left := List.mem_of_getElem? hm
  rw [hky, hv] at hrun
  have hes : e0 ∈ es.toList := by
   unfold leftOf at he0
   rw [Array.toList_filter] at he0
   exact (List.mem_filter.1 he0).1
  have hhr : w1.heap[r]? = some (.mapIter (some b) since seen last) := by rcases hw1 with rfl | rfl <;> exact hr
  have hhb : w1.heap[b]? = some (.map es clock) := by rcases hw1 with rfl | rfl <;> exact hb
  have hbr : b ≠ r := fun e' => by
   subst e'
   have := hhr.symm.trans hhb
   cases this
  have hsz : w1.heap.size = w.heap.size := by rcases hw1 with rfl | rfl <;> rfl
  have k1 : Keeps (fun k => k = r) w w1 := by
   rcases hw1 with rfl | rfl
   ·exact .refl _ _
   ·exact (Keeps.refl _ _).drew
  refine runs_of hrun (h1 x v _ hmem ⟨h.ok, h.nd, fun p hp => h.sub p (List.mem_filter.1 hp).1, ?_, es, clock, since, seen.push e0.born, clock, ?_, hst, he, sb_same hhr, hold, hsc, hsc, ?_, ?_⟩ ?_ (k1.trans (keeps_setBlock hhr)) ?_)
  ·rintro p hp q hq
   injection hp with hp; subst hp
   have := (List.mem_filter.1 hq).2
   simpa using this
  ·rw [sb_other hbr]; exact hhb
  ·have e2 : (leftOf es (seen.push e0.born)).toList = (leftOf es seen).toList.filter (fun y => !decide (y.born = e0.born)) := by
    unfold leftOf
    rw [Array.toList_filter, Array.toList_filter, List.filter_filter]
    refine List.filter_congr fun y hy => ?_
    simp only [Array.contains_push]
    by_cases h5 : y.born = e0.born <;> simp [h5]
   rw [e2]
   have hbn : ∀ y ∈ (leftOf es seen).toList, (y.born = e0.born ↔ y.key = e0.key) := by
    intro y hy
    have hye : y ∈ es.toList := by
     unfold leftOf at hy
     rw [Array.toList_filter] at hy
     exact (List.mem_filter.1 hy).1
    obtain ⟨s1, s2, s3⟩ := (MapKept.stamped_iff es clock).1 hst
    constructor
    ·intro hb'
     by_cases hy0 : y = e0
     ·rw [hy0]
     ·exact absurd hb' (by
       have := List.pairwise_map.1 s2
       exact (pw_mem this hye hes).elim (fun h => absurd h hy0) fun h => h.elim id Ne.symm)
    ·intro hb'
     by_cases hy0 : y = e0
     ·rw [hy0]
     ·exact absurd hb' ((pw_mem s3 hye hes).elim (fun h => absurd h hy0) fun h => h.elim id Ne.symm)
   unfold delK
   have gen : ∀ (L : List MapEntry) (l : List (κ × β)), L.map (fun e => (e.key, e.val)) = l.map (fun p => (eK p.1, eV p.2)) → (∀ y ∈ L, (y.born = e0.born ↔ y.key = e0.key)) →
     (L.filter fun y => !decide (y.born = e0.born)).map (fun e => (e.key, e.val)) = (l.filter fun p => !decide (p.1 = x)).map (fun p => (eK p.1, eV p.2)) := by
    intro L
    induction L with
    | nil => intro l hl _; cases l with | nil => rfl | cons p l => cases hl
    | cons y L ih =>
     intro l hl hL
     cases l with
     | nil => cases hl
     | cons p l =>
      simp only [List.map_cons, List.cons.injEq] at hl
      have h6 := ih l hl.2 fun y hy => hL y (by simp [hy])
      have h7 : y.key = eK p.1 := (Prod.mk.inj hl.1).1
      by_cases h8 : p.1 = x
      ·have : y.born = e0.born := (hL y (by simp)).2 (by rw [h7, h8, hky])
       rw [List.filter_cons_of_neg (by simp [this]), List.filter_cons_of_neg (by simp [h8]), h6]
      ·have : ¬ y.born = e0.born := fun h9 => h8 (inj _ _ (by rw [← h7, (hL y (by simp)).1 h9, hky]))
       rw [List.filter_cons_of_pos (by simp [this]), List.filter_cons_of_pos (by simp [h8]), List.map_cons, List.map_cons, h6, hl.1]
   exact gen _ _ hl hbn
  ·rintro p hp
   injection hp with hp; subst hp
   exact ⟨h.sub _ hmem, e0, hes, hky, hv, ⟨seen, rfl⟩, rfl⟩
  ·have hh : (delK left x).length < left.length := by
    unfold delK
    exact List.length_filter_lt_length_iff_exists.2 ⟨_, hmem, by simp⟩
   exact hh
  ·simp [setBlock, hsz]
theorem GI.entry {x : κ} {v : β} (h : GI w eK eV okK b r m left (some (x, v))) {K : Value → World → Prop} (hk : K (.tuple #[eK x, eV v]) w) : Runs P (Instr.entry (.pointer (some ⟨r, 0, none⟩))) w K := by
 obtain ⟨es, clock, since, seen, last, hb, hst, he, hr, hold, hsl, hsc, hl, hc⟩ := h.dat
 obtain ⟨_, e0, h0, hky, hv, ⟨s, hs⟩, hlast⟩ := hc _ rfl
 subst hs
 rw [hlast] at hr
 have := run_entry_at (P := P) w r b since s es clock e0 hr hb h0 ((MapKept.stamped_iff es clock).1 hst).2.1
 rw [hky, hv] at this
 exact runs_of this hk
theorem GI.del {x : κ} {v : β} (T : KT P t k e eK okK) (h : GI w eK eV okK b r m left (some (x, v))) {ty : TypeId} {K : Value → World → Prop}
  (hk : ∀ w', GI w' eK eV okK b r (delK m x) left none → Keeps (fun k => k = b) w w' → K (.tuple #[]) w') : Runs P (Builtin.delete_ #[t, k] ty #[.map (some b), eK x]) w K := by
 obtain ⟨es, clock, since, seen, last, hb, hst, he, hr, hold, hsl, hsc, hl, hc⟩ := h.dat
 obtain ⟨hm, e0, h0, hky, hv, ⟨s, hs⟩, hlast⟩ := hc _ rfl
 subst hs
 rw [hlast] at hr
 have hx : okK x := h.ok _ hm
 obtain ⟨l, hlx⟩ := T.key x hx
 have hbr : b ≠ r := fun e' => by
  subst e'
  have := hr.symm.trans hb
  cases this
 rcases T.kd.find w hlx es.toList (keys_ok T h.ok he) with ⟨h1, h2⟩ | ⟨j, e1, h1, h2, h3⟩
 ·exact absurd hky (h2 e0 h0)
 ·have hjl : j < es.toList.length := (List.getElem?_eq_some_iff.1 h2).1
  have hjs : j < es.size := by simpa using hjl
  have hsub : (es.eraseIdxIfInBounds j).toList = es.toList.eraseIdx j := by
   unfold Array.eraseIdxIfInBounds
   rw [dif_pos hjs]
   simp
  have s3 := ((MapKept.stamped_iff es clock).1 hst).2.2
  have he01 : e0 = e1 := (pw_mem s3 h0 (List.mem_of_getElem? h2)).elim id fun h => absurd (hky.trans h3.symm) (h.elim id Ne.symm)
  subst he01
  obtain ⟨y, u, hmj, hkyj, hvj⟩ := at_pair he h2
  have hy : y = x := T.inj _ _ (hkyj.symm.trans h3)
  subst hy
  have hleft : (leftOf (es.eraseIdxIfInBounds j) (s.push e0.born)).toList = (leftOf es (s.push e0.born)).toList := by
   unfold leftOf
   rw [Array.toList_filter, Array.toList_filter, hsub, List.eraseIdx_eq_take_drop_succ]
   conv => rhs; rw [← List.take_append_drop j es.toList, List.filter_append, List.drop_eq_getElem_cons hjl]
   rw [List.filter_append]
   congr 1
   have : es.toList[j] = e0 := by rw [List.getElem?_eq_getElem hjl] at h2; injection h2
   rw [this, List.filter_cons_of_neg (by simp)]
  refine runs_of (a := .tuple #[]) (w' := setBlock w b (.map (es.eraseIdxIfInBounds j) clock)) ?_ (hk _ ⟨fun p hp => h.ok p (List.mem_filter.1 hp).1, h.nd.del y, fun p hp => ?_, (fun p hp => by cases hp), es.eraseIdxIfInBounds j, clock, since, s.push e0.born, clock, sb_same hb, MapKept.stamped_erase hst j, ?_, ?_, fun z hz => ?_, hsc, hsc, ?_, fun p hp => by cases hp⟩ (keeps_setBlock hb))
  ·simp [Builtin.delete_, run_underlying T.und, MapKept.run_getObj_map hb, T.kd.check w _ hlx, h1, MapKept.run_setObj_map _ hb, Result.andThen, setBlock]
  ·refine List.mem_filter.2 ⟨h.sub p hp, ?_⟩
   have := h.curL _ rfl p hp
   simpa using this
  ·rw [hsub, ← erase_delK h.nd hmj, ChangeMaps.map_eraseIdx, ChangeMaps.map_eraseIdx, he]
  ·rw [sb_other (Ne.symm hbr)]; exact hr
  ·rw [hsub] at hz
   exact hold z ((List.eraseIdx_sublist _ _).subset hz)
  ·rw [hleft]; exact hl
end
end Go.Dn
namespace Go.Proofs.Ytklnlnjgaadjbaa.Rd
open Go.Dn Go.RowKit
set_option maxRecDepth 100000
theorem hb_ldP0 {w : World} {b : Nat} {cs : Array Value} {t : TypeId} (h : HB w b cs t) {x : Option Addr} (hj : cs[0]? = some (.pointer x)) {K : Option Addr → Prop} (hk : K x) : ldP w (⟨b, 0, none⟩ : Addr) K := ⟨_, (h.cell 0).trans hj, hk⟩
def rcC (F : Nat) (m : Rc) : Array Value := #[.pointer (pF F m.f), .int .i64 m.a, .int .i64 m.b, .int .i64 m.d]
theorem putR4 {w : World} {b : Nat} {cs : Array Value} {t : TypeId} (h : HB w b cs t) (hc : cs.size = 4) {F : Nat} (m : Rc) {K : World → Prop} (hk : ∀ w', HB w' b (rcC F m) t → Keeps (fun k => k = b) w w' → K w') :
  stW w (⟨b, 0, none⟩ : Addr) (.pointer (pF F m.f)) fun w1 => stW w1 ((⟨b, 0, none⟩ : Addr).add 1) (.int .i64 m.a) fun w2 => stW w2 ((⟨b, 0, none⟩ : Addr).add 2) (.int .i64 m.b) fun w3 => stW w3 ((⟨b, 0, none⟩ : Addr).add 3) (.int .i64 m.d) K := by
 refine hb_st0 h (by omega) fun w1 h1 k1 => hb_st (j := 1) h1 (by simp; omega) fun w2 h2 k2 => hb_st (j := 2) h2 (by simp; omega) fun w3 h3 k3 => hb_st (j := 3) h3 (by simp; omega) fun w4 h4 k4 => hk w4 ?_ ((k1.trans k2).trans (k3.trans k4))
 have e : (((cs.setIfInBounds 0 (.pointer (pF F m.f))).setIfInBounds 1 (.int .i64 m.a)).setIfInBounds 2 (.int .i64 m.b)).setIfInBounds 3 (.int .i64 m.d) = rcC F m := by
  obtain ⟨l⟩ := cs
  match l, hc with
  | [_, _, _, _], _ => rfl
 rw [e] at h4
 exact h4
theorem getR4 {w : World} {b : Nat} {t : TypeId} {F : Nat} {m : Rc} (h : HB w b (rcC F m) t) {K : Option Addr → Int → Int → Int → Prop} (hk : K (pF F m.f) m.a m.b m.d) :
  ldP w (⟨b, 0, none⟩ : Addr) fun p => ldI w ((⟨b, 0, none⟩ : Addr).add 1) .i64 fun x => ldI w ((⟨b, 0, none⟩ : Addr).add 2) .i64 fun y => ldI w ((⟨b, 0, none⟩ : Addr).add 3) .i64 fun z => K p x y z :=
 hb_ldP0 h rfl (hb_ldI (j := 1) h rfl (hb_ldI (j := 2) h rfl (hb_ldI (j := 3) h rfl hk)))
structure Sv (D : Int → Int → Int) (F : Nat) where
 S : Nat → Prop
 Z : Nat → Prop
 P : World → Prop
 sub : ∀ k, S k → Z k
 lt : ∀ {w : World}, P w → ∀ k, Z k → k < w.heap.size
 keep : ∀ {w w' : World} {Q : Nat → Prop}, P w → Keeps Q w w' → (∀ k, Q k → ¬ Z k) → P w'
 dist : ∀ {w : World} {u v : Int}, P w → W64 u → W64 v → Calls Try.prog 98 #[.pointer (some ⟨F, 0, none⟩), .int .i64 u, .int .i64 v] w fun e w' => e = .returned (.int .i64 (D u v)) ∧ P w' ∧ Keeps S w w'
structure RcW (m : Rc) : Prop where
 a : W64 m.a
 b : W64 m.b
 f : m.f = 1 ∨ m.a = 0
section
variable {D : Int → Int → Int} {F : Nat}
theorem Sv.below (I : Sv D F) {w w' : World} (h : I.P w) (k : Below w.heap.size w w') : I.P w' := I.keep (Q := fun _ => False) h (.of_below k) fun _ h => h.elim
theorem Sv.new (I : Sv D F) {w : World} (h : I.P w) {b : Nat} (hb : w.heap.size ≤ b) : ¬ I.Z b := fun hz => by have := I.lt h b hz; omega
structure Ap (I : Sv D F) (r : RC) : Prop where
 f : r.F = F
 R : ¬ I.Z r.R
 g : ¬ I.Z r.g
 A : ∀ a, r.As = some a → ¬ I.Z a.block
def Sq (I : Sv D F) (r : RC) (k : Nat) : Prop := Sr r k ∨ I.S k
def Aft0 (r : RC) (w w' : World) (N : Nat → Nat → Int) : Prop := Rp w' r N ∧ Keeps (Sr r) w w'
def AftS (I : Sv D F) (r : RC) (w w' : World) (N : Nat → Nat → Int) : Prop := Rp w' r N ∧ I.P w' ∧ Keeps (Sq I r) w w'
theorem Sv.st (I : Sv D F) {r : RC} (ap : Ap I r) {w w' : World} (h : I.P w) (k : Keeps (Sr r) w w') : I.P w' := I.keep h k fun k hk => by
 rcases hk with rfl | rfl
 ·exact ap.R
 ·exact ap.g
theorem Rp.sv {I : Sv D F} {r : RC} (ap : Ap I r) {w w' : World} {N : Nat → Nat → Int} (h : Rp w r N) (k : Keeps I.S w w') : Rp w' r N :=
 h.keeps k (fun h => ap.R (I.sub _ h)) (fun h => ap.g (I.sub _ h)) fun a ha h => ap.A a ha (I.sub _ h)
theorem plus_l2s {I : Sv D F} {w : World} {b2 b5 bA : Nat} {m c : Rc} {t2 t5 tA : TypeId} {x0 x1 : Int} (hm : m.f = 1) {u : Int} (hu : W64 u) (hx : W64 x0 ∧ W64 x1) (hP : I.P w) (h2 : HB w b2 (rcC F m) t2) (h5 : HB w b5 (rcC F c) t5) (hA : HB w bA #[.int .i64 x0, .int .i64 x1] tA) (n2 : ¬ I.Z b2) (n5 : ¬ I.Z b5) (nA : ¬ I.Z bA) (d2 : b2 ≠ b5) (dA : bA ≠ b5) {i : Nat} {v : Int} (hi : i < 2) (hv : (#[.int .i64 x0, .int .i64 x1] : Array Value)[i]? = some (.int .i64 v)) {k : Nat} {K3 : World → Prop}
  (hK : ∀ w', I.P w' → HB w' b2 (rcC F m) t2 → HB w' b5 (rcC F (bst D m.f u v c)) t5 → HB w' bA #[.int .i64 x0, .int .i64 x1] tA → Keeps (fun k => I.S k ∨ k = b5) w w' → f_span_reach_Plus.l2 k ⟨b2, 0, none⟩ ⟨b5, 0, none⟩ u (some ⟨bA, 0, none⟩) 2 2 ((2 : Nat) : Int) ((i + 1 : Nat) : Int) w' K3) :
  f_span_reach_Plus.l2 (k + 1) ⟨b2, 0, none⟩ ⟨b5, 0, none⟩ u (some ⟨bA, 0, none⟩) 2 2 ((2 : Nat) : Int) (i : Int) w K3 := by
 have hw : IntKind.i64.wrap ((i : Int) + 1) = ((i + 1 : Nat) : Int) := by rw [w64_in (by omega)]; omega
 have hvw : W64 v := by
  match i, hi with
  | 0, _ => simp at hv; rw [← hv]; exact hx.1
  | 1, _ => simp at hv; rw [← hv]; exact hx.2
 unfold f_span_reach_Plus.l2
 refine sel_t (by simp; omega) (optB_some rfl (req_intro (by simp; omega) ?_))
 rw [Int.toNat_natCast, Nat.mul_one]
 refine hb_ldI hA hv (hb_ldP0 h2 rfl ?_)
 have hpm : pF F m.f = some ⟨F, 0, none⟩ := by unfold pF; rw [hm, if_neg (by decide)]
 rw [hpm]
 refine (I.dist hP hu hvw).mono ?_
 rintro _ w1 ⟨rfl, p1, k1⟩
 have q2 := h2.keeps k1 fun h => n2 (I.sub _ h)
 have q5 := h5.keeps k1 fun h => n5 (I.sub _ h)
 have qA := hA.keeps k1 fun h => nA (I.sub _ h)
 refine ⟨_, rfl, hb_ldI (j := 3) q5 rfl ?_⟩
 rw [hw]
 unfold bst at hK
 by_cases hd : D u v > c.d
 ·rw [if_pos hd] at hK
  refine sel_t (decide_eq_true hd) (hb_ldP0 q2 rfl (putR4 q5 rfl (F := F) ⟨m.f, u, v, D u v⟩ fun w2 r5 k2 => ?_))
  exact hK w2 (I.keep p1 k2 fun k hk => by rw [hk]; exact n5) (q2.keeps k2 d2) r5 (qA.keeps k2 dA) ((k1.mono fun k _ h => .inl h).trans (k2.mono fun k _ h => .inr h))
 ·rw [if_neg hd] at hK
  exact sel_f (decide_eq_false hd) (hK w1 p1 q2 q5 qA (k1.mono fun k _ h => .inl h))
theorem plus_l1s {I : Sv D F} {w : World} {b2 b3 b5 bA : Nat} {m o c : Rc} {t2 t3 t5 tA : TypeId} {x0 x1 : Int} (hm : m.f = 1) (hx : W64 x0 ∧ W64 x1) (ho : W64 o.a ∧ W64 o.b) (hP : I.P w) (h2 : HB w b2 (rcC F m) t2) (h3 : HB w b3 (rcC F o) t3) (h5 : HB w b5 (rcC F c) t5) (hA : HB w bA #[.int .i64 x0, .int .i64 x1] tA) (n2 : ¬ I.Z b2) (n3 : ¬ I.Z b3) (n5 : ¬ I.Z b5) (nA : ¬ I.Z bA) (d2 : b2 ≠ b5) (d3 : b3 ≠ b5) (dA : bA ≠ b5) {i : Nat} {u : Int} (hi : i < 2) (hv : (#[.int .i64 x0, .int .i64 x1] : Array Value)[i]? = some (.int .i64 u)) {k : Nat} {K1 : World → Prop}
  (hK : ∀ w', I.P w' → HB w' b2 (rcC F m) t2 → HB w' b3 (rcC F o) t3 → HB w' b5 (rcC F (bst D m.f u o.b (bst D m.f u o.a c))) t5 → HB w' bA #[.int .i64 x0, .int .i64 x1] tA → Keeps (fun k => I.S k ∨ k = b5) w w' → f_span_reach_Plus.l1 k ⟨b2, 0, none⟩ ⟨b3, 0, none⟩ ⟨b5, 0, none⟩ (some ⟨bA, 0, none⟩) 2 2 ((2 : Nat) : Int) ((i + 1 : Nat) : Int) w' K1) :
  f_span_reach_Plus.l1 (k + 1) ⟨b2, 0, none⟩ ⟨b3, 0, none⟩ ⟨b5, 0, none⟩ (some ⟨bA, 0, none⟩) 2 2 ((2 : Nat) : Int) (i : Int) w K1 := by
 have hw : IntKind.i64.wrap ((i : Int) + 1) = ((i + 1 : Nat) : Int) := by rw [w64_in (by omega)]; omega
 have huw : W64 u := by
  match i, hi with
  | 0, _ => simp at hv; rw [← hv]; exact hx.1
  | 1, _ => simp at hv; rw [← hv]; exact hx.2
 unfold f_span_reach_Plus.l1
 refine sel_t (by simp; omega) (optB_some rfl (req_intro (by simp; omega) ?_))
 rw [Int.toNat_natCast, Nat.mul_one]
 refine hb_ldI hA hv (hb_ldI (j := 1) h3 rfl (hb_ldI (j := 2) h3 rfl (al_new fun w1 bB eB zB hB gB => ?_)))
 have l2 := h2.lt; have l3 := h3.lt; have l5 := h5.lt; have lA := hA.lt
 have nB : ¬ I.Z bB := I.new hP (by omega)
 have p1 := I.below hP gB
 refine ⟨3, plus_l2s (i := 0) hm huw ho p1 (h2.below gB) (h5.below gB) hB n2 n5 nB d2 (by omega) (by decide) rfl fun w2 p2 q2 q5 qB k2 => plus_l2s (i := 1) hm huw ho p2 q2 q5 qB n2 n5 nB d2 (by omega) (by decide) rfl fun w3 p3 r2 r5 rB k3 => ?_⟩
 unfold f_span_reach_Plus.l2
 refine sel_f (by decide) fun _ => ?_
 rw [hw]
 have kk := k2.trans k3
 have nq : ∀ {b}, ¬ I.Z b → b ≠ b5 → ¬ (I.S b ∨ b = b5) := fun h1 h2 h => h.elim (fun h => h1 (I.sub _ h)) h2
 exact hK w3 p3 r2 ((h3.below gB).keeps kk (nq n3 d3)) r5 ((hA.below gB).keeps kk (nq nA dA)) ((Keeps.of_below gB).trans kk)
theorem Plus_ok {I : Sv D F} {w : World} {m o : Rc} (hm : RcW m) (ho : RcW o) (hP : I.P w) : Calls Try.prog 97 #[.agg (rcC F m), .agg (rcC F o)] w fun e w' =>
  e = .returned (.agg (rcC F (plR D m o))) ∧ I.P w' ∧ Keeps I.S w w' := by
 apply f_span_reach_Plus.ok
 unfold f_span_reach_Plus.wp
 refine al_new fun w1 b1 e1 s1 h1 g1 => al_new fun w2 b3 e3 s3 h3 g3 => al_new fun w3 b5 e5 s5 h5 g5 => ?_
 have h1 : HB w3 b1 (rcC F m) 60 := (h1.below g3).below g5
 have h3 : HB w3 b3 (rcC F o) 60 := h3.below g5
 have g13 : Below w.heap.size w w3 := (g1.trans (g3.mono (by omega))).trans (g5.mono (by omega))
 have p3 := I.below hP g13
 have fin : ∀ {w' w'' : World} {S : Nat → Prop}, I.P w' → Keeps (fun k => I.S k ∨ w.heap.size ≤ k) w3 w' → Keeps (fun k => k = b5) w' w'' → I.P w'' ∧ Keeps I.S w w'' := by
  intro w' w'' _ hp hk hk2
  refine ⟨I.keep hp hk2 fun k e => by rw [e]; exact I.new hP (by omega), ?_⟩
  have k1 : Keeps I.S w w3 := Keeps.of_below g13
  refine (k1.trans' hk fun i hi h => ?_).trans' hk2 fun i hi h => by omega
  rcases h with h | h
  ·exact h
  ·omega
 unfold plR
 refine hb_ldI (j := 1) h1 rfl ?_
 by_cases hma : m.a = 0
 ·rw [if_pos hma]
  refine sel_t (by simp [hma]) (getR4 h3 (putR4 h5 rfl (F := F) o fun w4 h4 k4 => getR4 h4 ⟨rfl, ?_⟩))
  exact fin (S := I.S) p3 (Keeps.refl _ _) k4
 rw [if_neg hma]
 have hmf : m.f = 1 := hm.f.resolve_right hma
 refine sel_f (by simpa using hma) (hb_ldI (j := 1) h3 rfl ?_)
 by_cases hoa : o.a = 0
 ·rw [if_pos hoa]
  refine sel_t (by simp [hoa]) (getR4 h1 (putR4 h5 rfl (F := F) m fun w4 h4 k4 => getR4 h4 ⟨rfl, ?_⟩))
  exact fin (S := I.S) p3 (Keeps.refl _ _) k4
 rw [if_neg hoa]
 refine sel_f (by simpa using hoa) (getR4 h1 (al_new fun w4 b37 e37 s37 h37 g37 => putR4 h37 rfl (F := F) m fun w5 h37 k37 => ?_))
 have g35 : Below w3.heap.size w3 w5 := g37.trans (k37.below (by omega) fun k hk e => by omega)
 have h1 := h1.below g35
 have h3 := h3.below g35
 have h5 := h5.below g35
 have p5 := I.below p3 g35
 have n1 : ¬ I.Z b1 := I.new hP (by omega)
 have n3 : ¬ I.Z b3 := I.new hP (by omega)
 have n5 : ¬ I.Z b5 := I.new hP (by omega)
 have n37 : ¬ I.Z b37 := I.new hP (by omega)
 have s35 := g35.size
 have d15 : b1 ≠ b37 := by omega
 have d35 : b3 ≠ b37 := by omega
 have d55 : b5 ≠ b37 := by omega
 have j0 : ∀ {w6 : World} {Kr : World → Prop}, I.P w6 → HB w6 b1 (rcC F m) 60 → HB w6 b3 (rcC F o) 60 → HB w6 b5 (rcC F zR) 60 → HB w6 b37 (rcC F (mxR m o)) 60 → Keeps (fun k => I.S k ∨ w.heap.size ≤ k) w3 w6 →
   (∀ w7, I.P w7 → Keeps (fun k => I.S k ∨ w.heap.size ≤ k) w3 w7 → HB w7 b5 (rcC F (bst D m.f m.b o.b (bst D m.f m.b o.a (bst D m.f m.a o.b (bst D m.f m.a o.a (mxR m o)))))) 60 → Kr w7) → f_span_reach_Plus.j0 ⟨b1, 0, none⟩ ⟨b3, 0, none⟩ ⟨b5, 0, none⟩ ⟨b37, 0, none⟩ w6 Kr := by
  intro w6 Kr p6 h1 h3 h5 h37 kk hK
  unfold f_span_reach_Plus.j0
  refine hb_ldI (j := 1) h1 rfl (hb_ldI (j := 2) h1 rfl (al_new fun w7 bA eA zA hA gA => ?_))
  have p7 := I.below p6 gA
  have nA : ¬ I.Z bA := I.new p6 (by omega)
  have dA : bA ≠ b37 := by have := h37.lt; omega
  refine ⟨3, plus_l1s (i := 0) hmf ⟨hm.a, hm.b⟩ ⟨ho.a, ho.b⟩ p7 (h1.below gA) (h3.below gA) (h37.below gA) hA n1 n3 n37 nA d15 d35 dA (by decide) rfl fun w8 p8 q1 q3 q37 qA k8 => plus_l1s (i := 1) hmf ⟨hm.a, hm.b⟩ ⟨ho.a, ho.b⟩ p8 q1 q3 q37 qA n1 n3 n37 nA d15 d35 dA (by decide) rfl fun w9 p9 r1 r3 r37 rA k9 => ?_⟩
  unfold f_span_reach_Plus.l1
  refine sel_f (by decide) fun _ => ?_
  have k89 := k8.trans k9
  have h59 := (h5.below gA).keeps k89 fun h => h.elim (fun h => n5 (I.sub _ h)) d55
  refine getR4 r37 (putR4 h59 rfl (F := F) _ fun w10 h10 k10 => hK w10 (I.keep p9 k10 fun k hk => by rw [hk]; exact n5) ?_ h10)
  refine (kk.trans (Keeps.of_below gA)).trans ((k89.mono fun k _ h => ?_).trans (k10.mono fun k _ h => ?_))
  ·rcases h with h | h
   ·exact .inl h
   ·exact .inr (by omega)
  ·exact .inr (by omega)
 have k35 : Keeps (fun k => I.S k ∨ w.heap.size ≤ k) w3 w5 := Keeps.of_below g35
 have out : ∀ {w7 : World}, I.P w7 → Keeps (fun k => I.S k ∨ w.heap.size ≤ k) w3 w7 → I.P w7 ∧ Keeps I.S w w7 := fun hp hk => ⟨hp, (Keeps.of_below g13).trans' hk fun i hi h => by
  rcases h with h | h
  ·exact h
  ·omega⟩
 refine hb_ldI (j := 3) h3 rfl (hb_ldI (j := 3) h37 rfl ?_)
 unfold mxR at j0 ⊢
 by_cases hd : o.d > m.d
 ·rw [if_pos hd] at j0 ⊢
  refine sel_t (decide_eq_true hd) (getR4 h3 (putR4 h37 rfl (F := F) o fun w6 h6 k6 => ?_))
  refine j0 (I.keep p5 k6 fun k hk => by rw [hk]; exact n37) (h1.keeps k6 d15) (h3.keeps k6 d35) (h5.keeps k6 d55) h6 (k35.trans (k6.mono fun k _ h => .inr (by omega))) fun w7 p7 k7 h7 _ => getR4 h7 ⟨rfl, out p7 k7⟩
 ·rw [if_neg hd] at j0 ⊢
  exact sel_f (decide_eq_false hd) (j0 p5 h1 h3 h5 h37 k35 fun w7 p7 k7 h7 _ => getR4 h7 ⟨rfl, out p7 k7⟩)
theorem hdR {S : World → Prop} {r : RC} {x : Nat} {N : Nat → Nat → Int} (hx : x < r.n) {x' : Int} (ex : x' = (x : Int)) (h1 : ∀ w, S w → Rp w r N) {K : Option Addr → Int → Int → Int → Prop} (hk : K (pF r.F (N x 9)) (N x 10) (N x 11) (N x 12)) :
  hdP S (((⟨r.g, 0, none⟩ : Addr).add (x'.toNat * 13)).add 9) fun p => hdI S ((((⟨r.g, 0, none⟩ : Addr).add (x'.toNat * 13)).add 9).add 1) .i64 fun a => hdI S ((((⟨r.g, 0, none⟩ : Addr).add (x'.toNat * 13)).add 9).add 2) .i64 fun b => hdI S ((((⟨r.g, 0, none⟩ : Addr).add (x'.toNat * 13)).add 9).add 3) .i64 fun d => K p a b d :=
 ⟨_, fun w hw => (h1 w hw).cellP hx ex (.inr rfl), _, fun w hw => by rw [add_add]; exact (h1 w hw).cell (j := 10) hx ex (by omega), _, fun w hw => by rw [add_add]; exact (h1 w hw).cell (j := 11) hx ex (by omega), _, fun w hw => by rw [add_add]; exact (h1 w hw).cell (j := 12) hx ex (by omega), hk⟩
theorem nd_stA {w : World} {r : RC} {N : Nat → Nat → Int} (h : Rp w r N) {i : Nat} (hi : i < r.n) {x : Int} (hx : x = (i : Int)) (m : Rc) {K : World → Prop} (hk : ∀ w', Rp w' r (setA N i m) → Keeps (Sr r) w w' → K w') :
  stW w (((⟨r.g, 0, none⟩ : Addr).add (x.toNat * 13)).add 9) (.pointer (pF r.F m.f)) fun w1 => stW w1 ((((⟨r.g, 0, none⟩ : Addr).add (x.toNat * 13)).add 9).add 1) (.int .i64 m.a) fun w2 => stW w2 ((((⟨r.g, 0, none⟩ : Addr).add (x.toNat * 13)).add 9).add 2) (.int .i64 m.b) fun w3 => stW w3 ((((⟨r.g, 0, none⟩ : Addr).add (x.toNat * 13)).add 9).add 3) (.int .i64 m.d) K := by
 refine nd_stP (j := 9) h hi hx (.inr rfl) fun w1 h1 k1 => ?_
 rw [add_add]
 refine nd_st (j := 10) h1 hi hx (by omega) fun w2 h2 k2 => ?_
 rw [add_add]
 refine nd_st (j := 11) h2 hi hx (by omega) fun w3 h3 k3 => ?_
 rw [add_add]
 exact nd_st (j := 12) h3 hi hx (by omega) fun w4 h4 k4 => hk w4 h4 ((k1.trans k2).trans (k3.trans k4))
theorem pull_j0 {I : Sv D F} {w : World} {r : RC} (ap : Ap I r) {N : Nat → Nat → Int} (h : Rp w r N) {a x : Nat} (ha : a < r.n) (hx : x < r.n) (h1 : N a 1 = (x : Int)) (wa : RcW (allR N a)) (wx : RcW (allR N x) ∨ x = 0) (hP : I.P w) {Kn : World → Prop} {a' : Int} (ea : a' = (a : Int))
  (hk : ∀ w', AftS I r w w' (pullR D N a x) → Kn w') : f_span_reach_pull.j0 ⟨r.R, 0, none⟩ a' ((⟨r.g, 0, none⟩ : Addr).add (a'.toNat * 13)) w Kn := by
 obtain rfl : r.F = F := ap.f
 unfold f_span_reach_pull.j0
 refine nd_ld (j := 1) h ha ea (by omega) ?_
 by_cases h0 : x = 0
 ·subst h0
  refine sel_f (by rw [h1]; simp) (hk _ ?_)
  have : pullR D N a 0 = N := by simp [pullR]
  rw [this]; exact ⟨h, hP, Keeps.refl _ _⟩
 ·refine sel_t (by rw [h1]; simp; omega) (drW_intro ?_)
  rw [h1]
  have hd := h.drew
  refine nd_ld (j := 4) hd ha ea (by omega) (nd_rd (j := 4) hd hx rfl (by omega) (nd_st (j := 4) hd ha ea (by omega) fun w2 h2 k2 => drW_intro ?_))
  have p2 := I.below (I.st ap (I.below hP (Below.refl _ _).drew) k2) (Below.refl _ _).drew
  refine ⟨fun w' => Rp w' r (Dn.st N a 4 (IntKind.i64.wrap (N a 4 + N x 4))), h2.drew, hdR ha ea (fun w hw => hw) ?_⟩
  refine ⟨_, _, _, fun w' h' => h'.sl0, optB_some rfl (req_intro (by simp; omega) (hdR hx rfl (fun w hw => hw) ?_))⟩
  have e1 : allR (Dn.st N a 4 (IntKind.i64.wrap (N a 4 + N x 4))) a = allR N a := allR_st (by omega)
  have e2 : allR (Dn.st N a 4 (IntKind.i64.wrap (N a 4 + N x 4))) x = allR N x := allR_st (by omega)
  have hpl := Plus_ok (D := D) (I := I) (m := allR (Dn.st N a 4 (IntKind.i64.wrap (N a 4 + N x 4))) a) (o := allR (Dn.st N a 4 (IntKind.i64.wrap (N a 4 + N x 4))) x) (by rw [e1]; exact wa) (by rw [e2]; exact wx.resolve_right h0) p2
  refine hpl.mono ?_
  rintro e w3 ⟨rfl, p3, k3⟩
  have h3 := (h2.drew).sv ap k3
  rw [e1, e2]
  refine ⟨_, _, _, _, rfl, h3, nd_stA h3 ha ea (plR D (allR N a) (allR N x)) fun w4 h4 k4 => ?_⟩
  refine nd_at (K := fun a => stW w4 ((a.add _).add 2) _ _) h4 hx rfl (nd_st (j := 2) h4 hx rfl (by omega) fun w6 h6 k6 => hk _ ⟨?_, I.st ap (I.st ap p3 k4) k6, ?_⟩)
  ·have e : pullR D N a x = Dn.st (setA (Dn.st N a 4 (IntKind.i64.wrap (N a 4 + N x 4))) a (plR D (allR N a) (allR N x))) x 2 a := by simp [pullR, h0]
   rw [e, ← ea]
   exact h6
  ·have kq : ∀ {w w' : World}, Keeps (Sr r) w w' → Keeps (Sq I r) w w' := fun k => k.mono fun k _ h => .inl h
   exact ((Keeps.of_below (Below.refl _ _).drew).trans (kq k2)).trans (((Keeps.of_below (Below.refl _ _).drew).trans (k3.mono fun k _ h => .inr h)).trans ((kq k4).trans (kq k6)))
def Vals (N : Nat → Nat → Int) (n : Nat) : Prop := ∀ i, i < n → ownR N i = oneR (N i 6) ∧ W64 (N i 6)
theorem rcw_one {v : Int} (h : W64 v) : RcW (oneR v) := by
 unfold oneR
 split
 ·exact ⟨by decide, by decide, .inr rfl⟩
 ·exact ⟨h, h, .inl rfl⟩
theorem bst_w {m : Rc} {f u v : Int} (h : RcW m) (hf : f = 1) (hu : W64 u) (hv : W64 v) : RcW (bst D f u v m) := by
 unfold bst
 split
 ·exact ⟨hu, hv, .inl hf⟩
 ·exact h
theorem pl_w {m o : Rc} (h : RcW m) (k : RcW o) : RcW (plR D m o) := by
 unfold plR
 split
 ·exact k
 ·rename_i h1
  have hf := h.f.resolve_right h1
  split
  ·exact h
  ·have h0 : RcW (mxR m o) := by unfold mxR; split; exact k; exact h
   exact bst_w (bst_w (bst_w (bst_w h0 hf h.a k.a) hf h.a k.b) hf h.b k.a) hf h.b k.b
theorem pullT_ok {I : Sv D F} {w : World} {r : RC} (ap : Ap I r) {N : Nat → Nat → Int} (h : Rp w r N) {a l x : Nat} (ha : a < r.n) (hl : l < r.n) (hx : x < r.n) (h0 : N a 0 = (l : Int)) (h1 : N a 1 = (x : Int)) (hla : l ≠ 0 → l ≠ a) (hxa : x ≠ 0 → x ≠ a) (hxl : x ≠ 0 → x ≠ l) (hv : ownR N a = oneR (N a 6) ∧ W64 (N a 6)) (wl : RcW (allR N l) ∨ l = 0) (wx : RcW (allR N x) ∨ x = 0) (hP : I.P w) :
  Calls Try.prog 76 #[.pointer (some ⟨r.R, 0, none⟩), .int .i64 (a : Int)] w fun e w' => e = .returned (.tuple #[]) ∧ AftS I r w w' (pullF D N a l x) := by
 obtain rfl : r.F = F := ap.f
 apply f_span_reach_pull.ok
 unfold f_span_reach_pull.wp
 have kq : ∀ {w w' : World}, Keeps (Sr r) w w' → Keeps (Sq I r) w w' := fun k => k.mono fun k _ h => .inl h
 refine nd_at (K := fun a2 => ldP w ((a2.add _).add 5) _) h ha rfl ?_
 refine nd_ldP (j := 5) h ha rfl (.inl rfl) ?_
 rw [add_add _ 5 1]
 refine nd_ld (j := 6) h ha rfl (by omega) ?_
 rw [add_add _ 5 2]
 refine nd_ld (j := 7) h ha rfl (by omega) ?_
 rw [add_add _ 5 3]
 refine nd_ld (j := 8) h ha rfl (by omega) ?_
 refine nd_st (j := 4) h ha rfl (by omega) fun w1 h1' k1 => nd_stA h1' ha rfl (ownR N a) fun w3 h3 k3 => nd_ld0 h3 ha rfl ?_
 have h3 : Rp w3 r (pl0 N a) := h3
 have p3 : I.P w3 := I.st ap (I.st ap hP k1) k3
 have k3 : Keeps (Sr r) w w3 := k1.trans k3
 have p0 : pl0 N a a 0 = (l : Int) := by unfold pl0; rw [setA_j (by omega), st_j _ _ _ _ (by omega)]; exact h0
 have p1 : pl0 N a a 1 = (x : Int) := by unfold pl0; rw [setA_j (by omega), st_j _ _ _ _ (by omega)]; exact h1
 have wa : RcW (allR (pl0 N a) a) := by unfold pl0; rw [setA_at, hv.1]; exact rcw_one hv.2
 have wo : ∀ {y : Nat}, y ≠ a → allR (pl0 N a) y = allR N y := fun hy => by unfold pl0; rw [allR_setA hy, allR_st (by omega)]
 rw [show setA (st N a 4 1) a (ownR N a) a 0 = (l : Int) from p0]
 by_cases l0 : l = 0
 ·subst l0
  refine sel_f (by simp) (pull_j0 ap h3 ha hx p1 wa (wx.elim (fun q => if e : x = 0 then .inr e else .inl (by rw [wo (hxa e)]; exact q)) .inr) p3 rfl fun w' h' _ => ⟨rfl, ?_⟩)
  have : pullF D N a 0 x = pullR D (pl0 N a) a x := by simp [pullF, pullL]
  rw [this]; exact ⟨h'.1, h'.2.1, (kq k3).trans h'.2.2⟩
 ·have wl' : RcW (allR (pl0 N a) l) := by rw [wo (hla l0)]; exact wl.resolve_right l0
  generalize hN : pl0 N a = M at *
  refine sel_t (by simp; omega) (drW_intro ?_)
  have hd := h3.drew
  refine nd_ld (j := 4) hd ha rfl (by omega) (nd_rd (j := 4) hd hl rfl (by omega) (nd_st (j := 4) hd ha rfl (by omega) fun w4 h4 k4 => drW_intro ?_))
  have p4 := I.below (I.st ap (I.below p3 (Below.refl _ _).drew) k4) (Below.refl _ _).drew
  refine ⟨fun w' => Rp w' r (Dn.st M a 4 (IntKind.i64.wrap (M a 4 + M l 4))), h4.drew, ?_⟩
  refine ⟨_, _, _, fun w' h' => h'.sl0, optB_some rfl (req_intro (by simp; omega) (hdR hl rfl (fun w hw => hw) (hdR ha rfl (fun w hw => hw) ?_)))⟩
  have e1 : allR (Dn.st M a 4 (IntKind.i64.wrap (M a 4 + M l 4))) a = allR M a := allR_st (by omega)
  have e2 : allR (Dn.st M a 4 (IntKind.i64.wrap (M a 4 + M l 4))) l = allR M l := allR_st (by omega)
  have hpl := Plus_ok (D := D) (I := I) (m := allR (Dn.st M a 4 (IntKind.i64.wrap (M a 4 + M l 4))) l) (o := allR (Dn.st M a 4 (IntKind.i64.wrap (M a 4 + M l 4))) a) (by rw [e2]; exact wl') (by rw [e1]; exact wa) p4
  refine hpl.mono ?_
  rintro e w5 ⟨rfl, p5, k5⟩
  have h5 := (h4.drew).sv ap k5
  rw [e1, e2]
  refine ⟨_, _, _, _, rfl, h5, nd_stA h5 ha rfl (plR D (allR M l) (allR M a)) fun w6 h6 k6 => ?_⟩
  refine nd_at (K := fun a => stW w6 ((a.add _).add 2) _ _) h6 hl rfl (nd_st (j := 2) h6 hl rfl (by omega) fun w8 h8 k8 => ?_)
  have e : pullL D M a l = Dn.st (setA (Dn.st M a 4 (IntKind.i64.wrap (M a 4 + M l 4))) a (plR D (allR M l) (allR M a))) l 2 a := by simp [pullL, l0]
  have h8 : Rp w8 r (pullL D M a l) := by rw [e]; exact h8
  have p8 := I.st ap (I.st ap p5 k6) k8
  have k38 : Keeps (Sq I r) w w8 := (kq k3).trans (((Keeps.of_below (Below.refl _ _).drew).trans (kq k4)).trans (((Keeps.of_below (Below.refl _ _).drew).trans (k5.mono fun k _ h => .inr h)).trans ((kq k6).trans (kq k8))))
  have q1 : pullL D M a l a 1 = (x : Int) := by rw [e, st_j _ _ _ _ (by omega), setA_j (by omega), st_j _ _ _ _ (by omega)]; exact p1
  have wa2 : RcW (allR (pullL D M a l) a) := by rw [e, allR_st (by omega), setA_at]; exact pl_w wl' wa
  have wx2 : RcW (allR (pullL D M a l) x) ∨ x = 0 := wx.elim (fun q => if e0 : x = 0 then .inr e0 else .inl (by rw [e, allR_st (by omega), allR_setA (hxa e0), allR_st (by omega), wo (hxa e0)]; exact q)) .inr
  refine pull_j0 ap h8 ha hx q1 wa2 wx2 p8 rfl fun w' h' _ => ⟨rfl, ?_⟩
  have : pullF D N a l x = pullR D (pullL D M a l) a x := by simp [pullF, hN]
  rw [this]; exact ⟨h'.1, h'.2.1, k38.trans h'.2.2⟩
end
section
variable {D : Int → Int → Int} {F : Nat}
theorem ne_mem {l : List Nat} {i a : Nat} (h : i ∈ l) (k : a ∉ l) : i ≠ a := fun e => k (e ▸ h)
theorem Vals.chg {N N' : Nat → Nat → Int} {n : Nat} {ids : List Nat} (h : Vals N n) (c : Chg ids N N') : Vals N' n := fun i hi => by
 have e : ownR N' i = ownR N i := by unfold ownR; rw [c.own i 5 (by omega), c.own i 6 (by omega), c.own i 7 (by omega), c.own i 8 (by omega)]
 rw [e, c.own i 6 (by omega)]; exact h i hi
theorem vx_sub {N : Nat → Nat → Int} {l m : List Nat} (h : ∀ i ∈ l, i ∈ m) : ∀ x ∈ vx N l, x ∈ vx N m := fun x hx => by
 unfold vx at hx ⊢
 rw [vxs_mem] at hx ⊢
 obtain ⟨h1, i, hi, e⟩ := hx
 exact ⟨h1, i, h i hi, e⟩
theorem _root_.Go.Dn.M4.sub {N : Nat → Nat → Int} {l m : List Nat} (h4 : M4 D (vx N m)) (h : ∀ i ∈ l, i ∈ m) : M4 D (vx N l) := h4.mono (vx_sub h)
theorem pull_t {I : Sv D F} {w : World} {r : RC} (ap : Ap I r) {N : Nat → Nat → Int} (h : Rp w r N) (hn : r.n ≤ 65537) {a : Nat} {tl tr : Tp} (ha : 0 < a ∧ a < r.n) (hl : OkT D N r.n tl) (hr : OkT D N r.n tr) (nd : (tl.ids ++ a :: tr.ids).Nodup) (h0 : N a 0 = (tl.root : Int)) (h1 : N a 1 = (tr.root : Int)) (hv : Vals N r.n) (hP : I.P w) (h4 : M4 D (vx N (tl.ids ++ a :: tr.ids))) :
  Calls Try.prog 76 #[.pointer (some ⟨r.R, 0, none⟩), .int .i64 (a : Int)] w fun e w' => e = .returned (.tuple #[]) ∧ ∃ N', AftS I r w w' N' ∧ OkT D N' r.n (.node tl a tr) ∧ Chg (tl.ids ++ a :: tr.ids) N N' ∧ N' a 2 = N a 2 := by
 have hp := pull_tree hn ha hl hr nd h0 h1 (hv a ha.2).1 h4
 have hx : ∀ {t : Tp}, OkT D N r.n t → (∀ i ∈ t.ids, i ∈ tl.ids ++ a :: tr.ids) → RcW (allR N t.root) ∨ t.root = 0 := fun {t} ht hs => by
  by_cases e : t.root = 0
  ·exact .inr e
  ·refine .inl ?_
   rcases ht.all e with ⟨_, q⟩ | ⟨q, _⟩
   ·rw [q]; exact ⟨by decide, by decide, .inr rfl⟩
   ·have W : ∀ x ∈ vx N t.ids, W64 x := fun x hx => by
     unfold vx at hx
     rw [vxs_mem] at hx
     obtain ⟨_, i, hi, e⟩ := hx
     rw [← e]
     exact (hv i (ht.lt i hi).2).2
    exact ⟨W _ q.a, W _ q.b, .inl q.f⟩
 simp only [List.nodup_append, List.nodup_cons, List.mem_cons] at nd
 obtain ⟨ndl, ⟨har, ndr⟩, hd⟩ := nd
 refine (pullT_ok ap h ha.2 (hl.root_lt (by omega)) (hr.root_lt (by omega)) h0 h1 (fun e e2 => ?_) (fun e e2 => ?_) (fun e e2 => ?_) (hv a ha.2) (hx hl fun i hi => by simp [hi]) (hx hr fun i hi => by simp [hi]) hP).mono ?_
 ·exact hd a (e2 ▸ Tp.root_mem e) a (.inl rfl) rfl
 ·exact har (e2 ▸ Tp.root_mem e)
 ·exact hd tl.root (Tp.root_mem (e2 ▸ e)) tl.root (.inr (e2 ▸ Tp.root_mem e)) rfl
 ·rintro e w' ⟨rfl, hA⟩
  exact ⟨rfl, _, hA, hp⟩
theorem free_ok {w : World} {r : RC} {N : Nat → Nat → Int} (h : Rp w r N) {a : Nat} (ha : a < r.n) :
  Calls Try.prog 63 #[.pointer (some ⟨r.R, 0, none⟩), .int .i64 (a : Int)] w fun e w' => e = .returned (.tuple #[]) ∧ Aft0 r w w' (if a = 0 then N else Dn.st N a 2 0) := by
 apply f_span_reach_free.ok
 unfold f_span_reach_free.wp
 by_cases h0 : a = 0
 ·subst h0
  exact sel_f (by simp) ⟨rfl, h, Keeps.refl _ _⟩
 ·refine sel_t (by simp; omega) (nd_at (K := fun x => stW w ((x.add _).add 2) _ _) h ha rfl (nd_st (j := 2) h ha rfl (by omega) fun w' h' k' => ⟨rfl, ?_, k'⟩))
  rw [if_neg h0]; exact h'
theorem root_l0 {w : World} {r : RC} {N : Nat → Nat → Int} (h : Rp w r N) {K : Int → World → Prop} : ∀ {t : Tp} {a : Nat}, OkT D N r.n t → a ∈ t.ids → (∃ k, f_span_reach_root.l0 k ⟨r.R, 0, none⟩ (t.root : Int) w K) → ∃ k, f_span_reach_root.l0 k ⟨r.R, 0, none⟩ (a : Int) w K
 | .nil, a, _, hm, _ => absurd hm (by simp [Tp.ids])
 | .node l x y, a, ok, hm, hk => by
  obtain ⟨h1, h2, h3, h4, h5, h6, h8, h9, hl, hr⟩ := ok
  have step : ∀ {s : Tp}, OkT D N r.n s → a ∈ s.ids → (s.root ≠ 0 → N s.root 2 = (x : Int)) → ∃ k, f_span_reach_root.l0 k ⟨r.R, 0, none⟩ (s.root : Int) w K := by
   intro s hs hm hup
   have hs0 : s.root ≠ 0 := fun e => by rw [hs.root_pos.1 e] at hm; simp [Tp.ids] at hm
   obtain ⟨k, hk⟩ := hk
   have hu := hup hs0
   have hlt := hs.root_lt (by omega)
   refine ⟨k + 1, ?_⟩
   unfold f_span_reach_root.l0
   refine nd_rd (j := 2) h hlt rfl (by omega) (sel_t (by rw [hu]; simp; omega) (nd_rd (j := 2) h hlt rfl (by omega) ?_))
   rw [hu]; exact hk
  simp only [Tp.ids, List.mem_append, List.mem_cons] at hm
  rcases hm with hm | rfl | hm
  ·exact root_l0 h hl hm (step hl hm h8)
  ·exact hk
  ·exact root_l0 h hr hm (step hr hm h9)
theorem rootT_ok {w : World} {r : RC} {N : Nat → Nat → Int} (h : Rp w r N) {t : Tp} (ok : OkT D N r.n t) (h0 : N t.root 2 = 0) {a : Nat} (hm : a ∈ t.ids) :
  Calls Try.prog 62 #[.pointer (some ⟨r.R, 0, none⟩), .int .i64 (a : Int)] w fun e w' => e = .returned (.int .i64 (t.root : Int)) ∧ w' = w := by
 apply f_span_reach_root.ok
 unfold f_span_reach_root.wp
 refine root_l0 h ok hm ⟨1, ?_⟩
 unfold f_span_reach_root.l0
 have : 0 < r.n := by have := ok.lt a hm; omega
 exact nd_rd (j := 2) h (ok.root_lt this) rfl (by omega) (sel_f (by rw [h0]; simp) fun _ => ⟨rfl, rfl⟩)
theorem idx_l {l : List Nat} {a : Nat} (m : List Nat) (h : a ∈ l) : (l ++ m).idxOf a = l.idxOf a := by rw [List.idxOf_append, if_pos h]
theorem idx_r {l : List Nat} {a : Nat} (m : List Nat) (h : a ∉ l) : (l ++ m).idxOf a = m.idxOf a + l.length := by rw [List.idxOf_append, if_neg h]
theorem idx_lt {l : List Nat} {a : Nat} (h : a ∈ l) : l.idxOf a < l.length := List.idxOf_lt_length_of_mem h
theorem index_l0 {r : RC} {N : Nat → Nat → Int} (hn : r.n ≤ 65537) (hz : N 0 4 = 0) {K : Int → World → Prop} : ∀ {t : Tp} {a : Nat} {w : World}, Rp w r N → OkT D N r.n t → t.ids.Nodup → a ∈ t.ids →
  (∀ w', Below w.heap.size w w' → Rp w' r N → ∃ k, f_span_reach_index.l0 k ⟨r.R, 0, none⟩ (t.root : Int) (t.ids.idxOf a : Int) (N t.root 2) w' K) →
  ∃ s0 : Tp, OkT D N r.n s0 ∧ N a 0 = (s0.root : Int) ∧ s0.ids.length ≤ 65537 ∧ ∃ k, f_span_reach_index.l0 k ⟨r.R, 0, none⟩ (a : Int) (s0.ids.length : Int) (N a 2) w K
 | .nil, a, w, _, _, _, hm, _ => absurd hm (by simp [Tp.ids])
 | .node l x y, a, w, h, ok, nd, hm, hk => by
  have ok' := ok
  obtain ⟨h1, h2, h3, h4, h5, h6, h8, h9, hl, hr⟩ := ok
  have nd' := nd
  simp only [Tp.ids, List.nodup_append, List.nodup_cons, List.mem_cons] at nd
  obtain ⟨ndl, ⟨hxr, ndr⟩, hd⟩ := nd
  have hxl : x ∉ l.ids := fun h => hd x h x (.inl rfl) rfl
  have hlen : (Tp.node l x y).ids.length ≤ r.n := nodup_le _ _ nd' fun i hi => (ok'.lt i hi).2
  simp only [Tp.ids, List.length_append, List.length_cons] at hlen
  have hm' := hm
  simp only [Tp.ids, List.mem_append, List.mem_cons] at hm
  have hls : N l.root 4 = (l.ids.length : Int) := by
   by_cases e : l.root = 0
   ·rw [e, hz, hl.root_pos.1 e]; rfl
   ·exact hl.sz e
  rcases hm with hm | rfl | hm
  ·refine index_l0 hn hz h hl ndl hm fun w' b' h' => ?_
   have hs0 : l.root ≠ 0 := fun e => by rw [hl.root_pos.1 e] at hm; simp [Tp.ids] at hm
   have hne : y.root ≠ l.root := fun e => hd l.root (Tp.root_mem hs0) y.root (.inr (Tp.root_mem (e ▸ hs0))) e.symm
   obtain ⟨k, hk⟩ := hk w' b' h'
   refine ⟨k + 1, ?_⟩
   unfold f_span_reach_index.l0
   refine sel_t (by rw [h8 hs0]; simp; omega) ?_
   rw [h8 hs0]
   refine nd_rd (j := 1) h' h2 rfl (by omega) (sel_f (by rw [h4]; simp; omega) ?_)
   unfold f_span_reach_index.j1
   refine nd_rd (j := 2) h' h2 rfl (by omega) fun _ => ?_
   simp only [Tp.ids, idx_l _ hm, Tp.root] at hk
   exact hk
  ·refine ⟨l, hl, h3, by omega, ?_⟩
   obtain ⟨k, hk⟩ := hk w (Below.refl _ _) h
   refine ⟨k, ?_⟩
   simp only [Tp.ids, idx_r _ hxl, Tp.root, List.idxOf_cons_self, Nat.zero_add] at hk
   exact hk
  ·refine index_l0 hn hz h hr ndr hm fun w' b' h' => ?_
   have hs0 : y.root ≠ 0 := fun e => by rw [hr.root_pos.1 e] at hm; simp [Tp.ids] at hm
   obtain ⟨k, hk⟩ := hk w'.drew b'.drew h'.drew
   refine ⟨k + 1, ?_⟩
   unfold f_span_reach_index.l0
   refine sel_t (by rw [h9 hs0]; simp; omega) ?_
   rw [h9 hs0]
   have hal : a ∉ l.ids := fun h => hd a h a (.inr hm) rfl
   have hax : x ≠ a := fun e => hxr (e ▸ hm)
   have hi := idx_lt hm
   refine nd_rd (j := 1) h' h2 rfl (by omega) (sel_t (by rw [h4]; simp) (drW_intro (ldS_intro h'.drew.sl0 (nd_rd0 h'.drew h2 rfl ?_))))
   rw [h3]
   refine optB_some rfl (req_intro (by have := hl.root_lt (show 0 < r.n by omega); simp; omega) (nd_ld (j := 4) h'.drew (hl.root_lt (by omega)) rfl (by omega) ?_))
   unfold f_span_reach_index.j1
   refine nd_rd (j := 2) h'.drew h2 rfl (by omega) fun _ => ?_
   simp only [Tp.ids, idx_r _ hal, Tp.root, List.idxOf_cons] at hk
   rw [show (x == a) = false by simpa using hax] at hk
   rw [hls, w64_in (x := (l.ids.length : Int) + 1) (by omega), w64_in (by omega)]
   rw [show ((y.ids.idxOf a : Nat) : Int) + ((l.ids.length : Int) + 1) = ((y.ids.idxOf a + 1 + l.ids.length : Nat) : Int) by omega]
   exact hk
theorem index_ok {w : World} {r : RC} {N : Nat → Nat → Int} (h : Rp w r N) (hn : r.n ≤ 65537) (hz : N 0 4 = 0) {t : Tp} (ok : OkT D N r.n t) (nd : t.ids.Nodup) (h0 : N t.root 2 = 0) {a : Nat} (hm : a ∈ t.ids) :
  Calls Try.prog 67 #[.pointer (some ⟨r.R, 0, none⟩), .int .i64 (a : Int)] w fun e w' => e = .returned (.int .i64 (t.ids.idxOf a : Int)) ∧ Below w.heap.size w w' := by
 apply f_span_reach_index.ok
 unfold f_span_reach_index.wp
 have ha := ok.lt a hm
 obtain ⟨s0, hs, e0, hl, hk⟩ := index_l0 (w := w.drew) hn hz (K := fun x30 w31 => ∀ _ : Fr, (fun e w' => e = Ending.returned (.int .i64 (t.ids.idxOf a : Int)) ∧ Below w.heap.size w w') (.returned (.int .i64 x30)) w31) h.drew ok nd hm (fun w' b' h' => ⟨1, by
  unfold f_span_reach_index.l0
  exact sel_f (by rw [h0]; simp) fun _ => ⟨rfl, (Below.refl _ _).drew.trans b'⟩⟩)
 have hss : N s0.root 4 = (s0.ids.length : Int) := by
  by_cases e : s0.root = 0
  ·rw [e, hz, hs.root_pos.1 e]; rfl
  ·exact hs.sz e
 refine drW_intro (ldS_intro h.drew.sl0 (nd_rd0 h.drew ha.2 rfl ?_))
 rw [e0]
 have hlt := hs.root_lt (show 0 < r.n by omega)
 refine optB_some rfl (req_intro (by simp; omega) (nd_ld (j := 4) h.drew hlt rfl (by omega) (nd_rd (j := 2) h.drew ha.2 rfl (by omega) ?_)))
 rw [hss]
 exact hk
theorem merge_ok {I : Sv D F} {r : RC} (ap : Ap I r) : ∀ (m : Nat) {w : World} {N : Nat → Nat → Int} {ta tb : Tp}, ta.ids.length + tb.ids.length ≤ m → Rp w r N → r.n ≤ 65537 → OkT D N r.n ta → OkT D N r.n tb → (ta.ids ++ tb.ids).Nodup → Vals N r.n → I.P w → M4 D (vx N (ta.ids ++ tb.ids)) →
  Calls Try.prog 64 #[.pointer (some ⟨r.R, 0, none⟩), .int .i64 (ta.root : Int), .int .i64 (tb.root : Int)] w fun e w' => ∃ t N', e = .returned (.int .i64 (t.root : Int)) ∧ AftS I r w w' N' ∧ OkT D N' r.n t ∧ t.ids = ta.ids ++ tb.ids ∧ Chg (ta.ids ++ tb.ids) N N' := by
 intro m
 induction m with
 | zero =>
  intro w N ta tb hm h hn oa ob nd hv hP h4
  cases ta with
  | node l a x => simp [Tp.ids] at hm
  | nil =>
   apply f_span_reach_merge.ok
   unfold f_span_reach_merge.wp
   exact sel_t rfl ⟨tb, N, rfl, ⟨h, hP, Keeps.refl _ _⟩, ob, rfl, Chg.refl _ _⟩
 | succ m ih =>
  intro w N ta tb hm h hn oa ob nd hv hP h4
  apply f_span_reach_merge.ok
  unfold f_span_reach_merge.wp
  cases ta with
  | nil => exact sel_t rfl ⟨tb, N, rfl, ⟨h, hP, Keeps.refl _ _⟩, ob, rfl, Chg.refl _ _⟩
  | node l a x =>
   cases tb with
   | nil =>
    refine sel_f (by have := oa.1; simp [Tp.root]; omega) (sel_t rfl ⟨.node l a x, N, rfl, ⟨h, hP, Keeps.refl _ _⟩, oa, by simp [Tp.ids], Chg.refl _ _⟩)
   | node y b z =>
    have oa' := oa; have ob' := ob
    obtain ⟨a1, a2, a3, a4, a5, a6, a8, a9, al, ar⟩ := oa
    obtain ⟨b1, b2, b3, b4, b5, b6, b8, b9, bl, br⟩ := ob
    have nd' := nd
    simp only [Tp.ids, List.nodup_append, List.nodup_cons, List.mem_cons, List.mem_append] at nd
    obtain ⟨⟨n1, ⟨n2, n3⟩, n4⟩, ⟨n5, ⟨n6, n7⟩, n8⟩, n9⟩ := nd
    simp only [Tp.ids, List.length_append, List.length_cons] at hm
    refine sel_f (by simp [Tp.root]; omega) (sel_f (by simp [Tp.root]; omega) (drW_intro ?_))
    refine nd_rd (j := 3) h.drew a2 rfl (by omega) (nd_rd (j := 3) h.drew b2 rfl (by omega) ?_)
    by_cases hp : N a 3 ≥ N b 3
    ·refine sel_t (by simpa using hp) (drW_intro ⟨fun w' => ∃ M, Rp w' r M ∧ M a 1 = N a 1, ⟨N, h.drew.drew, rfl⟩, _, _, _, fun w' ⟨M, h', _⟩ => h'.sl0, _, _, _, fun w' ⟨M, h', _⟩ => h'.sl0, ?_⟩)
     refine optB_some rfl (req_intro (by simp [Tp.root]; omega) ⟨(x.root : Int), fun w' ⟨M, h', e⟩ => by rw [← a4, ← e]; exact h'.cell (j := 1) a2 rfl (by omega), ?_⟩)
     have ndx : (x.ids ++ (Tp.node y b z).ids).Nodup := by
      simp only [Tp.ids, List.nodup_append, List.nodup_cons, List.mem_cons, List.mem_append] at nd' ⊢
      exact ⟨n3, ⟨n5, ⟨n6, n7⟩, n8⟩, fun i hi j hj => n9 i (.inr (.inr hi)) j hj⟩
     refine (ih (by simp only [Tp.ids, List.length_append, List.length_cons]; omega) h.drew.drew hn ar ob' ndx hv (I.below (I.below hP (Below.refl _ _).drew) (Below.refl _ _).drew) (h4.sub fun i hi => by simp only [Tp.ids, List.mem_append, List.mem_cons] at hi ⊢; rcases hi with hi | hi; exact .inl (.inr (.inr hi)); exact .inr hi)).mono ?_
     rintro e w1 ⟨t, N1, rfl, ⟨h1, p1, k1⟩, ot, et, c1⟩
     have hax : a ∉ x.ids ++ (Tp.node y b z).ids := by
      intro hh
      simp only [Tp.ids, List.mem_append, List.mem_cons] at hh
      rcases hh with hh | hh
      ·exact n2 hh
      ·exact n9 a (.inr (.inl rfl)) a hh rfl
     refine ⟨_, rfl, ⟨N1, h1, c1.out a hax 1⟩, optB_some rfl (req_intro (by simp [Tp.root]; omega) ?_)⟩
     refine nd_st (j := 1) h1 a2 rfl (by omega) fun w2 h2 k2 => ?_
     have hlx : ∀ i ∈ l.ids, i ∉ x.ids ++ (Tp.node y b z).ids := by
      intro i hi hh
      simp only [Tp.ids, List.mem_append, List.mem_cons] at hh
      rcases hh with hh | hh
      ·exact n4 i hi i (.inr hh) rfl
      ·exact n9 i (.inl hi) i hh rfl
     have hla : a ∉ l.ids := fun hh => n4 a hh a (.inl rfl) rfl
     have hta : a ∉ t.ids := by rw [et]; exact hax
     have ol2 : OkT D (Dn.st N1 a 1 (t.root : Int)) r.n l := al.congr (Nat.le_refl _) n1 fun i hi j _ _ => by rw [st_i _ _ _ _ (ne_mem hi hla), c1.out i (hlx i hi)]
     have ot2 : OkT D (Dn.st N1 a 1 (t.root : Int)) r.n t := ot.congr (Nat.le_refl _) (et ▸ ndx) fun i hi j _ _ => st_i _ _ _ _ (ne_mem hi hta)
     have hndt : (l.ids ++ a :: t.ids).Nodup := by
      rw [et]
      simp only [Tp.ids, List.nodup_append, List.nodup_cons, List.mem_cons, List.mem_append] at nd' ⊢ ndx hlx hax
      exact ⟨n1, ⟨hax, ndx⟩, fun i hi j hj e => by
       rcases hj with rfl | hj
       ·exact hla (e ▸ hi)
       ·exact hlx i hi (e ▸ hj)⟩
     refine (pull_t ap h2 hn ⟨a1, a2⟩ ol2 ot2 hndt (by rw [st_j _ _ _ _ (by omega), c1.out a hax]; exact a3) (st_same _ _ _ _) ((hv.chg c1).chg (Chg.st (ids := [a]) (by simp) (by omega))) (I.st ap p1 k2) (by rw [(Chg.st (ids := [a]) (N := N1) (j := 1) (by simp) (by omega)).vx, c1.vx]; exact h4.sub fun i hi => by (rw [et] at hi; simpa [Tp.ids, or_assoc] using hi))).mono ?_
     rintro e w3 ⟨rfl, N3, ⟨h3, p3, k3⟩, o3, c3, u3⟩
     refine ⟨rfl, .node l a t, N3, rfl, ⟨h3, p3, (Keeps.of_below ((Below.refl _ _).drew.drew)).trans ((k1.trans (k2.mono fun k _ h => .inl h)).trans k3)⟩, o3, by simp [Tp.ids, et], ?_⟩
     refine ((c1.mono ?_).trans (Chg.st (by simp [Tp.ids]) (by omega))).trans (c3.mono ?_)
     ·intro i hi; simp only [Tp.ids, List.mem_append, List.mem_cons] at hi ⊢; rcases hi with hi | hi
      ·exact .inl (.inr (.inr hi))
      ·exact .inr hi
     ·intro i hi; rw [et] at hi; simpa [Tp.ids, or_assoc] using hi
    ·refine sel_f (by simpa using hp) (drW_intro ⟨fun w' => ∃ M, Rp w' r M ∧ M b 0 = N b 0, ⟨N, h.drew.drew, rfl⟩, _, _, _, fun w' ⟨M, h', _⟩ => h'.sl0, _, _, _, fun w' ⟨M, h', _⟩ => h'.sl0, ?_⟩)
     refine optB_some rfl (req_intro (by simp [Tp.root]; omega) ⟨(y.root : Int), fun w' ⟨M, h', e⟩ => by rw [← b3, ← e]; exact h'.cell0 b2 rfl, ?_⟩)
     have ndx : ((Tp.node l a x).ids ++ y.ids).Nodup := by
      simp only [Tp.ids, List.nodup_append, List.nodup_cons, List.mem_cons, List.mem_append] at nd' ⊢
      exact ⟨⟨n1, ⟨n2, n3⟩, n4⟩, n5, fun i hi j hj => n9 i hi j (.inl hj)⟩
     refine (ih (by simp only [Tp.ids, List.length_append, List.length_cons]; omega) h.drew.drew hn oa' bl ndx hv (I.below (I.below hP (Below.refl _ _).drew) (Below.refl _ _).drew) (h4.sub fun i hi => by simp only [Tp.ids, List.mem_append, List.mem_cons] at hi ⊢; rcases hi with hi | hi; exact .inl hi; exact .inr (.inl hi))).mono ?_
     rintro e w1 ⟨t, N1, rfl, ⟨h1, p1, k1⟩, ot, et, c1⟩
     have hax : b ∉ (Tp.node l a x).ids ++ y.ids := by
      intro hh
      simp only [Tp.ids, List.mem_append, List.mem_cons] at hh
      rcases hh with hh | hh
      ·exact n9 b hh b (.inr (.inl rfl)) rfl
      ·exact n8 b hh b (.inl rfl) rfl
     refine ⟨_, rfl, ⟨N1, h1, c1.out b hax 0⟩, optB_some rfl (req_intro (by simp [Tp.root]; omega) ?_)⟩
     refine nd_st0 h1 b2 rfl fun w2 h2 k2 => ?_
     have hzx : ∀ i ∈ z.ids, i ∉ (Tp.node l a x).ids ++ y.ids := by
      intro i hi hh
      simp only [Tp.ids, List.mem_append, List.mem_cons] at hh
      rcases hh with hh | hh
      ·exact n9 i hh i (.inr (.inr hi)) rfl
      ·exact n8 i hh i (.inr hi) rfl
     have hta : b ∉ t.ids := by rw [et]; exact hax
     have ol2 : OkT D (Dn.st N1 b 0 (t.root : Int)) r.n z := br.congr (Nat.le_refl _) n7 fun i hi j _ _ => by rw [st_i _ _ _ _ (ne_mem hi n6), c1.out i (hzx i hi)]
     have ot2 : OkT D (Dn.st N1 b 0 (t.root : Int)) r.n t := ot.congr (Nat.le_refl _) (et ▸ ndx) fun i hi j _ _ => st_i _ _ _ _ (ne_mem hi hta)
     have hndt : (t.ids ++ b :: z.ids).Nodup := by
      have : t.ids ++ b :: z.ids = (Tp.node l a x).ids ++ (Tp.node y b z).ids := by rw [et]; simp [Tp.ids]
      rw [this]; exact nd'
     refine (pull_t ap h2 hn ⟨b1, b2⟩ ot2 ol2 hndt (st_same _ _ _ _) (by rw [st_j _ _ _ _ (by omega), c1.out b hax]; exact b4) ((hv.chg c1).chg (Chg.st (ids := [b]) (by simp) (by omega))) (I.st ap p1 k2) (by rw [(Chg.st (ids := [b]) (N := N1) (j := 0) (by simp) (by omega)).vx, c1.vx]; exact h4.sub fun i hi => by (rw [et] at hi; simpa [Tp.ids, or_assoc] using hi))).mono ?_
     rintro e w3 ⟨rfl, N3, ⟨h3, p3, k3⟩, o3, c3, u3⟩
     refine ⟨rfl, .node t b z, N3, rfl, ⟨h3, p3, (Keeps.of_below ((Below.refl _ _).drew.drew)).trans ((k1.trans (k2.mono fun k _ h => .inl h)).trans k3)⟩, o3, by simp [Tp.ids, et], ?_⟩
     refine ((c1.mono ?_).trans (Chg.st (by simp [Tp.ids]) (by omega))).trans (c3.mono ?_)
     ·intro i hi; simp only [Tp.ids, List.mem_append, List.mem_cons] at hi ⊢; rcases hi with hi | hi
      ·exact .inl hi
      ·exact .inr (.inl hi)
     ·intro i hi; rw [et] at hi; simpa [Tp.ids, or_assoc] using hi
theorem split_ok {I : Sv D F} {r : RC} (ap : Ap I r) : ∀ {t : Tp} {k : Nat} {w : World} {N : Nat → Nat → Int}, k ≤ t.ids.length → Rp w r N → r.n ≤ 65537 → OkT D N r.n t → t.ids.Nodup → Vals N r.n → I.P w → M4 D (vx N t.ids) →
  Calls Try.prog 66 #[.pointer (some ⟨r.R, 0, none⟩), .int .i64 (t.root : Int), .int .i64 (k : Int)] w fun e w' => ∃ tx ty N', e = .returned (.tuple #[.int .i64 (tx.root : Int), .int .i64 (ty.root : Int)]) ∧ AftS I r w w' N' ∧ OkT D N' r.n tx ∧ OkT D N' r.n ty ∧
   tx.ids = t.ids.take k ∧ ty.ids = t.ids.drop k ∧ Chg t.ids N N'
 | .nil, k, w, N, hk, h, hn, ok, nd, hv, hP, h4 => by
  apply f_span_reach_split.ok
  unfold f_span_reach_split.wp
  exact sel_t rfl ⟨.nil, .nil, N, rfl, ⟨h, hP, Keeps.refl _ _⟩, trivial, trivial, by simp [Tp.ids], by simp [Tp.ids], Chg.refl _ _⟩
 | .node l a x, k, w, N, hk, h, hn, ok, nd, hv, hP, h4 => by
  apply f_span_reach_split.ok
  unfold f_span_reach_split.wp
  have ok' := ok
  obtain ⟨a1, a2, a3, a4, a5, a6, a8, a9, al, ar⟩ := ok
  have nd' := nd
  have hlen : (Tp.node l a x).ids.length ≤ r.n := nodup_le _ _ nd' fun i hi => (ok'.lt i hi).2
  simp only [Tp.ids, List.nodup_append, List.nodup_cons, List.mem_cons] at nd
  obtain ⟨n1, ⟨n2, n3⟩, n4⟩ := nd
  have hal : a ∉ l.ids := fun hh => n4 a hh a (.inl rfl) rfl
  simp only [Tp.ids, List.length_append, List.length_cons] at hk hlen
  have key : ∀ (ahead : Int) (_ : ahead = (l.ids.length : Int)) (K : Int → Int → World → Prop), (∀ tx ty N' w', AftS I r w w' N' → OkT D N' r.n tx → OkT D N' r.n ty → tx.ids = (l.ids ++ a :: x.ids).take k → ty.ids = (l.ids ++ a :: x.ids).drop k → Chg (l.ids ++ a :: x.ids) N N' → K (tx.root : Int) (ty.root : Int) w') →
    f_span_reach_split.j0 ⟨r.R, 0, none⟩ (a : Int) (k : Int) (l.root : Int) ahead w K := by
   intro ahead ea K hK
   subst ea
   unfold f_span_reach_split.j0
   by_cases hka : k ≤ l.ids.length
   ·refine sel_t (by simpa using hka) ?_
    refine (split_ok ap hka h hn al n1 hv hP (h4.sub fun i hi => by simp [Tp.ids, hi])).mono ?_
    rintro e w1 ⟨tx, ty, N1, rfl, ⟨h1, p1, k1⟩, o1, o2, e1, e2, c1⟩
    refine ⟨_, _, rfl, nd_at (K := fun q => stW w1 (q.add _) _ _) h1 a2 rfl (nd_st0 h1 a2 rfl fun w2 h2 k2 => ?_)⟩
    have hty : ∀ i ∈ ty.ids, i ∈ l.ids := fun i hi => by rw [e2] at hi; exact List.mem_of_mem_drop hi
    have htx : ∀ i ∈ tx.ids, i ∈ l.ids := fun i hi => by rw [e1] at hi; exact List.mem_of_mem_take hi
    have ndy : ty.ids.Nodup := by rw [e2]; exact n1.sublist (List.drop_sublist _ _)
    have ndx : tx.ids.Nodup := by rw [e1]; exact n1.sublist (List.take_sublist _ _)
    have oy2 : OkT D (Dn.st N1 a 0 (ty.root : Int)) r.n ty := o2.congr (Nat.le_refl _) ndy fun i hi j _ _ => st_i _ _ _ _ (ne_mem (hty i hi) hal)
    have ox2 : OkT D (Dn.st N1 a 0 (ty.root : Int)) r.n x := ar.congr (Nat.le_refl _) n3 fun i hi j _ _ => by rw [st_i _ _ _ _ (ne_mem hi n2), c1.out i (fun hh => n4 i hh i (.inr hi) rfl)]
    have hnd2 : (ty.ids ++ a :: x.ids).Nodup := by
     simp only [List.nodup_append, List.nodup_cons, List.mem_cons]
     exact ⟨ndy, ⟨n2, n3⟩, fun i hi j hj => n4 i (hty i hi) j hj⟩
    refine (pull_t ap h2 hn ⟨a1, a2⟩ oy2 ox2 hnd2 (st_same _ _ _ _) (by rw [st_j _ _ _ _ (by omega), c1.out a hal]; exact a4) ((hv.chg c1).chg (Chg.st (ids := [a]) (by simp) (by omega))) (I.st ap p1 k2) (by rw [(Chg.st (ids := [a]) (N := N1) (j := 0) (by simp) (by omega)).vx, c1.vx]; exact h4.sub fun i hi => by (simp only [Tp.ids, List.mem_append, List.mem_cons] at hi ⊢; rcases hi with hi | hi; exact .inl (hty i hi); exact .inr hi))).mono ?_
    rintro e w3 ⟨rfl, N3, ⟨h3, p3, k3⟩, o3, c3, u3⟩
    refine ⟨rfl, hK tx (.node ty a x) N3 w3 ⟨h3, p3, (k1.trans (k2.mono fun k _ h => .inl h)).trans k3⟩ ?_ o3 ?_ ?_ ?_⟩
    ·refine o1.congr (Nat.le_refl _) ndx fun i hi j _ _ => ?_
     rw [c3.out i, st_i _ _ _ _ (ne_mem (htx i hi) hal)]
     intro hh
     simp only [List.mem_append, List.mem_cons] at hh
     rcases hh with hh | rfl | hh
     ·rw [e1] at hi; rw [e2] at hh
      have hz := n1
      rw [← List.take_append_drop k l.ids, List.nodup_append] at hz
      exact hz.2.2 i hi i hh rfl
     ·exact hal (htx _ hi)
     ·exact n4 i (htx i hi) i (.inr hh) rfl
    ·rw [e1, List.take_append_of_le_length hka]
    ·simp only [Tp.ids]; rw [e2, List.drop_append_of_le_length hka]
    ·refine ((c1.mono ?_).trans (Chg.st (by simp) (by omega))).trans (c3.mono ?_)
     ·intro i hi; simp [hi]
     ·intro i hi; simp only [List.mem_append, List.mem_cons] at hi ⊢; rcases hi with hi | hi
      ·exact .inl (hty i hi)
      ·exact .inr hi
   ·refine sel_f (by simpa using hka) (nd_rd (j := 1) h a2 rfl (by omega) ?_)
    rw [a4, w64_in (x := (k : Int) - (l.ids.length : Int)) (by omega), w64_in (by omega), show (k : Int) - (l.ids.length : Int) - 1 = ((k - l.ids.length - 1 : Nat) : Int) by omega]
    refine (split_ok ap (k := k - l.ids.length - 1) (by omega) h hn ar n3 hv hP (h4.sub fun i hi => by simp [Tp.ids, hi])).mono ?_
    rintro e w1 ⟨tx, ty, N1, rfl, ⟨h1, p1, k1⟩, o1, o2, e1, e2, c1⟩
    refine ⟨_, _, rfl, nd_at (K := fun q => stW w1 ((q.add _).add 1) _ _) h1 a2 rfl (nd_st (j := 1) h1 a2 rfl (by omega) fun w2 h2 k2 => ?_)⟩
    have hty : ∀ i ∈ ty.ids, i ∈ x.ids := fun i hi => by rw [e2] at hi; exact List.mem_of_mem_drop hi
    have htx : ∀ i ∈ tx.ids, i ∈ x.ids := fun i hi => by rw [e1] at hi; exact List.mem_of_mem_take hi
    have ndy : ty.ids.Nodup := by rw [e2]; exact n3.sublist (List.drop_sublist _ _)
    have ndx : tx.ids.Nodup := by rw [e1]; exact n3.sublist (List.take_sublist _ _)
    have ol2 : OkT D (Dn.st N1 a 1 (tx.root : Int)) r.n l := al.congr (Nat.le_refl _) n1 fun i hi j _ _ => by rw [st_i _ _ _ _ (ne_mem hi hal), c1.out i (fun hh => n4 i hi i (.inr hh) rfl)]
    have ox2 : OkT D (Dn.st N1 a 1 (tx.root : Int)) r.n tx := o1.congr (Nat.le_refl _) ndx fun i hi j _ _ => st_i _ _ _ _ (ne_mem (htx i hi) n2)
    have hnd2 : (l.ids ++ a :: tx.ids).Nodup := by
     simp only [List.nodup_append, List.nodup_cons, List.mem_cons]
     exact ⟨n1, ⟨fun hh => n2 (htx a hh), ndx⟩, fun i hi j hj => n4 i hi j (by rcases hj with hj | hj; exact .inl hj; exact .inr (htx j hj))⟩
    refine (pull_t ap h2 hn ⟨a1, a2⟩ ol2 ox2 hnd2 (by rw [st_j _ _ _ _ (by omega), c1.out a n2]; exact a3) (st_same _ _ _ _) ((hv.chg c1).chg (Chg.st (ids := [a]) (by simp) (by omega))) (I.st ap p1 k2) (by rw [(Chg.st (ids := [a]) (N := N1) (j := 1) (by simp) (by omega)).vx, c1.vx]; exact h4.sub fun i hi => by (simp only [Tp.ids, List.mem_append, List.mem_cons] at hi ⊢; rcases hi with hi | hi | hi; exact .inl hi; exact .inr (.inl hi); exact .inr (.inr (htx i hi))))).mono ?_
    rintro e w3 ⟨rfl, N3, ⟨h3, p3, k3⟩, o3, c3, u3⟩
    have ek : k = l.ids.length + (k - l.ids.length - 1 + 1) := by omega
    refine ⟨rfl, hK (.node l a tx) ty N3 w3 ⟨h3, p3, (k1.trans (k2.mono fun k _ h => .inl h)).trans k3⟩ o3 ?_ ?_ ?_ ?_⟩
    ·refine o2.congr (Nat.le_refl _) ndy fun i hi j _ _ => ?_
     rw [c3.out i, st_i _ _ _ _ (ne_mem (hty i hi) n2)]
     intro hh
     simp only [List.mem_append, List.mem_cons] at hh
     rcases hh with hh | rfl | hh
     ·exact n4 i hh i (.inr (hty i hi)) rfl
     ·exact n2 (hty _ hi)
     ·rw [e2] at hi; rw [e1] at hh
      have hz := n3
      rw [← List.take_append_drop (k - l.ids.length - 1) x.ids, List.nodup_append] at hz
      exact hz.2.2 i hh i hi rfl
    ·simp only [Tp.ids]; rw [e1, ek, List.take_length_add_append, List.take_succ_cons]; simp
    ·rw [e2, ek, List.drop_length_add_append, List.drop_succ_cons]; simp
    ·refine ((c1.mono ?_).trans (Chg.st (by simp) (by omega))).trans (c3.mono ?_)
     ·intro i hi; simp [hi]
     ·intro i hi; simp only [List.mem_append, List.mem_cons] at hi ⊢; rcases hi with hi | hi | hi
      ·exact .inl hi
      ·exact .inr (.inl hi)
      ·exact .inr (.inr (htx i hi))
  refine sel_f (by simp [Tp.root]; omega) (nd_rd0 h a2 rfl ?_)
  rw [a3]
  by_cases hl0 : l.root = 0
  ·have : l.ids.length = 0 := by rw [al.root_pos.1 hl0]; rfl
   refine sel_f (by simp [hl0]) ?_
   exact key _ (by omega) _ fun tx ty N' w' hA o1 o2 e1 e2 hc _ => ⟨tx, ty, N', rfl, hA, o1, o2, e1, e2, hc⟩
  ·refine sel_t (by simp; omega) (nd_rd (j := 4) h (al.root_lt (by omega)) rfl (by omega) ?_)
   exact key _ (al.sz hl0) _ fun tx ty N' w' hA o1 o2 e1 e2 hc _ => ⟨tx, ty, N', rfl, hA, o1, o2, e1, e2, hc⟩
end
end Go.Proofs.Ytklnlnjgaadjbaa.Rd
