/- A node rotated above its parent: the walk, and what it does to the tree. Conditions: none. -/
import Derived.Test.YtfknppccgojhdaaLcC
namespace Go.Dn
set_option linter.unusedVariables false
set_option linter.unusedSimpArgs false
/-- the memory behind a rotation, but for the sums -/
def rotN (N : Nat → Nd) (x p c : Nat) (s : Bool) (top : Nat) (kt : Option Bool) : Nat → Nd :=
  let N2 := hangN (hangN N p c s) x p (!s)
  let N3 := stN N2 x { N2 x with up := top }
  match kt with
  | none => N3
  | some b => stN N3 top (setc b (N3 top) x)
theorem setc_up (s : Bool) (d : Nd) (v u : Nat) : ({ setc s d v with up := u } : Nd) = setc s { d with up := u } v := by cases s <;> rfl
theorem rotN_at {N : Nat → Nd} {x p c : Nat} {s : Bool} {top : Nat} {kt : Option Bool} (hx : x ≠ 0) (hp : p ≠ 0) (hxp : x ≠ p) (hcx : c ≠ x) (hcp : c ≠ p) (ht : ∀ b, kt = some b → top ≠ x ∧ top ≠ p ∧ (c ≠ 0 → top ≠ c) ∧ top ≠ 0) :
    rotN N x p c s top kt x = { setc (!s) (N x) p with up := top } ∧ rotN N x p c s top kt p = { setc s (N p) c with up := x } ∧ (c ≠ 0 → rotN N x p c s top kt c = { N c with up := p }) ∧
    (∀ b, kt = some b → rotN N x p c s top kt top = setc b (N top) x) ∧ (∀ y, y ≠ x → y ≠ p → (c ≠ 0 → y ≠ c) → (∀ b, kt = some b → y ≠ top) → rotN N x p c s top kt y = N y) := by
  have hpx : p ≠ x := fun e => hxp e.symm
  have hxc : x ≠ c := fun e => hcx e.symm
  have hpc : p ≠ c := fun e => hcp e.symm
  by_cases c0 : c = 0
  · subst c0
    cases kt with
    | none =>
      refine ⟨?_, ?_, (fun h => absurd rfl h), (fun b h => by cases h), fun y h1 h2 h3 h4 => ?_⟩ <;> simp [rotN, hangN, stN, *]
    | some b =>
      obtain ⟨t1, t2, t3, t4⟩ := ht b rfl
      have t1' : x ≠ top := fun e => t1 e.symm
      have t2' : p ≠ top := fun e => t2 e.symm
      refine ⟨?_, ?_, (fun h => absurd rfl h), (fun b' h => ?_), fun y h1 h2 h3 h4 => ?_⟩
      · simp [rotN, hangN, stN, *]
      · simp [rotN, hangN, stN, *]
      · injection h with h; subst h; simp [rotN, hangN, stN, *]
      · have := h4 b rfl; simp [rotN, hangN, stN, *]
  · cases kt with
    | none =>
      refine ⟨?_, ?_, (fun h => ?_), (fun b h => by cases h), fun y h1 h2 h3 h4 => ?_⟩
      · simp [rotN, hangN, stN, *]
      · simp [rotN, hangN, stN, *]
      · simp [rotN, hangN, stN, *]
      · have := h3 c0; simp [rotN, hangN, stN, *]
    | some b =>
      obtain ⟨t1, t2, t3, t4⟩ := ht b rfl
      have t3 := t3 c0
      have t1' : x ≠ top := fun e => t1 e.symm
      have t2' : p ≠ top := fun e => t2 e.symm
      have t3' : c ≠ top := fun e => t3 e.symm
      refine ⟨?_, ?_, (fun h => ?_), (fun b' h => ?_), fun y h1 h2 h3 h4 => ?_⟩
      · simp [rotN, hangN, stN, *]
      · simp [rotN, hangN, stN, *]
      · simp [rotN, hangN, stN, *]
      · injection h with h; subst h; simp [rotN, hangN, stN, *]
      · have := h4 b rfl; have := h3 c0; simp [rotN, hangN, stN, *]
theorem hangN_o (N : Nat → Nd) (x c : Nat) (s : Bool) (y : Nat) : (hangN N x c s y).o = (N y).o := by
  unfold hangN stN setc
  by_cases h : c = 0 <;> by_cases h1 : y = x <;> by_cases h2 : y = c <;> cases s <;> simp [h, h1, h2] <;> (try split) <;> simp_all
theorem rotN_o (N : Nat → Nd) (x p c : Nat) (s : Bool) (top : Nat) (kt : Option Bool) (y : Nat) : (rotN N x p c s top kt y).o = (N y).o := by
  have h3 : ∀ z, (stN (hangN (hangN N p c s) x p (!s)) x { hangN (hangN N p c s) x p (!s) x with up := top } z).o = (N z).o := by
    intro z
    unfold stN
    split
    · rename_i h; subst h; simp [hangN_o]
    · rw [hangN_o, hangN_o]
  unfold rotN
  cases kt with
  | none => exact h3 y
  | some b =>
    simp only
    by_cases h : y = top
    · subst h; rw [stN_same]
      cases b <;> exact h3 y
    · rw [stN_ne _ _ h]; exact h3 y
theorem root_notin {t : ST} {y : Nat} (h : y ∉ t.ids) (h0 : y ≠ 0) : t.root ≠ y := by
  intro e
  by_cases h1 : t.root = 0
  · exact h0 (e ▸ h1)
  · exact h (e ▸ root_mem h1)
/-- which side -/
theorem side_plug {N : Nat → Nd} {own : Nat → E} {f : Fm} {k : List Fm} {t : ST} {pp : Nat} (h : OkS N own (plug (f :: k) t) pp) (hd : (plug (f :: k) t).ids.Nodup) (h0 : t.root ≠ 0) : sideN N t.root = sI f.s := by
  have hs := OkS.sub k h
  obtain ⟨h1, h2, h3, h4, h5, h6, h7, h8⟩ := hs.sub1
  have hu : (N t.root).up = f.p := by
    cases t with
    | nil => exact absurd rfl h0
    | node x t l r => exact h7.2.1
  have hd2 : (t.ids ++ kids (f :: k)).Nodup := (plug_ids (f :: k) t).nodup_iff.1 hd
  simp only [kids, List.nodup_append, List.nodup_cons, List.mem_append, List.mem_cons] at hd2
  have hne : f.sib.root ≠ t.root := root_notin (fun hm => hd2.2.2 t.root (root_mem h0) t.root (.inr (.inl hm)) rfl) h0
  unfold sideN
  rw [hu]
  cases hf : f.s
  · rw [hf] at h3
    rw [if_pos ⟨Nat.pos_of_ne_zero h1, h3⟩]; rfl
  · rw [hf] at h3 h4
    rw [if_neg (fun h => hne (h3.symm.trans h.2)), if_pos ⟨Nat.pos_of_ne_zero h1, h4⟩]; rfl
/-- nodes that are no children of what hangs above -/
def NoKid (N : Nat → Nd) (l : List Nat) (pp : Nat) : Prop := pp ∉ l ∧ ∀ y ∈ l, pp ≠ 0 → (N pp).c0 ≠ y ∧ (N pp).c1 ≠ y
theorem side_top {N : Nat → Nd} {own : Nat → E} {t : ST} {pp : Nat} (h : OkS N own t pp) (h0 : t.root ≠ 0) (hk : NoKid N t.ids pp) : sideN N t.root = -1 := by
  have hu : (N t.root).up = pp := by
    cases t with
    | nil => exact absurd rfl h0
    | node x t l r => exact h.2.1
  unfold sideN
  rw [hu]
  have := hk.2 t.root (root_mem h0)
  rw [if_neg (fun h => (this (Nat.ne_of_gt h.1)).1 h.2), if_neg (fun h => (this (Nat.ne_of_gt h.1)).2 h.2)]
def ktI (kt : Option Bool) : Int := match kt with | none => -1 | some b => sI b
theorem nd3 {A B : List Nat} {p : Nat} (hA : A.Nodup) (hB : B.Nodup) (h1 : p ∉ A) (h2 : p ∉ B) (h3 : ∀ y ∈ A, y ∉ B) : (A ++ p :: B).Nodup := by
  simp only [List.nodup_append, List.nodup_cons, List.mem_cons]
  exact ⟨hA, ⟨h2, hB⟩, fun y hy z hz e => by rcases hz with hz | hz; exact h1 (hz ▸ e ▸ hy); exact h3 y hy (e ▸ hz)⟩
theorem getc_setc (s : Bool) (d : Nd) (v : Nat) : getc s (setc s d v) = v := by cases s <;> rfl
end Go.Dn
namespace Go.Proofs.Ytfknppccgojhdaa.Rd
open Go.Dn Go.RowKit
set_option linter.unusedVariables false
set_option maxRecDepth 100000
/-- what all calls on a tree need -/
structure Rm (own : Nat → E) (S : Nat → Prop) (r : LC) (N : Nat → Nd) : Prop where
  oo : OwnOk own
  sm : Sm own S
  no : ∀ x, (N x).o = own x
  sl : ∀ x, S x → x < r.n
theorem wr1s (s : Bool) : IntKind.i64.wrap ((1 : Int) - sI s) = sI (!s) := by cases s <;> decide
theorem rot_pre {w : World} {r : LC} {N : Nat → Nd} (h : Lp w r N) {x p c : Nat} {s : Bool} {top : Nat} {kt : Option Bool} (hx : x < r.n) (hp : p < r.n) (hc : c < r.n) (htop : top < r.n) (hxu : (N x).up = p) (hpu : (N p).up = top) (hxc : getc (!s) (N x) = c)
    (s1 : sideN N x = sI s) (s2 : sideN N p = ktI kt)
    {Q : Ending → World → Prop} (hQ : ∀ w', Lp w' r (rotN N x p c s top kt) → Keeps (fun k => k = r.g) w w' → Calls Try.prog 44 #[.pointer (some ⟨r.R, 0, none⟩), .int .i64 (p : Int)] w' fun e w2 => e = .returned (.tuple #[]) ∧ Calls Try.prog 44 #[.pointer (some ⟨r.R, 0, none⟩), .int .i64 (x : Int)] w2 fun e w3 => e = .returned (.tuple #[]) ∧ Q (.returned (.tuple #[])) w3) :
    Calls Try.prog 49 #[.pointer (some ⟨r.R, 0, none⟩), .int .i64 (x : Int)] w Q := by
  apply f_linkcut_Forest_rotate.ok
  unfold f_linkcut_Forest_rotate.wp
  refine lc_at (K := fun a2 => ldI w ((a2.add _).add 2) .i64 _) h hx rfl (lc_ld h hx rfl 2 (by omega) rfl (drW_intro ⟨fun w' => Lp w' r N, h.drew, ?_⟩))
  rw [hxu]
  refine ⟨_, _, _, fun w' h' => h'.sl0, optB_some rfl (req_intro (by simp; omega) ⟨_, fun w' h' => h'.cell hp rfl (j := 2) (by omega), ?_⟩)⟩
  rw [hpu]
  refine (side_ok h.drew hx (by omega)).mono ?_
  rintro e w1 ⟨rfl, rfl⟩
  refine ⟨_, rfl, h.drew, (side_ok h.drew hp (by omega)).mono ?_⟩
  rintro e w2 ⟨rfl, rfl⟩
  refine ⟨_, rfl, h.drew, ?_⟩
  rw [s1, wr1s]
  refine lc_at (K := fun a16 => req _ (ldI w.drew ((a16.add _).add _) .i64 _)) h.drew hx rfl (req_intro (sI_ok _) ?_)
  refine lc_ldc h.drew hx rfl (!s) (sI_toNat _) ?_
  rw [hxc]
  refine (hang_ok h.drew hp hc s).mono ?_
  rintro e w3 ⟨rfl, l3, k3⟩
  refine ⟨rfl, (hang_ok l3 hx hp (!s)).mono ?_⟩
  rintro e w4 ⟨rfl, l4, k4⟩
  refine ⟨rfl, lc_at (K := fun a => stW w4 ((a.add _).add 2) _ _) l4 hx rfl (lc_st l4 hx rfl 2 (by omega) _ (set_up _ _) fun w5 l5 k5 => ?_)⟩
  have kk : Keeps (fun k => k = r.g) w w5 := (((Keeps.refl _ _).drew.trans k3).trans k4).trans k5
  rw [s2]
  cases kt with
  | none =>
    refine sel_f (by simp [ktI]) ((hQ w5 l5 kk).mono ?_)
    rintro e w6 ⟨rfl, h6⟩
    refine ⟨rfl, h6.mono ?_⟩
    rintro e w7 ⟨rfl, h7⟩
    exact ⟨rfl, h7⟩
  | some b =>
    refine sel_t (by cases b <;> decide) ?_
    refine lc_at (K := fun a => req _ (stW w5 ((a.add _).add _) _ _)) l5 htop rfl (req_intro (sI_ok _) ?_)
    refine lc_stc l5 htop rfl b (sI_toNat _) x fun w6 l6 k6 => ((hQ w6 l6 (kk.trans k6)).mono ?_)
    rintro e w6 ⟨rfl, h6⟩
    refine ⟨rfl, h6.mono ?_⟩
    rintro e w7 ⟨rfl, h7⟩
    exact ⟨rfl, h7⟩

/-- a tree in memory, all of whose nodes may be touched -/
structure Tre (own : Nat → E) (S : Nat → Prop) (r : LC) (N : Nat → Nd) (T : ST) (pp : Nat) : Prop where
  ok : OkS N own T pp
  nd : T.ids.Nodup
  inS : ∀ y ∈ T.ids, S y
  pl : pp < r.n
  nk : NoKid N T.ids pp
/-- what a call on a tree leaves -/
structure Tst (own : Nat → E) (S : Nat → Prop) (r : LC) (w w' : World) (N N' : Nat → Nd) (T T' : ST) (pp : Nat) : Prop where
  aft : Aft r w w' N'
  ok : OkS N' own T' pp
  el : ∀ y, y ∉ T.ids → N' y = N y
  pm : T'.ids.Perm T.ids
  o : ∀ y, (N' y).o = (N y).o
theorem Tst.rm {own : Nat → E} {S : Nat → Prop} {r : LC} {w w' : World} {N N' : Nat → Nd} {T T' : ST} {pp : Nat} (h : Tst own S r w w' N N' T T' pp) (k : Rm own S r N) : Rm own S r N' := ⟨k.oo, k.sm, fun x => (h.o x).trans (k.no x), k.sl⟩
theorem Tst.tre {own : Nat → E} {S : Nat → Prop} {r : LC} {w w' : World} {N N' : Nat → Nd} {T T' : ST} {pp : Nat} (h : Tst own S r w w' N N' T T' pp) (k : Tre own S r N T pp) : Tre own S r N' T' pp :=
  ⟨h.ok, h.pm.nodup_iff.2 k.nd, fun y hy => k.inS y (h.pm.mem_iff.1 hy), k.pl, fun hm => k.nk.1 (h.pm.mem_iff.1 hm), fun y hy h0 => by
    rw [h.el pp k.nk.1]; exact k.nk.2 y (h.pm.mem_iff.1 hy) h0⟩
theorem Tst.trans {own : Nat → E} {S : Nat → Prop} {r : LC} {w w' w2 : World} {N N' N2 : Nat → Nd} {T T' T2 : ST} {pp : Nat} (h : Tst own S r w w' N N' T T' pp) (k : Tst own S r w' w2 N' N2 T' T2 pp) : Tst own S r w w2 N N2 T T2 pp :=
  ⟨⟨k.aft.1, h.aft.2.trans k.aft.2⟩, k.ok, fun y hy => (k.el y (fun hm => hy (h.pm.mem_iff.1 hm))).trans (h.el y hy), k.pm.trans h.pm, fun y => (k.o y).trans (h.o y)⟩
theorem rotate_ok {own : Nat → E} {S : Nat → Prop} {w : World} {r : LC} {N : Nat → Nd} (h : Lp w r N) (hr : Rm own S r N) {k : List Fm} {s : Bool} {x p : Nat} {a b c : ST} {pp : Nat} (hT : Tre own S r N (plug (⟨!s, x, false, a⟩ :: ⟨s, p, false, b⟩ :: k) c) pp) :
    Calls Try.prog 49 #[.pointer (some ⟨r.R, 0, none⟩), .int .i64 (x : Int)] w fun e w' => e = .returned (.tuple #[]) ∧ ∃ N', Tst own S r w w' N N' (plug (⟨!s, x, false, a⟩ :: ⟨s, p, false, b⟩ :: k) c) (plug (⟨s, p, false, b⟩ :: ⟨!s, x, false, a⟩ :: k) c) pp := by
  have hok := hT.ok
  have hx := OkS.sub (⟨s, p, false, b⟩ :: k) hok
  have hp := OkS.sub k (t := plug1 ⟨s, p, false, b⟩ (plug1 ⟨!s, x, false, a⟩ c)) hok
  obtain ⟨x1, x2, x3, x4, x5, x6, x7, x8⟩ := hx.sub1
  obtain ⟨p1, p2, p3, p4, p5, p6, p7, p8⟩ := hp.sub1
  simp only [upOf] at x1 x2 x3 x4 x5 x6 x7 x8
  rw [plug1_root] at p3 p4
  simp only at p1 p2 p3 p4 p5 p6 p7 p8
  have hpm : (plug (⟨!s, x, false, a⟩ :: ⟨s, p, false, b⟩ :: k) c).ids.Perm (c.ids ++ (x :: (a.ids ++ p :: (b.ids ++ kids k)))) := plug_ids _ _
  have nd := hpm.nodup_iff.1 hT.nd
  have mem : ∀ y, y ∈ c.ids ∨ y = x ∨ y ∈ a.ids ∨ y = p ∨ y ∈ b.ids ∨ y ∈ kids k → y ∈ (plug (⟨!s, x, false, a⟩ :: ⟨s, p, false, b⟩ :: k) c).ids := fun y hy => hpm.mem_iff.2 (by simpa using hy)
  have inr : ∀ y, y ∈ c.ids ∨ y = x ∨ y ∈ a.ids ∨ y = p ∨ y ∈ b.ids ∨ y ∈ kids k → y < r.n := fun y hy => hr.sl y (hT.inS y (mem y hy))
  have n0 : 0 < r.n := by have := inr x (by simp); omega
  have rlt : ∀ (t : ST), (∀ y ∈ t.ids, y < r.n) → t.root < r.n := fun t ht => by
    by_cases h0 : t.root = 0
    · omega
    · exact ht _ (root_mem h0)
  simp only [List.nodup_append, List.nodup_cons, List.mem_append, List.mem_cons, not_or] at nd
  obtain ⟨dc, ⟨⟨xa, xp, xb, xk⟩, da, ⟨⟨pb, pk⟩, db, dk, dbk⟩, dax⟩, dcx⟩ := nd
  have hxc : x ∉ c.ids := fun hm => dcx x hm x (.inl rfl) rfl
  have hpc : p ∉ c.ids := fun hm => dcx p hm p (.inr (.inr (.inl rfl))) rfl
  have hpa : p ∉ a.ids := fun hm => dax p hm p (.inl rfl) rfl
  have hca : ∀ y ∈ c.ids, y ∉ a.ids := fun y hy hm => dcx y hy y (.inr (.inl hm)) rfl
  have hcb : ∀ y ∈ c.ids, y ∉ b.ids := fun y hy hm => dcx y hy y (.inr (.inr (.inr (.inl hm)))) rfl
  have hck : ∀ y ∈ c.ids, y ∉ kids k := fun y hy hm => dcx y hy y (.inr (.inr (.inr (.inr hm)))) rfl
  have hab : ∀ y ∈ a.ids, y ∉ b.ids := fun y hy hm => dax y hy y (.inr (.inl hm)) rfl
  have hak : ∀ y ∈ a.ids, y ∉ kids k := fun y hy hm => dax y hy y (.inr (.inr hm)) rfl
  have hbk : ∀ y ∈ b.ids, y ∉ kids k := fun y hy hm => dbk y hy y hm rfl
  -- where the top hangs
  obtain ⟨kt, hkt⟩ : ∃ kt : Option Bool, kt = k.head?.map Fm.s := ⟨_, rfl⟩
  have topm : ∀ b', kt = some b' → upOf k pp ∈ kids k ∧ upOf k pp ≠ 0 := by
    intro b' hb
    cases k with
    | nil => rw [hkt] at hb; cases hb
    | cons f k => exact ⟨by simp [upOf, kids], (OkS.sub1 (OkS.sub k hok)).1⟩
  have toplt : upOf k pp < r.n := by
    cases k with
    | nil => exact hT.pl
    | cons f k => exact inr _ (by simp [upOf, kids])
  have s1 : sideN N x = sI s := by
    have := side_plug (f := ⟨s, p, false, b⟩) (k := k) (t := plug1 ⟨!s, x, false, a⟩ c) hok hT.nd (by rw [plug1_root]; exact x1)
    rw [plug1_root] at this; exact this
  have s2 : sideN N p = ktI kt := by
    cases k with
    | nil =>
      rw [hkt]
      have := side_top (t := plug1 ⟨s, p, false, b⟩ (plug1 ⟨!s, x, false, a⟩ c)) hok (by rw [plug1_root]; exact p1) hT.nk
      rw [plug1_root] at this; exact this
    | cons f k =>
      rw [hkt]
      have := side_plug (f := f) (k := k) (t := plug1 ⟨s, p, false, b⟩ (plug1 ⟨!s, x, false, a⟩ c)) hok hT.nd (by rw [plug1_root]; exact p1)
      rw [plug1_root] at this; exact this
  have hxcr : getc (!s) (N x) = c.root := by cases s <;> simp [getc] at x3 x4 ⊢ <;> assumption
  have cx : c.root ≠ x := root_notin hxc x1
  have cp : c.root ≠ p := root_notin hpc p1
  have ttop : ∀ b', kt = some b' → upOf k pp ≠ x ∧ upOf k pp ≠ p ∧ (c.root ≠ 0 → upOf k pp ≠ c.root) ∧ upOf k pp ≠ 0 := fun b' hb => by
    obtain ⟨t1, t2⟩ := topm b' hb
    exact ⟨fun e => xk (e ▸ t1), fun e => pk (e ▸ t1), fun h0 e => hck _ (root_mem h0) (e ▸ t1), t2⟩
  obtain ⟨r1, r2, r3, r4, r5⟩ := rotN_at (N := N) (s := s) (kt := kt) x1 p1 xp cx cp ttop
  have clt : c.root < r.n := rlt c fun y hy => inr y (.inl hy)
  refine rot_pre h (kt := kt) (inr x (by simp)) (inr p (by simp)) clt toplt x2 p2 hxcr s1 s2 fun w1 l1 k1 => ?_
  generalize hM : rotN N x p c.root s (upOf k pp) kt = M at l1 r1 r2 r3 r4 r5
  have hMo : ∀ y, (M y).o = own y := fun y => by rw [← hM, rotN_o]; exact hr.no y
  -- what the three trees are
  have el : ∀ y, y ≠ x → y ≠ p → y ∉ c.ids → y ∉ kids k → M y = N y := fun y h1 h2 h3 h4 => r5 y h1 h2 (fun h0 e => h3 (e ▸ root_mem h0)) (fun b' hb e => h4 (e ▸ (topm b' hb).1))
  have oc : OkS M own c p := x7.reup dc (fun h0 => r3 h0) (fun y hy hne => r5 y (fun e => hxc (e ▸ hy)) (fun e => hpc (e ▸ hy)) (fun _ => hne) (fun b' hb e => hck y hy (e ▸ (topm b' hb).1)))
  have oa : OkS M own a x := x8.congr fun y hy => el y (fun e => xa (e ▸ hy)) (fun e => hpa (e ▸ hy)) (fun hm => hca y hm hy) (fun hm => hak y hy hm)
  have ob : OkS M own b p := p8.congr fun y hy => el y (fun e => xb (e ▸ hy)) (fun e => pb (e ▸ hy)) (fun hm => hcb y hm hy) (fun hm => hbk y hy hm)
  have agr : ∀ {t : ST} {u : Nat}, OkS M own t u → (t.root = 0 ∧ t.ids = []) ∨ (t.root ≠ 0 ∧ t.root ∈ t.ids ∧ Ag own t.ids (M t.root)) := fun {t u} ht => by
    cases t with
    | nil => exact .inl ⟨rfl, rfl⟩
    | node y t l r => exact .inr ⟨ht.1, by simp [ST.root, ST.ids], ht.2.2.2.2.2.1⟩
  have Mp0 : (M p).c0 = if s then b.root else c.root := by rw [r2]; cases s <;> simp [setc] at p3 ⊢; exact p3
  have Mp1 : (M p).c1 = if s then c.root else b.root := by rw [r2]; cases s <;> simp [setc] at p4 ⊢; exact p4
  have Mx0 : (M x).c0 = if !s then a.root else p := by rw [r1]; cases s <;> simp [setc] at x3 ⊢; exact x3
  have Mx1 : (M x).c1 = if !s then p else a.root := by rw [r1]; cases s <;> simp [setc] at x4 ⊢; exact x4
  have Mpu : (M p).up = x := by rw [r2]
  have Mxu : (M x).up = upOf k pp := by rw [r1]
  have Mpt : (M p).tn = false := by rw [r2]; cases s <;> exact p5
  have Mxt : (M x).tn = false := by rw [r1]; cases s <;> exact x5
  have alt : a.root < r.n := rlt a fun y hy => inr y (by simp [hy])
  have blt : b.root < r.n := rlt b fun y hy => inr y (by simp [hy])
  have plt : p < r.n := inr p (by simp)
  refine (pull_ok (S := S) l1 hr.oo hr.sm hMo (x := p) (A := if s then b.ids else c.ids) (B := if s then c.ids else b.ids) plt (by cases s <;> assumption) (by cases s <;> assumption) Mp0 Mp1 (by cases s; exact agr oc; exact agr ob) (by cases s; exact agr ob; exact agr oc) p1
    (by cases s; exact nd3 dc db hpc pb hcb; exact nd3 db dc pb hpc fun y hy hm => hcb y hm hy) (fun y hy => hT.inS y (mem y (by cases s <;> simp at hy <;> rcases hy with hy | hy | hy <;> simp [hy])))).mono ?_
  rintro e w2 ⟨rfl, dp, sp, gp, l2, k2⟩
  refine ⟨rfl, ?_⟩
  generalize hM2 : stN M p dp = M2 at l2
  have M2p : M2 p = dp := by rw [← hM2, stN_same]
  have M2n : ∀ y, y ≠ p → M2 y = M y := fun y hy => by rw [← hM2, stN_ne _ _ hy]
  have hM2o : ∀ y, (M2 y).o = own y := fun y => by
    by_cases e : y = p
    · subst e; rw [M2p, sp.o]; exact hMo _
    · rw [M2n y e]; exact hMo y
  have onp : OkS M2 own (plug1 ⟨s, p, false, b⟩ c) x := by
    refine OkS.plug1 p1 (by rw [M2p, sp.up]; exact Mpu) (by rw [M2p, sp.c0]; exact Mp0) (by rw [M2p, sp.c1]; exact Mp1) (by rw [M2p, sp.tn]; exact Mpt) (by rw [M2p]; cases s <;> exact gp) ?_ ?_
    · exact oc.congr fun y hy => M2n y fun e => hpc (e ▸ hy)
    · exact ob.congr fun y hy => M2n y fun e => pb (e ▸ hy)
  have oa2 : OkS M2 own a x := oa.congr fun y hy => M2n y fun e => hpa (e ▸ hy)
  have agr2 : ∀ {t : ST} {u : Nat}, OkS M2 own t u → (t.root = 0 ∧ t.ids = []) ∨ (t.root ≠ 0 ∧ t.root ∈ t.ids ∧ Ag own t.ids (M2 t.root)) := fun {t u} ht => by
    cases t with
    | nil => exact .inl ⟨rfl, rfl⟩
    | node y t l r => exact .inr ⟨ht.1, by simp [ST.root, ST.ids], ht.2.2.2.2.2.1⟩
  have npm : (plug1 ⟨s, p, false, b⟩ c).ids.Perm (c.ids ++ p :: b.ids) := plug1_ids _ _
  have agp : (p = 0 ∧ (plug1 ⟨s, p, false, b⟩ c).ids = []) ∨ (p ≠ 0 ∧ p ∈ (plug1 ⟨s, p, false, b⟩ c).ids ∧ Ag own (plug1 ⟨s, p, false, b⟩ c).ids (M2 p)) := by
    have := agr2 onp
    rw [plug1_root] at this; exact this
  have npd : (plug1 ⟨s, p, false, b⟩ c).ids.Nodup := npm.nodup_iff.2 (nd3 dc db hpc pb hcb)
  have xnp : x ∉ (plug1 ⟨s, p, false, b⟩ c).ids := fun hm => by
    have := npm.mem_iff.1 hm
    simp at this
    rcases this with h | h | h
    · exact hxc h
    · exact xp h
    · exact xb h
  have anp : ∀ y ∈ a.ids, y ∉ (plug1 ⟨s, p, false, b⟩ c).ids := fun y hy hm => by
    have := npm.mem_iff.1 hm
    simp at this
    rcases this with h | h | h
    · exact hca y h hy
    · exact hpa (h ▸ hy)
    · exact hab y hy h
  have npS : ∀ y ∈ (plug1 ⟨s, p, false, b⟩ c).ids, S y := fun y hy => hT.inS y (mem y (by
    have := npm.mem_iff.1 hy
    simp at this
    rcases this with h | h | h <;> simp [h]))
  refine (pull_ok (S := S) l2 hr.oo hr.sm hM2o (x := x) (A := if !s then a.ids else (plug1 ⟨s, p, false, b⟩ c).ids) (B := if !s then (plug1 ⟨s, p, false, b⟩ c).ids else a.ids) (a := if !s then a.root else p) (b := if !s then p else a.root) (inr x (by simp)) (by cases s <;> assumption) (by cases s <;> assumption)
    (by rw [M2n x xp]; exact Mx0) (by rw [M2n x xp]; exact Mx1) (by cases s; exact agr2 oa2; exact agp) (by cases s; exact agp; exact agr2 oa2) x1
    (by cases s; exact nd3 da npd xa xnp anp; exact nd3 npd da xnp xa fun y hy hm => anp y hm hy) (fun y hy => by cases s <;> simp only [Bool.not_true, Bool.not_false, Bool.false_eq_true, if_true, if_false, List.mem_append, List.mem_cons] at hy <;> rcases hy with hy | hy | hy <;> first | exact npS y hy | exact hT.inS y (mem y (by simp [hy])))).mono ?_
  rintro e w3 ⟨rfl, dx, sx, gx, l3, k3⟩
  refine ⟨rfl, rfl, _, ⟨l3, (k1.trans k2).trans k3⟩, ?_, ?_, ?_, ?_⟩
  · refine OkS.swap1 k (t := plug1 ⟨s, p, false, b⟩ (plug1 ⟨!s, x, false, a⟩ c)) (t' := plug1 ⟨!s, x, false, a⟩ (plug1 ⟨s, p, false, b⟩ c)) hok hT.nd ?_ ?_ ?_ ?_
    · refine (plug1_ids _ _).trans ((npm.append_right _).trans (List.Perm.trans ?_ ((plug1_ids _ _).trans ((plug1_ids _ _).append_right _)).symm))
      simp only [List.append_assoc, List.cons_append]
      refine List.Perm.append_left _ ?_
      refine (List.Perm.cons p ((List.perm_append_comm (l₁ := b.ids) (l₂ := x :: a.ids)))).trans ?_
      simp only [List.cons_append]
      refine (List.Perm.swap x p _).trans (List.Perm.cons x ?_)
      exact List.perm_middle.symm
    · rw [M2n x xp] at sx
      refine OkS.plug1 x1 (by rw [stN_same, sx.up]; exact Mxu) (by rw [stN_same, sx.c0, plug1_root]; exact Mx0) (by rw [stN_same, sx.c1, plug1_root]; exact Mx1) (by rw [stN_same, sx.tn]; exact Mxt) (by rw [stN_same]; cases s <;> exact gx) ?_ ?_
      · exact onp.congr fun y hy => stN_ne _ _ fun e => xnp (e ▸ hy)
      · exact oa2.congr fun y hy => stN_ne _ _ fun e => xa (e ▸ hy)
    · intro y hy hne
      have e1 : y ≠ x := fun e => xk (e ▸ hy)
      have e2 : y ≠ p := fun e => pk (e ▸ hy)
      rw [stN_ne _ _ e1, M2n y e2]
      exact r5 y e1 e2 (fun h0 e => hck _ (root_mem h0) (e ▸ hy)) (fun _ _ => hne)
    · intro f k' hk
      have hb : kt = some f.s := by rw [hkt, hk]; rfl
      have ht : upOf k pp = f.p := by rw [hk]; rfl
      obtain ⟨t1, t2, t3, t4⟩ := ttop _ hb
      rw [plug1_root, ← ht, stN_ne _ _ t1, M2n _ t2]
      exact r4 _ hb
  · intro y hy
    have e1 : y ≠ x := fun e => hy (mem y (by simp [e]))
    have e2 : y ≠ p := fun e => hy (mem y (by simp [e]))
    rw [stN_ne _ _ e1, M2n y e2]
    exact el y e1 e2 (fun hm => hy (mem y (by simp [hm]))) (fun hm => hy (mem y (by simp [hm])))
  · refine (plug_ids _ _).trans (List.Perm.trans ?_ hpm.symm)
    simp only [kids]
    refine List.Perm.append_left _ ?_
    refine (List.Perm.cons p (List.perm_append_comm (l₁ := b.ids) (l₂ := x :: (a.ids ++ kids k)))).trans ?_
    simp only [List.cons_append, List.append_assoc]
    refine (List.Perm.swap x p _).trans (List.Perm.cons x ?_)
    refine (List.perm_middle (l₁ := a.ids)).symm.trans (List.Perm.append_left _ (List.Perm.cons p List.perm_append_comm))
  · intro y
    by_cases e : y = x
    · subst e; rw [stN_same, sx.o, M2n _ xp, hMo, hr.no]
    · rw [stN_ne _ _ e, hM2o, hr.no]
end Go.Proofs.Ytfknppccgojhdaa.Rd
