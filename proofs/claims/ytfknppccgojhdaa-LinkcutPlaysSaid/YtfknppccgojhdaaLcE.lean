/- Splaying: the walk; a node becomes the root of its tree, and the tree's order stays. Conditions: none. -/
import Derived.Test.YtfknppccgojhdaaLcD
namespace Go.Dn
open Go.RowKit
set_option linter.unusedVariables false
set_option linter.unusedSimpArgs false
theorem find_plug {x : Nat} : ∀ {T : ST}, x ∈ T.ids → ∃ k t l r, T = plug k (.node x t l r) := by
  have main : ∀ (T : ST) (k : List Fm), x ∈ T.ids → ∃ k' t l r, plug k T = plug k' (.node x t l r) := by
    intro T
    induction T with
    | nil => intro k h; simp [ST.ids] at h
    | node y t l r ihl ihr =>
      intro k h
      simp only [ST.ids, List.mem_append, List.mem_cons] at h
      rcases h with h | rfl | h
      · exact ihl (⟨false, y, t, r⟩ :: k) h
      · exact ⟨k, t, l, r, rfl⟩
      · exact ihr (⟨true, y, t, l⟩ :: k) h
  intro T h
  exact main T [] h
inductive Pth : ST → List Nat → Nat → Prop
  | here (x : Nat) (t : Bool) (l r : ST) : Pth (.node x t l r) [x] x
  | left {l : ST} {qs : List Nat} {x : Nat} (y : Nat) (t : Bool) (r : ST) (h : Pth l qs x) : Pth (.node y t l r) (y :: qs) x
  | right {r : ST} {qs : List Nat} {x : Nat} (y : Nat) (t : Bool) (l : ST) (h : Pth r qs x) : Pth (.node y t l r) (y :: qs) x
theorem Pth.tog {t : ST} {qs : List Nat} {x : Nat} (h : Pth t qs x) : Pth t.tog qs x := by
  cases h with
  | here => exact .here _ _ _ _
  | left y t r h => exact .left _ _ _ h
  | right y t l h => exact .right _ _ _ h
theorem Pth.push {t : ST} {qs : List Nat} {x : Nat} (h : Pth t qs x) : ∃ y l r, t.push = .node y false l r ∧ t.root = y ∧ ((qs = [x] ∧ y = x) ∨ ∃ qs', qs = y :: qs' ∧ (Pth l qs' x ∨ Pth r qs' x)) := by
  cases h with
  | here => rename_i t l r; cases t <;> exact ⟨_, _, _, rfl, rfl, .inl ⟨rfl, rfl⟩⟩
  | left y t r h =>
    cases t
    · exact ⟨_, _, _, rfl, rfl, .inr ⟨_, rfl, .inl h⟩⟩
    · exact ⟨_, _, _, rfl, rfl, .inr ⟨_, rfl, .inr h.tog⟩⟩
  | right y t l h =>
    cases t
    · exact ⟨_, _, _, rfl, rfl, .inr ⟨_, rfl, .inr h⟩⟩
    · exact ⟨_, _, _, rfl, rfl, .inr ⟨_, rfl, .inl h.tog⟩⟩
theorem Pth.ne {t : ST} {qs : List Nat} {x : Nat} (h : Pth t qs x) : qs ≠ [] := by cases h <;> simp
theorem Pth.plug1 {t : ST} {qs : List Nat} {x : Nat} (h : Pth t qs x) (f : Fm) : Pth (Dn.plug1 f t) (f.p :: qs) x := by
  unfold Dn.plug1
  cases f.s
  · exact .left _ _ _ h
  · exact .right _ _ _ h
theorem Pth.plug : ∀ (k : List Fm) {t : ST} {qs : List Nat} {x : Nat}, Pth t qs x → Pth (Dn.plug k t) ((k.map Fm.p).reverse ++ qs) x
  | [], _, _, _, h => by simpa [Dn.plug] using h
  | f :: k, t, qs, x, h => by
    have := Pth.plug k (h.plug1 f)
    simpa [Dn.plug] using this
theorem plug1_flip (s : Bool) (p : Nat) (t : Bool) (a b : ST) : plug1 ⟨s, p, t, a⟩ b = plug1 ⟨!s, p, t, b⟩ a := by cases s <;> rfl
theorem rot_flat (s : Bool) (x p : Nat) (a b c : ST) : (plug1 ⟨!s, x, false, a⟩ (plug1 ⟨s, p, false, b⟩ c)).flat = (plug1 ⟨s, p, false, b⟩ (plug1 ⟨!s, x, false, a⟩ c)).flat := by
  cases s <;> simp [plug1, ST.flat]
theorem Keeps.of_ge {B : Nat} {w w' : World} (h : Below B w w') : Keeps (fun k => B ≤ k) w w' := ⟨h.os, h.tape, h.output, h.size, fun k hk hn => h.block k (by omega)⟩
end Go.Dn
namespace Go.Proofs.Ytfknppccgojhdaa.Rd
open Go.Dn Go.RowKit
set_option linter.unusedVariables false
set_option maxRecDepth 100000
theorem Tst.refl {own : Nat → E} {S : Nat → Prop} {r : LC} {w w' : World} {N : Nat → Nd} {T : ST} {pp : Nat} (h : Lp w' r N) (k : Keeps (fun k => k = r.g) w w') (ok : OkS N own T pp) : Tst own S r w w' N N T T pp :=
  ⟨⟨h, k⟩, ok, fun _ _ => rfl, List.Perm.refl _, fun _ => rfl⟩
/-- a turn handed down in a tree -/
theorem push_tree {own : Nat → E} {S : Nat → Prop} {w : World} {r : LC} {N : Nat → Nd} (h : Lp w r N) (hr : Rm own S r N) {k : List Fm} {t : ST} {pp : Nat} (hT : Tre own S r N (plug k t) pp) (h0 : t.root ≠ 0) :
    Calls Try.prog 42 #[.pointer (some ⟨r.R, 0, none⟩), .int .i64 (t.root : Int)] w fun e w' => e = .returned (.tuple #[]) ∧ ∃ N', Tst own S r w w' N N' (plug k t) (plug k t.push) pp := by
  cases t with
  | nil => exact absurd rfl h0
  | node x tn l rr =>
    have hok := OkS.sub k hT.ok
    have hpm := plug_ids k (.node x tn l rr)
    have nd := hpm.nodup_iff.1 hT.nd
    have mem : ∀ y, y ∈ (ST.node x tn l rr).ids ∨ y ∈ kids k → y ∈ (plug k (.node x tn l rr)).ids := fun y hy => hpm.mem_iff.2 (by simpa using hy)
    obtain ⟨h1, h2, h3, h4, h5, h6, h7, h8⟩ := hok
    have xlt : x < r.n := hr.sl x (hT.inS x (mem x (by simp [ST.ids])))
    have rlt : ∀ (t : ST), (∀ y ∈ t.ids, y ∈ (ST.node x tn l rr).ids) → t.root < r.n := fun t ht => by
      by_cases h0 : t.root = 0
      · omega
      · exact hr.sl _ (hT.inS _ (mem _ (.inl (ht _ (root_mem h0)))))
    have llt := rlt l fun y hy => by simp [ST.ids, hy]
    have rlt := rlt rr fun y hy => by simp [ST.ids, hy]
    refine (push_ok h xlt (by omega) (by omega)).mono ?_
    rintro e w' ⟨rfl, l1, k1⟩
    refine ⟨rfl, ?_⟩
    cases tn with
    | false =>
      have e1 : pushN N x = N := by unfold pushN; rw [h5]; rfl
      rw [e1] at l1
      exact ⟨N, Tst.refl l1 k1 hT.ok⟩
    | true =>
      refine ⟨_, ⟨l1, k1⟩, ?_, ?_, ?_, ?_⟩
      all_goals
        simp only [ST.ids, List.nodup_append, List.nodup_cons, List.mem_append, List.mem_cons] at nd
        obtain ⟨⟨dl, ⟨xr, dr⟩, dlx⟩, dk, djk⟩ := nd
        have xl : x ∉ l.ids := fun hm => dlx x hm x (.inl rfl) rfl
        have lr : ∀ y ∈ l.ids, y ∉ rr.ids := fun y hy hm => dlx y hy y (.inr hm) rfl
        have lx : l.root ≠ x := root_notin xl h1
        have rx : rr.root ≠ x := root_notin xr h1
        have lrr : l.root ≠ 0 → l.root ≠ rr.root := fun hl e => lr _ (root_mem hl) (e ▸ root_mem (e ▸ hl))
        have ep : pushN N x = togN (togN (stN N x { N x with tn := false, c0 := rr.root, c1 := l.root }) rr.root) l.root := by
          unfold pushN; rw [h5, h3, h4]; rfl
        have el : ∀ y, y ≠ x → (rr.root ≠ 0 → y ≠ rr.root) → (l.root ≠ 0 → y ≠ l.root) → pushN N x y = N y := by
          intro y e1 e2 e3
          rw [ep]
          unfold togN
          by_cases a1 : l.root = 0 <;> by_cases a2 : rr.root = 0 <;> simp [a1, a2, stN, e1, e2, e3, *]
        have ex : pushN N x x = { N x with tn := false, c0 := rr.root, c1 := l.root } := by
          rw [ep]; unfold togN
          by_cases a1 : l.root = 0 <;> by_cases a2 : rr.root = 0 <;> simp [a1, a2, stN, lx.symm, rx.symm]
        have err : rr.root ≠ 0 → pushN N x rr.root = { N rr.root with tn := !(N rr.root).tn } := by
          intro a2
          rw [ep]; unfold togN
          by_cases a1 : l.root = 0
          · simp [a1, a2, stN, rx]
          · have := (lrr a1).symm
            simp [a1, a2, stN, rx, this]
        have ell : l.root ≠ 0 → pushN N x l.root = { N l.root with tn := !(N l.root).tn } := by
          intro a1
          rw [ep]; unfold togN
          have := lrr a1
          by_cases a2 : rr.root = 0
          · simp [a1, a2, stN, lx]
          · simp [a1, a2, stN, lx, this]
      · refine OkS.swap0 k hT.ok (by rw [ST.push_root]) (ST.push_ids _) ?_ ?_
        · refine ⟨h1, by rw [ex]; exact h2, by rw [ex]; exact (ST.root_tog _).symm, by rw [ex]; exact (ST.root_tog _).symm, by rw [ex], ?_, ?_, ?_⟩
          · rw [ex]
            have := h6.perm (ST.swap_perm l.ids rr.ids x)
            rw [ST.ids_tog, ST.ids_tog]
            exact ⟨this.mx, this.sr, this.si⟩
          · exact h8.tog dr err fun y hy hne => el y (fun e => xr (e ▸ hy)) (fun _ => hne) (fun hl e => lr _ (root_mem hl) (e ▸ hy))
          · exact h7.tog dl ell fun y hy hne => el y (fun e => xl (e ▸ hy)) (fun hl e => lr y hy (e ▸ root_mem hl)) (fun _ => hne)
        · intro y hy
          exact el y (fun e => djk x (.inr (.inl rfl)) y hy e.symm) (fun h0 e => djk _ (.inr (.inr (root_mem h0))) y hy e.symm) (fun h0 e => djk _ (.inl (root_mem h0)) y hy e.symm)
      · intro y hy
        exact el y (fun e => hy (mem y (by simp [ST.ids, e]))) (fun h0 e => hy (mem y (by simp [ST.ids, e, root_mem h0]))) (fun h0 e => hy (mem y (by simp [ST.ids, e, root_mem h0])))
      · exact (plug_ids _ _).trans (((ST.push_ids _).append_right _).trans hpm.symm)
      · intro y
        rw [ep]
        have t : ∀ (M : Nat → Nd) (z y : Nat), (togN M z y).o = (M y).o := by
          intro M z y
          unfold togN stN
          by_cases a : z = 0
          · simp [a]
          · by_cases b : y = z <;> simp [a, b]
        rw [t, t]
        unfold stN
        split
        · rename_i e; subst e; rfl
        · rfl
/-- a node rotated -/
theorem rotx {own : Nat → E} {S : Nat → Prop} {w : World} {r : LC} {N : Nat → Nd} (h : Lp w r N) (hr : Rm own S r N) {f : Fm} {k : List Fm} {x : Nat} {a b : ST} {pp : Nat} (hf : f.t = false) (hT : Tre own S r N (plug (f :: k) (.node x false a b)) pp) :
    Calls Try.prog 49 #[.pointer (some ⟨r.R, 0, none⟩), .int .i64 (x : Int)] w fun e w' => e = .returned (.tuple #[]) ∧ ∃ N' a' b', Tst own S r w w' N N' (plug (f :: k) (.node x false a b)) (plug k (.node x false a' b')) pp ∧ (plug k (.node x false a' b')).flat = (plug (f :: k) (.node x false a b)).flat := by
  obtain ⟨s, p, t, sib⟩ := f
  simp only at hf; subst hf
  obtain ⟨c, d, e⟩ : ∃ c d, ST.node x false a b = plug1 ⟨!s, x, false, c⟩ d := by
    cases s
    · exact ⟨a, b, rfl⟩
    · exact ⟨b, a, rfl⟩
  rw [e] at hT ⊢
  refine (rotate_ok h hr (k := k) (s := s) (x := x) (p := p) (a := c) (b := sib) (c := d) hT).mono ?_
  rintro e' w' ⟨rfl, N', ht⟩
  obtain ⟨a', b', e2⟩ : ∃ a' b', plug1 ⟨!s, x, false, c⟩ (plug1 ⟨s, p, false, sib⟩ d) = ST.node x false a' b' := by
    cases s
    · exact ⟨_, _, rfl⟩
    · exact ⟨_, _, rfl⟩
  refine ⟨rfl, N', a', b', ?_, ?_⟩
  · rw [← e2]; exact ht
  · rw [← e2]; exact plug_flat k (rot_flat s x p c sib d)
theorem sI_ne (s : Bool) : (sI s == -1) = false := by cases s <;> decide
theorem sI_ge (s : Bool) : decide (sI s ≥ 0) = true := by cases s <;> decide
theorem sI_inj {s t : Bool} : (sI s == sI t) = (s == t) := by cases s <;> cases t <;> decide
theorem up_root {N : Nat → Nd} {own : Nat → E} {t : ST} {u : Nat} (h : OkS N own t u) (h0 : t.root ≠ 0) : (N t.root).up = u := by
  cases t with
  | nil => exact absurd rfl h0
  | node x t l r => exact h.2.1
/-- the last loop: rotations until the node is the root -/
theorem splay_l2 {own : Nat → E} {S : Nat → Prop} {r : LC} {w0 : World} {N0 : Nat → Nd} {T0 : ST} {pp x : Nat} {K : World → Prop} (hr0 : Rm own S r N0) (hT0 : Tre own S r N0 T0 pp)
    (hK : ∀ w' N' a b, Tst own S r w0 w' N0 N' T0 (.node x false a b) pp → (ST.node x false a b).flat = T0.flat → K w') :
    ∀ (fuel : Nat) (k : List Fm) (a b : ST) (N : Nat → Nd) (w : World), k.length < fuel → (∀ f ∈ k, f.t = false) → Tst own S r w0 w N0 N T0 (plug k (.node x false a b)) pp → (plug k (.node x false a b)).flat = T0.flat →
      ∀ sd, sd = sideN N x → f_linkcut_Forest_splay.l2 fuel ⟨r.R, 0, none⟩ (x : Int) sd w K := by
  intro fuel
  induction fuel using Nat.strongRecOn with
  | _ fuel ih =>
    intro k a b N w hlen hf ht hfl sd hsd
    obtain ⟨fuel, rfl⟩ : ∃ m, fuel = m + 1 := ⟨fuel - 1, by omega⟩
    have hT := ht.tre hT0
    have hr := ht.rm hr0
    have hl := ht.aft.1
    have hx0 : x ≠ 0 := (OkS.sub k hT.ok).1
    have inr : ∀ y, y ∈ (plug k (ST.node x false a b)).ids → y < r.n := fun y hy => hr.sl y (hT.inS y hy)
    have hxm : x ∈ (plug k (ST.node x false a b)).ids := (plug_ids k _).mem_iff.2 (by simp [ST.ids])
    have ult : ∀ y, y ∈ (plug k (ST.node x false a b)).ids → (N y).up < r.n := fun y hy => by
      rcases hT.ok.up_in y hy with h | h
      · rw [h.2]; exact hT.pl
      · exact inr _ h
    unfold f_linkcut_Forest_splay.l2
    cases k with
    | nil =>
      have := side_top (t := ST.node x false a b) hT.ok hx0 hT.nk
      rw [hsd, show sideN N x = -1 from this]
      exact sel_f (by decide) (hK w N a b ht hfl)
    | cons f k =>
      have s1 : sideN N x = sI f.s := side_plug (f := f) (k := k) (t := ST.node x false a b) hT.ok hT.nd hx0
      have hu : (N x).up = f.p := (OkS.sub (f :: k) hT.ok).2.1
      have fpm : f.p ∈ (plug (f :: k) (ST.node x false a b)).ids := (plug_ids (f :: k) _).mem_iff.2 (by simp [kids])
      have hp := OkS.sub k (t := plug1 f (ST.node x false a b)) hT.ok
      have fp0 : f.p ≠ 0 := hp.sub1.1
      rw [hsd, s1]
      refine sel_t (sI_ge _) ?_
      refine lc_at (K := fun a => ldI w ((a.add _).add 2) .i64 _) hl (inr x hxm) rfl (lc_ld hl (inr x hxm) rfl 2 (by omega) rfl ?_)
      rw [hu]
      refine (side_ok hl (inr _ fpm) (ult _ fpm)).mono ?_
      rintro e w' ⟨rfl, hw⟩
      rw [hw]
      refine ⟨_, rfl, ?_⟩
      have f0 : f.t = false := hf f (by simp)
      -- the node rotated once more, and on
      have last : ∀ (N2 : Nat → Nd) (w2 : World) (g : Fm) (k2 : List Fm) (a2 b2 : ST), k2.length < fuel → g.t = false → (∀ f ∈ k2, f.t = false) → Tst own S r w0 w2 N0 N2 T0 (plug (g :: k2) (.node x false a2 b2)) pp → (plug (g :: k2) (.node x false a2 b2)).flat = T0.flat →
          Calls Try.prog 49 #[.pointer (some ⟨r.R, 0, none⟩), .int .i64 (x : Int)] w2 fun e w3 => e = .returned (.tuple #[]) ∧ (Calls Try.prog 48 #[.pointer (some ⟨r.R, 0, none⟩), .int .i64 (x : Int)] w3 fun e w4 => ∃ s : Int, e = .returned (.int .i64 s) ∧ f_linkcut_Forest_splay.l2 fuel ⟨r.R, 0, none⟩ (x : Int) s w4 K) := by
        intro N2 w2 g k2 a2 b2 hlt g0 hf2 ht2 hfl2
        refine (rotx ht2.aft.1 (ht2.rm hr0) g0 (ht2.tre hT0)).mono ?_
        rintro e w3 ⟨rfl, N3, a3, b3, t3, fl3⟩
        have t3' := ht2.trans t3
        have hT3 := t3'.tre hT0
        have hr3 := t3'.rm hr0
        refine ⟨rfl, (side_ok t3.aft.1 (hr3.sl x (hT3.inS x ((plug_ids k2 _).mem_iff.2 (by simp [ST.ids])))) ?_).mono ?_⟩
        · rcases hT3.ok.up_in x ((plug_ids k2 _).mem_iff.2 (by simp [ST.ids])) with h | h
          · rw [h.2]; exact hT3.pl
          · exact hr3.sl _ (hT3.inS _ h)
        · rintro e w4 ⟨rfl, rfl⟩
          exact ⟨_, rfl, ih fuel (by omega) k2 a3 b3 N3 w4 hlt hf2 t3' (fl3.trans hfl2) _ rfl⟩
      cases k with
      | nil =>
        have s2 : sideN N f.p = -1 := by
          have := side_top (t := plug1 f (ST.node x false a b)) hT.ok (by rw [plug1_root]; exact fp0) hT.nk
          rw [plug1_root] at this; exact this
        rw [s2]
        refine sel_t (by decide) ((last N w f [] a b (by simp at hlen ⊢; omega) f0 (by simp) ht hfl).mono ?_)
        rintro e w3 ⟨rfl, h3⟩
        exact ⟨rfl, h3⟩
      | cons g k =>
        have g0 : g.t = false := hf g (by simp)
        have s2 : sideN N f.p = sI g.s := by
          have := side_plug (f := g) (k := k) (t := plug1 f (ST.node x false a b)) hT.ok hT.nd (by rw [plug1_root]; exact fp0)
          rw [plug1_root] at this; exact this
        rw [s2]
        refine sel_f (sI_ne _) ?_
        rw [sI_inj]
        by_cases hgf : g.s = f.s
        · refine sel_t (by simp [hgf]) ?_
          obtain ⟨s, p, t, sib⟩ := f
          obtain ⟨s', q, t', sib'⟩ := g
          simp only at f0 g0 hgf; subst f0; subst g0; subst hgf
          have ef : ∀ k, plug (⟨s', p, false, sib⟩ :: k) (ST.node x false a b) = plug (⟨!s', p, false, ST.node x false a b⟩ :: k) sib := fun k => by
            show plug k (plug1 _ _) = plug k (plug1 _ _); rw [plug1_flip]
          have hT' := hT
          rw [ef] at hT'
          refine (rotate_ok hl hr (k := k) (s := s') (x := p) (p := q) (a := ST.node x false a b) (b := sib') (c := sib) hT').mono ?_
          rintro e w3 ⟨rfl, N3, t3⟩
          refine ⟨rfl, ?_⟩
          have e3 : plug (⟨s', q, false, sib'⟩ :: ⟨!s', p, false, ST.node x false a b⟩ :: k) sib = plug (⟨s', p, false, plug1 ⟨s', q, false, sib'⟩ sib⟩ :: k) (ST.node x false a b) := by
            show plug k (plug1 _ (plug1 _ _)) = plug k (plug1 _ _)
            rw [plug1_flip s' p]
          have fl3 : (plug (⟨s', p, false, plug1 ⟨s', q, false, sib'⟩ sib⟩ :: k) (ST.node x false a b)).flat = T0.flat := by
            rw [← e3, ← hfl, ef]
            exact plug_flat k (rot_flat s' p q _ _ _)
          rw [e3, ← ef] at t3
          refine (last N3 w3 _ k a b (by simp at hlen ⊢; omega) rfl (fun f hf' => hf f (by simp [hf'])) (ht.trans t3) fl3).mono ?_
          rintro e w4 ⟨rfl, h4⟩
          exact ⟨rfl, h4⟩
        · refine sel_f (by simp [hgf]) ?_
          refine (rotx hl hr f0 hT).mono ?_
          rintro e w3 ⟨rfl, N3, a3, b3, t3, fl3⟩
          refine ⟨rfl, (last N3 w3 g k a3 b3 (by simp at hlen ⊢; omega) g0 (fun f hf' => hf f (by simp [hf'])) (ht.trans t3) (fl3.trans hfl)).mono ?_⟩
          rintro e w4 ⟨rfl, h4⟩
          exact ⟨rfl, h4⟩
end Go.Proofs.Ytfknppccgojhdaa.Rd
