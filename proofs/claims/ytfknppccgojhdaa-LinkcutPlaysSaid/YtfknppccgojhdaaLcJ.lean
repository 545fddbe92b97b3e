/- Forests of trees: a node is parted from its neighbour, a tree is hung on a node, a node comes and goes. Conditions: none. -/
import Derived.Test.YtfknppccgojhdaaLcI
namespace Go.Dn
open Go.RowKit
set_option linter.unusedVariables false
theorem flat_one {T : ST} {a : Nat} (h : T.flat = [a]) : ∃ t, T = .node a t .nil .nil := by
  cases T with
  | nil => simp [ST.flat] at h
  | node x t l r =>
    have h' : l.flat ++ x :: r.flat = [a] := by
      cases t
      · simpa [ST.flat] using h
      · have : (l.flat ++ x :: r.flat).reverse = [a] := by simpa only [ST.flat, if_true] using h
        have := congrArg List.reverse this
        simpa using this
    have h2 := congrArg List.length h'
    simp at h2
    have hl : l.flat = [] := List.length_eq_zero_iff.1 (by omega)
    have hr : r.flat = [] := List.length_eq_zero_iff.1 (by omega)
    rw [hl, hr] at h'
    simp at h'
    exact ⟨t, by rw [flat_nil hl, flat_nil hr, h']⟩
/-- one node's par changes to 0 or is new: ways stay ways -/
theorem up_zero {par par' : Nat → Nat} {b : Nat} (h1 : par' b = 0) (h2 : ∀ y, y ≠ b → par' y = par y) : ∀ {y : Nat} {c : List Nat}, Up par y c → ∃ c', Up par' y c' := by
  intro y c h
  induction h with
  | zero => exact ⟨[], .zero⟩
  | step h0 h ih =>
    rename_i x c
    by_cases e : x = b
    · subst e; exact ⟨_, .step h0 (by rw [h1]; exact .zero)⟩
    · obtain ⟨c', hc⟩ := ih
      exact ⟨_, .step h0 (by rw [h2 x e]; exact hc)⟩
def setP (par : Nat → Nat) (b v : Nat) (y : Nat) : Nat := if y = b then v else par y
theorem setP_same (par : Nat → Nat) (b v : Nat) : setP par b v b = v := by simp [setP]
theorem setP_ne (par : Nat → Nat) {b y : Nat} (v : Nat) (h : y ≠ b) : setP par b v y = par y := by simp [setP, h]
/-- two nodes of one tree parted: each its own tree -/
theorem FoOk.part {own : Nat → E} {S : Nat → Prop} {N N' : Nat → Nd} {par : Nat → Nat} {Fo : Fst} (h : FoOk own S N par Fo) {a b : Nat} {t : Bool} (hT : Fo (.node b false (.node a t .nil .nil) .nil, 0)) (hpb : par b = a) (hpa : par a = 0) (hok1 : OkS N' own (.node b false .nil .nil) 0) (hok2 : OkS N' own (.node a t .nil .nil) 0)
    (hel : ∀ z, z ≠ a → z ≠ b → N' z = N z) : FoOk own S N' (setP par b 0) (fun p => p = (.node b false .nil .nil, 0) ∨ p = (.node a t .nil .nil, 0) ∨ (Fo p ∧ p ≠ (.node b false (.node a t .nil .nil) .nil, 0))) := by
  obtain ⟨t1, t2, t3, t4⟩ := h.ok _ _ hT
  have hab : a ≠ b := by
    intro e; subst e
    simp [ST.ids] at t4
  have old : ∀ p, Fo p → p ≠ (.node b false (.node a t .nil .nil) .nil, 0) → ∀ z ∈ p.1.ids, z ≠ a ∧ z ≠ b := fun p hp hne z hz => by
    refine ⟨fun e => hne (h.uq p _ z hp hT hz (by simp [ST.ids, e])), fun e => hne (h.uq p _ z hp hT hz (by simp [ST.ids, e]))⟩
  have aS := h.inS hT a (by simp [ST.ids])
  have bS := h.inS hT b (by simp [ST.ids])
  refine ⟨?_, ?_, ?_, ?_, ?_⟩
  · rintro T q (e | e | ⟨h1, h2⟩)
    · injection e with e1 e2
      subst e1; subst e2
      exact ⟨hok1, hok1.1, ⟨setP_same _ _ _, trivial⟩, by simp [ST.ids]⟩
    · injection e with e1 e2
      subst e1; subst e2
      refine ⟨hok2, hok2.1, ?_, by simp [ST.ids]⟩
      have : (ST.node a t .nil .nil).flat = [a] := by cases t <;> simp [ST.flat]
      rw [this]
      exact ⟨by rw [setP_ne _ _ hab]; exact hpa, trivial⟩
    · obtain ⟨o1, o2, o3, o4⟩ := h.ok T q h1
      exact ⟨o1.congr fun z hz => hel z (old _ h1 h2 z hz).1 (old _ h1 h2 z hz).2, o2, o3.congr fun z hz => setP_ne _ _ (old _ h1 h2 z (flat_mem.1 hz)).2, o4⟩
  · have m1 : ∀ z, z ∈ (ST.node b false .nil .nil).ids → z = b := fun z hz => by simpa [ST.ids] using hz
    have m2 : ∀ z, z ∈ (ST.node a t .nil .nil).ids → z = a := fun z hz => by simpa [ST.ids] using hz
    rintro p p' z (rfl | rfl | ⟨h1, h2⟩) (rfl | rfl | ⟨k1, k2⟩) hz hz2
    · rfl
    · exact absurd ((m2 z hz2).symm.trans (m1 z hz)) hab
    · exact absurd (m1 z hz) (old _ k1 k2 z hz2).2
    · exact absurd ((m2 z hz).symm.trans (m1 z hz2)) hab
    · rfl
    · exact absurd (m2 z hz) (old _ k1 k2 z hz2).1
    · exact absurd (m1 z hz2) (old _ h1 h2 z hz).2
    · exact absurd (m2 z hz2) (old _ h1 h2 z hz).1
    · exact h.uq p p' z h1 k1 hz hz2
  · intro z
    rw [h.mem z]
    constructor
    · rintro ⟨p, hp, hz⟩
      by_cases e : p = (.node b false (.node a t .nil .nil) .nil, 0)
      · subst e
        simp only [ST.ids, List.nil_append, List.append_nil, List.mem_append, List.mem_cons, List.not_mem_nil, or_false] at hz
        rcases hz with rfl | rfl
        · exact ⟨_, .inr (.inl rfl), by simp [ST.ids]⟩
        · exact ⟨_, .inl rfl, by simp [ST.ids]⟩
      · exact ⟨p, .inr (.inr ⟨hp, e⟩), hz⟩
    · rintro ⟨p, rfl | rfl | ⟨h1, h2⟩, hz⟩
      · exact ⟨_, hT, by simp [ST.ids] at hz ⊢; simp [hz]⟩
      · exact ⟨_, hT, by simp [ST.ids] at hz ⊢; simp [hz]⟩
      · exact ⟨p, h1, hz⟩
  · intro y hy
    obtain ⟨c, hc⟩ := h.up y hy
    exact up_zero (setP_same _ _ _) (fun y hy => setP_ne _ _ hy) hc
  · intro y hy
    by_cases e : y = b
    · subst e; exact .inl (setP_same _ _ _)
    · rw [setP_ne _ _ e]; exact h.ps y hy
/-- a topmost tree hung on a node of another tree -/
theorem FoOk.hang {own : Nat → E} {S : Nat → Prop} {N N' : Nat → Nd} {par : Nat → Nat} {Fo : Fst} (h : FoOk own S N par Fo) {a x : Nat} {R : ST} (hT : Fo (.node a false .nil R, 0)) (xS : S x) (hns : ¬ SameC par a x) (hok : OkS N' own (.node a false .nil R) x) (hel : ∀ z, z ≠ a → N' z = N z) :
    FoOk own S N' (setP par a x) (fun p => p = (.node a false .nil R, x) ∨ (Fo p ∧ p ≠ (.node a false .nil R, 0))) := by
  obtain ⟨t1, t2, t3, t4⟩ := h.ok _ _ hT
  have hfl : (ST.node a false .nil R).flat = a :: R.flat := by simp [ST.flat]
  rw [hfl] at t3
  have aR : a ∉ R.ids := by simp [ST.ids] at t4; exact t4.1
  have old : ∀ p, Fo p → p ≠ (.node a false .nil R, 0) → ∀ z ∈ p.1.ids, z ≠ a := fun p hp hne z hz e => hne (h.uq p _ z hp hT hz (by simp [ST.ids, e]))
  have aup : Up par a [a] := .step (c := []) (h.nz (h.inS hT a (by simp [ST.ids]))) (by rw [t3.1]; exact .zero)
  -- ways that do not begin at a stay
  have keep : ∀ {y : Nat} {c : List Nat}, Up par y c → a ∉ c → Up (setP par a x) y c := by
    intro y c hc
    induction hc with
    | zero => intro _; exact .zero
    | step h0 hc ih =>
      rename_i y c
      intro hm
      simp only [List.mem_append, List.mem_singleton, not_or] at hm
      exact .step h0 (by rw [setP_ne _ _ (fun e => hm.2 e.symm)]; exact ih hm.1)
  obtain ⟨cx, hcx⟩ := h.up x xS
  have hax : a ∉ cx := by
    intro hm
    obtain ⟨l1, l2, e⟩ := List.append_of_mem hm
    have := (hcx.pre e).unique aup
    refine hns ⟨[a], cx, aup, hcx, ?_⟩
    rw [head_pre e, this]
  have xup := keep hcx hax
  refine ⟨?_, ?_, ?_, ?_, ?_⟩
  · rintro T q (e | ⟨h1, h2⟩)
    · injection e with e1 e2
      subst e1; subst e2
      refine ⟨hok, hok.1, ?_, t4⟩
      rw [hfl]
      exact ⟨setP_same _ _ _, t3.2.congr fun z hz => setP_ne _ _ fun e => aR (e ▸ flat_mem.1 hz)⟩
    · obtain ⟨o1, o2, o3, o4⟩ := h.ok T q h1
      exact ⟨o1.congr fun z hz => hel z (old _ h1 h2 z hz), o2, o3.congr fun z hz => setP_ne _ _ (old _ h1 h2 z (flat_mem.1 hz)), o4⟩
  · rintro p p' z (rfl | ⟨h1, h2⟩) (rfl | ⟨k1, k2⟩) hz hz2
    · rfl
    · exact absurd (h.uq p' _ z k1 hT hz2 hz) k2
    · exact absurd (h.uq p _ z h1 hT hz hz2) h2
    · exact h.uq p p' z h1 k1 hz hz2
  · intro z
    rw [h.mem z]
    constructor
    · rintro ⟨p, hp, hz⟩
      by_cases e : p = (.node a false .nil R, 0)
      · subst e; exact ⟨_, .inl rfl, hz⟩
      · exact ⟨p, .inr ⟨hp, e⟩, hz⟩
    · rintro ⟨p, rfl | ⟨h1, h2⟩, hz⟩
      · exact ⟨_, hT, hz⟩
      · exact ⟨p, h1, hz⟩
  · intro y hy
    obtain ⟨c, hc⟩ := h.up y hy
    clear hy
    induction hc with
    | zero => exact ⟨[], .zero⟩
    | step h0 hc ih =>
      rename_i y c
      by_cases e : y = a
      · subst e; exact ⟨_, .step h0 (by rw [setP_same]; exact xup)⟩
      · obtain ⟨c', hc'⟩ := ih
        exact ⟨_, .step h0 (by rw [setP_ne _ _ e]; exact hc')⟩
  · intro y hy
    by_cases e : y = a
    · subst e; exact .inr (by rw [setP_same]; exact xS)
    · rw [setP_ne _ _ e]; exact h.ps y hy
theorem adj_hang {S : Nat → Prop} {par : Nat → Nat} {a x : Nat} (aS : S a) (xS : S x) (h0 : par a = 0) (hz : ∀ y, S y → y ≠ 0) (y z : Nat) : AdjS S (setP par a x) y z ↔ AdjS S par y z ∨ (y = a ∧ z = x) ∨ (y = x ∧ z = a) := by
  constructor
  · rintro ⟨h1, h2, h3⟩
    by_cases e1 : y = a
    · by_cases e2 : z = a
      · rw [e1, e2, setP_same] at h3
        have : x = a := by rcases h3 with h | h <;> exact h
        exact .inr (.inl ⟨e1, e2.trans this.symm⟩)
      · rw [e1, setP_same, setP_ne _ _ e2] at h3
        rcases h3 with h3 | h3
        · exact .inr (.inl ⟨e1, h3.symm⟩)
        · exact .inl ⟨h1, h2, .inr (by rw [e1]; exact h3)⟩
    · by_cases e2 : z = a
      · rw [e2, setP_same, setP_ne _ _ e1] at h3
        rcases h3 with h3 | h3
        · exact .inl ⟨h1, h2, .inl (by rw [e2]; exact h3)⟩
        · exact .inr (.inr ⟨h3.symm, e2⟩)
      · rw [setP_ne _ _ e1, setP_ne _ _ e2] at h3
        exact .inl ⟨h1, h2, h3⟩
  · rintro (⟨h1, h2, h3⟩ | ⟨rfl, rfl⟩ | ⟨rfl, rfl⟩)
    · refine ⟨h1, h2, ?_⟩
      rcases h3 with h3 | h3
      · left; rw [setP_ne _ _ (fun e => hz _ h2 (by rw [← h3, e, h0]))]; exact h3
      · right; rw [setP_ne _ _ (fun e => hz _ h1 (by rw [← h3, e, h0]))]; exact h3
    · exact ⟨aS, xS, .inl (setP_same _ _ _)⟩
    · exact ⟨xS, aS, .inr (setP_same _ _ _)⟩
theorem adj_part {S : Nat → Prop} {par : Nat → Nat} {a b : Nat} (h1 : par b = a) (h0 : par a = 0) (hab : a ≠ b) (hz : ∀ y, S y → y ≠ 0) (y z : Nat) : AdjS S (setP par b 0) y z ↔ AdjS S par y z ∧ ¬ (y = a ∧ z = b) ∧ ¬ (y = b ∧ z = a) := by
  constructor
  · rintro ⟨k1, k2, k3⟩
    have hy : ∀ y z, S z → setP par b 0 y = z → par y = z ∧ y ≠ b := by
      intro y z hz' h
      by_cases e : y = b
      · subst e; rw [setP_same] at h; exact absurd h.symm (hz z hz')
      · rw [setP_ne _ _ e] at h; exact ⟨h, e⟩
    rcases k3 with k3 | k3
    · obtain ⟨e1, e2⟩ := hy y z k2 k3
      refine ⟨⟨k1, k2, .inl e1⟩, fun h => ?_, fun h => e2 h.1⟩
      rw [h.1, h0] at e1; exact hz z k2 e1.symm
    · obtain ⟨e1, e2⟩ := hy z y k1 k3
      refine ⟨⟨k1, k2, .inr e1⟩, fun h => e2 h.2, fun h => ?_⟩
      rw [h.2, h0] at e1; exact hz y k1 e1.symm
  · rintro ⟨⟨k1, k2, k3⟩, k4, k5⟩
    refine ⟨k1, k2, ?_⟩
    rcases k3 with k3 | k3
    · left
      rw [setP_ne _ _ (fun e => k5 ⟨e, by rw [← k3, e, h1]⟩)]; exact k3
    · right
      rw [setP_ne _ _ (fun e => k4 ⟨by rw [← k3, e, h1], e⟩)]; exact k3
end Go.Dn
namespace Go.Proofs.Ytfknppccgojhdaa.Rd
open Go.Dn Go.RowKit
set_option linter.unusedVariables false
set_option maxRecDepth 100000
theorem part_ok {own : Nat → E} {S : Nat → Prop} {par : Nat → Nat} {r : LC} {w : World} {N : Nat → Nd} {Fo : Fst} (h : En own S r w N par Fo) {a b : Nat} (hab : AdjS S par a b) :
    Calls Try.prog 34 #[.pointer (some ⟨r.R, 0, none⟩), .int .i64 (a : Int), .int .i64 (b : Int)] w fun e w' => e = .returned (.tuple #[]) ∧ ∃ par' N' Fo', En own S r w' N' par' Fo' ∧ Keeps (fun k => k = r.g) w w' ∧ (∀ y z, AdjS S par' y z ↔ AdjS S par y z ∧ ¬ (y = a ∧ z = b) ∧ ¬ (y = b ∧ z = a)) := by
  apply f_linkcut_Forest_part.ok
  unfold f_linkcut_Forest_part.wp
  have aS := hab.1
  have bS := hab.2.1
  refine (root_ok h aS).mono ?_
  rintro e w1 ⟨rfl, par1, N1, F1, ta, p1⟩
  refine ⟨rfl, (access_ok p1.en bS).mono ?_⟩
  rintro e w2 ⟨rfl, N2, F2, tb, p2⟩
  refine ⟨rfl, ?_⟩
  have h0 : par1 a = 0 := p1.par0
  have b0 : b ≠ 0 := h.fo.nz bS
  have a0 : a ≠ 0 := h.fo.nz aS
  have hba : par1 b = a := by
    rcases ((p1.adj a b).2 hab).2.2 with h | h
    · rw [h0] at h; exact absurd h.symm b0
    · exact h
  have aup : Up par1 a ([] ++ [a]) := .step a0 (by rw [h0]; exact .zero)
  have bup : Up par1 b (([] ++ [a]) ++ [b]) := .step b0 (by rw [hba]; exact aup)
  have htb : tb.flat = [a] := by
    have := p2.way.unique bup
    exact (List.append_inj' this rfl).1
  obtain ⟨t, rfl⟩ := flat_one htb
  have hab' : a ≠ b := by
    intro e
    have := bup.nodup
    rw [e] at this; simp at this
  obtain ⟨o1, o2, o3, o4, o5, o6, o7, o8⟩ := (p2.en.fo.ok _ _ p2.top).1
  have blt := p2.en.rm.sl b bS
  have alt := p2.en.rm.sl a aS
  refine lc_at (K := fun A => stW w2 ((A.add _).add _) _ _) p2.en.lp blt rfl ?_
  show stW w2 (((⟨r.g, 0, none⟩ : Addr).add ((b : Int).toNat * 13)).add 0) (.int .i64 ((0 : Nat) : Int)) _
  refine lc_stc p2.en.lp blt rfl false rfl 0 fun w3 l3 k3 => ?_
  refine lc_at (K := fun A => stW w3 ((A.add _).add 2) _ _) l3 alt rfl ?_
  show stW w3 (((⟨r.g, 0, none⟩ : Addr).add ((a : Int).toNat * 13)).add 2) (.int .i64 ((0 : Nat) : Int)) _
  refine lc_st l3 alt rfl 2 (by omega) _ (set_up _ _) fun w4 l4 k4 => ?_
  generalize hM : stN (stN N2 b (setc false (N2 b) 0)) a { stN N2 b (setc false (N2 b) 0) a with up := 0 } = M at l4
  have Mb : M b = setc false (N2 b) 0 := by rw [← hM, stN_ne _ _ (fun e => hab' e.symm), stN_same]
  have Ma : M a = { N2 a with up := 0 } := by rw [← hM, stN_same, stN_ne _ _ hab']
  have Mn : ∀ z, z ≠ a → z ≠ b → M z = N2 z := fun z h1 h2 => by rw [← hM, stN_ne _ _ h1, stN_ne _ _ h2]
  have Mo : ∀ z, (M z).o = own z := fun z => by
    by_cases e1 : z = a
    · subst e1; rw [Ma]; exact p2.en.rm.no _
    · by_cases e2 : z = b
      · subst e2; rw [Mb]; exact p2.en.rm.no _
      · rw [Mn z e1 e2]; exact p2.en.rm.no z
  refine (pull_ok (S := S) l4 h.rm.oo h.rm.sm Mo (x := b) (A := []) (B := []) (a := 0) (b := 0) blt h.n0 h.n0 (by rw [Mb]; rfl) (by rw [Mb]; exact o4) (.inl ⟨rfl, rfl⟩) (.inl ⟨rfl, rfl⟩) b0 (by simp) (by simpa using bS)).mono ?_
  rintro e w5 ⟨rfl, d, sd, gd, l5, k5⟩
  refine And.intro rfl ⟨rfl, setP par1 b 0, stN M b d, _, ⟨l5, ⟨h.rm.oo, h.rm.sm, fun z => ?_, h.rm.sl⟩, p2.en.fo.part (N' := stN M b d) (a := a) (b := b) (t := t) p2.top hba h0 ?_ ?_ ?_, h.n0, h.nl⟩, ?_, ?_⟩
  · by_cases e : z = b
    · subst e; rw [stN_same, sd.o]; exact Mo _
    · rw [stN_ne _ _ e]; exact Mo z
  · refine ⟨b0, by rw [stN_same, sd.up, Mb]; exact o2, by rw [stN_same, sd.c0, Mb]; rfl, by rw [stN_same, sd.c1, Mb]; exact o4, by rw [stN_same, sd.tn, Mb]; exact o5, by rw [stN_same]; exact gd, trivial, trivial⟩
  · refine o7.reup (by simp [ST.ids]) (fun _ => ?_) fun y hy hne => ?_
    · show stN M b d a = _
      rw [stN_ne _ _ hab', Ma]; rfl
    · simp [ST.ids, ST.root] at hy hne; exact absurd hy hne
  · intro z h1 h2
    rw [stN_ne _ _ h2, Mn z h1 h2]
  · exact (p1.kp.trans p2.kp).trans ((k3.trans k4).trans k5)
  · intro y z
    rw [adj_part hba h0 hab' (fun y hy => h.fo.nz hy) y z, p1.adj y z]
end Go.Proofs.Ytfknppccgojhdaa.Rd
