/- A disk in memory: Write, Sync. Conditions: none. -/
import Derived.Test.YtpokaafedpnbdaaDoorDkF
namespace Go.Proofs.YtpokaafedpnbdaaDoor.Rd
open Go.Dn Go.RowKit Go.Shelf
set_option linter.unusedVariables false
set_option linter.unusedSimpArgs false
set_option maxRecDepth 100000
/-- what happens at a step: the first fate of it -/
def fateOf (s : Int) : List Ft → Int
  | [] => 0
  | f :: l => if okF s f then f.2 else fateOf s l
theorem fate_foldr (s : Int) : ∀ (l : List Ft), l.foldr (fun f k => if okF s f then f.2 else k) 0 = fateOf s l
  | [] => rfl
  | f :: l => by simp only [List.foldr_cons, fateOf, fate_foldr s l]
theorem upto_rev (fs : List Ft) : (upto (bk fs) fs.length).map (·.2) = fs.reverse := by
  apply List.ext_getElem
  · simp [upto]
  · intro i h1 h2
    have hi : i < fs.length := by simpa using h2
    simp only [upto, List.map_map, List.getElem_map, List.getElem_range, Function.comp, bk, fAt, List.getElem_reverse]
    simp [List.getD_eq_getElem?_getD, show fs.length - 1 - i < fs.length by omega]
theorem kdF_map (s : Int) : ∀ (l : List (Nat × Ft)), kdF s l = (l.map (·.2)).foldl (fun k f => if okF s f then f.2 else k) 0 := fun l => by
  unfold kdF; rw [List.foldl_map]
theorem kdF_fate (s : Int) (fs : List Ft) : kdF s (upto (bk fs) fs.length) = fateOf s fs := by
  rw [kdF_map, upto_rev, List.foldl_reverse, fate_foldr]
/-- a step over a state: the state behind it, and the code -/
def stepD (d : Dk) (act : Dk → Dk) : Dk :=
  let s := wrap64 (d.steps + 1)
  let k := fateOf s d.plan
  if k = 1 then { d with steps := s } else if k = 2 then { d with steps := s, off := true } else if k = 3 then { act { d with steps := s } with off := true } else act { d with steps := s }
def stepC (d : Dk) : Int := let k := fateOf (wrap64 (d.steps + 1)) d.plan; if k = 1 then 71 else if k = 2 then 70 else if k = 3 then 70 else 0
def wrBad (d : Dk) (i : Int) (l : List Int) : Prop := i < 0 ∨ (d.safe.length : Int) ≤ i ∨ 512 < l.length
instance (d : Dk) (i : Int) (l : List Int) : Decidable (wrBad d i l) := inferInstanceAs (Decidable (_ ∨ _))
def putD (i : Int) (l : List Int) (d : Dk) : Dk := { d with pend := putK d.pend i (secOf l) }
def wrD (d : Dk) (i : Int) (l : List Int) : Dk := if d.off = true then d else if wrBad d i l then d else stepD d (putD i l)
def wrC (d : Dk) (i : Int) (l : List Int) : Int := if d.off = true then 70 else if wrBad d i l then 1 else stepC d
def syD (d : Dk) : Dk := if d.off = true then d else stepD d syncD
def syC (d : Dk) : Int := if d.off = true then 70 else stepC d
section
variable {w w' : World} {B : Nat} {r : RD} {d : Dk}
theorem DM.reD {S : Nat → Prop} {d' : Dk} (h : DM w B r d) (k : Keeps S w w') (hS : ∀ b, FD r b → b ≠ r.D → ¬ S b) (hb : HB w' r.D (dkC r d') TDk) (e1 : d'.safe = d.safe) (e2 : d'.pend = d.pend) (e3 : d'.plan = d.plan) : DM w' B r d' := by
  obtain ⟨d1, d2, d3, d4, d5, d6⟩ := h.dd
  refine ⟨hb, ?_, ?_, ?_, h.lo, by rw [e1]; exact h.sl, by rw [e1, e2]; exact h.pk, by rw [e3]; exact h.pn⟩
  · rw [e1]; exact h.sf.keeps k fun a ha => hS _ (.inr (.inr (.inl ⟨a, ha, rfl⟩))) fun e => d2 ⟨a, ha, e⟩
  · rw [e2]; exact h.gm.keeps k (hS _ (.inr (.inl rfl)) (Ne.symm d1))
  · rw [e3]; exact h.pl.keeps k fun a ha => hS _ (.inr (.inr (.inr ⟨a, ha, rfl⟩))) fun e => d4 ⟨a, ha, e⟩
theorem DM.fates (h : DM w B r d) : Fates w.heap.size w.heap.size w r.P d.plan := by
  by_cases h0 : d.plan = []
  · exact .inl h0
  have hl : 0 < d.plan.length := List.length_pos_iff.2 h0
  rcases h.pl.2 with ⟨_, h1⟩ | ⟨g, cap, cur, hv, hg, hh, _⟩
  · omega
  injection hv with hv
  have hr := h.pl.reads EF
  rw [hv] at hr
  have hlt := (Array.getElem?_eq_some_iff.1 hh).1
  refine .inr ⟨g, 0, hv, hlt, by omega, fun j hj => ?_⟩
  have c0 := hr.cj hj (j := 0) (by decide)
  have c1 := hr.cj hj (j := 1) (by decide)
  have ef : fAt d.plan j = d.plan[j] := by simp [fAt, List.getD_eq_getElem?_getD, hj]
  rw [ef]
  refine ⟨?_, ?_⟩
  · rw [add_mk, add_mk] at c0; simpa [eF] using c0
  · rw [add_mk, add_mk] at c1; simpa [eF, Nat.add_assoc] using c1
/-- a step: what it does is told by a function of the state -/
theorem step_ok (h : DM w B r d) {g : Nat} {caps : Array Value} {act : Dk → Dk} (hsafe : ∀ d, (act d).plan = d.plan ∧ (act d).steps = d.steps ∧ (act d).off = d.off ∧ (act d).safe.length = d.safe.length)
    (hg : ∀ args w, (callFunc g args).run Tryd.prog w = .ok (.enter g args) w)
    (hdo : ∀ W1, DM W1 B r { d with steps := wrap64 (d.steps + 1) } → Keeps (fun k => k = r.D) w W1 → Calls Tryd.prog g caps W1 fun e W2 => e = .returned (.tuple #[]) ∧ DM W2 B r (act { d with steps := wrap64 (d.steps + 1) }) ∧ Keeps (FD r) W1 W2) :
    Calls Tryd.prog 48 #[.pointer (some ⟨r.D, 0, none⟩), .func (.func g) #[] caps] w fun e w' => e = .returned (.int .i64 (stepC d)) ∧ DM w' B r (stepD d act) ∧ Keeps (FD r) w w' := by
  obtain ⟨d1, d2, d3, d4, d5, d6⟩ := h.dd
  obtain ⟨s, hs⟩ : ∃ s, wrap64 (d.steps + 1) = s := ⟨_, rfl⟩
  obtain ⟨k, hk⟩ : ∃ k, fateOf s d.plan = k := ⟨_, rfl⟩
  have hk' : kdF (wrap64 (d.steps + 1)) (upto (bk d.plan) d.plan.length) = k := by rw [hs, kdF_fate, hk]
  have lift : ∀ {S : Nat → Prop} {W W' : World}, Keeps S W W' → (∀ b, S b → FD r b) → Keeps (FD r) W W' := fun kk hh => kk.mono fun b _ hb => hh b hb
  refine callsIn_wide.1 (step_in (safe := .slice r.A d.safe.length r.c) (pend := .map (some r.M)) (R2 := fun W2 => DM W2 B r (act { d with steps := s }) ∧ Keeps (FD r) w W2) h.hb h.pn h.fates (fun a ha e => d4 ⟨a, ha, e⟩) hg ?_ ?_ ?_ ?_)
  · intro k1 W' hb kk
    rw [hk'] at k1
    rw [hs] at hb
    have e1 : stepC d = 71 := by unfold stepC; simp only [hs, hk, k1]; rfl
    have e2 : stepD d act = { d with steps := s } := by unfold stepD; simp only [hs, hk, k1]; rfl
    rw [e1, e2]
    exact ⟨rfl, h.reD kk (fun b _ hn e => hn e) hb rfl rfl rfl, lift kk fun b e => .inl e⟩
  · intro k2 W' hb kk
    rw [hk'] at k2
    rw [hs] at hb
    have e1 : stepC d = 70 := by unfold stepC; simp only [hs, hk, k2]; rfl
    have e2 : stepD d act = { d with steps := s, off := true } := by unfold stepD; simp only [hs, hk, k2]; rfl
    rw [e1, e2]
    exact ⟨rfl, h.reD (d' := { d with steps := s, off := true }) kk (fun b _ hn e => hn e) hb rfl rfl rfl, lift kk fun b e => .inl e⟩
  · intro k1 k2 W1 hb kk
    rw [hs] at hb
    rw [hs] at hdo
    have hm1 : DM W1 B r { d with steps := s } := h.reD (d' := { d with steps := s }) kk (fun b _ hn e => hn e) hb rfl rfl rfl
    refine callsIn_wide.2 ((hdo W1 hm1 kk).mono ?_)
    rintro e W2 ⟨rfl, hm2, k12⟩
    obtain ⟨a1, a2, a3, a4⟩ := hsafe { d with steps := s }
    refine ⟨rfl, ?_, k12.size, fun j hj1 hj2 => k12.block j hj2 fun hf => by have := (h.lt j hf).1; omega, hm2, (lift kk fun b e => .inl e).trans k12⟩
    have := hm2.hb
    unfold dkC at this
    rw [a1, a2, a3, a4] at this
    rw [hs]; exact this
  · intro k1 k2 W2 W' ⟨hm2, kw2⟩ hb kk
    rw [hk'] at k1 k2 hb ⊢
    rw [hs] at hb
    obtain ⟨a1, a2, a3, a4⟩ := hsafe { d with steps := s }
    have e1 : stepC d = if k = 3 then 70 else 0 := by unfold stepC; simp only [hs, hk, if_neg k1, if_neg k2]
    have e2 : stepD d act = if k = 3 then { act { d with steps := s } with off := true } else act { d with steps := s } := by unfold stepD; simp only [hs, hk, if_neg k1, if_neg k2]
    have kf : Keeps (FD r) w W' := ⟨kk.os.trans kw2.os, kk.tape.trans kw2.tape, kk.output.trans kw2.output, Nat.le_trans kw2.size kk.size, fun b hb hn => (kk.block b (Nat.lt_of_lt_of_le hb kw2.size) fun e => e.elim (fun e => hn (.inl e)) fun e => by omega).trans (kw2.block b hb hn)⟩
    have hS : ∀ b, FD r b → b ≠ r.D → ¬ (b = r.D ∨ w.heap.size ≤ b) := fun b hf hn e => e.elim hn fun e => by have := (h.lt b hf).1; omega
    rw [e1, e2]
    by_cases k3 : k = 3
    · rw [if_pos k3, if_pos k3]
      rw [if_pos k3] at hb
      refine ⟨rfl, hm2.reD (d' := { act { d with steps := s } with off := true }) kk hS ?_ rfl rfl rfl, kf⟩
      unfold dkC
      simp only
      rw [a1, a2, a4]
      exact hb
    · rw [if_neg k3, if_neg k3]
      rw [if_neg k3] at hb
      refine ⟨rfl, hm2.reD (d' := act { d with steps := s }) kk hS ?_ rfl rfl rfl, kf⟩
      unfold dkC
      rw [a1, a2, a3, a4]
      exact hb
end
end Go.Proofs.YtpokaafedpnbdaaDoor.Rd
