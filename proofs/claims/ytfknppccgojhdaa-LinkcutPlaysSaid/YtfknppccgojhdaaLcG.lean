/- A forest of splay trees, in plain words: chains to the root, and what a cut on the way up does. Conditions: none. -/
import Derived.Test.YtfknppccgojhdaaLcF
namespace Go.Dn
open Go.RowKit
set_option linter.unusedVariables false
/-! ### chains -/
def Chn (par : Nat → Nat) : Nat → List Nat → Prop
  | _, [] => True
  | q, x :: l => par x = q ∧ Chn par x l
def lst : Nat → List Nat → Nat
  | q, [] => q
  | _, x :: l => lst x l
theorem lst_app (q : Nat) (a b : List Nat) : lst q (a ++ b) = lst (lst q a) b := by
  induction a generalizing q with
  | nil => rfl
  | cons x a ih => exact ih x
theorem chn_app {par : Nat → Nat} {q : Nat} {a b : List Nat} : Chn par q (a ++ b) ↔ Chn par q a ∧ Chn par (lst q a) b := by
  induction a generalizing q with
  | nil => simp [Chn, lst]
  | cons x a ih => simp only [List.cons_append, Chn, lst, ih, and_assoc]
theorem lst_mem {q : Nat} {a : List Nat} (h : a ≠ []) : lst q a ∈ a := by
  cases a with
  | nil => exact absurd rfl h
  | cons x a =>
    show lst x a ∈ x :: a
    cases a with
    | nil => simp [lst]
    | cons y a => exact List.mem_cons_of_mem _ (lst_mem (q := x) (a := y :: a) (by simp))
/-- the way from the root down to a node -/
inductive Up (par : Nat → Nat) : Nat → List Nat → Prop
  | zero : Up par 0 []
  | step {x : Nat} {c : List Nat} (h0 : x ≠ 0) (h : Up par (par x) c) : Up par x (c ++ [x])
theorem Up.unique {par : Nat → Nat} {x : Nat} {c d : List Nat} (h : Up par x c) (k : Up par x d) : c = d := by
  induction h generalizing d with
  | zero =>
    cases k with
    | zero => rfl
    | step h0 _ => exact absurd rfl h0
  | step h0 h ih =>
    cases k with
    | zero => exact absurd rfl h0
    | step h1 k => rw [ih k]
theorem Up.down {par : Nat → Nat} {q : Nat} {c l : List Nat} (h : Up par q c) (k : Chn par q l) (h0 : ∀ y ∈ l, y ≠ 0) : Up par (lst q l) (c ++ l) := by
  induction l generalizing q c with
  | nil => simpa [lst] using h
  | cons y l ih =>
    obtain ⟨k1, k2⟩ := k
    have := ih (q := y) (c := c ++ [y]) (Up.step (h0 y (by simp)) (by rw [k1]; exact h)) k2 (fun z hz => h0 z (by simp [hz]))
    simpa [lst] using this
theorem Up.chn {par : Nat → Nat} {x : Nat} {c : List Nat} (h : Up par x c) : Chn par 0 c ∧ lst 0 c = x := by
  induction h with
  | zero => exact ⟨trivial, rfl⟩
  | step h0 h ih => exact ⟨chn_app.2 ⟨ih.1, ih.2.symm, trivial⟩, by rw [lst_app]; rfl⟩
theorem Up.nz {par : Nat → Nat} {x : Nat} {c : List Nat} (h : Up par x c) : ∀ y ∈ c, y ≠ 0 := by
  induction h with
  | zero => simp
  | step h0 h ih =>
    intro y hy
    simp only [List.mem_append, List.mem_singleton] at hy
    rcases hy with hy | rfl
    · exact ih y hy
    · exact h0
/-- a node on a way has the way's beginning as its own way -/
theorem Up.pre {par : Nat → Nat} {x : Nat} {c a b : List Nat} {y : Nat} (h : Up par x c) (e : c = a ++ y :: b) : Up par y (a ++ [y]) := by
  have h1 := h.chn.1
  rw [e] at h1
  have h2 := h.nz
  rw [e] at h2
  have := Up.down (par := par) (q := 0) (c := []) (l := a ++ [y]) .zero (by
    rw [show a ++ y :: b = (a ++ [y]) ++ b by simp] at h1
    exact (chn_app.1 h1).1) (fun z hz => h2 z (by simp at hz ⊢; rcases hz with hz | hz <;> simp [hz]))
  rw [lst_app] at this
  simpa [lst] using this
theorem Up.nodup {par : Nat → Nat} {x : Nat} {c : List Nat} (h : Up par x c) : c.Nodup := by
  induction h with
  | zero => simp
  | step h0 h ih =>
    rename_i x c
    rw [List.nodup_append]
    refine ⟨ih, by simp, fun y hy z hz e => ?_⟩
    simp only [List.mem_singleton] at hz
    subst hz; subst e
    obtain ⟨a, b, e⟩ := List.append_of_mem hy
    have h1 := h.pre e
    have h2 : Up par y (c ++ [y]) := .step h0 h
    have := congrArg List.length (h1.unique h2)
    rw [e] at this
    simp at this
theorem Chn.congr {par par' : Nat → Nat} {q : Nat} {l : List Nat} (h : Chn par q l) (hp : ∀ y ∈ l, par' y = par y) : Chn par' q l := by
  induction l generalizing q with
  | nil => trivial
  | cons x l ih => exact ⟨(hp x (by simp)).trans h.1, ih h.2 fun y hy => hp y (by simp [hy])⟩
/-! ### forests of trees -/
abbrev Fst := ST × Nat → Prop
structure FoOk (own : Nat → E) (S : Nat → Prop) (N : Nat → Nd) (par : Nat → Nat) (Fo : Fst) : Prop where
  ok : ∀ T q, Fo (T, q) → OkS N own T q ∧ T.root ≠ 0 ∧ Chn par q T.flat ∧ T.ids.Nodup
  uq : ∀ p p' z, Fo p → Fo p' → z ∈ p.1.ids → z ∈ p'.1.ids → p = p'
  mem : ∀ y, S y ↔ ∃ p, Fo p ∧ y ∈ p.1.ids
  up : ∀ y, S y → ∃ c, Up par y c
  ps : ∀ y, S y → par y = 0 ∨ S (par y)
theorem flat_mem {T : ST} {y : Nat} : y ∈ T.flat ↔ y ∈ T.ids := (ST.flat_perm T).mem_iff
theorem FoOk.inS {own : Nat → E} {S : Nat → Prop} {N : Nat → Nd} {par : Nat → Nat} {Fo : Fst} (h : FoOk own S N par Fo) {T : ST} {q : Nat} (hT : Fo (T, q)) : ∀ y ∈ T.ids, S y := fun y hy => (h.mem y).2 ⟨_, hT, hy⟩
theorem FoOk.nz {own : Nat → E} {S : Nat → Prop} {N : Nat → Nd} {par : Nat → Nat} {Fo : Fst} (h : FoOk own S N par Fo) {y : Nat} (hy : S y) : y ≠ 0 := by
  obtain ⟨⟨T, q⟩, h1, h2⟩ := (h.mem y).1 hy
  exact (h.ok T q h1).1.nz y h2
/-- what a tree hangs on -/
theorem FoOk.pp {own : Nat → E} {S : Nat → Prop} {N : Nat → Nd} {par : Nat → Nat} {Fo : Fst} (h : FoOk own S N par Fo) {T : ST} {q : Nat} (hT : Fo (T, q)) : q = 0 ∨ S q := by
  obtain ⟨h1, h2, h3, _⟩ := h.ok T q hT
  cases hf : T.flat with
  | nil =>
    have := flat_mem.2 (root_mem h2)
    rw [hf] at this; simp at this
  | cons y l =>
    rw [hf] at h3
    have hy : y ∈ T.ids := flat_mem.1 (by rw [hf]; simp)
    have := h.ps y (h.inS hT y hy)
    rw [h3.1] at this; exact this
/-- the way to a node of a tree -/
theorem FoOk.way {own : Nat → E} {S : Nat → Prop} {N : Nat → Nd} {par : Nat → Nat} {Fo : Fst} (h : FoOk own S N par Fo) {T : ST} {q : Nat} (hT : Fo (T, q)) {a b : List Nat} {y : Nat} (e : T.flat = a ++ y :: b) : ∃ c, Up par q c ∧ Up par y (c ++ (a ++ [y])) := by
  obtain ⟨h1, h2, h3, _⟩ := h.ok T q hT
  have hc : ∃ c, Up par q c := by
    rcases h.pp hT with h0 | h0
    · exact ⟨[], by rw [h0]; exact .zero⟩
    · exact h.up q h0
  obtain ⟨c, hc⟩ := hc
  refine ⟨c, hc, ?_⟩
  rw [e, show a ++ y :: b = (a ++ [y]) ++ b by simp] at h3
  have := hc.down (chn_app.1 h3).1 (fun z hz => h.nz (h.inS hT z (flat_mem.1 (by rw [e]; simp at hz ⊢; rcases hz with hz | hz <;> simp [hz]))))
  rw [lst_app] at this
  simpa [lst] using this
theorem FoOk.nokid {own : Nat → E} {S : Nat → Prop} {N : Nat → Nd} {par : Nat → Nat} {Fo : Fst} (h : FoOk own S N par Fo) {T : ST} {q : Nat} (hT : Fo (T, q)) : NoKid N T.ids q := by
  have hq : q ∉ T.ids := by
    intro hm
    obtain ⟨a, b, e⟩ := List.append_of_mem (flat_mem.2 hm)
    obtain ⟨c, c1, c2⟩ := h.way hT e
    have := congrArg List.length (c1.unique c2)
    simp at this
  refine ⟨hq, fun y hy q0 => ?_⟩
  rcases h.pp hT with h0 | h0
  · exact absurd h0 q0
  · obtain ⟨⟨T2, q2⟩, h1, h2⟩ := (h.mem q).1 h0
    obtain ⟨k1, k2⟩ := (h.ok T2 q2 h1).1.kid q h2
    have hy0 : y ≠ 0 := h.nz (h.inS hT y hy)
    have : ∀ z, z = 0 ∨ z ∈ T2.ids → z ≠ y := fun z hz e => by
      subst e
      rcases hz with hz | hz
      · exact hy0 hz
      · have := h.uq _ _ z hT h1 hy hz
        injection this with e1 e2
        subst e1
        exact hq h2
    exact ⟨this _ k1, this _ k2⟩
/-- a cut on the way up: the tree that has y at its root loses what is behind y, and gets B instead -/
def stepF (Fo : Fst) (T : ST) (q y : Nat) (L R B : ST) : Fst := fun p => p = (.node y false L B, q) ∨ (R.root ≠ 0 ∧ p = (R, y)) ∨ (Fo p ∧ p ≠ (T, q) ∧ p ≠ (B, y))
theorem FoOk.step {own : Nat → E} {S : Nat → Prop} {N N' : Nat → Nd} {par : Nat → Nat} {Fo : Fst} (h : FoOk own S N par Fo) {T L R B : ST} {q y : Nat} (hT : Fo (T, q)) (hfl : (ST.node y false L R).flat = T.flat) (hpm : (ST.node y false L R).ids.Perm T.ids) (hB : B = .nil ∨ Fo (B, y))
    (hok : OkS N' own (.node y false L B) q) (hR : OkS N' own R y) (hel : ∀ z, z ∉ T.ids → N' z = N z) : FoOk own S N' par (stepF Fo T q y L R B) ∧ (∀ z, z ∈ L.ids ∨ z = y ∨ z ∈ R.ids ↔ z ∈ T.ids) ∧ y ∉ B.ids := by
  obtain ⟨t1, t2, t3, t4⟩ := h.ok T q hT
  have tm : ∀ z, z ∈ L.ids ∨ z = y ∨ z ∈ R.ids ↔ z ∈ T.ids := fun z => by rw [← hpm.mem_iff]; simp [ST.ids]
  have nd : (L.ids ++ y :: R.ids).Nodup := hpm.nodup_iff.2 t4
  simp only [List.nodup_append, List.nodup_cons, List.mem_cons] at nd
  obtain ⟨n1, ⟨n2, n3⟩, n4⟩ := nd
  have yT : y ∈ T.ids := (tm y).1 (by simp)
  have hq := h.nokid hT
  have BT : ∀ z, z ∈ B.ids → z ∉ T.ids := by
    intro z hz hz2
    rcases hB with rfl | hB
    · simp [ST.ids] at hz
    · have := h.uq _ _ z hB hT hz hz2
      injection this with e1 e2
      subst e1; subst e2
      exact hq.1 yT
  have yB : y ∉ B.ids := fun hm => BT y hm yT
  have hc : Chn par q L.flat ∧ par y = lst q L.flat ∧ Chn par y R.flat := by
    have : T.flat = L.flat ++ y :: R.flat := by rw [← hfl]; simp [ST.flat]
    rw [this] at t3
    exact chn_app.1 t3
  have Bc : Chn par y B.flat := by
    rcases hB with rfl | hB
    · trivial
    · exact (h.ok B y hB).2.2.1
  have Bn : B.ids.Nodup := by
    rcases hB with rfl | hB
    · simp [ST.ids]
    · exact (h.ok B y hB).2.2.2
  have old : ∀ p, Fo p → p ≠ (T, q) → ∀ z ∈ p.1.ids, z ∉ T.ids := fun p hp hne z hz hz2 => hne (h.uq p (T, q) z hp hT hz hz2)
  have oldB : ∀ p, Fo p → p ≠ (B, y) → ∀ z ∈ p.1.ids, z ∉ B.ids := fun p hp hne z hz hz2 => by
    rcases hB with rfl | hB
    · simp [ST.ids] at hz2
    · exact hne (h.uq p (B, y) z hp hB hz hz2)
  refine ⟨⟨?_, ?_, ?_, h.up, h.ps⟩, tm, yB⟩
  · rintro T' q' (e | ⟨hR0, e⟩ | ⟨h1, h2, h3⟩)
    · injection e with e1 e2
      subst e1; subst e2
      refine ⟨hok, hok.1, ?_, nd3 n1 Bn (fun hm => n4 y hm y (.inl rfl) rfl) yB fun z hz hz2 => BT z hz2 ((tm z).1 (.inl hz))⟩
      show Chn par q' (if false then _ else L.flat ++ y :: B.flat)
      exact chn_app.2 ⟨hc.1, hc.2.1, Bc⟩
    · injection e with e1 e2
      subst e1; subst e2
      exact ⟨hR, hR0, hc.2.2, n3⟩
    · obtain ⟨o1, o2, o3, o4⟩ := h.ok T' q' h1
      exact ⟨o1.congr fun z hz => hel z (old _ h1 h2 z hz), o2, o3, o4⟩
  · have a1 : ∀ z, z ∈ (ST.node y false L B).ids → z ∈ L.ids ∨ z = y ∨ z ∈ B.ids := fun z hz => by simpa [ST.ids] using hz
    have c12 : ∀ z, z ∈ (ST.node y false L B).ids → z ∈ R.ids → False := fun z hz hz2 => by
      rcases a1 z hz with hz | rfl | hz
      · exact n4 z hz z (.inr hz2) rfl
      · exact n2 hz2
      · exact BT z hz ((tm z).1 (.inr (.inr hz2)))
    have c13 : ∀ p z, Fo p → p ≠ (T, q) → p ≠ (B, y) → z ∈ (ST.node y false L B).ids → z ∈ p.1.ids → False := fun p z hp h1 h2 hz hz2 => by
      rcases a1 z hz with hz | rfl | hz
      · exact old p hp h1 z hz2 ((tm z).1 (.inl hz))
      · exact old p hp h1 z hz2 yT
      · exact oldB p hp h2 z hz2 hz
    have c23 : ∀ p z, Fo p → p ≠ (T, q) → z ∈ R.ids → z ∈ p.1.ids → False := fun p z hp h1 hz hz2 => old p hp h1 z hz2 ((tm z).1 (.inr (.inr hz)))
    rintro p p' z (rfl | ⟨_, rfl⟩ | ⟨h1, h2, h3⟩) (rfl | ⟨_, rfl⟩ | ⟨k1, k2, k3⟩) hz hz2
    · rfl
    · exact (c12 z hz hz2).elim
    · exact (c13 p' z k1 k2 k3 hz hz2).elim
    · exact (c12 z hz2 hz).elim
    · rfl
    · exact (c23 p' z k1 k2 hz hz2).elim
    · exact (c13 p z h1 h2 h3 hz2 hz).elim
    · exact (c23 p z h1 h2 hz2 hz).elim
    · exact h.uq p p' z h1 k1 hz hz2
  · intro z
    rw [h.mem z]
    constructor
    · rintro ⟨p, hp, hz⟩
      by_cases e1 : p = (T, q)
      · subst e1
        rcases (tm z).2 hz with hz | rfl | hz
        · exact ⟨_, .inl rfl, by simp [ST.ids, hz]⟩
        · exact ⟨_, .inl rfl, by simp [ST.ids]⟩
        · refine ⟨(R, y), .inr (.inl ⟨fun h0 => ?_, rfl⟩), hz⟩
          rw [hR.nil_of_root h0] at hz; simp [ST.ids] at hz
      · by_cases e2 : p = (B, y)
        · subst e2; exact ⟨_, .inl rfl, by simp only [ST.ids, List.mem_append, List.mem_cons]; exact .inr (.inr hz)⟩
        · exact ⟨p, .inr (.inr ⟨hp, e1, e2⟩), hz⟩
    · rintro ⟨p, rfl | ⟨_, rfl⟩ | ⟨h1, h2, h3⟩, hz⟩
      · simp only [ST.ids, List.mem_append, List.mem_cons] at hz
        rcases hz with hz | rfl | hz
        · exact ⟨_, hT, (tm z).1 (.inl hz)⟩
        · exact ⟨_, hT, yT⟩
        · rcases hB with rfl | hB
          · simp [ST.ids] at hz
          · exact ⟨_, hB, hz⟩
      · exact ⟨_, hT, (tm z).1 (.inr (.inr hz))⟩
      · exact ⟨p, h1, hz⟩
/-- a tree gets another form -/
def formF (Fo : Fst) (T T' : ST) (q : Nat) : Fst := fun p => p = (T', q) ∨ (Fo p ∧ p ≠ (T, q))
theorem FoOk.form {own : Nat → E} {S : Nat → Prop} {N N' : Nat → Nd} {par : Nat → Nat} {Fo : Fst} (h : FoOk own S N par Fo) {T T' : ST} {q : Nat} (hT : Fo (T, q)) (hfl : T'.flat = T.flat) (hpm : T'.ids.Perm T.ids) (hok : OkS N' own T' q) (h0 : T'.root ≠ 0) (hel : ∀ z, z ∉ T.ids → N' z = N z) : FoOk own S N' par (formF Fo T T' q) := by
  obtain ⟨t1, t2, t3, t4⟩ := h.ok T q hT
  have old : ∀ p, Fo p → p ≠ (T, q) → ∀ z ∈ p.1.ids, z ∉ T.ids := fun p hp hne z hz hz2 => hne (h.uq p (T, q) z hp hT hz hz2)
  refine ⟨?_, ?_, ?_, h.up, h.ps⟩
  · rintro T2 q2 (e | ⟨h1, h2⟩)
    · injection e with e1 e2
      subst e1; subst e2
      exact ⟨hok, h0, hfl ▸ t3, hpm.nodup_iff.2 t4⟩
    · obtain ⟨o1, o2, o3, o4⟩ := h.ok T2 q2 h1
      exact ⟨o1.congr fun z hz => hel z (old _ h1 h2 z hz), o2, o3, o4⟩
  · rintro p p' z (rfl | ⟨h1, h2⟩) (rfl | ⟨k1, k2⟩) hz hz2
    · rfl
    · exact (old p' k1 k2 z hz2 (hpm.mem_iff.1 hz)).elim
    · exact (old p h1 h2 z hz (hpm.mem_iff.1 hz2)).elim
    · exact h.uq p p' z h1 k1 hz hz2
  · intro z
    rw [h.mem z]
    constructor
    · rintro ⟨p, hp, hz⟩
      by_cases e1 : p = (T, q)
      · subst e1; exact ⟨_, .inl rfl, hpm.mem_iff.2 hz⟩
      · exact ⟨p, .inr ⟨hp, e1⟩, hz⟩
    · rintro ⟨p, rfl | ⟨h1, h2⟩, hz⟩
      · exact ⟨_, hT, hpm.mem_iff.1 hz⟩
      · exact ⟨p, h1, hz⟩
end Go.Dn
