/- Forests of trees: a node comes, or goes; what stands for vertices and edges then. Conditions: none. -/
import Derived.Test.YtfknppccgojhdaaLcO
namespace Go.Dn
open Go.RowKit
set_option linter.unusedVariables false
theorem wOf_congr {own own' : Nat → E} : ∀ {l : List Nat}, (∀ y ∈ l, own' y = own y) → wOf own' l = wOf own l ∧ kOf own' l = kOf own l
  | [], _ => ⟨rfl, rfl⟩
  | x :: l, h => by
    obtain ⟨h1, h2⟩ := wOf_congr (l := l) fun y hy => h y (by simp [hy])
    simp only [wOf, kOf, h1, h2, h x (by simp)]; exact ⟨trivial, trivial⟩
theorem IsMx.own {own own' : Nat → E} {l : List Nat} {e : E} (h : IsMx own l e) (ho : ∀ y ∈ l, own' y = own y) : IsMx own' l e where
  z := fun h0 => ⟨(h.z h0).1, fun x hx => by rw [ho x hx]; exact (h.z h0).2 x hx⟩
  s := fun h0 => by
    obtain ⟨h1, ⟨x, hx, he⟩, h3⟩ := h.s h0
    exact ⟨h1, ⟨x, hx, (ho x hx).trans he⟩, fun y hy hn => by rw [ho y hy] at hn ⊢; exact h3 y hy hn⟩
theorem Ag.own {own own' : Nat → E} {l : List Nat} {d : Nd} (h : Ag own l d) (ho : ∀ y ∈ l, own' y = own y) : Ag own' l d :=
  ⟨h.mx.own ho, h.sr.trans (wOf_congr ho).1.symm, h.si.trans (wOf_congr ho).2.symm⟩
theorem OkS.own {N : Nat → Nd} {own own' : Nat → E} : ∀ {t : ST} {up : Nat}, OkS N own t up → (∀ y ∈ t.ids, own' y = own y) → OkS N own' t up
  | .nil, _, _, _ => trivial
  | .node x t l r, up, ⟨h1, h2, h3, h4, h5, h6, h7, h8⟩, hN =>
    ⟨h1, h2, h3, h4, h5, h6.own fun y hy => hN y hy, OkS.own h7 fun y hy => hN y (by simp [ST.ids, hy]), OkS.own h8 fun y hy => hN y (by simp [ST.ids, hy])⟩
def setO {α : Type} (f : Nat → α) (i : Nat) (a : α) (y : Nat) : α := if y = i then a else f y
theorem setO_same {α : Type} (f : Nat → α) (i : Nat) (a : α) : setO f i a i = a := by simp [setO]
theorem setO_ne {α : Type} (f : Nat → α) {i y : Nat} (a : α) (h : y ≠ i) : setO f i a y = f y := by simp [setO, h]
/-- a node of its own comes -/
theorem FoOk.add {own own' : Nat → E} {S : Nat → Prop} {N N' : Nat → Nd} {par : Nat → Nat} {Fo : Fst} (h : FoOk own S N par Fo) {i : Nat} (hi : ¬ S i) (ho : ∀ y, y ≠ i → own' y = own y) (hN : ∀ y, y ≠ i → N' y = N y) (hok : OkS N' own' (.node i false .nil .nil) 0) :
    FoOk own' (fun y => S y ∨ y = i) N' (setP par i 0) (fun p => p = (.node i false .nil .nil, 0) ∨ Fo p) := by
  have old : ∀ p, Fo p → ∀ z ∈ p.1.ids, z ≠ i := fun p hp z hz e => hi (e ▸ (h.mem z).2 ⟨p, hp, hz⟩)
  have m1 : ∀ z, z ∈ (ST.node i false .nil .nil).ids → z = i := fun z hz => by simpa [ST.ids] using hz
  refine ⟨?_, ?_, ?_, ?_, ?_⟩
  · rintro T q (e | h1)
    · injection e with e1 e2
      subst e1; subst e2
      exact ⟨hok, hok.1, ⟨setP_same _ _ _, trivial⟩, by simp [ST.ids]⟩
    · obtain ⟨o1, o2, o3, o4⟩ := h.ok T q h1
      exact ⟨(o1.congr fun z hz => hN z (old _ h1 z hz)).own fun z hz => ho z (old _ h1 z hz), o2, o3.congr fun z hz => setP_ne _ _ (old _ h1 z (flat_mem.1 hz)), o4⟩
  · rintro p p' z (rfl | h1) (rfl | k1) hz hz2
    · rfl
    · exact absurd (m1 z hz) (old _ k1 z hz2)
    · exact absurd (m1 z hz2) (old _ h1 z hz)
    · exact h.uq p p' z h1 k1 hz hz2
  · intro z
    rw [h.mem z]
    constructor
    · rintro (⟨p, hp, hz⟩ | rfl)
      · exact ⟨p, .inr hp, hz⟩
      · exact ⟨_, .inl rfl, by simp [ST.ids]⟩
    · rintro ⟨p, rfl | h1, hz⟩
      · exact .inr (m1 z hz)
      · exact .inl ⟨p, h1, hz⟩
  · rintro y (hy | rfl)
    · obtain ⟨c, hc⟩ := h.up y hy
      exact up_zero (setP_same _ _ _) (fun y hy => setP_ne _ _ hy) hc
    · exact ⟨_, .step hok.1 (by rw [setP_same]; exact .zero)⟩
  · rintro y (hy | rfl)
    · rw [setP_ne _ _ (fun e => hi (by rw [← e]; exact hy))]
      exact (h.ps y hy).imp id .inl
    · exact .inl (setP_same _ _ _)
theorem adj_add {S : Nat → Prop} {par : Nat → Nat} {i : Nat} (hi : ¬ S i) (i0 : i ≠ 0) (ps : ∀ y, S y → par y = 0 ∨ S (par y)) (hz : ∀ y, S y → y ≠ 0) (y z : Nat) : AdjS (fun y => S y ∨ y = i) (setP par i 0) y z ↔ AdjS S par y z := by
  have key : ∀ y z, (S y ∨ y = i) → (S z ∨ z = i) → setP par i 0 y = z → S y ∧ S z ∧ par y = z := by
    intro y z hy hzz e
    by_cases e1 : y = i
    · subst e1; rw [setP_same] at e
      rcases hzz with h | h
      · exact absurd e.symm (hz z h)
      · exact absurd (h.symm.trans e.symm) i0
    · have hy := hy.resolve_right e1
      rw [setP_ne _ _ e1] at e
      rcases hzz with h | h
      · exact ⟨hy, h, e⟩
      · rcases ps y hy with h2 | h2
        · exact absurd (h.symm.trans (e.symm.trans h2)) i0
        · exact absurd (h ▸ e ▸ h2) hi
  constructor
  · rintro ⟨h1, h2, h3 | h3⟩
    · obtain ⟨a, b, c⟩ := key y z h1 h2 h3; exact ⟨a, b, .inl c⟩
    · obtain ⟨a, b, c⟩ := key z y h2 h1 h3; exact ⟨b, a, .inr c⟩
  · rintro ⟨h1, h2, h3⟩
    refine ⟨.inl h1, .inl h2, ?_⟩
    rw [setP_ne _ _ (fun e => hi (by rw [← e]; exact h1)), setP_ne _ _ (fun e => hi (by rw [← e]; exact h2))]
    exact h3
/-- a node that touches no other one goes -/
theorem FoOk.drop {own : Nat → E} {S : Nat → Prop} {N : Nat → Nd} {par : Nat → Nat} {Fo : Fst} (h : FoOk own S N par Fo) {i : Nat} (hi : ∀ z, ¬ AdjS S par i z) (iS : S i) :
    FoOk own (fun y => S y ∧ y ≠ i) N par (fun p => Fo p ∧ i ∉ p.1.ids) := by
  refine ⟨fun T q h1 => h.ok T q h1.1, fun p p' z h1 h2 => h.uq p p' z h1.1 h2.1, ?_, fun y hy => h.up y hy.1, ?_⟩
  · intro z
    constructor
    · rintro ⟨h1, h2⟩
      obtain ⟨⟨T, q⟩, h3, h4⟩ := (h.mem z).1 h1
      refine ⟨_, ⟨h3, fun hm => ?_⟩, h4⟩
      obtain ⟨o1, o2, o3, o4⟩ := h.ok T q h3
      obtain ⟨a, b, e⟩ := List.append_of_mem (flat_mem.2 hm)
      rw [e] at o3
      have hS : ∀ y ∈ a ++ i :: b, S y := fun y hy => h.inS h3 y (flat_mem.1 (by rw [e]; exact hy))
      cases b with
      | cons y b => exact hi y ⟨iS, hS y (by simp), .inr (chn_app.1 o3).2.2.1⟩
      | nil =>
        cases a with
        | nil =>
          have := flat_mem.2 h4
          rw [e] at this
          exact h2 (by simpa using this)
        | cons y a =>
          have h5 : par i = lst q (y :: a) := (chn_app.1 o3).2.1
          exact hi (lst q (y :: a)) ⟨iS, hS _ (List.mem_append_left _ (lst_mem (by simp))), .inl h5⟩
    · rintro ⟨p, ⟨h1, h2⟩, hz⟩
      exact ⟨(h.mem z).2 ⟨p, h1, hz⟩, fun e => h2 (e ▸ hz)⟩
  · rintro y ⟨h1, h2⟩
    rcases h.ps y h1 with h3 | h3
    · exact .inl h3
    · exact .inr ⟨h3, fun e => hi y ⟨iS, h1, .inr e⟩⟩
theorem adj_drop {S : Nat → Prop} {par : Nat → Nat} {i : Nat} (hi : ∀ z, ¬ AdjS S par i z) (y z : Nat) : AdjS (fun y => S y ∧ y ≠ i) par y z ↔ AdjS S par y z := by
  constructor
  · rintro ⟨h1, h2, h3⟩; exact ⟨h1.1, h2.1, h3⟩
  · rintro ⟨h1, h2, h3⟩
    exact ⟨⟨h1, fun e => hi z (e ▸ ⟨h1, h2, h3⟩)⟩, ⟨h2, fun e => hi y (e ▸ AdjS.symm ⟨h1, h2, h3⟩)⟩, h3⟩
theorem Sm.mono {own own' : Nat → E} {S S' : Nat → Prop} (h : Sm own S) (hS : ∀ y, S' y → S y ∧ own' y = own y) : Sm own' S' := fun l nd hl => by
  rw [(wOf_congr fun y hy => (hS y (hl y hy)).2).1, (wOf_congr fun y hy => (hS y (hl y hy)).2).2]
  exact h l nd fun x hx => (hS x (hl x hx)).1
/-! ### what stands for what -/
def setI {α : Type} (f : Int → α) (i : Int) (a : α) (y : Int) : α := if y = i then a else f y
theorem setI_same {α : Type} (f : Int → α) (i : Int) (a : α) : setI f i a i = a := by simp [setI]
theorem setI_ne {α : Type} (f : Int → α) {i y : Int} (a : α) (h : y ≠ i) : setI f i a y = f y := by simp [setI, h]
section
variable {vs : List Int} {es : List E} {vn en : Int → Nat} {own : Nat → E} {S : Nat → Prop}
theorem Gr.vne (g : Gr vs es vn en own S) {i : Nat} (hi : ¬ S i) {v : Int} (hv : v ∈ vs) : vn v ≠ i := fun e => hi (e ▸ (g.vS v hv).1)
theorem Gr.ene (g : Gr vs es vn en own S) {i : Nat} (hi : ¬ S i) {e : E} (he : e ∈ es) : en e.id ≠ i := fun h => hi (h ▸ (g.eS e he).1)
theorem Gr.sm (g : Gr vs es vn en own S) (h : es.length ≤ 4096) : Sm own S := by
  refine sm_of (ids := es.map E.id) (fun x hx => ?_) (fun x y hx hy h1 h2 => ?_) (by simpa using h)
  · rcases g.Sx x hx with ⟨v, hv, rfl⟩ | ⟨e, he, rfl⟩
    · exact .inl (g.vS v hv).2
    · rw [(g.eS e he).2]
      have := g.er e he
      exact .inr ⟨List.mem_map_of_mem he, by omega, this.2.2.2.2.2.1, this.2.2.2.2.2.2⟩
  · rcases g.Sx x hx with ⟨v, hv, rfl⟩ | ⟨e, he, rfl⟩
    · rw [(g.vS v hv).2] at h1; exact absurd h1 (by decide)
    · rcases g.Sx y hy with ⟨v, hv, rfl⟩ | ⟨e', he', rfl⟩
      · rw [(g.vS v hv).2, (g.eS e he).2] at h2
        have := (g.er e he).1
        rw [h2] at this; exact absurd this (by decide)
      · rw [(g.eS e he).2, (g.eS e' he').2] at h2; rw [h2]
theorem Gr.addV (g : Gr vs es vn en own S) {i : Nat} (hi : ¬ S i) {v : Int} (hv : v ∉ vs) (hr : 1 ≤ v ∧ v ≤ 2147483647) (hl : vs.length < 2048) : Gr (v :: vs) es (setI vn v i) en (setO own i zE) (fun y => S y ∨ y = i) where
  vnd := List.nodup_cons.2 ⟨hv, g.vnd⟩
  vr := fun u hu => by rcases List.mem_cons.1 hu with rfl | hu; exact hr; exact g.vr u hu
  vl := by simp; omega
  eid := g.eid
  er := fun e he => by obtain ⟨h1, h2, h3, h4, h5⟩ := g.er e he; exact ⟨h1, h2, .tail _ h3, .tail _ h4, h5⟩
  vz := fun u hu => by simp only [List.mem_cons, not_or] at hu; rw [setI_ne _ _ hu.1]; exact g.vz u hu.2
  ez := g.ez
  vS := fun u hu => by
    by_cases e : u = v
    · subst e; rw [setI_same, setO_same]; exact ⟨.inr rfl, rfl⟩
    · have hu := (List.mem_cons.1 hu).resolve_left e
      rw [setI_ne _ _ e, setO_ne _ _ (g.vne hi hu)]
      exact ⟨.inl (g.vS u hu).1, (g.vS u hu).2⟩
  eS := fun e he => by rw [setO_ne _ _ (g.ene hi he)]; exact ⟨.inl (g.eS e he).1, (g.eS e he).2⟩
  vi := fun u hu u' hu' e => by
    by_cases e1 : u = v
    · by_cases e2 : u' = v
      · rw [e1, e2]
      · have hu' := (List.mem_cons.1 hu').resolve_left e2
        rw [e1, setI_same, setI_ne _ _ e2] at e; exact absurd e.symm (g.vne hi hu')
    · have hu := (List.mem_cons.1 hu).resolve_left e1
      by_cases e2 : u' = v
      · rw [e2, setI_same, setI_ne _ _ e1] at e; exact absurd e (g.vne hi hu)
      · have hu' := (List.mem_cons.1 hu').resolve_left e2
        rw [setI_ne _ _ e1, setI_ne _ _ e2] at e; exact g.vi u hu u' hu' e
  Sx := fun y hy => by
    rcases hy with hy | rfl
    · rcases g.Sx y hy with ⟨u, hu, e⟩ | h
      · exact .inl ⟨u, .tail _ hu, by rw [setI_ne _ _ (fun e => hv (by rw [← e]; exact hu))]; exact e⟩
      · exact .inr h
    · exact .inl ⟨v, .head _, (setI_same _ _ _).symm⟩
theorem Gr.addE (g : Gr vs es vn en own S) {i : Nat} (hi : ¬ S i) {e : E} (hid : e.id ∉ es.map E.id) (hr : 1 ≤ e.id ∧ e.id ≤ 2147483647 ∧ e.u ∈ vs ∧ e.v ∈ vs ∧ e.u ≠ e.v ∧ 0 ≤ e.w ∧ e.w ≤ 1099511627776) : Gr vs (e :: es) vn (setI en e.id i) (setO own i e) (fun y => S y ∨ y = i) where
  vnd := g.vnd
  vr := g.vr
  vl := g.vl
  eid := List.nodup_cons.2 ⟨hid, g.eid⟩
  er := fun a ha => by rcases List.mem_cons.1 ha with rfl | ha; exact hr; exact g.er a ha
  vz := g.vz
  ez := fun j hj => by simp only [List.map_cons, List.mem_cons, not_or] at hj; rw [setI_ne _ _ hj.1]; exact g.ez j hj.2
  vS := fun u hu => by rw [setO_ne _ _ (g.vne hi hu)]; exact ⟨.inl (g.vS u hu).1, (g.vS u hu).2⟩
  eS := fun a ha => by
    rcases List.mem_cons.1 ha with rfl | ha
    · rw [setI_same, setO_same]; exact ⟨.inr rfl, rfl⟩
    · rw [setI_ne _ _ (fun h => hid (by rw [← h]; exact List.mem_map_of_mem ha)), setO_ne _ _ (g.ene hi ha)]
      exact ⟨.inl (g.eS a ha).1, (g.eS a ha).2⟩
  vi := g.vi
  Sx := fun y hy => by
    rcases hy with hy | rfl
    · rcases g.Sx y hy with h | ⟨a, ha, h⟩
      · exact .inl h
      · exact .inr ⟨a, .tail _ ha, by rw [setI_ne _ _ (fun h => hid (by rw [← h]; exact List.mem_map_of_mem ha))]; exact h⟩
    · exact .inr ⟨e, .head _, (setI_same _ _ _).symm⟩
theorem gn_addE (g : Gr vs es vn en own S) {i : Nat} {e : E} (hid : e.id ∉ es.map E.id) (y z : Nat) : Gn (e :: es) vn (setI en e.id i) y z ↔ Gn es vn en y z ∨ ((y = i ∧ (z = vn e.u ∨ z = vn e.v)) ∨ (z = i ∧ (y = vn e.u ∨ y = vn e.v))) := by
  constructor
  · rintro ⟨a, ha, h⟩
    rcases List.mem_cons.1 ha with rfl | ha
    · rw [setI_same] at h; exact .inr h
    · rw [setI_ne _ _ (fun h => hid (by rw [← h]; exact List.mem_map_of_mem ha))] at h
      exact .inl ⟨a, ha, h⟩
  · rintro (⟨a, ha, h⟩ | h)
    · refine ⟨a, .tail _ ha, ?_⟩
      rw [setI_ne _ _ (fun h => hid (by rw [← h]; exact List.mem_map_of_mem ha))]; exact h
    · exact ⟨e, .head _, by rw [setI_same]; exact h⟩
theorem gn_addV (g : Gr vs es vn en own S) {i : Nat} {v : Int} (hv : v ∉ vs) (y z : Nat) : Gn es (setI vn v i) en y z ↔ Gn es vn en y z := by
  have : ∀ e ∈ es, setI vn v i e.u = vn e.u ∧ setI vn v i e.v = vn e.v := fun e he =>
    ⟨setI_ne _ _ fun h => hv (h ▸ (g.er e he).2.2.1), setI_ne _ _ fun h => hv (h ▸ (g.er e he).2.2.2.1)⟩
  constructor
  · rintro ⟨a, ha, h⟩
    rw [(this a ha).1, (this a ha).2] at h; exact ⟨a, ha, h⟩
  · rintro ⟨a, ha, h⟩
    refine ⟨a, ha, ?_⟩
    rw [(this a ha).1, (this a ha).2]; exact h
theorem Gr.delV (g : Gr vs es vn en own S) {v : Int} (hv : v ∈ vs) (hd : ∀ e ∈ es, e.u ≠ v ∧ e.v ≠ v) : Gr (vs.erase v) es (setI vn v 0) en own (fun y => S y ∧ y ≠ vn v) where
  vnd := g.vnd.erase v
  vr := fun u hu => g.vr u (List.mem_of_mem_erase hu)
  vl := Nat.le_trans (List.length_erase_le ..) g.vl
  eid := g.eid
  er := fun e he => by
    obtain ⟨h1, h2, h3, h4, h5⟩ := g.er e he
    exact ⟨h1, h2, (List.mem_erase_of_ne (hd e he).1).2 h3, (List.mem_erase_of_ne (hd e he).2).2 h4, h5⟩
  vz := fun u hu => by
    by_cases e : u = v
    · subst e; exact setI_same _ _ _
    · rw [setI_ne _ _ e]; exact g.vz u fun h => hu ((List.mem_erase_of_ne e).2 h)
  ez := g.ez
  vS := fun u hu => by
    have e : u ≠ v := fun e => by subst e; exact List.Nodup.not_mem_erase g.vnd hu
    have hu := List.mem_of_mem_erase hu
    rw [setI_ne _ _ e]
    exact ⟨⟨(g.vS u hu).1, fun h => e (g.vi u hu v hv h)⟩, (g.vS u hu).2⟩
  eS := fun e he => ⟨⟨(g.eS e he).1, fun h => g.ven hv he h.symm⟩, (g.eS e he).2⟩
  vi := fun u hu u' hu' e => by
    have e1 : u ≠ v := fun e => by subst e; exact List.Nodup.not_mem_erase g.vnd hu
    have e2 : u' ≠ v := fun e => by subst e; exact List.Nodup.not_mem_erase g.vnd hu'
    rw [setI_ne _ _ e1, setI_ne _ _ e2] at e
    exact g.vi u (List.mem_of_mem_erase hu) u' (List.mem_of_mem_erase hu') e
  Sx := fun y hy => by
    rcases g.Sx y hy.1 with ⟨u, hu, rfl⟩ | h
    · have : u ≠ v := fun e => hy.2 (by rw [e])
      exact .inl ⟨u, (List.mem_erase_of_ne this).2 hu, (setI_ne _ _ this).symm⟩
    · exact .inr h
theorem gn_delV {v : Int} (hd : ∀ e ∈ es, e.u ≠ v ∧ e.v ≠ v) (y z : Nat) : Gn es (setI vn v 0) en y z ↔ Gn es vn en y z := by
  have : ∀ e ∈ es, setI vn v 0 e.u = vn e.u ∧ setI vn v 0 e.v = vn e.v := fun e he => ⟨setI_ne _ _ (hd e he).1, setI_ne _ _ (hd e he).2⟩
  constructor
  · rintro ⟨a, ha, h⟩
    rw [(this a ha).1, (this a ha).2] at h; exact ⟨a, ha, h⟩
  · rintro ⟨a, ha, h⟩
    refine ⟨a, ha, ?_⟩
    rw [(this a ha).1, (this a ha).2]; exact h
/-- the edges but one -/
def noE (es : List E) (i : Int) : List E := es.filter fun e => !(e.id == i)
theorem noE_mem {es : List E} {i : Int} {e : E} : e ∈ noE es i ↔ e ∈ es ∧ e.id ≠ i := by simp [noE]
theorem noE_ids (es : List E) (i : Int) (h : (es.map E.id).Nodup) : (noE es i).map E.id = (es.map E.id).erase i := by
  induction es with
  | nil => rfl
  | cons e es ih =>
    rw [List.map_cons, List.nodup_cons] at h
    have h2 := ih h.2
    unfold noE at h2 ⊢
    by_cases he : e.id = i
    · rw [List.filter_cons_of_neg (by simp [he]), h2, List.map_cons, he, List.erase_cons_head, List.erase_of_not_mem (he ▸ h.1)]
    · rw [List.filter_cons_of_pos (by simp [he]), List.map_cons, List.map_cons, h2, List.erase_cons_tail (by simpa using he)]
theorem Gr.delE (g : Gr vs es vn en own S) {e : E} (he : e ∈ es) : Gr vs (noE es e.id) vn (setI en e.id 0) own (fun y => S y ∧ y ≠ en e.id) where
  vnd := g.vnd
  vr := g.vr
  vl := g.vl
  eid := by rw [noE_ids _ _ g.eid]; exact g.eid.erase _
  er := fun a ha => g.er a (noE_mem.1 ha).1
  vz := g.vz
  ez := fun j hj => by
    by_cases h : j = e.id
    · rw [h]; exact setI_same _ _ _
    · rw [setI_ne _ _ h]; exact g.ez j fun hm => hj (by rw [noE_ids _ _ g.eid]; exact (List.mem_erase_of_ne h).2 hm)
  vS := fun u hu => ⟨⟨(g.vS u hu).1, g.ven hu he⟩, (g.vS u hu).2⟩
  eS := fun a ha => by
    obtain ⟨h1, h2⟩ := noE_mem.1 ha
    rw [setI_ne _ _ h2]
    exact ⟨⟨(g.eS a h1).1, fun h => h2 (by rw [g.ei h1 he h])⟩, (g.eS a h1).2⟩
  vi := g.vi
  Sx := fun y hy => by
    rcases g.Sx y hy.1 with h | ⟨a, ha, rfl⟩
    · exact .inl h
    · have : a.id ≠ e.id := fun h => hy.2 (by rw [h])
      exact .inr ⟨a, noE_mem.2 ⟨ha, this⟩, (setI_ne _ _ this).symm⟩
theorem gn_delE (g : Gr vs es vn en own S) {e : E} (he : e ∈ es) (y z : Nat) : Gn (noE es e.id) vn (setI en e.id 0) y z ↔ Gn es vn en y z ∧ y ≠ en e.id ∧ z ≠ en e.id := by
  constructor
  · rintro ⟨a, ha, h⟩
    obtain ⟨h1, h2⟩ := noE_mem.1 ha
    rw [setI_ne _ _ h2] at h
    have n1 : en a.id ≠ en e.id := fun h => h2 (by rw [g.ei h1 he h])
    have r := g.er a h1
    have n2 := g.ven r.2.2.1 he
    have n3 := g.ven r.2.2.2.1 he
    refine ⟨⟨a, h1, h⟩, ?_, ?_⟩
    · rcases h with ⟨rfl, _⟩ | ⟨_, rfl | rfl⟩ <;> assumption
    · rcases h with ⟨_, rfl | rfl⟩ | ⟨rfl, _⟩ <;> assumption
  · rintro ⟨⟨a, ha, h⟩, h1, h2⟩
    have n1 : a.id ≠ e.id := fun h3 => by
      rw [h3] at h
      rcases h with ⟨h, _⟩ | ⟨h, _⟩
      · exact h1 h
      · exact h2 h
    refine ⟨a, noE_mem.2 ⟨ha, n1⟩, ?_⟩
    rw [setI_ne _ _ n1]; exact h
theorem deg_nn : ∀ (es : List E) (v : Int), 0 ≤ deg es v
  | [], _ => Int.le_refl _
  | e :: es, v => by
    have := deg_nn es v
    simp only [deg]
    split <;> split <;> omega
theorem deg_zero : ∀ {es : List E} {v : Int}, deg es v = 0 ↔ ∀ e ∈ es, e.u ≠ v ∧ e.v ≠ v
  | [], _ => by simp [deg]
  | e :: es, v => by
    have h1 := deg_nn es v
    have h2 := deg_zero (es := es) (v := v)
    simp only [deg, List.mem_cons, forall_eq_or_imp, ← h2]
    split <;> split <;> simp_all <;> omega
theorem deg_noE {es : List E} {e : E} (hn : (es.map E.id).Nodup) (he : e ∈ es) (v : Int) : deg es v = (if e.u = v then 1 else 0) + (if e.v = v then 1 else 0) + deg (noE es e.id) v := by
  induction es with
  | nil => cases he
  | cons a es ih =>
    rw [List.map_cons, List.nodup_cons] at hn
    rcases List.mem_cons.1 he with rfl | he
    · have : noE (e :: es) e.id = es := by
        unfold noE
        rw [List.filter_cons_of_neg (by simp), List.filter_eq_self]
        intro b hb
        have : b.id ≠ e.id := fun h => hn.1 (h ▸ List.mem_map_of_mem hb)
        simpa using this
      rw [this]; rfl
    · have hne : a.id ≠ e.id := fun h => hn.1 (h ▸ List.mem_map_of_mem he)
      have h2 := ih hn.2 he
      have : noE (a :: es) e.id = a :: noE es e.id := by unfold noE; rw [List.filter_cons_of_pos (by simpa using hne)]
      rw [this]
      simp only [deg, h2]; omega
end
end Go.Dn
