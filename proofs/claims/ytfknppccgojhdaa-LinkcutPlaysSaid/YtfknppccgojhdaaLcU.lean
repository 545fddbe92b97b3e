/- New, walked; a forest within a law. Conditions: none. -/
import Derived.Test.YtfknppccgojhdaaLcT
namespace Go.Dn
open Go.RowKit
set_option linter.unusedVariables false
section
variable {vs : List Int} {es : List E} {vn en : Int → Nat} {own : Nat → E} {S : Nat → Prop} {par : Nat → Nat}
theorem nodup_of_map {f : Int → Nat} : ∀ {l : List Int}, (l.map f).Nodup → l.Nodup
  | [], _ => .nil
  | a :: l, h => by
    rw [List.map_cons, List.nodup_cons] at h
    exact List.nodup_cons.2 ⟨fun hm => h.1 (List.mem_map_of_mem hm), nodup_of_map h.2⟩
theorem nds_sub : ∀ (p : List E) (m : Int), (p.map fun e => en e.id).Sublist (nds vn en m p)
  | [], _ => by simp [nds]
  | e :: p, m => by
    simp only [List.map_cons, nds]
    exact ((nds_sub p (oth e m)).cons _).cons_cons _
/-- a walk that never turns back has each edge once, and so a small sum -/
theorem wk_small (g : Gr vs es vn en own S) (t : Tr S par) (ha : ∀ y z, AdjS S par y z ↔ Gn es vn en y z) {p : List E} {u v : Int} (hu : u ∈ vs) (hp : Wk es u p v) (np : NB p) : (p.map E.id).Nodup ∧ p.length ≤ 2048 ∧ 0 ≤ sumW p ∧ sumW p ≤ 2251799813685248 := by
  obtain ⟨par', h0, t', hadj⟩ := t.reroot (g.vS u hu).1
  have ha' : ∀ y z, AdjS S par' y z ↔ Gn es vn en y z := fun y z => (hadj y z).trans (ha y z)
  have up : Up par' (vn u) ([] ++ [vn u]) := .step (t.nz _ (g.vS u hu).1) (by rw [h0]; exact .zero)
  have h1 := wk_up g t' ha' hu up (fun e l hl => by
    rw [h0]; exact fun h => t.nz _ (g.eS e (hp.mem e (by rw [hl]; simp))).1 h.symm) hp np
  have nd := h1.nodup
  rw [List.nodup_append] at nd
  have nd2 : (p.map fun e => en e.id).Nodup := nd.2.1.sublist (nds_sub p u)
  have nd3 : (p.map E.id).Nodup := by
    have : p.map (fun e => en e.id) = (p.map E.id).map en := by simp
    rw [this] at nd2
    exact nodup_of_map nd2
  have hlen : p.length ≤ es.length := by
    have := nodup_subI nd3 (m := es.map E.id) fun i hi => by
      obtain ⟨e, he, rfl⟩ := List.mem_map.1 hi
      exact List.mem_map_of_mem (hp.mem e he)
    simpa using this
  have hel := g.el t ha
  have hvl := g.vl
  have hs : ∀ q : List E, (∀ e ∈ q, e ∈ es) → 0 ≤ sumW q ∧ sumW q ≤ 1099511627776 * q.length := by
    intro q
    induction q with
    | nil => intro _; simp [sumW]
    | cons a q ih =>
      intro hq
      have h2 := ih fun e he => hq e (by simp [he])
      have h3 := g.er a (hq a (by simp))
      simp only [sumW, List.map_cons, List.sum_cons, List.length_cons] at h2 ⊢
      omega
  have := hs p hp.mem
  exact ⟨nd3, by omega, this.1, by omega⟩
end
theorem MxP.uniq {p : List E} {a b : E} (nd : (p.map E.id).Nodup) (ha : MxP p a) (hb : MxP p b) : a = b := by
  by_cases h : p = []
  · rw [ha.z h, hb.z h]
  · obtain ⟨a1, a2⟩ := ha.s h
    obtain ⟨b1, b2⟩ := hb.s h
    have h1 := a2 b b1
    have h2 := b2 a a1
    have hid : a.id = b.id := by unfold leE at *; omega
    have key : ∀ {p : List E}, (p.map E.id).Nodup → a ∈ p → b ∈ p → a = b := by
      intro p
      induction p with
      | nil => intro _ h; cases h
      | cons c p ih =>
        intro nd h1 h2
        rw [List.map_cons, List.nodup_cons] at nd
        rcases List.mem_cons.1 h1 with e1 | h1 <;> rcases List.mem_cons.1 h2 with e2 | h2
        · rw [e1, e2]
        · exact absurd (by rw [← e1, hid]; exact List.mem_map_of_mem h2) nd.1
        · exact absurd (by rw [← e2, ← hid]; exact List.mem_map_of_mem h1) nd.1
        · exact ih nd.2 h1 h2
    exact key nd a1 b1
end Go.Dn
namespace Go.Proofs.Ytfknppccgojhdaa.Rd
open Go.Dn Go.RowKit
set_option linter.unusedVariables false
set_option maxRecDepth 100000
theorem nodes0 : (enc 13 1 fun i j => fld ((fun _ => zNd : Nat → Nd) i) j) = [.int .i64 0, .int .i64 0, .int .i64 0, .bool false, .int .i64 0, .int .i64 0, .int .i64 0, .int .i64 0, .int .i64 0, .int .i64 0, .int .i64 0, .int .i64 0, .complex .f64 0 0] := by
  have h : nodeC zNd = #[.int .i64 0, .int .i64 0, .int .i64 0, .bool false, .int .i64 0, .int .i64 0, .int .i64 0, .int .i64 0, .int .i64 0, .int .i64 0, .int .i64 0, .int .i64 0, .complex .f64 0 0] := by
    simp only [nodeC, fld, zNd, zE, fb_zero]; rfl
  have : (enc 13 1 fun i j => fld ((fun _ => zNd : Nat → Nd) i) j) = (nodeC zNd).toList := rfl
  rw [this, h]
theorem made13 : (madeCells (Value.agg #[.int .i64 0, .int .i64 0, .int .i64 0, .bool false, .int .i64 0, .int .i64 0, .int .i64 0, .int .i64 0, .int .i64 0, .int .i64 0, .int .i64 0, .int .i64 0, .complex .f64 0 0]).cells (1 * 13)).toList = [.int .i64 0, .int .i64 0, .int .i64 0, .bool false, .int .i64 0, .int .i64 0, .int .i64 0, .int .i64 0, .int .i64 0, .int .i64 0, .int .i64 0, .int .i64 0, .complex .f64 0 0] := by kernel_rfl
theorem New_ok (w : World) : Calls Try.prog 8 #[] w fun e w' => ∃ F R, e = .returned (.pointer (some ⟨R, 0, none⟩)) ∧ Rep w' F R [] [] ∧ Below w.heap.size w w' ∧ ∀ k, F k → w.heap.size ≤ k := by
  apply f_linkcut_New.ok
  unfold f_linkcut_New.wp
  obtain ⟨i, hi, ⟨z, hz, hz1⟩, hs, hby⟩ := TNd_info
  obtain ⟨w1, hrun, ho, hg⟩ := run_makeSlice_full (P := Try.prog) w w.heap.size 62 70 i z 13 TNd hi hz hs .i64 .i64 1 (by decide) (by rw [hby]; decide) (by unfold maxLen; decide) (Nat.le_refl _)
  have hcells : (madeCells z.cells (1 * 13)).toList = enc 13 1 fun i j => fld ((fun _ => zNd : Nat → Nd) i) j := by
    have := TNdI
    rw [hi] at this
    simp only [Option.map_some, Option.some.injEq, Prod.mk.injEq] at this
    rw [hz] at this
    have hz2 := this.1
    injection hz2 with hz2
    rw [hz2, nodes0]; exact made13
  rw [hcells] at ho
  refine runs_of hrun ⟨_, _, _, rfl, ?_⟩
  have s1 : w.heap.size ≤ w1.heap.size := hg.size
  have g1 : w.heap.size < w1.heap.size := (World.ownsRow.lt ho w.heap.size rfl).2
  have b1 : Below w.heap.size w w1 := ⟨hg.os, hg.tape, hg.output, hg.size, fun k hk => hg.block k hk (by simp)⟩
  refine alW_intro (alW_intro (alW_intro (al_new fun w5 b5 e5 s5 h5 g5 => ?_)))
  have o1 := OM.new Try.prog w1 TI
  generalize hw2 : w1.alloc (.map #[] 0) = w2 at *
  have k2 : Below w1.heap.size w1 w2 := by rw [← hw2]; exact (Below.refl _ _).alloc (Nat.le_refl _) _
  have s2 : w2.heap.size = w1.heap.size + 1 := by rw [← hw2]; simp
  have o2 := OM.new Try.prog w2 TI
  generalize hw3 : w2.alloc (.map #[] 0) = w3 at *
  have k3 : Below w2.heap.size w2 w3 := by rw [← hw3]; exact (Below.refl _ _).alloc (Nat.le_refl _) _
  have s3 : w3.heap.size = w2.heap.size + 1 := by rw [← hw3]; simp
  have o3 := OM.new Try.prog w3 TI
  generalize hw4 : w3.alloc (.map #[] 0) = w4 at *
  have k4 : Below w3.heap.size w3 w4 := by rw [← hw4]; exact (Below.refl _ _).alloc (Nat.le_refl _) _
  have s4 : w4.heap.size = w3.heap.size + 1 := by rw [← hw4]; simp
  have h5 : HB w5 b5 #[.slice (some ⟨w.heap.size, 0, none⟩) 1 1, .map (some w1.heap.size), .map (some w2.heap.size), .map (some w3.heap.size), .slice none 0 0] 65 := h5
  refine ⟨Fp ⟨w.heap.size, b5, w.heap.size, 1, 1, w1.heap.size, w2.heap.size, w3.heap.size, .slice none 0 0⟩ none, b5, rfl, ⟨⟨w.heap.size, b5, w.heap.size, 1, 1, w1.heap.size, w2.heap.size, w3.heap.size, .slice none 0 0⟩, fun _ => zNd, fun _ => zE, fun _ => False, fun _ => 0, fun _ => False, fun _ => 0, fun _ => 0, fun _ => 0, [], none, 0, [], rfl, fun _ => Iff.rfl, ?_⟩, ?_, ?_⟩
  · have kk : Below w1.heap.size w1 w5 := ((k2.trans (k3.mono (by omega))).trans (k4.mono (by omega))).trans (g5.mono (by omega))
    refine ⟨⟨⟨h5, Keeps.own ho (.of_below kk (S := fun _ => False)) (fun _ _ => id), by simp; omega, by simp; omega⟩, ⟨fun _ => .inl rfl, fun l _ hl => ?_, fun _ => rfl, fun _ h => h.elim⟩, ⟨fun _ _ h => h.elim, fun _ _ _ h => h.elim, fun y => ⟨fun h => h.elim, fun ⟨_, h, _⟩ => h.elim⟩, fun _ h => h.elim, fun _ h => h.elim⟩, by simp, by simp⟩, ?_, ?_, rfl, ?_, ?_, ?_, by simp, by simp, ⟨rfl, OwnI.none _ _ _, by simp, by simp⟩, by simp, by simp, by simp, by simp, ?_, ?_, ?_, by simp⟩
    · have : l = [] := by cases l with | nil => rfl | cons x l => exact (hl x (by simp)).elim
      subst this; simp [wOf, kOf, In53]
    · refine ⟨.nil, by simp, by simp, .nil, by simp, fun _ _ => rfl, fun _ _ => rfl, by simp, by simp, by simp, fun _ h => h.elim⟩
    · intro y z
      exact ⟨fun h => h.1.elim, fun ⟨e, he, _⟩ => by cases he⟩
    · exact (((o1.below (k3.mono (by omega))).below (k4.mono (by omega))).below (g5.mono (by omega)))
    · exact ((o2.below (k4.mono (by omega))).below (g5.mono (by omega)))
    · exact o3.below g5
    · simp; omega
    · simp; omega
    · simp; omega
  · exact ((((b1.trans (k2.mono (by omega))).trans (k3.mono (by omega))).trans (k4.mono (by omega))).trans (g5.mono (by omega)))
  · rintro k (h | h | h | h | h | ⟨_, h, _⟩)
    · rw [h]; simp; omega
    · rw [h]; simp
    · rw [h]; simp; omega
    · rw [h]; simp; omega
    · rw [h]; simp; omega
    · cases h
/-! ### a forest within a law -/
theorem Rep.small {w : World} {F : Nat → Prop} {R : Nat} {vs : List Int} {es : List E} (h : Rep w F R vs es) {u v : Int} {p : List E} (hu : u ∈ vs) (hp : Wk es u p v) (np : NB p) : (p.map E.id).Nodup ∧ p.length ≤ 2048 ∧ 0 ≤ sumW p ∧ sumW p ≤ 2251799813685248 := by
  obtain ⟨r, N, own, S, par, Fo, vn, en, nf, nk, A, c, sp, rfl, hF, h3⟩ := h
  exact wk_small h3.gr h3.tr h3.adj hu hp np
/-- what all forests hold of their vertices and edges -/
structure VE (vs : List Int) (es : List E) : Prop where
  vnd : vs.Nodup
  vr : ∀ v ∈ vs, 1 ≤ v ∧ v ≤ 2147483647
  vl : vs.length ≤ 2048
  el : es.length ≤ 2048
  eid : (es.map E.id).Nodup
  er : ∀ e ∈ es, 1 ≤ e.id ∧ e.id ≤ 2147483647 ∧ e.u ∈ vs ∧ e.v ∈ vs ∧ e.u ≠ e.v ∧ 0 ≤ e.w ∧ e.w ≤ 1099511627776
  sm : ∀ u v p, u ∈ vs → Wk es u p v → NB p → (p.map E.id).Nodup ∧ p.length ≤ 2048 ∧ 0 ≤ sumW p ∧ sumW p ≤ 2251799813685248
  uq : ∀ u v p q, u ∈ vs → Wk es u p v → NB p → Wk es u q v → NB q → p = q
theorem Rep.ve {w : World} {F : Nat → Prop} {R : Nat} {vs : List Int} {es : List E} (h : Rep w F R vs es) : VE vs es := by
  have h0 := h
  obtain ⟨r, N, own, S, par, Fo, vn, en, nf, nk, A, c, sp, rfl, hF, h3⟩ := h
  exact ⟨h3.gr.vnd, h3.gr.vr, h3.gr.vl, Nat.le_trans (h3.gr.el h3.tr h3.adj) h3.gr.vl, h3.gr.eid, h3.gr.er, fun u v p hu hp np => h0.small hu hp np, fun u v p q hu hp np hq nq => h0.uniq hu hp np hq nq⟩
theorem _root_.Go.Dn.AlongR.bd {vs : List Int} {es : List E} {u v : Int} {mx : E} {W K code : Int} (h : AlongR vs es u v mx W K code) (g : VE vs es) : 0 ≤ W ∧ W ≤ 2251799813685248 ∧ 0 ≤ K ∧ K ≤ 2048 := by
  rcases h with ⟨_, _, rfl, rfl, _⟩ | ⟨_, _, _, _, rfl, rfl, _⟩ | ⟨hu, _, p, hp, np, _, rfl, rfl, _⟩
  · decide
  · decide
  · have := g.sm u v p hu hp np
    omega
theorem _root_.Go.Dn.AlongR.in53 {vs : List Int} {es : List E} {u v : Int} {mx : E} {W K code : Int} (h : AlongR vs es u v mx W K code) (g : VE vs es) : In53 W ∧ In53 K := by
  have := h.bd g
  unfold In53; omega
theorem _root_.Go.Dn.AlongR.of {vs : List Int} {es : List E} {u v : Int} {mx : E} {W K code : Int} (h : AlongR vs es u v mx W K code) (g : VE vs es) (hu : u ∈ vs) (hv : v ∈ vs) {p : List E} (hp : Wk es u p v) (np : NB p) : code = 0 ∧ MxP p mx ∧ W = sumW p ∧ K = (p.length : Int) := by
  rcases h with ⟨h, _⟩ | ⟨_, _, h, _⟩ | ⟨_, _, q, hq, nq, hm, rfl, rfl, rfl⟩
  · exact absurd ⟨hu, hv⟩ h
  · exact absurd ⟨p, hp, np⟩ h
  · have := g.uq u v q p hu hq nq hp np
    subst this
    exact ⟨rfl, hm, rfl, rfl⟩
theorem _root_.Go.Dn.AlongR.det {vs : List Int} {es : List E} {u v : Int} {mx mx' : E} {W K code W' K' code' : Int} (g : VE vs es) (h : AlongR vs es u v mx W K code) (k : AlongR vs es u v mx' W' K' code') : mx = mx' ∧ W = W' ∧ K = K' ∧ code = code' := by
  rcases h with ⟨h, rfl, rfl, rfl, rfl⟩ | ⟨hu, hv, h, rfl, rfl, rfl, rfl⟩ | ⟨hu, hv, p, hp, np, hm, rfl, rfl, rfl⟩
  · rcases k with ⟨_, rfl, rfl, rfl, rfl⟩ | ⟨hu, hv, _⟩ | ⟨hu, hv, _⟩
    · exact ⟨rfl, rfl, rfl, rfl⟩
    · exact absurd ⟨hu, hv⟩ h
    · exact absurd ⟨hu, hv⟩ h
  · rcases k with ⟨k, _⟩ | ⟨_, _, _, rfl, rfl, rfl, rfl⟩ | ⟨_, _, q, hq, nq, _⟩
    · exact absurd ⟨hu, hv⟩ k
    · exact ⟨rfl, rfl, rfl, rfl⟩
    · exact absurd ⟨q, hq, nq⟩ h
  · obtain ⟨rfl, h2, rfl, rfl⟩ := k.of g hu hv hp np
    exact ⟨hm.uniq (g.sm u v p hu hp np).1 h2, rfl, rfl, rfl⟩
structure LF (w0 w : World) (F : Nat → Prop) (R : Nat) (vs : List Int) (es : List E) : Prop where
  rep : Rep w F R vs es
  lo : ∀ k, F k → w0.heap.size ≤ k
  bel : Below w0.heap.size w0 w
/-- a block of the law's own beside the forest -/
structure Lo (w0 w : World) (F : Nat → Prop) (b : Nat) (cs : Array Value) (t : TypeId) : Prop where
  hb : HB w b cs t
  nF : ¬ F b
  lo : w0.heap.size ≤ b
section
variable {w0 w w' : World} {F F' : Nat → Prop} {R b : Nat} {vs vs' : List Int} {es es' : List E} {cs : Array Value} {t : TypeId}
theorem LF.call (h : LF w0 w F R vs es) (r : Rep w' F' R vs' es') (u : Upd F w w' F') : LF w0 w' F' R vs' es' :=
  ⟨r, fun k hk => by
    rcases u.fr k hk with h1 | h1
    · exact h.lo k h1
    · exact Nat.le_trans h.bel.size h1, h.bel.trans (u.kp.below h.bel.size fun k hk hf => by have := h.lo k hf; omega)⟩
theorem Lo.call (h : Lo w0 w F b cs t) (u : Upd F w w' F') : Lo w0 w' F' b cs t :=
  ⟨h.hb.keeps u.kp h.nF, fun hf => by
    rcases u.fr b hf with h1 | h1
    · exact h.nF h1
    · have := h.hb.lt; omega, h.lo⟩
theorem LF.below (h : LF w0 w F R vs es) (hb : Below w.heap.size w w') : LF w0 w' F R vs es := ⟨h.rep.below hb, h.lo, h.bel.trans (hb.mono h.bel.size)⟩
theorem Lo.below (h : Lo w0 w F b cs t) (hb : Below w.heap.size w w') : Lo w0 w' F b cs t := ⟨h.hb.below hb, h.nF, h.lo⟩
theorem LF.new (h : LF w0 w F R vs es) (hb : Below w.heap.size w w') {b : Nat} (e : w.heap.size ≤ b) (hh : HB w' b cs t) : Lo w0 w' F b cs t := ⟨hh, fun hf => by have := h.rep.lt b hf; omega, Nat.le_trans h.bel.size e⟩
end
/-- five cells: what Along tells, set down -/
theorem agg5 {w : World} {mx : E} {W K : Int} {Q : Nat → World → Prop} (hQ : ∀ w' b, w.heap.size ≤ b → HB w' b (aC mx W K) 48 → Below w.heap.size w w' → Q b w') :
    alW w (.cells #[.int .i64 (0 : Int), .int .i64 (0 : Int), .int .i64 (0 : Int), .int .i64 (0 : Int), .complex .f64 0 0] 48) fun B w1 =>
      stW w1 (⟨B, 0, none⟩ : Addr) (.int .i64 mx.id) fun w2 => stW w2 ((⟨B, 0, none⟩ : Addr).add 1) (.int .i64 mx.u) fun w3 => stW w3 ((⟨B, 0, none⟩ : Addr).add 2) (.int .i64 mx.v) fun w4 => stW w4 ((⟨B, 0, none⟩ : Addr).add 3) (.int .i64 mx.w) fun w5 => stW w5 ((⟨B, 0, none⟩ : Addr).add 4) (.complex .f64 (fb W) (fb K)) fun w6 => Q B w6 := by
  refine al_new fun w1 b1 e1 s1 h1 g1 => ?_
  refine hb_st0 h1 (by simp) fun w2 h2 k2 => hb_st h2 (j := 1) (by simp) fun w3 h3 k3 => hb_st h3 (j := 2) (by simp) fun w4 h4 k4 => hb_st h4 (j := 3) (by simp) fun w5 h5 k5 => hb_st h5 (j := 4) (by simp) fun w6 h6 k6 => ?_
  have k := ((k2.trans k3).trans (k4.trans k5)).trans k6
  exact hQ w6 b1 (by omega) h6 (g1.trans ((k.below (B := w.heap.size) (by omega) fun i hi e => by omega)))
theorem edge4 {w : World} {e : E} {Q : Nat → World → Prop} (hQ : ∀ w' b, w.heap.size ≤ b → HB w' b (eC e) 33 → Below w.heap.size w w' → Q b w') :
    alW w (.cells #[.int .i64 (0 : Int), .int .i64 (0 : Int), .int .i64 (0 : Int), .int .i64 (0 : Int)] 33) fun B w1 =>
      stW w1 (⟨B, 0, none⟩ : Addr) (.int .i64 e.id) fun w2 => stW w2 ((⟨B, 0, none⟩ : Addr).add 1) (.int .i64 e.u) fun w3 => stW w3 ((⟨B, 0, none⟩ : Addr).add 2) (.int .i64 e.v) fun w4 => stW w4 ((⟨B, 0, none⟩ : Addr).add 3) (.int .i64 e.w) fun w5 => Q B w5 := by
  refine al_new fun w1 b1 e1 s1 h1 g1 => ?_
  refine hb_st0 h1 (by simp) fun w2 h2 k2 => hb_st h2 (j := 1) (by simp) fun w3 h3 k3 => hb_st h3 (j := 2) (by simp) fun w4 h4 k4 => hb_st h4 (j := 3) (by simp) fun w5 h5 k5 => ?_
  have k := (k2.trans k3).trans (k4.trans k5)
  exact hQ w5 b1 (by omega) h5 (g1.trans ((k.below (B := w.heap.size) (by omega) fun i hi e => by omega)))
theorem hb_ldC {w : World} {b : Nat} {cs : Array Value} {t : TypeId} (h : HB w b cs t) {j : Nat} {r i : Nat} (hj : cs[j]? = some (.complex .f64 r i)) {K : Nat → Nat → Prop} (hk : K r i) : ldC w ((⟨b, 0, none⟩ : Addr).add j) .f64 K := ⟨_, _, (h.cell j).trans hj, hk⟩
/-- Along within a law -/
theorem along_step {w0 w : World} {F : Nat → Prop} {R : Nat} {vs : List Int} {es : List E} (h : LF w0 w F R vs es) {u v : Int} (hu : W64 u) (hv : W64 v) {Q : Nat → Int → World → Prop}
    (hQ : ∀ w' b mx W K code, AlongR vs es u v mx W K code → LF w0 w' F R vs es → Lo w0 w' F b (aC mx W K) 48 → (∀ b cs t, Lo w0 w F b cs t → Lo w0 w' F b cs t) → Q b code w') :
    Calls Try.prog 16 #[.pointer (some ⟨R, 0, none⟩), .int .i64 u, .int .i64 v] w fun e w8 => ∃ (x0 : Int) (x1 : Int) (x2 : Int) (x3 : Int) (r4 : Nat) (i4 : Nat) (c : Int), e = .returned (.tuple #[.agg #[.int .i64 x0, .int .i64 x1, .int .i64 x2, .int .i64 x3, .complex .f64 r4 i4], .int .i64 c]) ∧ (
      alW w8 (.cells #[.int .i64 (0 : Int), .int .i64 (0 : Int), .int .i64 (0 : Int), .int .i64 (0 : Int), .complex .f64 0 0] 48) fun B w1 =>
      stW w1 (⟨B, 0, none⟩ : Addr) (.int .i64 x0) fun w2 => stW w2 ((⟨B, 0, none⟩ : Addr).add 1) (.int .i64 x1) fun w3 => stW w3 ((⟨B, 0, none⟩ : Addr).add 2) (.int .i64 x2) fun w4 => stW w4 ((⟨B, 0, none⟩ : Addr).add 3) (.int .i64 x3) fun w5 => stW w5 ((⟨B, 0, none⟩ : Addr).add 4) (.complex .f64 r4 i4) fun w6 => Q B c w6) := by
  refine (Along_ok h.rep hu hv).mono ?_
  rintro e w1 ⟨⟨mx, W, K, code, rfl, ha⟩, r1, u1⟩
  refine ⟨mx.id, mx.u, mx.v, mx.w, fb W, fb K, code, rfl, ?_⟩
  have h1 := h.call r1 u1
  refine agg5 fun w2 b e2 hb2 g2 => ?_
  exact hQ w2 b mx W K code ha (h1.below g2) (h1.new g2 e2 hb2) fun b cs t hl => (hl.call u1).below g2
theorem edge_step {w0 w : World} {F : Nat → Prop} {R : Nat} {vs : List Int} {es : List E} (h : LF w0 w F R vs es) {i : Int} (hi : W64 i) {Q : Nat → Bool → World → Prop}
    (hQ : ∀ w' b, LF w0 w' F R vs es → Lo w0 w' F b (eC (edgeE es i)) 33 → (∀ b cs t, Lo w0 w F b cs t → Lo w0 w' F b cs t) → Q b (edgeB es i) w') :
    Calls Try.prog 12 #[.pointer (some ⟨R, 0, none⟩), .int .i64 i] w fun e w8 => ∃ (x0 : Int) (x1 : Int) (x2 : Int) (x3 : Int) (c : Bool), e = .returned (.tuple #[.agg #[.int .i64 x0, .int .i64 x1, .int .i64 x2, .int .i64 x3], .bool c]) ∧ (
      alW w8 (.cells #[.int .i64 (0 : Int), .int .i64 (0 : Int), .int .i64 (0 : Int), .int .i64 (0 : Int)] 33) fun B w1 =>
      stW w1 (⟨B, 0, none⟩ : Addr) (.int .i64 x0) fun w2 => stW w2 ((⟨B, 0, none⟩ : Addr).add 1) (.int .i64 x1) fun w3 => stW w3 ((⟨B, 0, none⟩ : Addr).add 2) (.int .i64 x2) fun w4 => stW w4 ((⟨B, 0, none⟩ : Addr).add 3) (.int .i64 x3) fun w5 => Q B c w5) := by
  refine (Edge_ok h.rep hi).mono ?_
  rintro e w1 ⟨rfl, r1, u1⟩
  refine ⟨_, _, _, _, _, rfl, ?_⟩
  have h1 := h.call r1 u1
  refine edge4 (e := edgeE es i) fun w2 b e2 hb2 g2 => ?_
  exact hQ w2 b (h1.below g2) (h1.new g2 e2 hb2) fun b cs t hl => (hl.call u1).below g2
section
variable {w0 w : World} {F : Nat → Prop} {R : Nat} {vs : List Int} {es : List E}
theorem addV_step (h : LF w0 w F R vs es) {v : Int} {Q : Int → World → Prop} (hQ : ∀ w' F', LF w0 w' F' R (addVs vs v) es → (∀ b cs t, Lo w0 w F b cs t → Lo w0 w' F' b cs t) → Q (addVC vs v) w') :
    Calls Try.prog 23 #[.pointer (some ⟨R, 0, none⟩), .int .i64 v] w fun e w' => ∃ x : Int, e = .returned (.int .i64 x) ∧ Q x w' := by
  refine (AddV_ok h.rep).mono ?_
  rintro e w1 ⟨rfl, F', r1, u1⟩
  exact ⟨_, rfl, hQ w1 F' (h.call r1 u1) fun b cs t hl => hl.call u1⟩
theorem delV_step (h : LF w0 w F R vs es) {v : Int} {Q : Int → World → Prop} (hQ : ∀ w' F', LF w0 w' F' R (delVs vs es v) es → (∀ b cs t, Lo w0 w F b cs t → Lo w0 w' F' b cs t) → Q (delVC vs es v) w') :
    Calls Try.prog 25 #[.pointer (some ⟨R, 0, none⟩), .int .i64 v] w fun e w' => ∃ x : Int, e = .returned (.int .i64 x) ∧ Q x w' := by
  refine (DelV_ok h.rep).mono ?_
  rintro e w1 ⟨rfl, F', r1, u1⟩
  exact ⟨_, rfl, hQ w1 F' (h.call r1 u1) fun b cs t hl => hl.call u1⟩
theorem link_step (h : LF w0 w F R vs es) {e : E} (hu : W64 e.u) (hv : W64 e.v) {Q : Int → World → Prop} (hQ : ∀ w' F' j, (e.u ∈ vs → e.v ∈ vs → (j = true ↔ Jn es e.u e.v)) → LF w0 w' F' R vs (linkE vs es e j) → (∀ b cs t, Lo w0 w F b cs t → Lo w0 w' F' b cs t) → Q (linkC vs es e j) w') :
    Calls Try.prog 17 #[.pointer (some ⟨R, 0, none⟩), .agg #[.int .i64 e.id, .int .i64 e.u, .int .i64 e.v, .int .i64 e.w]] w fun en w' => ∃ x : Int, en = .returned (.int .i64 x) ∧ Q x w' := by
  refine (Link_ok h.rep hu hv).mono ?_
  rintro _ w1 ⟨j, hj, rfl, F', r1, u1⟩
  exact ⟨_, rfl, hQ w1 F' j hj (h.call r1 u1) fun b cs t hl => hl.call u1⟩
theorem cut_step (h : LF w0 w F R vs es) {i : Int} (hi : W64 i) {Q : Int → World → Prop} (hQ : ∀ w' F', LF w0 w' F' R vs (cutE es i) → (∀ b cs t, Lo w0 w F b cs t → Lo w0 w' F' b cs t) → Q (cutC es i) w') :
    Calls Try.prog 18 #[.pointer (some ⟨R, 0, none⟩), .int .i64 i] w fun en w' => ∃ x : Int, en = .returned (.int .i64 x) ∧ Q x w' := by
  refine (Cut_ok h.rep hi).mono ?_
  rintro _ w1 ⟨rfl, F', r1, u1⟩
  exact ⟨_, rfl, hQ w1 F' (h.call r1 u1) fun b cs t hl => hl.call u1⟩
theorem len_step (h : LF w0 w F R vs es) {Q : Int → Int → World → Prop} (hQ : ∀ w', LF w0 w' F R vs es → (∀ b cs t, Lo w0 w F b cs t → Lo w0 w' F b cs t) → Q (vs.length : Int) (es.length : Int) w') :
    Calls Try.prog 11 #[.pointer (some ⟨R, 0, none⟩)] w fun en w' => ∃ (x y : Int), en = .returned (.tuple #[.int .i64 x, .int .i64 y]) ∧ Q x y w' := by
  refine (Len_ok h.rep).mono ?_
  rintro _ w1 ⟨rfl, r1, u1⟩
  exact ⟨_, _, rfl, hQ w1 (h.call r1 u1) fun b cs t hl => hl.call u1⟩
theorem joined_step (h : LF w0 w F R vs es) {u v : Int} (hu : W64 u) (hv : W64 v) {Q : Bool → Int → World → Prop} (hQ : ∀ w' b, (b = true ↔ u ∈ vs ∧ v ∈ vs ∧ ∃ p, Wk es u p v ∧ NB p) → LF w0 w' F R vs es → (∀ b cs t, Lo w0 w F b cs t → Lo w0 w' F b cs t) → Q b (if u ∈ vs ∧ v ∈ vs then 0 else 51) w') :
    Calls Try.prog 24 #[.pointer (some ⟨R, 0, none⟩), .int .i64 u, .int .i64 v] w fun en w' => ∃ (x : Bool) (y : Int), en = .returned (.tuple #[.bool x, .int .i64 y]) ∧ Q x y w' := by
  refine (Joined_ok h.rep hu hv).mono ?_
  rintro _ w1 ⟨⟨b, rfl, hb⟩, r1, u1⟩
  exact ⟨_, _, rfl, hQ w1 b hb (h.call r1 u1) fun b cs t hl => hl.call u1⟩
end
end Go.Proofs.Ytfknppccgojhdaa.Rd
