/- How the laws begin; EulerTrees, walked. Conditions: none. -/
import Derived.Test.YtkkobfajahmfaaaEvA
import Derived.Test.YtkkobfajahmfaaaRecB
import Derived.Test.YtkkobfajahmfaaaRdL6
namespace Go.Proofs.Ytkkobfajahmfaaa.Rd
open Go.Dn Go.RowKit
set_option linter.unusedVariables false
set_option maxRecDepth 100000
theorem scr_of {w : World} {A : Option Addr} {n c : Nat} {f : Nat → Nat → Int} {g : Nat → Bool} (h : IsRecB 4 w A n c f g) : Scr w A n ((List.range n).map fun i => (⟨f i 0, f i 1, f i 2, f i 3, g i⟩ : EO)) := by
  rcases h with ⟨rfl, rfl, rfl⟩ | ⟨a, rfl, h1, h2, h3⟩
  · exact ⟨fun i hi => by simp at hi, by simp, by simp, fun o ho => by simp at ho⟩
  · refine ⟨fun i hi => ⟨a, rfl, ?_⟩, by simp, by simp; unfold maxLen at h2; omega, fun o ho => ?_⟩
    · have hi' : i < n := by simpa using hi
      obtain ⟨q, qb⟩ := h3 i hi'
      have key : ∀ j, j < 4 → w.cell? ((a.add (i * 5)).add j) = some (.int .i64 (f i j)) := fun j hj => by rw [add_add]; exact (q j hj).1
      rw [List.getElem_map, List.getElem_range]
      have k0 := key 0 (by omega)
      rw [add_add, Nat.add_zero] at k0
      exact ⟨k0, key 1 (by omega), key 2 (by omega), key 3 (by omega), by rw [add_add]; exact qb⟩
    · obtain ⟨i, hi, rfl⟩ := List.mem_map.1 ho
      have hi' : i < n := by simpa using hi
      obtain ⟨q, qb⟩ := h3 i hi'
      exact ⟨wf_i64 (q 1 (by decide)).2, wf_i64 (q 2 (by decide)).2, wf_i64 (q 3 (by decide)).2⟩
theorem sds_of {w : World} {A : Option Addr} {n c : Nat} {zs : List Int} (h : IsRow .i64 w A n c zs) (s : n * 8 ≤ 140737488351232) : ∃ l : List Int, Sds w A n c l := by
  rcases h with ⟨rfl, rfl, rfl, rfl⟩ | ⟨x, rfl, hl, hm, hz, hc, hw⟩
  · exact ⟨[], fun i hi => absurd hi (Nat.not_lt_zero _), rfl, fun _ => ⟨rfl, rfl⟩, by simp⟩
  · refine ⟨zs.take n, fun i hi => ?_, by simp; omega, (fun h => by cases h), by simp; omega⟩
    rw [List.length_take] at hi
    refine ⟨x, rfl, ?_⟩
    rw [hc i (by omega), List.getElem_take]
    congr 2
    simp [List.getD_eq_getElem?_getD, show i < zs.length by omega]
theorem filled_step {w : World} {As : Option Addr} {ns cs : Nat} {sl : List Int} (hs : Sds w As ns cs sl) {A : Option Addr} {n c : Nat} {l : List EO} (h : Scr w A n l) {Q : Option Addr → World → Prop} (hQ : ∀ w' F Fp kv ke, LF w w' Fp F (run l).1 (run l).2 kv ke → (∀ i, i ≤ l.length → GE (run (l.take i)).1 (run (l.take i)).2) → Q (some ⟨F, 0, none⟩) w') :
    Calls Try.prog 8 #[.slice As ns cs, .slice A n c] w fun e w' => ∃ p : Option Addr, e = .returned (.pointer p) ∧ Q p w' := by
  refine (filled_ok hs h).mono ?_
  rintro _ w1 ⟨F, Fp, kv, ke, rfl, h1, hG⟩
  exact ⟨_, rfl, hQ w1 F Fp kv ke h1 hG⟩
theorem alive_step {w : World} {Q : Bool → World → Prop} (hQ : ∀ w', Below w.heap.size w w' → Q true w') :
    Calls Try.prog 9 #[] w fun e w' => ∃ b : Bool, e = .returned (.bool b) ∧ Q b w' := by
  refine (alive_ok w).mono ?_
  rintro _ w1 ⟨rfl, g⟩
  exact ⟨_, rfl, hQ w1 g⟩
open Classical in
theorem cmpV_eq {vs : List Int} {es : List E} {u v : Int} (h : Cn es u v) : cmpV vs es v = cmpV vs es u := by
  unfold cmpV
  refine List.filter_congr fun x _ => ?_
  have : Cn es v x ↔ Cn es u x := ⟨fun k => h.trans k, fun k => h.symm.trans k⟩
  simp [this]
theorem vO_mem {vs : List Int} {es : List E} {u v : Int} : v ∈ vO vs es u ↔ u ∈ vs ∧ v ∈ vs ∧ Cn es u v := by
  unfold vO
  split
  · rename_i h; rw [cmpV_mem]; simp [h]
  · rename_i h; simp [h]
theorem vO_eq {vs : List Int} {es : List E} {u v : Int} (h : v ∈ vO vs es u) : vO vs es v = vO vs es u := by
  obtain ⟨hu, hv, hc⟩ := vO_mem.1 h
  unfold vO
  rw [if_pos hu, if_pos hv, cmpV_eq hc]
theorem vO_self {vs : List Int} {es : List E} {u : Int} (hu : u ∈ vs) : u ∈ vO vs es u := vO_mem.2 ⟨hu, hu, Cn.refl _ _⟩
theorem eO_id {vs : List Int} {es : List E} {u i : Int} (h : i ∈ eO vs es u) : i ∈ es.map E.id := by
  unfold eO at h
  split at h
  · obtain ⟨e, he, rfl, _⟩ := cmpE_mem.1 h
    exact List.mem_map_of_mem he
  · cases h
section
variable {w0 wS : World} {Fp : Nat → Prop} {F : Nat} {vs : List Int} {es : List E} {kv ke : Int → Bool}
theorem trees_l0 (g : GE vs es) {u : Int} (hu : u ∈ vs) {A A' : Option Addr} {c c' : Nat} (hd : Hd wS Fp A (vO vs es u)) (hd' : Hd wS Fp A' (vO vs es u)) {K0 : World → Prop} {Kr : Bool → World → Prop}
    (k0 : ∀ w, LF w0 w Fp F vs es kv ke → Below wS.heap.size wS w → K0 w) : ∀ (m i : Nat) (w : World), (vO vs es u).length - i = m → i ≤ (vO vs es u).length → LF w0 w Fp F vs es kv ke → Below wS.heap.size wS w →
      f_law16_EulerTrees.l0 (m + 1) u (some ⟨F, 0, none⟩) A (vO vs es u).length c A' (vO vs es u).length c' ((vO vs es u).length : Int) (i : Int) w K0 Kr := by
  have hle := vO_le g u
  intro m
  induction m with
  | zero =>
    intro i w hm hi h hb
    have : i = (vO vs es u).length := by omega
    subst this
    unfold f_law16_EulerTrees.l0
    exact sel_f (by simp) (k0 w h hb)
  | succ m ih =>
    intro i w hm hi h hb
    have hlt : i < (vO vs es u).length := by omega
    have hw : IntKind.i64.wrap ((i : Int) + 1) = ((i + 1 : Nat) : Int) := by rw [w64_in (by omega)]; omega
    obtain ⟨a, rfl, q⟩ := (hd'.ri.belw hb) i hlt
    have hv : (vO vs es u)[i] ∈ vO vs es u := List.getElem_mem hlt
    generalize hx : (vO vs es u)[i] = v at q hv
    obtain ⟨_, hvs, hcn⟩ := vO_mem.1 hv
    unfold f_law16_EulerTrees.l0
    refine sel_t (by simpa using hlt) (optB_some rfl (req_intro (by simp; omega) ?_))
    rw [Int.toNat_natCast, Nat.mul_one]
    refine ldI_intro q (size_step h (g.vW hvs) fun w1 h1 g1 => verts_step h1 (g.vW hvs) fun w2 A2 c2 h2 d2 g2 => joined_step h2 (g.vW hu) (g.vW hvs) fun w3 h3 g3 => ?_)
    have hb3 : Below wS.heap.size wS w3 := ((hb.trans (g1.mono hb.size)).trans (g2.mono (by have := hb.size; have := g1.size; omega))).trans (g3.mono (by have := hb.size; have := g1.size; have := g2.size; omega))
    have ec : cdV vs v = 0 := by unfold cdV; rw [if_pos hvs]
    rw [ec, vO_eq hv, if_pos ⟨hu, hvs⟩]
    refine sel_f rfl (sel_f rfl (sel_f rfl (sel_f (by simp) (sel_f (by simpa using hv) ?_))))
    rw [vO_eq hv] at d2
    refine same_step (hd.ri.belw hb3) rfl (d2.below g3).ri rfl hle fun w4 g4 => sel_f (by simp) ?_
    rw [hw]
    exact ih (i + 1) w4 (by omega) (by omega) (h3.below g4) (hb3.trans (g4.mono hb3.size))
theorem trees_l1 (g : GE vs es) {u : Int} {A : Option Addr} {c : Nat} {K2 : World → Prop} {Kr : Bool → World → Prop}
    (k2 : ∀ w ke, LF w0 w Fp F vs es kv ke → Upd Fp wS w Fp → (∀ y ∈ eO vs es u, ke y = true) → K2 w) (hd : Hd wS Fp A (eO vs es u)) : ∀ (m i : Nat) (w : World) (ke : Int → Bool), (eO vs es u).length - i = m → i ≤ (eO vs es u).length → LF w0 w Fp F vs es kv ke → Upd Fp wS w Fp → (∀ y ∈ (eO vs es u).take i, ke y = true) →
      f_law16_EulerTrees.l1 (m + 1) (some ⟨F, 0, none⟩) A (eO vs es u).length c ((eO vs es u).length : Int) (i : Int) w K2 Kr := by
  have hle := eO_le g u
  intro m
  induction m with
  | zero =>
    intro i w ke hm hi h hb hk
    have : i = (eO vs es u).length := by omega
    subst this
    rw [List.take_length] at hk
    unfold f_law16_EulerTrees.l1
    exact sel_f (by simp) (k2 w ke h hb hk)
  | succ m ih =>
    intro i w ke hm hi h hb hk
    have hlt : i < (eO vs es u).length := by omega
    have hw : IntKind.i64.wrap ((i : Int) + 1) = ((i + 1 : Nat) : Int) := by rw [w64_in (by omega)]; omega
    obtain ⟨a, rfl, q⟩ := (hd.call hb).ri i hlt
    have htk : (eO vs es u).take (i + 1) = (eO vs es u).take i ++ [(eO vs es u)[i]] := by rw [List.take_succ_eq_append_getElem hlt]
    have hv : (eO vs es u)[i] ∈ eO vs es u := List.getElem_mem hlt
    generalize hx : (eO vs es u)[i] = v at q hv htk
    have hid := eO_id hv
    unfold f_law16_EulerTrees.l1
    refine sel_t (by simpa using hlt) (optB_some rfl (req_intro (by simp; omega) ?_))
    rw [Int.toNat_natCast, Nat.mul_one]
    refine ldI_intro q (has_step h (g.eW hid) fun w1 h1 g1 => sel_f (by simpa using hid) (markE_step h1 (g.eW hid) true fun w2 h2 u2 => ?_))
    rw [if_pos hid, hw]
    refine sel_f rfl (ih (i + 1) w2 _ (by omega) (by omega) h2 ((hb.trans (.below g1)).trans u2) fun y hy => ?_)
    rw [htk, List.mem_append, List.mem_singleton] at hy
    unfold keM
    split
    · rfl
    · rename_i hn
      rcases hy with hy | hy
      · exact hk y hy
      · exact absurd ⟨hid, hy⟩ hn
end
theorem EulerTrees_walk {w : World} {As : Option Addr} {ns cs : Nat} {sl : List Int} (hs : Sds w As ns cs sl) {A : Option Addr} {n c : Nat} {l : List EO} (h : Scr w A n l) {u : Int} (hu : W64 u) :
    Calls Try.prog 6 #[.slice As ns cs, .slice A n c, .int .i64 u] w fun e w' => e = .returned (.bool true) ∧ Below w.heap.size w w' := by
  apply f_law16_EulerTrees.ok
  unfold f_law16_EulerTrees.wp
  refine filled_step hs h fun w1 F Fp kv ke h1 _ => sel_f rfl (alive_step fun w2 g2 => sel_f rfl ?_)
  have h2 := h1.below g2
  have g := h2.ge
  refine verts_step h2 hu fun w3 A3 c3 h3 d3 g3 => edges_step h3 hu fun w4 A4 c4 h4 d4 g4 => ?_
  by_cases hin : u ∈ (run l).1
  case neg =>
    have ec : cdV (run l).1 u = 51 := by unfold cdV; rw [if_neg hin]
    rw [ec]
    exact sel_t rfl (sel_t rfl ⟨rfl, h4.bel⟩)
  have ec : cdV (run l).1 u = 0 := by unfold cdV; rw [if_pos hin]
  rw [ec]
  have ln : (vO (run l).1 (run l).2 u).length = (eO (run l).1 (run l).2 u).length + 1 := by
    unfold vO eO; rw [if_pos hin, if_pos hin]; exact g.ln u hin
  have vle := vO_le g u
  have hw : IntKind.i64.wrap (((eO (run l).1 (run l).2 u).length : Int) + 1) = ((vO (run l).1 (run l).2 u).length : Int) := by rw [w64_in (by omega), ln]; omega
  rw [hw]
  have d3 := d3.below g4
  refine sel_f rfl (sel_f rfl (sel_f (by simp) (hasI_step d3.ri rfl (by omega) (sel_f (by simpa using vO_self hin) ⟨_, trees_l0 (wS := w4) g hin d3 d3 (fun w5 h5 g5 => ?_) _ 0 w4 rfl (by omega) h4 (Below.refl _ _)⟩))))
  intro _
  refine ⟨_, trees_l1 (wS := w5) g (fun w6 ke6 h6 u6 hk => ?_) (d4.below g5) _ 0 w5 ke rfl (by omega) h5 (.below (Below.refl _ _)) (by simp)⟩
  intro _
  refine someE_step h6 hu fun w7 x h7 hx g7 => sel_t (by rw [ec]; rfl) ?_
  have d7 := ((d4.below g5).call u6).below g7
  have ele := eO_le g u
  have hmem : eO (run l).1 (run l).2 u ≠ [] → x ∈ eO (run l).1 (run l).2 u := fun hne => by
    rcases hx with ⟨hx, _⟩ | ⟨_, hx⟩
    · exact hx
    · obtain ⟨y, hy⟩ := List.exists_mem_of_ne_nil _ hne
      have h1 := hx y hy
      rw [hk y hy] at h1
      cases h1
  by_cases he : eO (run l).1 (run l).2 u = []
  · have hx0 : x = 0 := by
      rcases hx with ⟨hx, _⟩ | ⟨hx, _⟩
      · rw [he] at hx; cases hx
      · exact hx
    exact sel_t (by rw [he]; rfl) (sel_t (by rw [hx0]; rfl) ⟨rfl, h7.bel⟩)
  · refine sel_f ?_ (hasI_step d7.ri rfl (by omega) ⟨by simp [hmem he], h7.bel⟩)
    have : (eO (run l).1 (run l).2 u).length ≠ 0 := fun h => he (List.length_eq_zero_iff.1 h)
    simpa using this
theorem EulerTrees_row {w : World} {A0 A1 : Option Addr} {n0 c0 n1 c1 : Nat} {zs : List Int} {f : Nat → Nat → Int} {g : Nat → Bool} {u : Int} (h0 : IsRow .i64 w A0 n0 c0 zs) (s0 : n0 * 8 ≤ 140737488351232) (h1 : IsRecB 4 w A1 n1 c1 f g) (wu : (Lit.int .i64 u).wf = true) :
    Calls Try.prog 6 #[.slice A0 n0 c0, .slice A1 n1 c1, .int .i64 u] w fun e w' => e = .returned (.bool true) ∧ Below w.heap.size w w' := by
  obtain ⟨l, hs⟩ := sds_of h0 s0
  exact EulerTrees_walk hs (scr_of h1) (wf_i64 wu)
end Go.Proofs.Ytkkobfajahmfaaa.Rd
