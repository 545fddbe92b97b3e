/- EulerMarks, walked. Conditions: none. -/
import Derived.Test.YtkkobfajahmfaaaEwA
import Derived.Test.YtkkobfajahmfaaaRdL7
namespace Go.Proofs.Ytkkobfajahmfaaa.Rd
open Go.Dn Go.RowKit
set_option linter.unusedVariables false
set_option maxRecDepth 100000
theorem nodup_subI : ∀ {l m : List Int}, l.Nodup → (∀ x ∈ l, x ∈ m) → l.length ≤ m.length
  | [], _, _, _ => Nat.zero_le _
  | a :: l, m, nd, h => by
    rw [List.nodup_cons] at nd
    have hm := h a (by simp)
    have := nodup_subI (l := l) (m := m.erase a) nd.2 fun x hx => (List.mem_erase_of_ne (show x ≠ a from fun e => nd.1 (by rw [← e]; exact hx))).2 (h x (by simp [hx]))
    rw [List.length_erase_of_mem hm] at this
    have : 0 < m.length := List.length_pos_of_mem hm
    simp only [List.length_cons]; omega
theorem vO_nd {vs : List Int} {es : List E} (g : GE vs es) (u : Int) : (vO vs es u).Nodup := by
  unfold vO; split
  · exact nodup_lt (cmpV_sorted g.vss es u)
  · exact .nil
theorem eO_nd {vs : List Int} {es : List E} (g : GE vs es) (u : Int) : (eO vs es u).Nodup := by
  unfold eO; split
  · exact nodup_lt (cmpE_sorted g.ess u)
  · exact .nil
theorem vO_vs {vs : List Int} {es : List E} {u v : Int} (h : v ∈ vO vs es u) : v ∈ vs := (vO_mem.1 h).2.1
theorem SomeS.none {l : List Int} {k : Int → Bool} {x : Int} (h : SomeS l k x) (hk : ∀ y ∈ l, k y = false) : x = 0 := by
  rcases h with ⟨h1, h2⟩ | ⟨h1, _⟩
  · rw [hk x h1] at h2; cases h2
  · exact h1
theorem SomeS.some {l : List Int} {k : Int → Bool} {x y : Int} (h : SomeS l k x) (hy : y ∈ l) (hk : k y = true) : x ∈ l ∧ k x = true := by
  rcases h with h | ⟨_, h2⟩
  · exact h
  · rw [h2 y hy] at hk; cases hk
section
variable {w0 wS : World} {Fp : Nat → Prop} {F : Nat} {vs : List Int} {es : List E} {kv ke : Int → Bool}
theorem marks_l0 (g : GE vs es) {u : Int} {A : Option Addr} {c : Nat} {K0 : World → Prop} {Kr : Bool → World → Prop}
    (k0 : ∀ w kv, LF w0 w Fp F vs es kv ke → Upd Fp wS w Fp → (∀ y ∈ vO vs es u, kv y = true) → K0 w) (hd : Hd wS Fp A (vO vs es u)) : ∀ (m i : Nat) (w : World) (kv : Int → Bool), (vO vs es u).length - i = m → i ≤ (vO vs es u).length → LF w0 w Fp F vs es kv ke → Upd Fp wS w Fp → (∀ y ∈ (vO vs es u).take i, kv y = true) →
      f_law16_EulerMarks.l0 (m + 1) (some ⟨F, 0, none⟩) A (vO vs es u).length c ((vO vs es u).length : Int) (i : Int) w K0 Kr := by
  have hle := vO_le g u
  intro m
  induction m with
  | zero =>
    intro i w kv hm hi h hb hk
    have : i = (vO vs es u).length := by omega
    subst this
    rw [List.take_length] at hk
    unfold f_law16_EulerMarks.l0
    exact sel_f (by simp) (k0 w kv h hb hk)
  | succ m ih =>
    intro i w kv hm hi h hb hk
    have hlt : i < (vO vs es u).length := by omega
    have hw : IntKind.i64.wrap ((i : Int) + 1) = ((i + 1 : Nat) : Int) := by rw [w64_in (by omega)]; omega
    obtain ⟨a, rfl, q⟩ := (hd.call hb).ri i hlt
    have htk : (vO vs es u).take (i + 1) = (vO vs es u).take i ++ [(vO vs es u)[i]] := by rw [List.take_succ_eq_append_getElem hlt]
    have hv : (vO vs es u)[i] ∈ vO vs es u := List.getElem_mem hlt
    generalize hx : (vO vs es u)[i] = v at q hv htk
    have hid := vO_vs hv
    unfold f_law16_EulerMarks.l0
    refine sel_t (by simpa using hlt) (optB_some rfl (req_intro (by simp; omega) ?_))
    rw [Int.toNat_natCast, Nat.mul_one]
    refine ldI_intro q (markV_step h (g.vW hid) true fun w2 h2 u2 => ?_)
    rw [if_pos hid, hw]
    refine sel_f rfl (ih (i + 1) w2 _ (by omega) (by omega) h2 (hb.trans u2) fun y hy => ?_)
    rw [htk, List.mem_append, List.mem_singleton] at hy
    unfold kvM
    split
    · rfl
    · rename_i hn
      rcases hy with hy | hy
      · exact hk y hy
      · exact absurd ⟨hid, hy⟩ hn
theorem marks_l1 (g : GE vs es) {u : Int} {A : Option Addr} {c : Nat} {K2 : World → Prop} {Kr : Bool → World → Prop}
    (k2 : ∀ w ke, LF w0 w Fp F vs es kv ke → Upd Fp wS w Fp → (∀ y ∈ eO vs es u, ke y = true) → K2 w) (hd : Hd wS Fp A (eO vs es u)) : ∀ (m i : Nat) (w : World) (ke : Int → Bool), (eO vs es u).length - i = m → i ≤ (eO vs es u).length → LF w0 w Fp F vs es kv ke → Upd Fp wS w Fp → (∀ y ∈ (eO vs es u).take i, ke y = true) →
      f_law16_EulerMarks.l1 (m + 1) (some ⟨F, 0, none⟩) A (eO vs es u).length c ((eO vs es u).length : Int) (i : Int) w K2 Kr := by
  have hle := eO_le g u
  intro m
  induction m with
  | zero =>
    intro i w ke hm hi h hb hk
    have : i = (eO vs es u).length := by omega
    subst this
    rw [List.take_length] at hk
    unfold f_law16_EulerMarks.l1
    exact sel_f (by simp) (k2 w ke h hb hk)
  | succ m ih =>
    intro i w ke hm hi h hb hk
    have hlt : i < (eO vs es u).length := by omega
    have hw : IntKind.i64.wrap ((i : Int) + 1) = ((i + 1 : Nat) : Int) := by rw [w64_in (by omega)]; omega
    obtain ⟨a, rfl, q⟩ := (hd.call hb).ri i hlt
    have htk : (eO vs es u).take (i + 1) = (eO vs es u).take i ++ [(eO vs es u)[i]] := by rw [List.take_succ_eq_append_getElem hlt]
    have hv : (eO vs es u)[i] ∈ eO vs es u := List.getElem_mem hlt
    generalize hx : (eO vs es u)[i] = v at q hv htk
    have hid := eO_id hv
    unfold f_law16_EulerMarks.l1
    refine sel_t (by simpa using hlt) (optB_some rfl (req_intro (by simp; omega) ?_))
    rw [Int.toNat_natCast, Nat.mul_one]
    refine ldI_intro q (markE_step h (g.eW hid) true fun w2 h2 u2 => ?_)
    rw [if_pos hid, hw]
    refine sel_f rfl (ih (i + 1) w2 _ (by omega) (by omega) h2 (hb.trans u2) fun y hy => ?_)
    rw [htk, List.mem_append, List.mem_singleton] at hy
    unfold keM
    split
    · rfl
    · rename_i hn
      rcases hy with hy | hy
      · exact hk y hy
      · exact absurd ⟨hid, hy⟩ hn
theorem marks_l2 (g : GE vs es) {u : Int} (hu : u ∈ vs) {K4 : Option Addr → Nat → Nat → World → Prop} {Kr : Bool → World → Prop}
    (k4 : ∀ w kv A c, LF w0 w Fp F vs es kv ke → Upd Fp wS w Fp → (∀ y ∈ vO vs es u, kv y = false) → K4 A 0 c w) : ∀ (m : Nat) (l : List Int) (w : World) (kv : Int → Bool) (A : Option Addr) (c : Nat), l.length = m → l.Nodup → (∀ y ∈ l, y ∈ vO vs es u) → (∀ y ∈ vO vs es u, kv y = true ↔ y ∈ l) → Hd w Fp A l → LF w0 w Fp F vs es kv ke → Upd Fp wS w Fp →
      f_law16_EulerMarks.l2 (m + 1) u (some ⟨F, 0, none⟩) A l.length c (l.length : Int) w K4 Kr := by
  have hle := vO_le g u
  have ec : cdV vs u = 0 := by unfold cdV; rw [if_pos hu]
  intro m
  induction m with
  | zero =>
    intro l w kv A c hm nd hl hk hd h hb
    have : l = [] := List.length_eq_zero_iff.1 hm
    subst this
    unfold f_law16_EulerMarks.l2
    exact sel_f (by simp) (k4 w kv A c h hb fun y hy => by
      cases hh : kv y with
      | false => rfl
      | true => have := (hk y hy).1 hh; cases this)
  | succ m ih =>
    intro l w kv A c hm nd hl hk hd h hb
    have hl2 : l.length ≤ 2048 := Nat.le_trans (nodup_subI nd hl) hle
    obtain ⟨y, hy⟩ := List.exists_mem_of_ne_nil l (fun e => by rw [e] at hm; cases hm)
    unfold f_law16_EulerMarks.l2
    refine sel_t (by simp; omega) (someV_step h (g.vW hu) fun w1 x h1 hx g1 => ?_)
    obtain ⟨x1, x2⟩ := hx.some (hl y hy) ((hk y (hl y hy)).2 hy)
    have xl := (hk x x1).1 x2
    have xs := vO_vs x1
    rw [ec]
    refine sel_f rfl (hasI_step (hd.below g1).ri rfl (by omega) (sel_f (by simpa using xl) (markV_step h1 (g.vW xs) false fun w2 h2 u2 => ?_)))
    rw [if_pos xs]
    refine sel_f rfl ((Without_ok ((hd.below g1).call u2).ri rfl (by omega) x).mono ?_)
    rintro _ w3 ⟨A3, c3, rfl, o3, g3⟩
    have wl := woI_len nd xl
    have hw : IntKind.i64.wrap ((l.length : Int) - 1) = ((woI l x).length : Int) := by rw [w64_in (by omega)]; omega
    refine ⟨_, _, _, rfl, ?_⟩
    rw [hw]
    refine ih (woI l x) w3 _ A3 c3 (by omega) (nd.filter _) (fun z hz => hl z (woI_mem.1 hz).1) (fun z hz => ?_) (h2.own o3) (h2.below g3) (((hb.trans (.below g1)).trans u2).trans (.below g3))
    rw [woI_mem, ← hk z hz]
    unfold kvM
    by_cases e : z = x
    · subst e; simp [xs]
    · simp [e]
theorem marks_l3 (g : GE vs es) {u : Int} (hu : u ∈ vs) {K4 : Option Addr → Nat → Nat → World → Prop} {Kr : Bool → World → Prop}
    (k4 : ∀ w ke A c, LF w0 w Fp F vs es kv ke → Upd Fp wS w Fp → (∀ y ∈ eO vs es u, ke y = false) → K4 A 0 c w) : ∀ (m : Nat) (l : List Int) (w : World) (ke : Int → Bool) (A : Option Addr) (c : Nat), l.length = m → l.Nodup → (∀ y ∈ l, y ∈ eO vs es u) → (∀ y ∈ eO vs es u, ke y = true ↔ y ∈ l) → Hd w Fp A l → LF w0 w Fp F vs es kv ke → Upd Fp wS w Fp →
      f_law16_EulerMarks.l3 (m + 1) u (some ⟨F, 0, none⟩) A l.length c (l.length : Int) w K4 Kr := by
  have hle := eO_le g u
  have ec : cdV vs u = 0 := by unfold cdV; rw [if_pos hu]
  intro m
  induction m with
  | zero =>
    intro l w ke A c hm nd hl hk hd h hb
    have : l = [] := List.length_eq_zero_iff.1 hm
    subst this
    unfold f_law16_EulerMarks.l3
    exact sel_f (by simp) (k4 w ke A c h hb fun y hy => by
      cases hh : ke y with
      | false => rfl
      | true => have := (hk y hy).1 hh; cases this)
  | succ m ih =>
    intro l w ke A c hm nd hl hk hd h hb
    have hl2 : l.length ≤ 2048 := Nat.le_trans (nodup_subI nd hl) hle
    obtain ⟨y, hy⟩ := List.exists_mem_of_ne_nil l (fun e => by rw [e] at hm; cases hm)
    unfold f_law16_EulerMarks.l3
    refine sel_t (by simp; omega) (someE_step h (g.vW hu) fun w1 x h1 hx g1 => ?_)
    obtain ⟨x1, x2⟩ := hx.some (hl y hy) ((hk y (hl y hy)).2 hy)
    have xl := (hk x x1).1 x2
    have xs := eO_id x1
    rw [ec]
    refine sel_f rfl (hasI_step (hd.below g1).ri rfl (by omega) (sel_f (by simpa using xl) (markE_step h1 (g.eW xs) false fun w2 h2 u2 => ?_)))
    rw [if_pos xs]
    refine sel_f rfl ((Without_ok ((hd.below g1).call u2).ri rfl (by omega) x).mono ?_)
    rintro _ w3 ⟨A3, c3, rfl, o3, g3⟩
    have wl := woI_len nd xl
    have hw : IntKind.i64.wrap ((l.length : Int) - 1) = ((woI l x).length : Int) := by rw [w64_in (by omega)]; omega
    refine ⟨_, _, _, rfl, ?_⟩
    rw [hw]
    refine ih (woI l x) w3 _ A3 c3 (by omega) (nd.filter _) (fun z hz => hl z (woI_mem.1 hz).1) (fun z hz => ?_) (h2.own o3) (h2.below g3) (((hb.trans (.below g1)).trans u2).trans (.below g3))
    rw [woI_mem, ← hk z hz]
    unfold keM
    by_cases e : z = x
    · subst e; simp [xs]
    · simp [e]
end
theorem EulerMarks_walk {w : World} {As : Option Addr} {ns cs : Nat} {sl : List Int} (hs : Sds w As ns cs sl) {A : Option Addr} {n c : Nat} {l : List EO} (h : Scr w A n l) {u : Int} (hu : W64 u) :
    Calls Try.prog 7 #[.slice As ns cs, .slice A n c, .int .i64 u] w fun e w' => e = .returned (.bool true) ∧ Below w.heap.size w w' := by
  apply f_law16_EulerMarks.ok
  unfold f_law16_EulerMarks.wp
  refine filled_step hs h fun w1 F Fp kv ke h1 _ => sel_f rfl (alive_step fun w2 g2 => sel_f rfl ?_)
  have h2 := h1.below g2
  have g := h2.ge
  refine verts_step h2 hu fun w3 A3 c3 h3 d3 g3 => edges_step h3 hu fun w4 A4 c4 h4 d4 g4 => ?_
  by_cases hin : u ∈ (run l).1
  case neg =>
    have ec : cdV (run l).1 u = 51 := by unfold cdV; rw [if_neg hin]
    rw [ec]
    refine sel_t rfl (someV_step h4 hu fun w5 x h5 hx g5 => ?_)
    have ev : vO (run l).1 (run l).2 u = [] := by unfold vO; rw [if_neg hin]
    have := hx.none (by rw [ev]; simp)
    subst this
    rw [ec]
    exact sel_t rfl ⟨rfl, h5.bel⟩
  have ec : cdV (run l).1 u = 0 := by unfold cdV; rw [if_pos hin]
  rw [ec]
  have d3 := d3.below g4
  refine sel_f rfl (sel_f rfl ⟨_, marks_l0 (wS := w4) g (fun w5 kv5 h5 u5 k5 => ?_) d3 _ 0 w4 kv rfl (by omega) h4 (.below (Below.refl _ _)) (by simp)⟩)
  intro _
  refine ⟨_, marks_l1 (wS := w5) g (fun w6 ke6 h6 u6 k6 => ?_) (d4.call u5) _ 0 w5 ke rfl (by omega) h5 (.below (Below.refl _ _)) (by simp)⟩
  intro _
  refine ⟨_, marks_l2 (wS := w6) g hin (fun w7 kv7 A7 c7 h7 u7 k7 => ?_) _ _ w6 kv5 A3 c3 rfl (vO_nd g u) (fun y hy => hy) (fun y hy => by simp [k5 y hy, hy]) ((d3.call u5).call u6) h6 (.below (Below.refl _ _))⟩
  intro _
  refine ⟨_, marks_l3 (wS := w7) g hin (fun w8 ke8 A8 c8 h8 u8 k8 => ?_) _ _ w7 ke6 A4 c4 rfl (eO_nd g u) (fun y hy => hy) (fun y hy => by simp [k6 y hy, hy]) (((d4.call u5).call u6).call u7) h7 (.below (Below.refl _ _))⟩
  intro _
  refine someV_step h8 hu fun w9 x h9 hx g9 => someE_step h9 hu fun w10 y h10 hy g10 => ?_
  have ex := hx.none k7
  have ey := hy.none k8
  subst ex; subst ey
  rw [ec]
  exact sel_t rfl (sel_t rfl (sel_t rfl (sel_t rfl (sel_t rfl ⟨rfl, h10.bel⟩))))
theorem EulerMarks_row {w : World} {A0 A1 : Option Addr} {n0 c0 n1 c1 : Nat} {zs : List Int} {f : Nat → Nat → Int} {g : Nat → Bool} {u : Int} (h0 : IsRow .i64 w A0 n0 c0 zs) (s0 : n0 * 8 ≤ 140737488351232) (h1 : IsRecB 4 w A1 n1 c1 f g) (wu : (Lit.int .i64 u).wf = true) :
    Calls Try.prog 7 #[.slice A0 n0 c0, .slice A1 n1 c1, .int .i64 u] w fun e w' => e = .returned (.bool true) ∧ Below w.heap.size w w' := by
  obtain ⟨l, hs⟩ := sds_of h0 s0
  exact EulerMarks_walk hs (scr_of h1) (wf_i64 wu)
end Go.Proofs.Ytkkobfajahmfaaa.Rd
