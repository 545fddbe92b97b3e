/- A script's calls on a forest; the document's example. Conditions: none. -/
import Derived.Test.YtkkobfajahmfaaaEuZ
namespace Go.Proofs.Ytkkobfajahmfaaa.Rd
open Go.Dn Go.RowKit
set_option linter.unusedVariables false
set_option linter.unusedSimpArgs false
set_option maxRecDepth 100000
/-- a script's record, readable -/
structure RO1 (w : World) (a : Addr) (i : Nat) (o : EO) : Prop where
  c0 : w.cell? (a.add (i * 5)) = some (.int .i64 o.k)
  c1 : w.cell? ((a.add (i * 5)).add 1) = some (.int .i64 o.id)
  c2 : w.cell? ((a.add (i * 5)).add 2) = some (.int .i64 o.u)
  c3 : w.cell? ((a.add (i * 5)).add 3) = some (.int .i64 o.v)
  c4 : w.cell? ((a.add (i * 5)).add 4) = some (.bool o.on)
def RO (w : World) (A : Option Addr) (l : List EO) : Prop := ∀ i (hi : i < l.length), ∃ a, A = some a ∧ RO1 w a i l[i]
theorem RO.belw {w w' : World} {A : Option Addr} {l : List EO} (h : RO w A l) (hb : Below w.heap.size w w') : RO w' A l := fun i hi => by
  obtain ⟨a, ha, h0, h1, h2, h3, h4⟩ := h i hi
  have k := Keeps.of_below (S := fun _ => False) hb
  exact ⟨a, ha, k.cell h0 id, k.cell h1 id, k.cell h2 id, k.cell h3 id, k.cell h4 id⟩
theorem ldB_intro {w : World} {p : Addr} {x : Bool} (h : w.cell? p = some (.bool x)) {K : Bool → Prop} (hk : K x) : ldB w p K := ⟨_, h, hk⟩
theorem rowO {w : World} {a : Addr} {i : Nat} {o : EO} (h : RO1 w a i o) {K : Int → Int → Int → Int → Bool → Prop} (hk : K o.k o.id o.u o.v o.on) :
    ldI w (a.add ((i : Int).toNat * 5)) .i64 fun x0 => ldI w ((a.add ((i : Int).toNat * 5)).add 1) .i64 fun x1 => ldI w ((a.add ((i : Int).toNat * 5)).add 2) .i64 fun x2 => ldI w ((a.add ((i : Int).toNat * 5)).add 3) .i64 fun x3 => ldB w ((a.add ((i : Int).toNat * 5)).add 4) fun x4 => K x0 x1 x2 x3 x4 := by
  rw [Int.toNat_natCast]
  exact ldI_intro h.c0 (ldI_intro h.c1 (ldI_intro h.c2 (ldI_intro h.c3 (ldB_intro h.c4 hk))))
noncomputable def run (l : List EO) : Nt := l.foldl nstp ([], [])
theorem run_snoc (l : List EO) (o : EO) : run (l ++ [o]) = nstp (run l) o := by unfold run; rw [List.foldl_append]; rfl
structure Scr (w : World) (A : Option Addr) (n : Nat) (l : List EO) : Prop where
  r : RO w A l
  n : n = l.length
  le : l.length ≤ 9223372036854775807
  ok : ∀ o ∈ l, OpW o
structure Sds (w : World) (A : Option Addr) (n c : Nat) (l : List Int) : Prop where
  r : RI w A l
  n : n = l.length
  c0 : A = none → l.length = 0 ∧ c = 0
  le : l.length ≤ 17592186044416
theorem Sds.belw {w w' : World} {A : Option Addr} {n c : Nat} {l : List Int} (h : Sds w A n c l) (hb : Below w.heap.size w w') : Sds w' A n c l := ⟨h.r.belw hb, h.n, h.c0, h.le⟩
theorem filled_ok {w : World} {As : Option Addr} {ns cs : Nat} {sl : List Int} (hs : Sds w As ns cs sl) {A : Option Addr} {n c : Nat} {l : List EO} (h : Scr w A n l) :
    Calls Try.prog 8 #[.slice As ns cs, .slice A n c] w fun e w' => ∃ F Fp kv ke, e = .returned (.pointer (some ⟨F, 0, none⟩)) ∧ LF w w' Fp F (run l).1 (run l).2 kv ke ∧ ∀ i, i ≤ l.length → GE (run (l.take i)).1 (run (l.take i)).2 := by
  obtain ⟨hr, rfl, hle, hok⟩ := h
  apply f_law16_filled.ok
  unfold f_law16_filled.wp
  refine new_step (Below.refl _ w) hs.r hs.n hs.c0 hs.le fun w1 F F1 h1 _ _ => ?_
  refine ⟨l.length + 1, ?_⟩
  have key : ∀ (m i : Nat) (w2 : World) (Fp : Nat → Prop) (kv ke : Int → Bool), l.length - i = m → i ≤ l.length → LF w w2 Fp F (run (l.take i)).1 (run (l.take i)).2 kv ke → (∀ j, j ≤ i → GE (run (l.take j)).1 (run (l.take j)).2) →
      f_law16_filled.l0 (m + 1) A l.length c (some ⟨F, 0, none⟩) (i : Int) w2 (fun w13 => ∀ _ : Dn.Fr, (fun e w' => ∃ F Fp kv ke, e = Ending.returned (.pointer (some ⟨F, 0, none⟩)) ∧ LF w w' Fp F (run l).1 (run l).2 kv ke ∧ ∀ i, i ≤ l.length → GE (run (l.take i)).1 (run (l.take i)).2) (.returned (.pointer (some ⟨F, 0, none⟩))) w13) := by
    intro m
    induction m with
    | zero =>
      intro i w2 Fp kv ke hm hi hf hG
      have : i = l.length := by omega
      subst this
      rw [List.take_length] at hf
      unfold f_law16_filled.l0
      exact sel_t rfl (sel_f (by simp) fun _ => ⟨F, Fp, kv, ke, rfl, hf, hG⟩)
    | succ m ih =>
      intro i w2 Fp kv ke hm hi hf hG
      have hlt : i < l.length := by omega
      obtain ⟨a, rfl, q⟩ := (hr.belw hf.bel) i hlt
      have hw : IntKind.i64.wrap ((i : Int) + 1) = ((i + 1 : Nat) : Int) := by rw [w64_in (by omega)]; omega
      unfold f_law16_filled.l0
      refine sel_t rfl (sel_t (by simpa using hlt) (optB_some rfl (req_intro (by simp; omega) (rowO q ?_))))
      have H : L2 w w2 Fp F (run (l.take i)) kv ke s0 ([], []) [] [] := ⟨hf, RF.zero w2, fun k hk => by rcases hk with ⟨_, h, _⟩ | ⟨_, h, _⟩ | ⟨_, h, _⟩ | ⟨_, h, _⟩ <;> cases h⟩
      refine (does_ok H ⟨.nil, by simp, .nil⟩ (by simp) (by simp) (by simp) (o := l[i]) (hok _ (List.getElem_mem hlt))).mono ?_
      rintro _ w3 ⟨F', s', rfl, H3, _⟩
      refine ⟨_, _, _, _, _, _, _, _, _, _, _, _, _, rfl, ?_⟩
      rw [hw]
      have : run (l.take (i + 1)) = nstp (run (l.take i)) l[i] := by rw [List.take_succ_eq_append_getElem hlt, run_snoc]
      refine ih (i + 1) w3 F' (kvs (run (l.take i)) kv l[i]) (kes (run (l.take i)) ke l[i]) (by omega) (by omega) ?_ fun j hj => ?_
      · rw [this]; exact H3.f
      · by_cases e : j ≤ i
        · exact hG j e
        · obtain rfl : j = i + 1 := by omega
          rw [this]; exact H3.f.ge
  exact key l.length 0 w1 F1 _ _ (by omega) (by omega) h1 fun j hj => by
    obtain rfl : j = 0 := by omega
    exact h1.ge
/-! ### the example -/
theorem cnInv {es : List E} {u v : Int} (h : Cn es u v) {Q : Int → Prop} (hQ : ∀ e ∈ es, Q e.u ↔ Q e.v) : Q u → Q v := by
  obtain ⟨p, h⟩ := h
  induction h with
  | nil => exact id
  | cons he hm h ih =>
    rename_i e m v p
    intro hq
    refine ih ?_
    unfold oth
    split
    · rename_i h1; rw [← hQ e he, h1]; exact hq
    · rename_i h1; rw [hQ e he, hm.resolve_left h1]; exact hq
theorem kvA_nof (vs : List Int) (v : Int) : kvA vs nof v = nof := by funext i; unfold kvA; split <;> rfl
theorem keL_nof (vs : List Int) (es : List E) (e : E) (j : Bool) : keL vs es nof e j = nof := by funext i; unfold keL; split <;> rfl
def x7 : E := ⟨7, 1, 2, 0⟩
def x8 : E := ⟨8, 2, 3, 0⟩
def x9 : E := ⟨9, 1, 3, 0⟩
instance (n : Int) : Decidable (W64 n) := inferInstanceAs (Decidable (_ ∧ _))
abbrev v4 : List Int := [1, 2, 3, 4]
theorem alive_ok (w : World) : Calls Try.prog 9 #[] w fun e w' => e = .returned (.bool true) ∧ Below w.heap.size w w' := by
  apply f_law16_alive.ok
  unfold f_law16_alive.wp
  refine al_new fun w0 b e0 s0 hb0 g0 => ?_
  refine new_step (w0 := w) g0 (sl := [5]) (hb0.ri [5] rfl) rfl (fun h => by cases h) (by simp) fun w1 F F1 h1 _ _ => sel_f rfl ⟨5, ?_⟩
  have ad : ∀ {vs vs' : List Int} {v : Int} {w w1 : World} {Fp : Nat → Prop} {Q : Int → World → Prop}, W64 v → addVC vs v = 0 → addVr vs v = vs' → LF w w1 Fp F vs [] nof nof → (∀ w' Fp', LF w w' Fp' F vs' [] nof nof → Q 0 w') →
      Calls Try.prog 24 #[.pointer (some ⟨F, 0, none⟩), .int .i64 v] w1 fun e w' => ∃ x : Int, e = .returned (.int .i64 x) ∧ Q x w' := by
    intro vs vs' v w w1 Fp Q hv hc hr h hQ
    refine addV_step h hv fun w2 F2 h2 _ => ?_
    rw [hc]
    rw [hr, kvA_nof] at h2
    exact hQ w2 F2 h2
  unfold f_law16_alive.l0
  refine sel_t rfl (ad (vs' := [1]) (by decide) (by decide) (by decide) h1 fun w2 F2 h2 => sel_f rfl ?_)
  show f_law16_alive.l0 4 _ 2 _ _ _
  unfold f_law16_alive.l0
  refine sel_t rfl (ad (vs' := [1, 2]) (by decide) (by decide) (by decide) h2 fun w3 F3 h3 => sel_f rfl ?_)
  show f_law16_alive.l0 3 _ 3 _ _ _
  unfold f_law16_alive.l0
  refine sel_t rfl (ad (vs' := [1, 2, 3]) (by decide) (by decide) (by decide) h3 fun w4 F4 h4 => sel_f rfl ?_)
  show f_law16_alive.l0 2 _ 4 _ _ _
  unfold f_law16_alive.l0
  refine sel_t rfl (ad (vs' := v4) (by decide) (by decide) (by decide) h4 fun w5 F5 h5 => sel_f rfl ?_)
  show f_law16_alive.l0 1 _ 5 _ _ _
  unfold f_law16_alive.l0
  refine sel_f rfl fun _ => ?_
  refine link_step (e := x7) h5 (by decide) (by decide) (by decide) rfl fun w6 F6 j6 hj6 h6 _ => ?_
  have e6 : j6 = false := by
    cases j6 with
    | false => rfl
    | true =>
      obtain ⟨p, hp⟩ := (hj6 (by decide) (by decide)).1 rfl
      cases hp with
      | cons he _ _ => cases he
  subst e6
  have e6 : linkC v4 [] x7 false = 0 := by decide
  have e6' : linkEr v4 [] x7 false = [x7] := by unfold linkEr; rw [if_pos e6]; rfl
  rw [e6]; rw [e6', keL_nof] at h6
  refine link_step (e := x8) h6 (by decide) (by decide) (by decide) rfl fun w7 F7 j7 hj7 h7 _ => ?_
  have e7 : j7 = false := by
    cases j7 with
    | false => rfl
    | true => exact absurd rfl (cnInv ((hj7 (by decide) (by decide)).1 rfl) (Q := fun n => n ≠ 3) (fun e he => by simp only [List.mem_singleton] at he; subst he; decide) (by decide))
  subst e7
  have e7 : linkC v4 [x7] x8 false = 0 := by decide
  have e7' : linkEr v4 [x7] x8 false = [x7, x8] := by unfold linkEr; rw [if_pos e7]; rfl
  rw [e7]; rw [e7', keL_nof] at h7
  have c12 : Cn [x7, x8] 1 2 := Cn.edge (e := x7) (by simp)
  have c23 : Cn [x7, x8] 2 3 := Cn.edge (e := x8) (by simp)
  refine link_step (e := x9) h7 (by decide) (by decide) (by decide) rfl fun w8 F8 j8 hj8 h8 _ => ?_
  have e8 : j8 = true := (hj8 (by decide) (by decide)).2 (c12.trans c23)
  subst e8
  have e8 : linkC v4 [x7, x8] x9 true = 151 := by decide
  have e8' : linkEr v4 [x7, x8] x9 true = [x7, x8] := by unfold linkEr; rw [if_neg (by rw [e8]; decide)]
  rw [e8]; rw [e8', keL_nof] at h8
  have n4 : ∀ {u : Int}, u ≠ 4 → ¬ Cn [x7, x8] u 4 := fun hu h => absurd rfl (cnInv h (Q := fun n => n ≠ 4) (fun e he => by simp only [List.mem_cons, List.not_mem_nil, or_false] at he; rcases he with rfl | rfl <;> decide) hu)
  have d1 : vO v4 [x7, x8] 3 = [1, 2, 3] := by
    unfold vO cmpV
    rw [if_pos (by decide)]
    simp [(c12.trans c23).symm, c23.symm, Cn.refl, n4 (u := 3) (by decide)]
  have d2 : eO v4 [x7, x8] 1 = [7, 8] := by
    unfold eO cmpE
    rw [if_pos (by decide)]
    have q1 : Cn [x7, x8] 1 x7.u := Cn.refl _ _
    have q2 : Cn [x7, x8] 1 x8.u := c12
    simp [q1, q2]; exact ⟨rfl, rfl⟩
  have d3 : vO v4 [x7, x8] 1 = [1, 2, 3] := by
    unfold vO cmpV
    rw [if_pos (by decide)]
    simp [c12.trans c23, c12, Cn.refl, n4 (u := 1) (by decide)]
  refine verts_step h8 (u := 3) (by decide) fun w9 A9 c9 h9 _ _ => ?_
  refine edges_step h9 (u := 1) (by decide) fun w10 A10 c10 h10 _ _ => ?_
  refine markV_step h10 (v := 2) (by decide) true fun w11 h11 _ => ?_
  refine someV_step h11 (u := 1) (by decide) fun w12 x h12 hx _ => ?_
  rw [d3] at hx
  have ex : x = 2 := by
    rcases hx with ⟨_, h⟩ | ⟨_, h⟩
    · unfold kvM at h
      split at h
      · rename_i hh; exact hh.2
      · cases h
    · have := h 2 (by simp)
      simp [kvM] at this
  subst ex
  refine cut_step h12 (i := 7) (by decide) fun w13 F13 h13 _ => ?_
  have e9 : cutC [x7, x8] 7 = 0 := by decide
  have e9' : cutEr [x7, x8] 7 = [x8] := by unfold cutEr; rw [if_pos e9]; rfl
  rw [e9]; rw [e9'] at h13
  have k23 : Cn [x8] 2 3 := Cn.edge (e := x8) (by simp)
  have n1 : ¬ Cn [x8] 3 1 := fun h => absurd rfl (cnInv h (Q := fun n => n ≠ 1) (fun e he => by simp only [List.mem_singleton] at he; subst he; decide) (by decide))
  have n4 : ¬ Cn [x8] 3 4 := fun h => absurd rfl (cnInv h (Q := fun n => n ≠ 4) (fun e he => by simp only [List.mem_singleton] at he; subst he; decide) (by decide))
  have m4 : ∀ {u : Int}, u ≠ 4 → ¬ Cn [x8] 4 u := fun hu h => hu (cnInv h (Q := fun n => n = 4) (fun e he => by simp only [List.mem_singleton] at he; subst he; decide) rfl)
  have d4 : vO v4 [x8] 3 = [2, 3] := by
    unfold vO cmpV
    rw [if_pos (by decide)]
    simp [k23.symm, Cn.refl, n1, n4]
  have d5 : vO v4 [x8] 4 = [4] := by
    unfold vO cmpV
    rw [if_pos (by decide)]
    simp [Cn.refl, m4 (u := 1) (by decide), m4 (u := 2) (by decide), m4 (u := 3) (by decide)]
  refine verts_step h13 (u := 3) (by decide) fun w14 A14 c14 h14 _ _ => ?_
  refine size_step h14 (u := 4) (by decide) fun w15 h15 _ => ?_
  refine joined_step h15 (u := 2) (v := 3) (by decide) (by decide) fun w16 h16 _ => ?_
  rw [d1, d2, d4, d5]
  have d6 : 3 ∈ vO v4 [x8] 2 := by
    unfold vO
    rw [if_pos (by decide), cmpV_mem]
    exact ⟨by decide, k23⟩
  refine sel_t rfl (sel_t rfl (sel_t rfl (sel_t rfl (sel_t rfl (sel_t rfl (sel_t rfl (sel_t rfl (sel_t rfl (sel_t rfl (sel_t rfl (sel_t rfl (sel_t rfl (sel_t rfl (sel_t rfl (sel_t (by simpa using d6) (sel_t rfl ?_))))))))))))))))
  refine has_step h16 (i := 8) (by decide) fun w17 h17 _ => sel_t rfl (len_step h17 ⟨rfl, h17.bel⟩)
end Go.Proofs.Ytkkobfajahmfaaa.Rd
