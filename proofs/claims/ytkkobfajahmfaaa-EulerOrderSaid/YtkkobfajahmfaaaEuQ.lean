/- A forest of closed walks by its vertices and edges: AddV, DelV, Has, Len. Conditions: none. -/
import Derived.Test.YtkkobfajahmfaaaEuP
namespace Go.Proofs.Ytkkobfajahmfaaa.Rd
open Go.Dn Go.RowKit Go.Maps
set_option linter.unusedVariables false
set_option maxRecDepth 100000
/-- a forest with these vertices, edges and marks; which blocks are its own -/
def RepE (w : World) (Fp : Nat → Prop) (F : Nat) (vs : List Int) (es : List E) (kv ke : Int → Bool) : Prop :=
  ∃ b rows V vl el wl sp T nm, b.F = F ∧ (∀ k, Fp k ↔ Fe b k) ∧ EM w b rows V vl el wl sp ∧ FI rows V b.r.n vl el wl sp T vs es kv ke nm
theorem RepE.other {w w' : World} {Fp Q : Nat → Prop} {F : Nat} {vs : List Int} {es : List E} {kv ke : Int → Bool} (h : RepE w Fp F vs es kv ke) (k : Keeps Q w w') (hQ : ∀ k, Q k → ¬ Fp k) : RepE w' Fp F vs es kv ke := by
  obtain ⟨b, rows, V, vl, el, wl, sp, T, nm, h1, h2, h3, h4⟩ := h
  exact ⟨b, rows, V, vl, el, wl, sp, T, nm, h1, h2, h3.other k fun k hk hf => hQ k hk ((h2 k).2 hf), h4⟩
theorem RepE.below {w w' : World} {Fp : Nat → Prop} {F : Nat} {vs : List Int} {es : List E} {kv ke : Int → Bool} (h : RepE w Fp F vs es kv ke) (k : Below w.heap.size w w') : RepE w' Fp F vs es kv ke := h.other (Q := fun _ => False) (.of_below k) fun _ h => h.elim
theorem RepE.lt {w : World} {Fp : Nat → Prop} {F : Nat} {vs : List Int} {es : List E} {kv ke : Int → Bool} (h : RepE w Fp F vs es kv ke) : ∀ k, Fp k → k < w.heap.size := by
  obtain ⟨b, rows, V, vl, el, wl, sp, T, nm, h1, h2, h3, h4⟩ := h
  exact fun k hk => h3.lt k ((h2 k).1 hk)
/-! ### small words -/
theorem _root_.Go.Dn.HB.ri {w : World} {b : Nat} {cs : Array Value} {t : TypeId} (h : HB w b cs t) (l : List Int) (hcs : cs.toList = l.map (.int .i64)) : RI w (some ⟨b, 0, none⟩) l := fun i hi => by
  refine ⟨_, rfl, ?_⟩
  rw [h.cell, ← Array.getElem?_toList, hcs]
  simp [hi]
theorem badId1_ok (i : Int) (w : World) : Calls Try.prog 64 #[.int .i64 i] w fun e w' => (∃ b, e = .returned (.bool b) ∧ (b = true ↔ badI i)) ∧ w' = w := by
  apply f_euler_badId_1.ok
  unfold f_euler_badId_1.wp
  unfold badI
  by_cases h : i < 1
  · exact sel_t (by simpa using h) ⟨⟨true, rfl, by simp [h]⟩, rfl⟩
  · exact sel_f (by simpa using h) ⟨⟨_, rfl, by simp [h]⟩, rfl⟩
theorem ixf_l0 {w : World} {A : Option Addr} {l : List Int} {c : Nat} (r : RI w A l) (hl : l.length ≤ 1000) {K0 : World → Prop} {Kr : Int → World → Prop} (h0 : (∀ i ∈ l, ¬ badI i) → K0 w) (h1 : ∀ j : Nat, j < l.length → (∃ i ∈ l, badI i) → Kr (j : Int) w) : ∀ (m i : Nat), l.length - i = m → i ≤ l.length → (∀ x ∈ l.take i, ¬ badI x) →
    f_slices_IndexFunc_int_int.l0 (m + 1) A l.length c (l.length : Int) (i : Int) w K0 Kr := by
  intro m
  induction m with
  | zero =>
    intro i hm hi ht
    have : i = l.length := by omega
    subst this
    unfold f_slices_IndexFunc_int_int.l0
    exact sel_f (by simp) (h0 (by rw [List.take_length] at ht; exact ht))
  | succ m ih =>
    intro i hm hi ht
    have hlt : i < l.length := by omega
    obtain ⟨a, rfl, q⟩ := r i hlt
    unfold f_slices_IndexFunc_int_int.l0
    refine sel_t (by simpa using hlt) (optB_some rfl (req_intro (by simp; omega) (ldI_intro (x := l[i]) (by rw [Int.toNat_natCast, Nat.mul_one]; exact q) ?_)))
    refine (badId1_ok _ _).mono ?_
    rintro _ w2 ⟨⟨b, rfl, hb⟩, rfl⟩
    refine ⟨b, rfl, ?_⟩
    by_cases hx : badI l[i]
    · exact sel_t (hb.2 hx) (h1 i hlt ⟨_, List.getElem_mem hlt, hx⟩)
    · refine sel_f (Bool.eq_false_iff.2 fun h => hx (hb.1 h)) ?_
      rw [w64_in (by omega), show (i : Int) + 1 = ((i + 1 : Nat) : Int) by omega]
      refine ih (i + 1) (by omega) (by omega) fun x hxm => ?_
      rw [List.take_succ_eq_append_getElem hlt, List.mem_append, List.mem_singleton] at hxm
      rcases hxm with h | rfl
      · exact ht x h
      · exact hx
theorem badId_ok {w : World} {A : Option Addr} {l : List Int} {n c : Nat} (r : RI w A l) (hn : n = l.length) (hl : l.length ≤ 1000) :
    Calls Try.prog 37 #[.slice A n c] w fun e w' => (∃ b, e = .returned (.bool b) ∧ (b = true ↔ ∃ i ∈ l, badI i)) ∧ w' = w := by
  subst hn
  apply f_euler_badId.ok
  unfold f_euler_badId.wp
  have key : Calls Try.prog 63 #[.slice A l.length c, .func (.func 64) #[] #[]] w fun e w' => (∃ b, e = .returned (.bool b) ∧ (b = true ↔ ∃ i ∈ l, badI i)) ∧ w' = w := by
    apply f_slices_ContainsFunc_int_int.ok
    unfold f_slices_ContainsFunc_int_int.wp
    have k2 : Calls Try.prog 80 #[.slice A l.length c, .func (.func 64) #[] #[]] w fun e w' => (∃ x : Int, e = .returned (.int .i64 x) ∧ (x ≥ 0 ↔ ∃ i ∈ l, badI i)) ∧ w' = w := by
      apply f_slices_IndexFunc_int_int.ok
      unfold f_slices_IndexFunc_int_int.wp
      refine ⟨l.length + 1, ixf_l0 r hl (fun h _ => ⟨⟨_, rfl, ?_⟩, rfl⟩) (fun j hj h _ => ⟨⟨_, rfl, ?_⟩, rfl⟩) l.length 0 (by omega) (by omega) (by simp)⟩
      · constructor
        · intro h; omega
        · rintro ⟨i, hi, hb⟩; exact absurd hb (h i hi)
      · exact ⟨fun _ => h, fun _ => by omega⟩
    refine k2.mono ?_
    rintro _ w2 ⟨⟨x, rfl, hx⟩, rfl⟩
    exact ⟨x, rfl, ⟨_, rfl, by simpa using hx⟩, rfl⟩
  refine key.mono ?_
  rintro _ w2 ⟨⟨b, rfl, hb⟩, rfl⟩
  exact ⟨b, rfl, ⟨b, rfl, hb⟩, rfl⟩
def lkV (vl : List (Int × Nat)) (i : Int) : Nat := (lk vl i).getD 0
def lkE (el : List (Int × (Nat × Nat))) (i : Int) : Nat × Nat := (lk el i).getD (0, 0)
def lkW (wl : List (Nat × (Bool × Int))) (x : Nat) : Bool × Int := (lk wl x).getD (false, 0)
section
variable {w : World} {b : EB} {rows : List (List Nat)} {V : Nat → Int × Int × Int} {vl : List (Int × Nat)} {el : List (Int × (Nat × Nat))} {wl : List (Nat × (Bool × Int))} {sp : List Nat}
theorem EM.lookV (h : EM w b rows V vl el wl sp) {i : Int} (hi : W64 i) {K : Value → World → Prop} (hk : K (.int .i64 (lkV vl i : Int)) w) : Runs Try.prog (Instr.lookup 68 (.map (some b.mv)) (.int .i64 i) false) w K := by
  refine h.gv.look KTv (x := i) hi (zI w) ?_
  unfold lkV at hk
  cases hq : lk vl i with
  | none => rw [hq] at hk; exact hk
  | some n => rw [hq] at hk; exact hk
theorem EM.lookE (h : EM w b rows V vl el wl sp) {i : Int} (hi : W64 i) {K : Value → World → Prop} (hk : K (.tuple #[.agg #[.int .i64 ((lkE el i).1 : Int), .int .i64 ((lkE el i).2 : Int)], .bool (lk el i).isSome]) w) : Runs Try.prog (Instr.lookup 69 (.map (some b.me)) (.int .i64 i) true) w K := by
  refine h.ge.look2 KTe (x := i) hi (zA w) ?_
  unfold lkE at hk
  cases hq : lk el i with
  | none => rw [hq] at hk; exact hk
  | some n => rw [hq] at hk; exact hk
theorem EM.lookW (h : EM w b rows V vl el wl sp) {x : Nat} (hx : okN x) {K : Value → World → Prop} (hk : K (.agg #[.bool (lkW wl x).1, .int .i64 (lkW wl x).2]) w) : Runs Try.prog (Instr.lookup 70 (.map (some b.mw)) (.int .i64 (x : Int)) false) w K := by
  refine h.gw.look KTw (x := x) hx (zP w) ?_
  unfold lkW at hk
  cases hq : lk wl x with
  | none => rw [hq] at hk; exact hk
  | some n => rw [hq] at hk; exact hk
variable {n : Nat} {T : List (List Nat)} {vs : List Int} {es : List E} {kv ke : Int → Bool} {nm : Pl → Nat}
theorem FI.lkv (f : FI rows V n vl el wl sp T vs es kv ke nm) (i : Int) : lkV vl i = if i ∈ vs then nm (.v i) else 0 := by unfold lkV; rw [f.lv]; split <;> rfl
theorem FI.lkv0 (f : FI rows V n vl el wl sp T vs es kv ke nm) (i : Int) : lkV vl i = 0 ↔ i ∉ vs := by
  rw [f.lkv]
  by_cases h : i ∈ vs
  · rw [if_pos h]; have := f.pos _ (okV (es := es) h); constructor
    · intro; omega
    · intro h2; exact absurd h h2
  · rw [if_neg h]; exact ⟨fun _ => h, fun _ => rfl⟩
theorem FI.lke (f : FI rows V n vl el wl sp T vs es kv ke nm) (i : Int) : (lk el i).isSome = decide (i ∈ es.map E.id) := by rw [f.le]; split <;> simp_all
theorem FI.lke' (f : FI rows V n vl el wl sp T vs es kv ke nm) {e : E} (he : e ∈ es) : lkE el e.id = (nm (.t e.id), nm (.b e.id)) := by unfold lkE; rw [f.le, if_pos (List.mem_map_of_mem he)]; rfl
theorem FI.lkw (f : FI rows V n vl el wl sp T vs es kv ke nm) {p : Pl} (hp : okP vs es p) : lkW wl (nm p) = plOf p := by unfold lkW; rw [f.lw p hp]; rfl
theorem FI.spr (f : FI rows V n vl el wl sp T vs es kv ke nm) (rok : RowsOk n rows) : ∀ x ∈ sp, 0 < x ∧ x < n := fun x hx => by
  have : [x] ∈ rows := f.fr.rw.mem_iff.2 (by rw [List.mem_append, List.mem_map]; exact .inl ⟨x, hx, rfl⟩)
  exact (rok.mem x).1 ⟨_, this, by simp⟩
end
theorem in64_small {x : Int} (h0 : 0 ≤ x) (h : x ≤ 1) : In64 x := ⟨by omega, by omega⟩
/-! ### AddV, DelV -/
def kvA (vs : List Int) (kv : Int → Bool) (v : Int) : Int → Bool := fun i => if addVC vs v = 0 ∧ i = v then false else kv i
section
variable {w : World} {Fp : Nat → Prop} {F : Nat} {vs : List Int} {es : List E} {kv ke : Int → Bool}
theorem AddV_ok (h : RepE w Fp F vs es kv ke) {v : Int} (hv : W64 v) :
    Calls Try.prog 24 #[.pointer (some ⟨F, 0, none⟩), .int .i64 v] w fun e w' => ∃ Fp', e = .returned (.int .i64 (addVC vs v)) ∧ RepE w' Fp' F (addVr vs v) es (kvA vs kv v) ke ∧ Upd Fp w w' Fp' := by
  have same : ∀ {w' c}, Below w.heap.size w w' → addVC vs v = c → c ≠ 0 → ∃ Fp', Ending.returned (.int .i64 c) = .returned (.int .i64 (addVC vs v)) ∧ RepE w' Fp' F (addVr vs v) es (kvA vs kv v) ke ∧ Upd Fp w w' Fp' := by
    intro w' c g hc h0
    have e1 : addVr vs v = vs := by unfold addVr; rw [hc, if_neg h0]
    have e2 : kvA vs kv v = kv := by funext i; unfold kvA; rw [hc, if_neg (fun hh => h0 hh.1)]
    rw [e1, e2, hc]
    exact ⟨Fp, rfl, h.below g, .below g⟩
  have hR := h
  obtain ⟨b, rows, V, vl, el, wl, sp, T, nm, rfl, hF, hm, hf⟩ := h
  apply f_euler_Forest_AddV.ok
  unfold f_euler_Forest_AddV.wp
  refine al_new fun w1 b1 e1 s1 hb1 g1 => ?_
  refine (badId_ok (hb1.ri [v] rfl) rfl (by simp)).mono ?_
  rintro _ w2 ⟨⟨c, rfl, hc⟩, rfl⟩
  have hc' : c = true ↔ badI v := by simpa using hc
  refine ⟨c, rfl, ?_⟩
  by_cases hb : badI v
  · exact sel_t (hc'.2 hb) (same g1 (by unfold addVC; rw [if_pos hb]) (by decide))
  refine sel_f (Bool.eq_false_iff.2 fun hh => hb (hc'.1 hh)) ?_
  have m1 := hm.below g1
  refine hb_ldM (j := 1) m1.hf rfl (m1.lookV hv ⟨_, rfl, ?_⟩)
  by_cases hin : v ∈ vs
  · refine sel_t ?_ (same g1 (by unfold addVC; rw [if_neg hb, if_pos hin]) (by decide))
    have := mt (hf.lkv0 v).1 (fun hh => hh hin)
    simp; omega
  refine sel_f (by rw [(hf.lkv0 v).2 hin]; simp) (hb_ldM (j := 1) m1.hf rfl (m1.gv.len KTv ⟨_, rfl, ?_⟩))
  rw [hf.vln]
  by_cases hl : 2048 ≤ vs.length
  · exact sel_t (by simp; omega) (same g1 (by unfold addVC; rw [if_neg hb, if_neg hin, if_pos hl]) (by decide))
  refine sel_f (by simp; omega) (drW_intro ?_)
  have m2 := m1.below (Below.refl _ _).drew
  have hnb := hf.nb
  refine ⟨fun w' => w'.cell? ((⟨b.F, 0, none⟩ : Addr).add 1) = some (.map (some b.mv)), (m2.hf.cell 1).trans rfl, _, fun w' h' => h', ?_⟩
  refine (make_ok m2 (by omega) (hf.spr hm.rope.rok) (false, v) (1, 0, 0) ⟨in64_small (by decide) (by decide), in64_small (by decide) (by decide), in64_small (by decide) (by decide)⟩).mono ?_
  rintro _ w3 ⟨b', rows', V', sp', x, rfl, mk⟩
  have m3 := mk.em
  have c1 : w3.cell? ((⟨b.F, 0, none⟩ : Addr).add 1) = some (.map (some b.mv)) := by rw [← mk.F, ← mk.ms.1]; exact (m3.hf.cell 1).trans rfl
  have hz : addVC vs v = 0 := by unfold addVC; rw [if_neg hb, if_neg hin, if_neg hl]
  refine ⟨_, rfl, c1, ?_⟩
  rw [← mk.ms.1]
  refine m3.gv.upd KTv (x := v) hv (v := x) fun w4 g4 k4 => ?_
  obtain ⟨m4, u4⟩ := m3.mapV g4 k4
  have f4 := hf.addV hm.rope.rok hm.rope.pos hb hin (by omega) mk.it
  have e1 : addVr vs v = wiI vs v := by unfold addVr; rw [if_pos hz]
  have e2 : kvA vs kv v = fun i => if i = v then false else kv i := by funext i; unfold kvA; simp [hz]
  rw [e1, e2, hz]
  rw [mk.V] at m4
  refine ⟨Fe b', rfl, ⟨b', _, _, _, _, _, _, _, _, mk.F, fun _ => .rfl, m4, f4⟩, ?_⟩
  have u : Upd (Fe b) w w4 (Fe b') := (((Upd.below g1).trans (Upd.below (Below.refl _ _).drew)).trans mk.upd).trans u4
  exact ⟨u.kp.mono fun k _ hk => (hF k).2 hk, fun k hk => (u.fr k hk).imp (hF k).2 id⟩
end
end Go.Proofs.Ytkkobfajahmfaaa.Rd
