/- EulerPlays, walked. Conditions: none. -/
import Derived.Test.YtkkobfajahmfaaaEwF
namespace Go.Proofs.Ytkkobfajahmfaaa.Rd
open Go.Dn Go.RowKit
set_option linter.unusedVariables false
set_option linter.unusedSimpArgs false
set_option maxRecDepth 100000
theorem addVC_zero {vs : List Int} {v : Int} (h : addVC vs v = 0) : v ∉ vs := fun hm => by
  unfold addVC at h
  split at h
  · cases h
  · cases h
theorem noE_ids' {es : List E} {i x : Int} : x ∈ (noE es i).map E.id ↔ x ∈ es.map E.id ∧ x ≠ i := by
  constructor
  · intro h
    obtain ⟨e, he, rfl⟩ := List.mem_map.1 h
    exact ⟨List.mem_map_of_mem (noE_mem.1 he).1, (noE_mem.1 he).2⟩
  · rintro ⟨h, hn⟩
    obtain ⟨e, he, rfl⟩ := List.mem_map.1 h
    exact List.mem_map_of_mem (noE_mem.2 ⟨he, hn⟩)
/-- a call keeps the marks alike -/
theorem mr_step {n : Nt} {kv ke : Int → Bool} {mv me : List Int} (h : MR n kv ke mv me) (o : EO) : MR (nstp n o) (kvs n kv o) (kes n ke o) (mvs n mv o) (mes n me o) := by
  by_cases k1 : o.k = 1
  · simp only [nstp, kvs, kes, mvs, mes, k1, if_true, if_false, reduceIte, show ¬ ((1 : Int) = 2) by decide, show ¬ ((1 : Int) = 3) by decide, show ¬ ((1 : Int) = 4) by decide, show ¬ ((1 : Int) = 5) by decide, show ¬ ((1 : Int) = 6) by decide]
    refine ⟨h.v, fun x hx => ?_, fun x hx => ?_, h.e, h.ei, h.ek⟩
    · unfold addVr; split
      · exact wiI_mem.2 (.inr (h.vi x hx))
      · exact h.vi x hx
    · unfold addVr at hx
      unfold kvA
      by_cases e0 : addVC n.1 o.u = 0
      · rw [if_pos e0] at hx
        by_cases ex : x = o.u
        · subst ex
          rw [if_pos ⟨e0, rfl⟩]
          exact ⟨fun hm => absurd (h.vi _ hm) (addVC_zero e0), fun hh => by cases hh⟩
        · rw [if_neg (fun hh => ex hh.2)]
          exact h.vk x ((wiI_mem.1 hx).resolve_left ex)
      · rw [if_neg e0] at hx
        rw [if_neg (fun hh => e0 hh.1)]
        exact h.vk x hx
  by_cases k2 : o.k = 2
  · simp only [nstp, kvs, kes, mvs, mes, k2, if_true, if_false, reduceIte, show ¬ ((2 : Int) = 1) by decide, show ¬ ((2 : Int) = 3) by decide, show ¬ ((2 : Int) = 4) by decide, show ¬ ((2 : Int) = 5) by decide, show ¬ ((2 : Int) = 6) by decide]
    unfold delVr delMr
    by_cases e0 : delVC n.1 n.2 o.u = 0
    · rw [if_pos e0, if_pos e0]
      exact ⟨h.v.filter _, fun x hx => woI_mem.2 ⟨h.vi x (woI_mem.1 hx).1, (woI_mem.1 hx).2⟩, fun x hx => by rw [woI_mem, ← h.vk x (woI_mem.1 hx).1]; simp [(woI_mem.1 hx).2], h.e, h.ei, h.ek⟩
    · rw [if_neg e0, if_neg e0]; exact h
  by_cases k3 : o.k = 3
  · simp only [nstp, kvs, kes, mvs, mes, k3, if_true, if_false, reduceIte, show ¬ ((3 : Int) = 1) by decide, show ¬ ((3 : Int) = 2) by decide, show ¬ ((3 : Int) = 4) by decide, show ¬ ((3 : Int) = 5) by decide, show ¬ ((3 : Int) = 6) by decide]
    refine ⟨h.v, h.vi, h.vk, h.e, fun x hx => ?_, fun x hx => ?_⟩
    · show x ∈ (linkEr n.1 n.2 o.e (jb n o)).map E.id
      unfold linkEr; split
      · exact insE_ids.2 (.inr (h.ei x hx))
      · exact h.ei x hx
    · have hx : x ∈ (linkEr n.1 n.2 o.e (jb n o)).map E.id := hx
      unfold linkEr at hx
      unfold keL
      by_cases e0 : linkC n.1 n.2 o.e (jb n o) = 0
      · rw [if_pos e0] at hx
        by_cases ex : x = o.e.id
        · subst ex
          rw [if_pos ⟨e0, rfl⟩]
          exact ⟨fun hm => absurd (h.ei _ hm) (linkC_zero e0).2.2.2.2.2.1, fun hh => by cases hh⟩
        · rw [if_neg (fun hh => ex hh.2)]
          exact h.ek x ((insE_ids.1 hx).resolve_left ex)
      · rw [if_neg e0] at hx
        rw [if_neg (fun hh => e0 hh.1)]
        exact h.ek x hx
  by_cases k4 : o.k = 4
  · simp only [nstp, kvs, kes, mvs, mes, k4, if_true, if_false, reduceIte, show ¬ ((4 : Int) = 1) by decide, show ¬ ((4 : Int) = 2) by decide, show ¬ ((4 : Int) = 3) by decide, show ¬ ((4 : Int) = 5) by decide, show ¬ ((4 : Int) = 6) by decide]
    unfold cutEr cutMr
    by_cases e0 : cutC n.2 o.id = 0
    · rw [if_pos e0, if_pos e0]
      exact ⟨h.v, h.vi, h.vk, h.e.filter _, fun x hx => noE_ids'.2 ⟨h.ei x (woI_mem.1 hx).1, (woI_mem.1 hx).2⟩, fun x hx => by rw [woI_mem, ← h.ek x (noE_ids'.1 hx).1]; simp [(noE_ids'.1 hx).2]⟩
    · rw [if_neg e0, if_neg e0]; exact h
  by_cases k5 : o.k = 5
  · simp only [nstp, kvs, kes, mvs, mes, k5, if_true, if_false, reduceIte, show ¬ ((5 : Int) = 1) by decide, show ¬ ((5 : Int) = 2) by decide, show ¬ ((5 : Int) = 3) by decide, show ¬ ((5 : Int) = 4) by decide, show ¬ ((5 : Int) = 6) by decide]
    unfold kvM
    by_cases hin : o.u ∈ n.1
    · rw [if_pos hin]
      refine ⟨mkI_nd h.v _ _, fun x hx => ?_, fun x hx => ?_, h.e, h.ei, h.ek⟩
      · rw [mkI_mem] at hx
        split at hx
        · rename_i e; rw [e]; exact hin
        · exact h.vi x hx
      · rw [mkI_mem]
        by_cases e : x = o.u
        · rw [if_pos e, if_pos ⟨hin, e⟩]
        · rw [if_neg e, if_neg (fun hh => e hh.2)]; exact h.vk x hx
    · rw [if_neg hin]
      exact ⟨h.v, h.vi, fun x hx => by rw [if_neg (fun hh => hin hh.1)]; exact h.vk x hx, h.e, h.ei, h.ek⟩
  by_cases k6 : o.k = 6
  · simp only [nstp, kvs, kes, mvs, mes, k6, if_true, if_false, reduceIte, show ¬ ((6 : Int) = 1) by decide, show ¬ ((6 : Int) = 2) by decide, show ¬ ((6 : Int) = 3) by decide, show ¬ ((6 : Int) = 4) by decide, show ¬ ((6 : Int) = 5) by decide]
    unfold keM
    by_cases hin : o.id ∈ n.2.map E.id
    · rw [if_pos hin]
      refine ⟨h.v, h.vi, h.vk, mkI_nd h.e _ _, fun x hx => ?_, fun x hx => ?_⟩
      · rw [mkI_mem] at hx
        split at hx
        · rename_i e; rw [e]; exact hin
        · exact h.ei x hx
      · rw [mkI_mem]
        by_cases e : x = o.id
        · rw [if_pos e, if_pos ⟨hin, e⟩]
        · rw [if_neg e, if_neg (fun hh => e hh.2)]; exact h.ek x hx
    · rw [if_neg hin]
      exact ⟨h.v, h.vi, h.vk, h.e, h.ei, fun x hx => by rw [if_neg (fun hh => hin hh.1)]; exact h.ek x hx⟩
  simp only [nstp, kvs, kes, mvs, mes, k1, k2, k3, k4, k5, k6, if_false, reduceIte]
  exact h
theorem nodup_subJ : ∀ {l m : List Int}, l.Nodup → (∀ x ∈ l, x ∈ m) → l.length ≤ m.length
  | [], _, _, _ => Nat.zero_le _
  | a :: l, m, nd, h => by
    rw [List.nodup_cons] at nd
    have hm := h a (by simp)
    have := nodup_subJ (l := l) (m := m.erase a) nd.2 fun x hx => (List.mem_erase_of_ne (show x ≠ a from fun e => nd.1 (by rw [← e]; exact hx))).2 (h x (by simp [hx]))
    rw [List.length_erase_of_mem hm] at this
    have : 0 < m.length := List.length_pos_of_mem hm
    simp only [List.length_cons]; omega
theorem opB' {w : World} {o : EO} {Q : Nat → World → Prop} (hQ : ∀ w' b, w.heap.size ≤ b → HB w' b (oC o) 45 → Below w.heap.size w w' → Q b w') :
    alW w (.cells #[.int .i64 (0 : Int), .int .i64 (0 : Int), .int .i64 (0 : Int), .int .i64 (0 : Int), .bool false] 45) fun B w1 =>
      stW w1 (⟨B, 0, none⟩ : Addr) (.int .i64 o.k) fun w2 => stW w2 ((⟨B, 0, none⟩ : Addr).add 1) (.int .i64 o.id) fun w3 => stW w3 ((⟨B, 0, none⟩ : Addr).add 2) (.int .i64 o.u) fun w4 => stW w4 ((⟨B, 0, none⟩ : Addr).add 3) (.int .i64 o.v) fun w5 => stW w5 ((⟨B, 0, none⟩ : Addr).add 4) (.bool o.on) fun w6 => Q B w6 := by
  refine al_new fun w1 b1 e1 s1 h1 g1 => ?_
  refine hb_st0 h1 (by simp) fun w2 h2 k2 => hb_st h2 (j := 1) (by simp) fun w3 h3 k3 => hb_st h3 (j := 2) (by simp) fun w4 h4 k4 => hb_st h4 (j := 3) (by simp) fun w5 h5 k5 => hb_st h5 (j := 4) (by simp) fun w6 h6 k6 => ?_
  have k := ((k2.trans k3).trans (k4.trans k5)).trans k6
  exact hQ w6 b1 (by omega) h6 (g1.trans ((k.below (B := w.heap.size) (by omega) fun i hi e => by omega)))
/-- the forest, the document's, and its block -/
structure PS (w0 w : World) (Fp : Nat → Prop) (F B : Nat) (n : Nt) (kv ke : Int → Bool) (s : RS) (mv me : List Int) : Prop where
  l2 : L2 w0 w Fp F n kv ke s n mv me
  mr : MR n kv ke mv me
  hb : HB w B (rsC s) TFr
  nF : ¬ Fp B
  nR : ¬ Rb s B
  lo : w0.heap.size ≤ B
section
variable {w0 w w' : World} {Fp : Nat → Prop} {F B : Nat} {n : Nt} {kv ke : Int → Bool} {s : RS} {mv me : List Int}
theorem PS.below (h : PS w0 w Fp F B n kv ke s mv me) (g : Below w.heap.size w w') : PS w0 w' Fp F B n kv ke s mv me := ⟨h.l2.below g, h.mr, h.hb.below g, h.nF, h.nR, h.lo⟩
theorem tells_step (h : L2 w0 w Fp F n kv ke s n mv me) (mr : MR n kv ke mv me) {u v : Int} (hu : W64 u) (hv : W64 v) {Q : Bool → World → Prop} (hQ : ∀ w', Below w.heap.size w w' → Q true w') :
    Calls Try.prog 28 #[.pointer (some ⟨F, 0, none⟩), .agg (rsC s), .int .i64 u, .int .i64 v] w fun e w' => ∃ b : Bool, e = .returned (.bool b) ∧ Q b w' := by
  refine (tells_ok h mr hu hv).mono ?_
  rintro _ w1 ⟨rfl, g⟩
  exact ⟨_, rfl, hQ w1 g⟩
theorem plays_l0 {A : Option Addr} {c : Nat} {l : List EO} (hr : RO w0 A l) (hle : l.length ≤ 9223372036854775807) (hok : ∀ o ∈ l, OpW o) {K0 : World → Prop} {Kr : Bool → World → Prop}
    (k0 : ∀ w Fp kv ke s mv me, PS w0 w Fp F B (run l) kv ke s mv me → K0 w) : ∀ (m i : Nat) (w : World) (Fp : Nat → Prop) (kv ke : Int → Bool) (s : RS) (mv me : List Int), l.length - i = m → i ≤ l.length → PS w0 w Fp F B (run (l.take i)) kv ke s mv me →
      f_law16_EulerPlays.l0 (m + 1) (some ⟨F, 0, none⟩) (⟨B, 0, none⟩ : Addr) A l.length c (l.length : Int) (i : Int) w K0 Kr := by
  intro m
  induction m with
  | zero =>
    intro i w Fp kv ke s mv me hm hi h
    have : i = l.length := by omega
    subst this
    rw [List.take_length] at h
    unfold f_law16_EulerPlays.l0
    exact sel_f (by simp) (k0 w Fp kv ke s mv me h)
  | succ m ih =>
    intro i w Fp kv ke s mv me hm hi h
    have hlt : i < l.length := by omega
    obtain ⟨a, rfl, q⟩ := (hr.belw h.l2.f.bel) i hlt
    have hw : IntKind.i64.wrap ((i : Int) + 1) = ((i + 1 : Nat) : Int) := by rw [w64_in (by omega)]; omega
    have hrun : run (l.take (i + 1)) = nstp (run (l.take i)) l[i] := by rw [List.take_succ_eq_append_getElem hlt, run_snoc]
    have ho := hok _ (List.getElem_mem hlt)
    generalize ho' : l[i] = o at q hrun ho
    generalize hn : run (l.take i) = n at h hrun
    have g := h.l2.f.ge
    have vl := g.vlen
    have el := g.elen
    have lmv := nodup_subJ h.mr.v h.mr.vi
    have lme := nodup_subJ h.mr.e h.mr.ei
    rw [List.length_map] at lme
    unfold f_law16_EulerPlays.l0
    refine sel_t (by simpa using hlt) (optB_some rfl (req_intro (by simp; omega) (rowO q (opB' fun w2 b2 e2 h2 g2 => ?_))))
    have hP := h.below g2
    refine get4 hP.hb (hb_ldI0 h2 rfl (hb_ldI h2 (j := 1) rfl (hb_ldI h2 (j := 2) rfl (hb_ldI h2 (j := 3) rfl (hb_ldB h2 (j := 4) rfl ((does_ok hP.l2 g.rg (by omega) (by omega) (by omega) ho).mono ?_))))))
    rintro _ w3 ⟨F', s', rfl, H3, u3, sb3⟩
    refine ⟨_, _, _, _, _, _, _, _, _, _, _, _, _, rfl, pass4 s' fun w4 g4 => ?_⟩
    have n2 : ¬ Fp b2 := fun hf => by have := h.l2.f.rep.lt b2 hf; omega
    have hB3 := hP.hb.keeps u3.kp hP.nF
    have h23 := h2.keeps u3.kp n2
    have nF3 : ¬ F' B := fun hf => (u3.fr B hf).elim h.nF fun hh => by have := hP.hb.lt; omega
    have nR3 : ¬ Rb s' B := fun hb => (sb3.b B hb).elim h.nR fun hh => by have := hP.hb.lt; omega
    have nb2 : b2 ≠ B := fun e => by have := h.hb.lt; omega
    refine put4 (hB3.below g4) rfl s' fun w5 hB5 k5 => ?_
    have H5 := (H3.below g4).st k5 nF3 nR3 h.lo
    have h25 := (h23.below g4).keeps k5 nb2
    have mr5 := mr_step h.mr o
    refine get4 hB5 (hb_ldI h25 (j := 1) rfl ((REdge_ok H5.r o.id).mono ?_))
    rintro _ w6 ⟨rfl, g6⟩
    refine ⟨_, _, _, _, _, rfl, al_new fun w7 b7 e7 s7 h7 g7 => putE h7 rfl (edgeE (nstp n o).2 o.id) fun w8 h8 k8 => ?_⟩
    have gg : Below w5.heap.size w5 w8.drew := (HB.belK (g6.trans (g7.mono g6.size)) k8 (by have := g6.size; omega)).drew
    have P8 : PS w0 w8.drew F' F B (nstp n o) _ _ s' _ _ := ⟨H5.below gg, mr5, hB5.below gg, nF3, nR3, h.lo⟩
    have h28 := h25.below gg
    refine drW_intro ⟨fun w' => HB w' B (rsC s') TFr ∧ HB w' b2 (oC o) 45, ⟨P8.hb, h28⟩, sel_f (by simp) ?_⟩
    refine hdS_intro0 (fun _ h => h.1) rfl (len_step P8.l2.f ⟨⟨P8.hb, h28⟩, sel_f (by rw [P8.l2.r.nv]; simp) ?_⟩)
    refine hdI_intro (fun _ h => h.2) (j := 1) rfl (has_step P8.l2.f ho.i fun w9 f9 g9 => ⟨⟨P8.hb.below g9, h28.below g9⟩, sel_f ?_ ?_⟩)
    · have : edgeB (nstp n o).2 o.id = decide (o.id ∈ (nstp n o).2.map E.id) := by
        rw [Bool.eq_iff_iff, edgeB_iff, decide_eq_true_iff]
      rw [this]; simp
    have P9 := P8.below g9
    have h29 := h28.below g9
    refine hd4 (fun _ h => h.1) (hdI_intro (fun _ h => h.2) (j := 2) rfl (hdI_intro (fun _ h => h.2) (j := 3) rfl (tells_step P9.l2 P9.mr ho.u ho.v fun w10 g10 => ⟨⟨P9.hb.below g10, h29.below g10⟩, sel_f rfl ?_⟩)))
    have P10 := P9.below g10
    refine hd4 (fun _ h => h.1) (hdI_intro (fun _ h => h.2) (j := 3) rfl (hdI_intro (fun _ h => h.2) (j := 2) rfl (tells_step P10.l2 P10.mr ho.v ho.u fun w11 g11 => sel_f rfl ?_)))
    rw [hw]
    exact ih (i + 1) w11 F' _ _ s' _ _ (by omega) (by omega) (by rw [hrun]; exact P10.below g11)
theorem plays_l1 {A : Option Addr} {c : Nat} (hvl : n.1.length ≤ 2048) {K2 : World → Prop} {Kr : Bool → World → Prop}
    (k2 : ∀ w, PS w0 w Fp F B n kv ke s mv me → K2 w) : ∀ (m i : Nat) (w : World), n.1.length - i = m → i ≤ n.1.length → PS w0 w Fp F B n kv ke s mv me → RI w A n.1 →
      f_law16_EulerPlays.l1 (m + 1) (some ⟨F, 0, none⟩) (⟨B, 0, none⟩ : Addr) A n.1.length c (n.1.length : Int) (i : Int) w K2 Kr := by
  intro m
  induction m with
  | zero =>
    intro i w hm hi h hr
    have : i = n.1.length := by omega
    subst this
    unfold f_law16_EulerPlays.l1
    exact sel_f (by simp) (k2 w h)
  | succ m ih =>
    intro i w hm hi h hr
    have hlt : i < n.1.length := by omega
    have hw : IntKind.i64.wrap ((i : Int) + 1) = ((i + 1 : Nat) : Int) := by rw [w64_in (by omega)]; omega
    obtain ⟨a, rfl, q⟩ := hr i hlt
    have g := h.l2.f.ge
    have bd : Below w.heap.size w w.drew := (Below.refl _ _).drew
    have P1 := h.below bd
    obtain ⟨a0, ha0, q0⟩ := P1.l2.r.v 0 (by omega)
    have nv := P1.l2.r.nv
    unfold f_law16_EulerPlays.l1
    refine sel_t (by simpa using hlt) (optB_some rfl (req_intro (by simp; omega) ?_))
    rw [Int.toNat_natCast, Nat.mul_one]
    refine ldI_intro q (drW_intro (get4 P1.hb (hb_ldS0 P1.hb rfl (optB_some ha0 (req_intro (by rw [nv]; simp; omega) ?_)))))
    refine ldI_intro q0 (tells_step P1.l2 P1.mr (g.vW (List.getElem_mem hlt)) (g.vW (List.getElem_mem _)) fun w2 g2 => sel_f rfl ?_)
    rw [hw]
    exact ih (i + 1) w2 (by omega) (by omega) (P1.below g2) ((hr.belw bd).belw g2)
end
theorem EulerPlays_walk {w : World} {As : Option Addr} {ns cs : Nat} {sl : List Int} (hs : Sds w As ns cs sl) {A : Option Addr} {n c : Nat} {l : List EO} (h : Scr w A n l) :
    Calls Try.prog 5 #[.slice As ns cs, .slice A n c] w fun e w' => e = .returned (.bool true) ∧ Below w.heap.size w w' := by
  apply f_law16_EulerPlays.ok
  unfold f_law16_EulerPlays.wp
  obtain ⟨hr, rfl, hle, hok⟩ := h
  refine new_step (Below.refl _ w) hs.r hs.n hs.c0 hs.le fun w2 F Fp h2 g2 hF => sel_f rfl (alive_step fun w3 g3 => sel_f rfl ?_)
  have h3 := h2.below g3
  refine al_new fun w4 B eB sB hB g4 => put4 hB rfl s0 fun w5 h5 k5 => ?_
  have gg : Below w3.heap.size w3 w5 := HB.belK g4 k5 (by omega)
  have f5 := h3.below gg
  have r0 : ∀ k, ¬ Rb s0 k := fun k hk => by rcases hk with ⟨_, h, _⟩ | ⟨_, h, _⟩ | ⟨_, h, _⟩ | ⟨_, h, _⟩ <;> cases h
  have P5 : PS w w5 Fp F B (run []) nof nof s0 [] [] := ⟨⟨f5, RF.zero w5, fun k hk => (r0 k hk).elim⟩, ⟨.nil, by simp, by simp [run], .nil, by simp, by simp [run]⟩, h5, fun hf => by have := h3.rep.lt B hf; omega, r0 B, by have := h3.bel.size; omega⟩
  refine ⟨_, plays_l0 hr hle hok (fun w6 F6 kv6 ke6 s6 mv6 me6 P6 => ?_) l.length 0 w5 Fp nof nof s0 [] [] rfl (by omega) P5⟩
  intro _
  refine hb_ldS0 P6.hb rfl ?_
  rw [P6.l2.r.nv]
  refine ⟨_, plays_l1 P6.l2.f.ge.vlen (fun w7 P7 => ?_) _ 0 w6 rfl (by omega) P6 P6.l2.r.v⟩
  exact fun _ => ⟨rfl, P7.l2.f.bel⟩
theorem EulerPlays_row {w : World} {A0 A1 : Option Addr} {n0 c0 n1 c1 : Nat} {zs : List Int} {f : Nat → Nat → Int} {g : Nat → Bool} (h0 : IsRow .i64 w A0 n0 c0 zs) (s0 : n0 * 8 ≤ 140737488351232) (h1 : IsRecB 4 w A1 n1 c1 f g) :
    Calls Try.prog 5 #[.slice A0 n0 c0, .slice A1 n1 c1] w fun e w' => e = .returned (.bool true) ∧ Below w.heap.size w w' := by
  obtain ⟨l, hs⟩ := sds_of h0 s0
  exact EulerPlays_walk hs (scr_of h1)
end Go.Proofs.Ytkkobfajahmfaaa.Rd
