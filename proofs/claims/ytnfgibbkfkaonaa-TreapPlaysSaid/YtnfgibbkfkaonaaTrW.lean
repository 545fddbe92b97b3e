/- A script's call against the document: changes, tells. Conditions: none. -/
import Derived.Test.YtnfgibbkfkaonaaTrV
namespace Go.Proofs.Ytnfgibbkfkaonaa.Rd
open Go.Dn Go.RowKit
set_option linter.unusedVariables false
set_option maxRecDepth 100000

theorem bad_Bd {n : Nat} (hn : 0 < n) (a : Int) : (decide (a < 1) || decide (a > ((n - 1 : Nat) : Int))) = Bd n a := by
  unfold Bd
  congr 1
  rw [decide_eq_decide]; omega
theorem changes_ok {w0 w : World} {r : RC} {m : MS} {d : Doc} (h : LS w0 w r m) (hd : RefAt w d m) {o : OpV} (ho : OpOk o) :
    Calls Try.prog 10 #[.pointer (some ⟨r.R, 0, none⟩), docV d m, .agg #[.int .i64 o.k, .int .i64 o.a, .int .i64 o.b, .int .i64 o.v, .int .u8 o.m]] w fun e w' =>
      ∃ d', e = .returned (.tuple #[docV d' (stepM m o), .bool true]) ∧ ∃ r', LS w0 w' r' (stepM m o) ∧ RefAt w' d' (stepM m o) ∧ Mv w r r' ∧ Keeps (Sr r) w w' := by
  have hsz := h.bel.size
  have hlt := h.rope.lt
  have has := h.rope.as
  obtain ⟨rok, hn, hpos⟩ := h.rok
  apply f_law15_changes.ok
  unfold f_law15_changes.wp
  refine al_new fun wa b1 e1 z1 h1 q1 => al_new fun wb b3 e3 z3 h3 q3 => al_new fun wc b5 e5 z5 h5 q5 => ?_
  have h1 : HB wc b1 (d.cs m) 34 := (h1.below q3).below q5
  have h3 := h3.below q5
  have bl : Below w.heap.size w wc := (q1.trans (q3.mono (by omega))).trans (q5.mono (by omega))
  have hd := ((hd.below q1).below q3).below q5
  refine hb_ldS0 h1 rfl (hb_ldS (j := 1) h1 rfl (hb_ldS (j := 2) h1 rfl (hb_ldI (j := 1) h3 rfl ((RBad_ok _ _ _ _ _ _ _ _ _ _ _).mono ?_))))
  rintro e wd ⟨rfl, q⟩
  rw [bad_Bd hpos]
  have h1 := h1.below q; have h3 := h3.below q; have h5 := h5.below q; have hd := hd.below q
  have bl : Below w.heap.size w wd := bl.trans (q.mono bl.size)
  have hL := h.below bl
  have hsd : b5 < wd.heap.size := h5.lt
  have kd0 : Keeps (Sr r) w wd := .of_below bl
  -- what comes last
  have fin : ∀ {wz w' : World} {r' : RC} {b : Bool} {d' : Doc} {v0 v1 v2 : Value}, LS w0 wz r' (stepM m o) → RefAt wz d' (stepM m o) → Mv wd r r' → Keeps (Sr r) w wz → HB wz b5 #[v0, v1, v2] 34 → b = true → Keeps (fun k => k = b5) wz w' →
      ∃ d'', Ending.returned (.tuple #[docV d' (stepM m o), .bool b]) = .returned (.tuple #[docV d'' (stepM m o), .bool true]) ∧ ∃ r', LS w0 w' r' (stepM m o) ∧ RefAt w' d'' (stepM m o) ∧ Mv w r r' ∧ Keeps (Sr r) w w' := by
    intro wz w' r' b d' v0 v1 v2 hl hr hm hk hb e k'
    subst e
    refine ⟨_, rfl, r', hl.keeps k' (by rw [hm.R]; omega) ?_ ?_ (by omega), hr.st k' hb (by decide) (by decide) (by decide), ⟨hm.R, hm.As, hm.B, ?_⟩, ?_⟩
    · rcases hm.g with e | e <;> omega
    · intro a ha; rw [hm.As] at ha; have := (has a ha).1; omega
    · rcases hm.g with e | e
      · exact .inl e
      · exact .inr (by omega)
    · exact hk.trans' k' fun k hk e => by omega
  refine ⟨_, rfl, hb_ldI0 h3 rfl ?_⟩
  by_cases k1 : o.k = 1
  · refine sel_t (by simp [k1]) (hb_ldI (j := 3) h3 rfl (hb_ldI (j := 4) h3 rfl ?_))
    rw [wrap_u8 ho.2]
    refine (Make_ok hL.rope o.v o.m ⟨ho.1, by have := ho.2; exact ⟨by omega, by omega⟩⟩).mono ?_
    rintro e we ⟨r', rfl, hr, hn', hm, hk⟩
    have hS : LS w0 we r' (stepM m o) := by
      refine ⟨?_, ?_, by rw [hm.B]; exact h.B, h.marks.step ho, hL.belK hk⟩
      · simp only [stepM, k1, if_true]; rw [← h.n]; exact hr
      · simp only [stepM, k1, if_true]; rw [hn', h.n]
    have h1 := h1.keeps hk (by rintro (e | e) <;> omega); have h3 := h3.keeps hk (by rintro (e | e) <;> omega); have h5 := h5.keeps hk (by rintro (e | e) <;> omega)
    have hd := hd.rope hL hk
    rw [h.n]
    refine ⟨_, _, rfl, hb_ldS (j := 1) h1 rfl ?_⟩
    by_cases hmany : m.n ≤ 65536
    · have hme : makeE m.n = ((m.n : Int), 0) := by simp [makeE, hmany]
      have est : stepM m o = ⟨m.n + 1, m.rows ++ [[m.n]], fun i => if i = m.n then (o.v, o.m) else m.V i⟩ := by simp [stepM, k1, makeN, makeS, makeV, hmany]
      rw [hme]
      refine sel_f (by simp; omega) (drW_intro ?_)
      have bd : Below we.heap.size we we.drew := (Below.refl _ _).drew
      have h1 := h1.below bd; have h3 := h3.below bd; have h5 := h5.below bd; have hd := hd.below bd
      have hS := hS.below bd
      have hkd := (kd0.trans hk).trans (.of_below bd)
      generalize we.drew = we at *
      refine ⟨fun w' => Below we.heap.size we w', Below.refl _ _, _, _, _, fun w' h' => (h1.below h').cell 0, _, _, _, fun w' h' => (h1.below h').cell 1, _, _, _, fun w' h' => (h1.below h').cell 2, o.v, fun w' h' => (h3.below h').cell 3, o.m, fun w' h' => (h3.below h').cell 4, _, _, _, fun w' h' => (h1.below h').cell 1, ?_⟩
      rw [wrap_u8 ho.2]
      refine (RMake_ok hd rok hn hpos o.v o.m).mono ?_
      rintro e wf ⟨d', rfl, hd', q⟩
      rw [← est] at hd'
      have h5 := h5.below q
      have hS := hS.below q
      have hkd := hkd.trans (.of_below q)
      refine ⟨_, _, _, _, _, _, _, _, _, rfl, q, sel_t ?_ (ret3 h5 fun w' k' => ?_)⟩
      · rw [w64_in (by omega)]; simp; omega
      · have := fin hS hd' hm hkd h5 (b := ((0 : Int) == 0)) rfl k'
        rw [est] at this ⊢
        exact this
    · have hme : makeE m.n = (0, 55) := by simp [makeE, hmany]
      have est : stepM m o = m := by simp [stepM, k1, makeN, makeS, makeV, hmany]
      rw [hme]
      refine sel_t (by simp; omega) (hb_ldS0 h1 rfl (hb_ldS (j := 1) h1 rfl (hb_ldS (j := 2) h1 rfl (sel_t rfl (ret3 h5 fun w' k' => ?_)))))
      have := fin hS (by rw [est]; exact hd) hm (kd0.trans hk) h5 (b := ((55 : Int) == 55)) rfl k'
      rw [est] at this ⊢
      exact this
  refine sel_f (by simpa using k1) ?_
  by_cases k2 : o.k = 2
  · refine sel_t (by simp [k2]) (hb_ldI (j := 1) h3 rfl (hb_ldI (j := 2) h3 rfl ((Join_ok hL.rope o.a o.b).mono ?_)))
    rintro e we ⟨rfl, hr, hk⟩
    have hS : LS w0 we r (stepM m o) := by
      refine ⟨?_, ?_, h.B, h.marks.step ho, hL.belK hk⟩
      · simp only [stepM, k1, k2, if_true, if_false]; rw [← h.n]; exact hr
      · simp only [stepM, k1, k2, if_true, if_false]; exact h.n
    have est0 : stepM m o = ⟨m.n, joinS m.n m.rows o.a o.b, m.V⟩ := by unfold stepM; rw [if_neg k1, if_pos k2]
    have h1 := h1.keeps hk (by rintro (e | e) <;> omega); have h3 := h3.keeps hk (by rintro (e | e) <;> omega); have h5 := h5.keeps hk (by rintro (e | e) <;> omega)
    have hd := hd.rope hL hk
    have hkd := kd0.trans hk
    rw [h.n]
    refine ⟨_, rfl, ?_⟩
    cases ha : Bd m.n o.a with
    | true =>
      have est : stepM m o = m := by rw [est0]; simp [joinS, ha]
      have ej : joinE m.n m.rows o.a o.b = 150 := by simp [joinE, ha]
      rw [ej]
      refine sel_t rfl (hb_ldS0 h1 rfl (hb_ldS (j := 1) h1 rfl (hb_ldS (j := 2) h1 rfl (ret3 h5 fun w' k' => ?_))))
      have := fin hS (by rw [est]; exact hd) (Mv.refl _ _) hkd h5 (b := ((150 : Int) == 150)) rfl k'
      rw [est] at this ⊢
      exact this
    | false =>
      refine sel_f rfl (hb_ldS0 h1 rfl (hb_ldS (j := 1) h1 rfl (hb_ldS (j := 2) h1 rfl (hb_ldI (j := 2) h3 rfl ((RBad_ok _ _ _ _ _ _ _ _ _ _ _).mono ?_)))))
      rintro e wf ⟨rfl, q⟩
      rw [bad_Bd hpos]
      have h1 := h1.below q; have h3 := h3.below q; have h5 := h5.below q; have hd := hd.below q; have hS := hS.below q; have hkd := hkd.trans (.of_below q)
      refine ⟨_, rfl, ?_⟩
      cases hb : Bd m.n o.b with
      | true =>
        have est : stepM m o = m := by rw [est0]; simp [joinS, hb]
        have ej : joinE m.n m.rows o.a o.b = 150 := by simp [joinE, hb]
        rw [ej]
        refine sel_t rfl (hb_ldS0 h1 rfl (hb_ldS (j := 1) h1 rfl (hb_ldS (j := 2) h1 rfl (ret3 h5 fun w' k' => ?_))))
        have := fin hS (by rw [est]; exact hd) (Mv.refl _ _) hkd h5 (b := ((150 : Int) == 150)) rfl k'
        rw [est] at this ⊢
        exact this
      | false =>
        obtain ⟨x, ex, ex', hx⟩ := Bd_nat ha
        obtain ⟨y, ey, ey', hy⟩ := Bd_nat hb
        refine sel_f rfl (drW_intro ?_)
        have bd : Below wf.heap.size wf wf.drew := (Below.refl _ _).drew
        have h1 := h1.below bd; have h3 := h3.below bd; have h5 := h5.below bd; have hd := hd.below bd; have hS := hS.below bd; have hkd := hkd.trans (.of_below bd)
        generalize wf.drew = wf at *
        refine ⟨fun w' => Below wf.heap.size wf w', Below.refl _ _, _, _, _, fun w' h' => (h1.below h').cell 0, _, _, _, fun w' h' => (h1.below h').cell 1, _, _, _, fun w' h' => (h1.below h').cell 2, o.a, fun w' h' => (h3.below h').cell 1, _, _, _, fun w' h' => (h1.below h').cell 0, _, _, _, fun w' h' => (h1.below h').cell 1, _, _, _, fun w' h' => (h1.below h').cell 2, o.b, fun w' h' => (h3.below h').cell 2, ?_⟩
        rw [ex, ey]
        refine (Row_ok hd rok hn hpos hx).mono ?_
        rintro e wg ⟨ix, rfl, ⟨hix, eix⟩, q1'⟩
        refine ⟨_, rfl, q1', (Row_ok (hd.below q1') rok hn hpos hy).mono ?_⟩
        rintro e wh ⟨iy, rfl, ⟨hiy, eiy⟩, q2'⟩
        have qq := al_below q2' q1'
        have h1 := h1.below qq; have h3 := h3.below qq; have h5 := h5.below qq; have hd := hd.below qq; have hS := hS.below qq; have hkd := hkd.trans (.of_below qq)
        refine ⟨_, rfl, ?_⟩
        have hii : ix = iy ↔ rowOf m.rows x = rowOf m.rows y := by rw [← eix, ← eiy]; exact (row_ix rok hix hiy).symm
        by_cases hxy : rowOf m.rows x = rowOf m.rows y
        · have est : stepM m o = m := by rw [est0, ex, ey]; simp [joinS, nat_good hx, nat_good hy, hxy]
          have ej : joinE m.n m.rows (x : Int) (y : Int) = 151 := by simp [joinE, nat_good hx, nat_good hy, hxy]
          rw [ej]
          refine sel_t (by rw [nat_beq]; simpa using hii.2 hxy) (hb_ldS0 h1 rfl (hb_ldS (j := 1) h1 rfl (hb_ldS (j := 2) h1 rfl (ret3 h5 fun w' k' => ?_))))
          have := fin hS (by rw [est]; exact hd) (Mv.refl _ _) hkd h5 (b := ((151 : Int) == 151)) rfl k'
          rw [est] at this ⊢
          exact this
        · obtain ⟨ej, sj⟩ := joinE_good hx hy hxy
          have est : stepM m o = ⟨m.n, joinR m.rows x y, m.V⟩ := by rw [est0, ex, ey, sj]
          rw [ej]
          refine sel_f (by rw [nat_beq]; simpa using fun e => hxy (hii.1 e)) (hb_ldS0 h1 rfl (hb_ldS (j := 1) h1 rfl (hb_ldS (j := 2) h1 rfl (hb_ldI (j := 1) h3 rfl (hb_ldI (j := 2) h3 rfl ?_)))))
          rw [ex, ey]
          refine (RJoin_ok hd rok hn hpos hx hy).mono ?_
          rintro e wi ⟨d', rfl, hd', q⟩
          rw [← est] at hd'
          have h5 := h5.below q; have hS := hS.below q; have hkd := hkd.trans (.of_below q)
          refine ⟨_, _, _, _, _, _, _, _, _, rfl, ret3 h5 fun w' k' => ?_⟩
          have := fin hS hd' (Mv.refl _ _) hkd h5 (b := ((0 : Int) == 0)) rfl k'
          rw [est] at this ⊢
          exact this
  refine sel_f (by simpa using k2) ?_
  by_cases k3 : o.k = 3
  · refine sel_t (by simp [k3]) (hb_ldI (j := 1) h3 rfl ((Cut_ok hL.rope o.a).mono ?_))
    rintro e we ⟨rfl, hr, hk⟩
    have hS : LS w0 we r (stepM m o) := by
      refine ⟨?_, ?_, h.B, h.marks.step ho, hL.belK hk⟩
      · simp only [stepM, k1, k2, k3, if_true, if_false]; rw [← h.n]; exact hr
      · simp only [stepM, k1, k2, k3, if_true, if_false]; exact h.n
    have est0 : stepM m o = ⟨m.n, cutS m.n m.rows o.a, m.V⟩ := by unfold stepM; rw [if_neg k1, if_neg k2, if_pos k3]
    have h1 := h1.keeps hk (by rintro (e | e) <;> omega); have h3 := h3.keeps hk (by rintro (e | e) <;> omega); have h5 := h5.keeps hk (by rintro (e | e) <;> omega)
    have hd := hd.rope hL hk
    have hkd := kd0.trans hk
    rw [h.n]
    refine ⟨_, rfl, ?_⟩
    cases ha : Bd m.n o.a with
    | true =>
      have est : stepM m o = m := by rw [est0]; simp [cutS, ha]
      have ej : cutE m.n o.a = 150 := by simp [cutE, ha]
      rw [ej]
      refine sel_t rfl (hb_ldS0 h1 rfl (hb_ldS (j := 1) h1 rfl (hb_ldS (j := 2) h1 rfl (ret3 h5 fun w' k' => ?_))))
      have := fin hS (by rw [est]; exact hd) (Mv.refl _ _) hkd h5 (b := ((150 : Int) == 150)) rfl k'
      rw [est] at this ⊢
      exact this
    | false =>
      obtain ⟨x, ex, ex', hx⟩ := Bd_nat ha
      have est : stepM m o = ⟨m.n, cutR m.rows x, m.V⟩ := by rw [est0]; simp [cutS, ha, ex']
      have ej : cutE m.n o.a = 0 := by simp [cutE, ha]
      rw [ej]
      refine sel_f rfl (hb_ldS0 h1 rfl (hb_ldS (j := 1) h1 rfl (hb_ldS (j := 2) h1 rfl (hb_ldI (j := 1) h3 rfl ?_))))
      rw [ex]
      refine (RCut_ok hd rok hn hpos hx).mono ?_
      rintro e wi ⟨d', rfl, hd', q⟩
      rw [← est] at hd'
      have h5 := h5.below q; have hS := hS.below q; have hkd := hkd.trans (.of_below q)
      refine ⟨_, _, _, _, _, _, _, _, _, rfl, ret3 h5 fun w' k' => ?_⟩
      have := fin hS hd' (Mv.refl _ _) hkd h5 (b := ((0 : Int) == 0)) rfl k'
      rw [est] at this ⊢
      exact this
  refine sel_f (by simpa using k3) ?_
  by_cases k4 : o.k = 4
  · refine sel_t (by simp [k4]) (hb_ldI (j := 1) h3 rfl (hb_ldI (j := 3) h3 rfl (hb_ldI (j := 4) h3 rfl ?_)))
    rw [wrap_u8 ho.2]
    refine (Set_ok hL.rope o.a o.v o.m ⟨ho.1, by have := ho.2; exact ⟨by omega, by omega⟩⟩).mono ?_
    rintro e we ⟨rfl, hr, hk⟩
    have hS : LS w0 we r (stepM m o) := by
      refine ⟨?_, ?_, h.B, h.marks.step ho, hL.belK hk⟩
      · simp only [stepM, k1, k2, k3, k4, if_true, if_false]; rw [← h.n]; exact hr
      · simp only [stepM, k1, k2, k3, k4, if_true, if_false]; exact h.n
    have est0 : stepM m o = ⟨m.n, m.rows, setV m.n m.V o.a o.v o.m⟩ := by unfold stepM; rw [if_neg k1, if_neg k2, if_neg k3, if_pos k4]
    have h1 := h1.keeps hk (by rintro (e | e) <;> omega); have h3 := h3.keeps hk (by rintro (e | e) <;> omega); have h5 := h5.keeps hk (by rintro (e | e) <;> omega)
    have hd := hd.rope hL hk
    have hkd := kd0.trans hk
    rw [h.n]
    refine ⟨_, rfl, ?_⟩
    cases ha : Bd m.n o.a with
    | true =>
      have est : stepM m o = m := by rw [est0]; simp [setV, ha]
      have ej : cutE m.n o.a = 150 := by simp [cutE, ha]
      rw [ej]
      refine sel_t rfl (hb_ldS0 h1 rfl (hb_ldS (j := 1) h1 rfl (hb_ldS (j := 2) h1 rfl (ret3 h5 fun w' k' => ?_))))
      have := fin hS (by rw [est]; exact hd) (Mv.refl _ _) hkd h5 (b := ((150 : Int) == 150)) rfl k'
      rw [est] at this ⊢
      exact this
    | false =>
      obtain ⟨x, ex, ex', hx⟩ := Bd_nat ha
      have est : stepM m o = ⟨m.n, m.rows, fun i => if i = x then (o.v, o.m) else m.V i⟩ := by rw [est0]; simp [setV, ha, ex']
      have ej : cutE m.n o.a = 0 := by simp [cutE, ha]
      rw [ej]
      refine sel_f rfl (hb_ldS0 h1 rfl (hb_ldS (j := 1) h1 rfl (hb_ldS (j := 2) h1 rfl (hb_ldI (j := 1) h3 rfl (hb_ldI (j := 3) h3 rfl (hb_ldI (j := 4) h3 rfl ?_))))))
      rw [ex, wrap_u8 ho.2]
      refine (RSet_ok hd hn hx o.v o.m).mono ?_
      rintro e wi ⟨d', rfl, hd', q⟩
      rw [← est] at hd'
      have h5 := h5.below q; have hS := hS.below q; have hkd := hkd.trans (.of_below q)
      refine ⟨_, _, _, _, _, _, _, _, _, rfl, ret3 h5 fun w' k' => ?_⟩
      have := fin hS hd' (Mv.refl _ _) hkd h5 (b := ((0 : Int) == 0)) rfl k'
      rw [est] at this ⊢
      exact this
  refine sel_f (by simpa using k4) ?_
  have est : stepM m o = m := by simp only [stepM, k1, k2, k3, k4, if_false]
  refine hb_ldS0 h1 rfl (hb_ldS (j := 1) h1 rfl (hb_ldS (j := 2) h1 rfl (ret3 h5 fun w' k' => ?_)))
  have := fin (r' := r) (by rw [est]; exact hL) (by rw [est]; exact hd) (Mv.refl _ _) kd0 h5 (b := true) rfl k'
  rw [est] at this ⊢
  exact this
end Go.Proofs.Ytnfgibbkfkaonaa.Rd
