/- page: what is parsed is the only page written so; the document's bytes are the program's; in plain Lean. Conditions: none. -/
import Derived.Test.YtifambgaekjilaaDoorPgJ
namespace Go.Proofs.YtifambgaekjilaaDoor.Rd
open Go.Dn Go.RowKit
set_option linter.unusedVariables false
set_option linter.unusedSimpArgs false
set_option maxRecDepth 100000
theorem bAt_app (a b : List UInt8) (j : Nat) : bAt (a ++ b) j = if j < a.length then bAt a j else bAt b (j - a.length) := by
  unfold bAt
  rw [List.getD_eq_getElem?_getD]
  split
  · rename_i h
    rw [List.getElem?_append_left h, List.getD_eq_getElem?_getD]
  · rename_i h
    rw [List.getElem?_append_right (by omega), List.getD_eq_getElem?_getD]
theorem lay_eq {R R' : List UInt8} : ∀ (r : List (List UInt8)) (i e : Nat), Lay R i e r → Lay R' i e r → lensL r ≤ e → ∀ j, (18 + 2 * i ≤ j ∧ j < 18 + 2 * (i + r.length)) ∨ (e - lensL r ≤ j ∧ j < e) → bAt R j = bAt R' j
  | [], i, e, _, _, hl, j, hj => by
    have : lensL [] = 0 := rfl
    rw [this, List.length_nil] at hj
    omega
  | x :: r, i, e, ⟨a1, a2, a3, a4⟩, ⟨b1, b2, b3, b4⟩, hl, j, hj => by
    rw [lensL_cons] at hl hj
    rw [List.length_cons] at hj
    by_cases q : (18 + 2 * (i + 1) ≤ j ∧ j < 18 + 2 * (i + 1 + r.length)) ∨ (e - x.length - lensL r ≤ j ∧ j < e - x.length)
    · exact lay_eq r (i + 1) (e - x.length) a4 b4 (by omega) j q
    · by_cases q1 : j = 18 + 2 * i
      · subst q1; rw [a1, b1]
      · by_cases q2 : j = 18 + 2 * i + 1
        · subst q2; rw [a2, b2]
        · obtain ⟨k, rfl⟩ : ∃ k, j = e - x.length + k := ⟨j - (e - x.length), by omega⟩
          rw [sl_at a3 (by omega), sl_at b3 (by omega)]
/-- head, slots, items and nothing else make a page's bytes -/
theorem raw_unique {p : Pg} (h : PgOk p) {R : List UInt8} (hl : R.length = 512) (hd : ∀ j, 4 ≤ j → j < 18 → bAt R j = bAt (headB p) j) (lay : Lay R 0 512 p.items) (z : ∀ j, 18 + 2 * p.items.length ≤ j → j + lensL p.items < 512 → bAt R j = 0) : R.drop 4 = (rawL p).drop 4 := by
  have hu := h.u
  apply eq_of_bAt
  · rw [List.length_drop, List.length_drop, rawL_len, hl]
  · intro j hj
    rw [List.length_drop, hl] at hj
    rw [bAt_drop, bAt_drop]
    by_cases q1 : 4 + j < 18
    · rw [hd _ (by omega) q1, rawL_out h (.inl q1)]
    · by_cases q2 : 18 + 2 * p.items.length ≤ 4 + j ∧ 4 + j + lensL p.items < 512
      · rw [z _ q2.1 q2.2, rawL_out h (.inr q2), headB_at, if_neg (by omega), if_neg (by omega), if_neg (by omega), if_neg (by omega)]
      · exact lay_eq p.items 0 512 lay (rawL_lay h) (by omega) (4 + j) (by omega)
theorem parseI_inv (R : List UInt8) (n : Nat) (hR : R.length = 512) : ∀ (m i e : Nat) (acc its : List (List UInt8)) (e' : Nat), e ≤ 512 → parseI R (18 + 2 * n) m (18 + 2 * i) e acc = some (its, e') → ∃ r, its = acc ++ r ∧ r.length = m ∧ Lay R i e r ∧ (∀ x ∈ r, x.length ≤ 200) ∧ lensL r + e' = e ∧ (0 < m → 18 + 2 * n ≤ e') ∧ (m = 0 → e' = e)
  | 0, i, e, acc, its, e', he, h => by
    unfold parseI at h
    injection h with h; injection h with h1 h2
    subst h1; subst h2
    exact ⟨[], by simp, rfl, trivial, fun x hx => by (cases hx), by show 0 + e = e; omega, fun h => absurd h (Nat.lt_irrefl 0), fun _ => rfl⟩
  | m + 1, i, e, acc, its, e', he, h => by
    unfold parseI at h
    split at h
    · cases h
    · rename_i hc
      obtain ⟨f, hf⟩ : ∃ f, (bAt R (18 + 2 * i)).toNat + 256 * (bAt R (18 + 2 * i + 1)).toNat = f := ⟨_, rfl⟩
      rw [hf] at h hc
      have h0 := (bAt R (18 + 2 * i)).toNat_lt
      have h1 := (bAt R (18 + 2 * i + 1)).toNat_lt
      rw [show 18 + 2 * i + 2 = 18 + 2 * (i + 1) by omega] at h
      obtain ⟨r, e1, e2, e3, e4, e5, e6, e7⟩ := parseI_inv R n hR m (i + 1) f _ its e' (by omega) h
      obtain ⟨x, hx⟩ : ∃ x, (R.drop f).take (e - f) = x := ⟨_, rfl⟩
      have hxl : x.length = e - f := by rw [← hx, List.length_take, List.length_drop]; omega
      rw [hx] at e1
      have hef : e - x.length = f := by omega
      refine ⟨x :: r, by rw [e1]; simp, by rw [List.length_cons, e2], ?_, ?_, by rw [lensL_cons]; omega, fun _ => ?_, fun h => by omega⟩
      · refine ⟨?_, ?_, ?_, by rw [hef]; exact e3⟩
        · apply UInt8.toNat.inj
          rw [hef, UInt8.toNat_ofNat']; omega
        · apply UInt8.toNat.inj
          rw [hef, UInt8.toNat_ofNat']; omega
        · rw [hef, hxl]; exact hx
      · intro y hy
        rcases List.mem_cons.1 hy with rfl | hy
        · omega
        · exact e4 y hy
      · by_cases q : 0 < m
        · exact e6 q
        · have := e7 (by omega); omega
/-- THE ONLY FORM: what is parsed is a page, written so -/
theorem parse_only {b : List UInt8} {p : Pg} (h : parseL b = some p) : PgOk p ∧ bytesL p = b := by
  unfold parseL at h
  split at h
  · cases h
  rename_i hc
  have hl : b.length = 512 := by
    apply Classical.byContradiction; intro q; exact hc (.inl q)
  have ho : (openL b).2 = true := by
    cases q : (openL b).2 with
    | true => rfl
    | false => exact absurd (.inr (.inl q)) hc
  have h1 : lsnB b ≤ 9223372036854775807 := by
    apply Classical.byContradiction; intro q; exact hc (.inr (.inr (.inl (by omega))))
  have h2 : cntB b ≤ 100 := by
    apply Classical.byContradiction; intro q; exact hc (.inr (.inr (.inr (by omega))))
  split at h
  · cases h
  rename_i its e hp
  split at h
  case isFalse => cases h
  rename_i hz
  injection h with h
  have hp' : parseI b (18 + 2 * cntB b) (cntB b) (18 + 2 * 0) 512 [] = some (its, e) := hp
  obtain ⟨r, e1, e2, e3, e4, e5, e6, e7⟩ := parseI_inv b (cntB b) hl (cntB b) 0 512 [] its e (by omega) hp'
  rw [List.nil_append] at e1
  subst e1
  have l8 : ((b.drop 4).take 8).length = 8 := by rw [List.length_take, List.length_drop, hl]; rfl
  have l4 : ((b.drop 13).take 4).length = 4 := by rw [List.length_take, List.length_drop, hl]; rfl
  have hext : extB b < 4294967296 := by
    have := valS_lt ((b.drop 13).take 4).reverse
    rw [List.length_reverse, l4] at this
    have h4 : (256 : Nat) ^ 4 = 4294967296 := by decide
    unfold extB
    omega
  have hu : 18 + 2 * its.length + lensL its ≤ 512 := by
    by_cases q : 0 < cntB b
    · have := e6 q; omega
    · have : its.length = 0 := by omega
      have hnil : its = [] := List.length_eq_zero_iff.1 this
      subst hnil
      show 18 + 2 * 0 + 0 ≤ 512
      omega
  have ok : PgOk ⟨lsnB b, bAt b 12, extB b, its⟩ := ⟨by show its.length ≤ 100; omega, e4, hu, by show lsnB b < _; omega, hext⟩
  subst h
  refine ⟨ok, ?_⟩
  have hzz : ∀ j, 18 + 2 * its.length ≤ j → j + lensL its < 512 → bAt b j = 0 := by
    intro j hj1 hj2
    unfold zeroes at hz
    rw [List.all_eq_true] at hz
    have hlen : ((b.drop (18 + 2 * cntB b)).take (e - (18 + 2 * cntB b))).length = e - (18 + 2 * cntB b) := by rw [List.length_take, List.length_drop, hl]; omega
    have hj3 : j - (18 + 2 * cntB b) < ((b.drop (18 + 2 * cntB b)).take (e - (18 + 2 * cntB b))).length := by omega
    have := hz _ (List.getElem_mem hj3)
    rw [← bAt_get hj3, bAt_take _ _ _ (by omega), bAt_drop, show 18 + 2 * cntB b + (j - (18 + 2 * cntB b)) = j by omega] at this
    simpa using this
  have raw := raw_unique ok hl (fun j hj1 hj2 => ?_) e3 hzz
  · unfold bytesL
    rw [← raw]
    have : b.take 4 = le4 (crcSum (b.drop 4)) := by
      unfold openL at ho
      rw [if_pos (by omega)] at ho
      split at ho
      · rename_i q; exact q
      · cases ho
    unfold sealL
    rw [← this, List.take_append_drop]
  · rw [headB_at]
    split
    · rename_i q; subst q
      apply UInt8.toNat.inj
      rw [UInt8.toNat_ofNat']
      have : (bAt b 17).toNat = its.length := by rw [e2]; rfl
      have h0 := (bAt b 17).toNat_lt
      show _ = its.length % _
      omega
    · split
      · rename_i q1 q2
        show _ = bAt (leN 4 (extB b)) (j - 13)
        have := leN_valS ((b.drop 13).take 4)
        rw [l4] at this
        unfold extB
        rw [this, bAt_take _ _ _ (by omega), bAt_drop, show 13 + (j - 13) = j by omega]
      · split
        · rename_i q1 q2 q3; subst q3; rfl
        · rename_i q1 q2 q3
          rw [if_pos (by omega)]
          show _ = bAt (leN 8 (lsnB b)) (j - 4)
          have := leN_valS ((b.drop 4).take 8)
          rw [l8] at this
          unfold lsnB
          rw [this, bAt_take _ _ _ (by omega), bAt_drop, show 4 + (j - 4) = j by omega]
/-! ### the document's bytes -/
def slotsF : List (List UInt8) → Nat → List UInt8
  | [], _ => []
  | x :: r, e => leN 2 (e - x.length) ++ slotsF r (e - x.length)
def revF : List (List UInt8) → List UInt8
  | [] => []
  | x :: r => revF r ++ x
def refHead (p : Pg) : List UInt8 := leN 8 p.lsn ++ [p.kind] ++ leN 4 p.extra ++ [UInt8.ofNat p.items.length]
def refRaw (p : Pg) : List UInt8 := refHead p ++ slotsF p.items 512 ++ List.replicate (494 - 2 * p.items.length - lensL p.items) 0 ++ revF p.items
theorem slotsF_len : ∀ (r : List (List UInt8)) (e : Nat), (slotsF r e).length = 2 * r.length
  | [], _ => rfl
  | x :: r, e => by rw [slotsF, List.length_append, leN_len, slotsF_len r, List.length_cons]; omega
theorem revF_len : ∀ (r : List (List UInt8)), (revF r).length = lensL r
  | [] => rfl
  | x :: r => by rw [revF, List.length_append, revF_len r, lensL_cons]; omega
theorem slotsF_app : ∀ (r : List (List UInt8)) (x : List UInt8) (e : Nat), slotsF (r ++ [x]) e = slotsF r e ++ leN 2 (e - lensL r - x.length)
  | [], x, e => by simp [slotsF, lensL]
  | y :: r, x, e => by
    rw [List.cons_append, slotsF, slotsF_app r, slotsF, lensL_cons, List.append_assoc, show e - y.length - lensL r - x.length = e - (y.length + lensL r) - x.length by omega]
theorem revF_app : ∀ (r : List (List UInt8)) (x : List UInt8), revF (r ++ [x]) = x ++ revF r
  | [], x => by simp [revF]
  | y :: r, x => by rw [List.cons_append, revF, revF_app r, revF, List.append_assoc]
theorem refHead_len (p : Pg) : (refHead p).length = 14 := by simp [refHead, leN_len]
theorem lay_of {R : List UInt8} : ∀ (r : List (List UInt8)) (i e : Nat) (H Z T : List UInt8), R = H ++ (slotsF r e ++ (Z ++ (revF r ++ T))) → H.length = 18 + 2 * i → 18 + 2 * i + 2 * r.length + Z.length + lensL r = e → Lay R i e r
  | [], i, e, H, Z, T, hR, hH, he => trivial
  | x :: r, i, e, H, Z, T, hR, hH, he => by
    rw [List.length_cons, lensL_cons] at he
    obtain ⟨e', hee⟩ : ∃ e', e - x.length = e' := ⟨_, rfl⟩
    have h2 : leN 2 e' = [UInt8.ofNat e', UInt8.ofNat (e' / 256)] := rfl
    have hR1 : R = H ++ ([UInt8.ofNat e', UInt8.ofNat (e' / 256)] ++ (slotsF r e' ++ (Z ++ (revF r ++ (x ++ T))))) := by
      rw [hR, slotsF, revF, hee, h2]; simp only [List.append_assoc]
    have hR2 : R = (H ++ [UInt8.ofNat e', UInt8.ofNat (e' / 256)]) ++ (slotsF r e' ++ (Z ++ (revF r ++ (x ++ T)))) := by rw [hR1, List.append_assoc]
    have hR3 : R = (H ++ ([UInt8.ofNat e', UInt8.ofNat (e' / 256)] ++ (slotsF r e' ++ (Z ++ revF r)))) ++ (x ++ T) := by rw [hR1]; simp only [List.append_assoc]
    have hpre : (H ++ ([UInt8.ofNat e', UInt8.ofNat (e' / 256)] ++ (slotsF r e' ++ (Z ++ revF r)))).length = e' := by
      simp only [List.length_append, List.length_cons, List.length_nil, slotsF_len, revF_len]; omega
    refine ⟨?_, ?_, ?_, ?_⟩
    · rw [hee, hR1, bAt_app, if_neg (by omega), hH, Nat.sub_self]; rfl
    · rw [hee, hR1, bAt_app, if_neg (by omega), hH, show 18 + 2 * i + 1 - (18 + 2 * i) = 1 by omega]; rfl
    · rw [hee, hR3]
      obtain ⟨Y, hY⟩ : ∃ Y, H ++ ([UInt8.ofNat e', UInt8.ofNat (e' / 256)] ++ (slotsF r e' ++ (Z ++ revF r))) = Y := ⟨_, rfl⟩
      rw [hY] at hpre ⊢
      rw [← hpre, List.drop_left, List.take_left]
    · rw [hee]
      refine lay_of r (i + 1) e' _ Z (x ++ T) hR2 ?_ ?_
      · simp only [List.length_append, List.length_cons, List.length_nil]; omega
      · omega
theorem refRaw_eq {p : Pg} (h : PgOk p) : refRaw p = (rawL p).drop 4 := by
  have hu := h.u
  obtain ⟨R, hR⟩ : ∃ R, [0, 0, 0, 0] ++ refRaw p = R := ⟨_, rfl⟩
  have hd : refRaw p = R.drop 4 := by rw [← hR]; rfl
  have hR' : R = ([0, 0, 0, 0] ++ refHead p) ++ (slotsF p.items 512 ++ (List.replicate (494 - 2 * p.items.length - lensL p.items) 0 ++ (revF p.items ++ []))) := by
    rw [← hR]; unfold refRaw; simp only [List.append_assoc, List.append_nil]
  have hH : ([0, 0, 0, 0] ++ refHead p).length = 18 := by rw [List.length_append, refHead_len]; rfl
  have hl : R.length = 512 := by
    rw [hR']
    simp only [List.length_append, refHead_len, slotsF_len, revF_len, List.length_replicate, List.length_cons, List.length_nil]
    omega
  rw [hd]
  refine raw_unique h hl (fun j hj1 hj2 => ?_) (lay_of p.items 0 512 _ _ [] hR' hH (by rw [List.length_replicate]; omega)) fun j hj1 hj2 => ?_
  · rw [hR', bAt_app, if_pos (by omega), headB_at]
    have e0 : ([0, 0, 0, 0] : List UInt8).length = 4 := rfl
    rw [bAt_app, e0, if_neg (by omega)]
    unfold refHead
    rw [bAt_app, bAt_app, bAt_app]
    simp only [List.length_append, leN_len, List.length_cons, List.length_nil]
    by_cases c1 : j = 17
    · subst c1; rfl
    · rw [if_neg c1, if_pos (by omega)]
      by_cases c2 : 13 ≤ j ∧ j < 17
      · rw [if_pos c2, if_neg (by omega)]; congr 1 <;> omega
      · rw [if_neg c2, if_pos (by omega)]
        by_cases c3 : j = 12
        · subst c3; rfl
        · rw [if_neg c3, if_pos (by omega), if_pos (by omega)]
  · rw [hR', bAt_app, if_neg (by omega), bAt_app, slotsF_len, if_neg (by omega), bAt_app, List.length_replicate, if_pos (by omega)]
    unfold bAt
    rw [List.getD_eq_getElem?_getD, List.getElem?_replicate]
    split <;> rfl
theorem refBytes_eq {p : Pg} (h : PgOk p) : sealL (refRaw p) = bytesL p := by unfold bytesL; rw [refRaw_eq h]
end Go.Proofs.YtifambgaekjilaaDoor.Rd
