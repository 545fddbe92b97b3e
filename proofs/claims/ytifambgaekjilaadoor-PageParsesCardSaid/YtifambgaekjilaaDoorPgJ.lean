/- page: what is written is read again, in plain Lean. Conditions: none. -/
import Derived.Test.YtifambgaekjilaaDoorPgI
namespace Go.Proofs.YtifambgaekjilaaDoor.Rd
open Go.Dn Go.RowKit
set_option linter.unusedVariables false
set_option linter.unusedSimpArgs false
set_option maxRecDepth 100000
theorem bAt_set (b : List UInt8) (i j : Nat) (v : UInt8) (hi : i < b.length) : bAt (b.set i v) j = if j = i then v else bAt b j := by
  unfold bAt
  rw [List.getD_eq_getElem?_getD, List.getD_eq_getElem?_getD, List.getElem?_set]
  by_cases h : i = j
  · subst h; rw [if_pos rfl, if_pos hi, if_pos rfl]; rfl
  · rw [if_neg h, if_neg (fun e => h e.symm)]
theorem bAt_put : ∀ (l b : List UInt8) (o j : Nat), o + l.length ≤ b.length → bAt (putB b o l) j = if o ≤ j ∧ j < o + l.length then bAt l (j - o) else bAt b j
  | [], b, o, j, h => by rw [putB, if_neg (by rintro ⟨x, y⟩; rw [List.length_nil] at y; omega)]
  | v :: r, b, o, j, h => by
    rw [List.length_cons] at h
    rw [putB, bAt_put r _ (o + 1) j (by rw [List.length_set]; omega), List.length_cons]
    by_cases h1 : j = o
    · subst h1
      rw [if_neg (by omega), if_pos (by omega), bAt_set _ _ _ _ (by omega), if_pos rfl, Nat.sub_self]; rfl
    · by_cases h2 : o + 1 ≤ j ∧ j < o + 1 + r.length
      · rw [if_pos h2, if_pos (by omega), show j - o = (j - (o + 1)) + 1 by omega]; rfl
      · rw [if_neg h2, if_neg (by omega), bAt_set _ _ _ _ (by omega), if_neg h1]
theorem bAt_drop (b : List UInt8) (f j : Nat) : bAt (b.drop f) j = bAt b (f + j) := by
  unfold bAt; rw [List.getD_eq_getElem?_getD, List.getD_eq_getElem?_getD, List.getElem?_drop]
theorem bAt_take (b : List UInt8) (k j : Nat) (h : j < k) : bAt (b.take k) j = bAt b j := by
  unfold bAt; rw [List.getD_eq_getElem?_getD, List.getD_eq_getElem?_getD, List.getElem?_take, if_pos h]
theorem eq_of_bAt {a b : List UInt8} (hl : a.length = b.length) (h : ∀ j, j < a.length → bAt a j = bAt b j) : a = b := by
  apply List.ext_getElem hl
  intro j h1 h2
  have := h j h1
  rw [bAt_get h1, bAt_get h2] at this; exact this
theorem sl_eq {b x : List UInt8} {f : Nat} (hf : f + x.length ≤ b.length) (h : ∀ j, j < x.length → bAt b (f + j) = bAt x j) : (b.drop f).take x.length = x := by
  apply eq_of_bAt
  · rw [List.length_take, List.length_drop]; omega
  · intro j hj
    rw [List.length_take, List.length_drop] at hj
    rw [bAt_take _ _ _ (by omega), bAt_drop]; exact h j (by omega)
theorem sl_at {b x : List UInt8} {f j : Nat} (h : (b.drop f).take x.length = x) (hj : j < x.length) : bAt b (f + j) = bAt x j := by
  rw [← bAt_drop, ← bAt_take _ x.length _ hj, h]
theorem valS_leN : ∀ n x, x < 256 ^ n → valS (leN n x).reverse = x
  | 0, x, h => by have : x = 0 := by simpa using h
                  subst this; rfl
  | n + 1, x, h => by
    rw [leN, List.reverse_cons, valS_snoc, valS_leN n (x / 256) (by rw [Nat.pow_succ] at h; omega), UInt8.toNat_ofNat']
    omega
theorem leN_valS : ∀ (l : List UInt8), leN l.length (valS l.reverse) = l
  | [] => rfl
  | v :: l => by
    have hv := v.toNat_lt
    rw [List.reverse_cons, valS_snoc, List.length_cons, leN]
    have e1 : (valS l.reverse * 256 + v.toNat) / 256 = valS l.reverse := by omega
    have e2 : UInt8.ofNat (valS l.reverse * 256 + v.toNat) = v := by
      apply UInt8.toNat.inj
      rw [UInt8.toNat_ofNat']; omega
    rw [e1, e2, leN_valS l]
/-- how items lie behind their slots -/
def Lay (R : List UInt8) : Nat → Nat → List (List UInt8) → Prop
  | _, _, [] => True
  | i, e, x :: r => bAt R (18 + 2 * i) = UInt8.ofNat (e - x.length) ∧ bAt R (18 + 2 * i + 1) = UInt8.ofNat ((e - x.length) / 256) ∧ (R.drop (e - x.length)).take x.length = x ∧ Lay R (i + 1) (e - x.length) r
theorem slots_frame : ∀ (r : List (List UInt8)) (i e : Nat) (b : List UInt8) (j : Nat), b.length = 512 → e ≤ 512 → 18 + 2 * (i + r.length) + lensL r ≤ e → (j < 18 + 2 * i ∨ (18 + 2 * (i + r.length) ≤ j ∧ j + lensL r < e) ∨ e ≤ j) → bAt (slotsB r i e b) j = bAt b j
  | [], i, e, b, j, hb, he, hl, hj => rfl
  | x :: r, i, e, b, j, hb, he, hl, hj => by
    rw [List.length_cons, lensL_cons] at hl hj
    obtain ⟨e', hee⟩ : ∃ e', e - x.length = e' := ⟨_, rfl⟩
    rw [slotsB, hee, slots_frame r (i + 1) e' _ j (by rw [List.length_set, List.length_set, putB_len]; exact hb) (by omega) (by omega) (by omega)]
    rw [bAt_set _ _ _ _ (by rw [List.length_set, putB_len]; omega), if_neg (by omega), bAt_set _ _ _ _ (by rw [putB_len]; omega), if_neg (by omega), bAt_put _ _ _ _ (by omega), if_neg (by omega)]
theorem slots_lay : ∀ (r : List (List UInt8)) (i e : Nat) (b : List UInt8), b.length = 512 → e ≤ 512 → 18 + 2 * (i + r.length) + lensL r ≤ e → Lay (slotsB r i e b) i e r
  | [], i, e, b, hb, he, hl => trivial
  | x :: r, i, e, b, hb, he, hl => by
    rw [List.length_cons, lensL_cons] at hl
    obtain ⟨e', hee⟩ : ∃ e', e - x.length = e' := ⟨_, rfl⟩
    obtain ⟨b', hbb⟩ : ∃ b', ((putB b e' x).set (18 + 2 * i) (UInt8.ofNat e')).set (18 + 2 * i + 1) (UInt8.ofNat (e' / 256)) = b' := ⟨_, rfl⟩
    have hb' : b'.length = 512 := by rw [← hbb, List.length_set, List.length_set, putB_len]; exact hb
    have at' : ∀ j, bAt b' j = if j = 18 + 2 * i + 1 then UInt8.ofNat (e' / 256) else if j = 18 + 2 * i then UInt8.ofNat e' else if e' ≤ j ∧ j < e' + x.length then bAt x (j - e') else bAt b j := fun j => by
      rw [← hbb, bAt_set _ _ _ _ (by rw [List.length_set, putB_len]; omega), bAt_set _ _ _ _ (by rw [putB_len]; omega), bAt_put _ _ _ _ (by omega)]
    rw [slotsB, hee, hbb]
    have fr := slots_frame r (i + 1) e' b'
    refine ⟨?_, ?_, ?_, ?_⟩
    · rw [hee, fr _ hb' (by omega) (by omega) (by omega), at', if_neg (by omega), if_pos rfl]
    · rw [hee, fr _ hb' (by omega) (by omega) (by omega), at', if_pos rfl]
    · rw [hee]
      refine sl_eq (by rw [slotsB_len, hb']; omega) fun j hj => ?_
      rw [fr _ hb' (by omega) (by omega) (by omega), at', if_neg (by omega), if_neg (by omega), if_pos (by omega), show e' + j - e' = j by omega]
    · rw [hee]
      exact slots_lay r (i + 1) e' b' hb' (by omega) (by omega)
theorem two_bytes {f : Nat} (h : f < 65536) : (UInt8.ofNat f).toNat + 256 * (UInt8.ofNat (f / 256)).toNat = f := by
  rw [UInt8.toNat_ofNat', UInt8.toNat_ofNat']; omega
/-- .. and so they are read -/
theorem parseI_lay (R : List UInt8) (n : Nat) : ∀ (r : List (List UInt8)) (i e : Nat) (acc : List (List UInt8)), e ≤ 512 → (∀ x ∈ r, x.length ≤ 200) → 18 + 2 * n + lensL r ≤ e → Lay R i e r → parseI R (18 + 2 * n) r.length (18 + 2 * i) e acc = some (acc ++ r, e - lensL r)
  | [], i, e, acc, he, hx, hl, h => by simp [parseI, lensL]
  | x :: r, i, e, acc, he, hx, hl, h => by
    obtain ⟨h1, h2, h3, h4⟩ := h
    rw [lensL_cons] at hl
    have hxl := hx x List.mem_cons_self
    rw [List.length_cons, parseI, h1, h2, two_bytes (by omega), if_neg (by omega)]
    rw [show e - (e - x.length) = x.length by omega, h3, show 18 + 2 * i + 2 = 18 + 2 * (i + 1) by omega, parseI_lay R n r (i + 1) _ _ (by omega) (fun y hy => hx y (List.mem_cons_of_mem _ hy)) (by omega) h4, lensL_cons]
    simp
    omega
theorem headB_at (p : Pg) (j : Nat) : bAt (headB p) j = if j = 17 then UInt8.ofNat p.items.length else if 13 ≤ j ∧ j < 17 then bAt (leN 4 p.extra) (j - 13) else if j = 12 then p.kind else if 4 ≤ j ∧ j < 12 then bAt (leN 8 p.lsn) (j - 4) else 0 := by
  have z : ∀ j, bAt (List.replicate 512 (0 : UInt8)) j = 0 := fun j => by
    unfold bAt
    rw [List.getD_eq_getElem?_getD, List.getElem?_replicate]
    split <;> rfl
  unfold headB
  rw [bAt_set _ _ _ _ (by rw [putB_len, List.length_set, putB_len]; simp), bAt_put _ _ _ _ (by rw [List.length_set, putB_len, leN_len]; simp), bAt_set _ _ _ _ (by rw [putB_len]; simp), bAt_put _ _ _ _ (by rw [leN_len]; simp), leN_len, leN_len, z]
theorem rawL_lay {p : Pg} (h : PgOk p) : Lay (rawL p) 0 512 p.items := slots_lay _ _ _ _ (headB_len p) (Nat.le_refl _) (by have := h.u; omega)
theorem rawL_out {p : Pg} (h : PgOk p) {j : Nat} (hj : j < 18 ∨ (18 + 2 * p.items.length ≤ j ∧ j + lensL p.items < 512)) : bAt (rawL p) j = bAt (headB p) j :=
  slots_frame _ _ _ _ _ (headB_len p) (Nat.le_refl _) (by have := h.u; omega) (by omega)
theorem seal_at (x : List UInt8) (j : Nat) : bAt (sealL x) (4 + j) = bAt x j := by
  have : (sealL x).drop 4 = x := rfl
  rw [← bAt_drop, this]
theorem bytesL_at (p : Pg) {j : Nat} (hj : 4 ≤ j) : bAt (bytesL p) j = bAt (rawL p) j := by
  obtain ⟨k, rfl⟩ : ∃ k, j = 4 + k := ⟨j - 4, by omega⟩
  unfold bytesL
  rw [seal_at, bAt_drop]
theorem bytesL_len (p : Pg) : (bytesL p).length = 512 := by
  unfold bytesL sealL
  rw [List.length_append, List.length_drop, rawL_len]; rfl
theorem Lay.congr {R R' : List UInt8} (hl : R.length = R'.length) (h : ∀ j, 4 ≤ j → bAt R j = bAt R' j) : ∀ (r : List (List UInt8)) (i e : Nat), e ≤ R.length → 18 + lensL r ≤ e → Lay R i e r → Lay R' i e r
  | [], _, _, _, _, _ => trivial
  | x :: r, i, e, he, hu, ⟨h1, h2, h3, h4⟩ => by
    rw [lensL_cons] at hu
    refine ⟨by rw [← h _ (by omega)]; exact h1, by rw [← h _ (by omega)]; exact h2, ?_, Lay.congr hl h r _ _ (by omega) (by omega) h4⟩
    refine sl_eq (by omega) fun j hj => ?_
    rw [← h _ (by omega)]; exact sl_at h3 hj
/-- THERE: a page written is read again -/
theorem parse_bytes {p : Pg} (h : PgOk p) : parseL (bytesL p) = some p := by
  have hn := h.n
  have hu := h.u
  have c17 : cntB (bytesL p) = p.items.length := by
    unfold cntB
    rw [bytesL_at p (by decide), rawL_out h (.inl (by decide)), headB_at, if_pos rfl, UInt8.toNat_ofNat']; omega
  have sl8 : ((bytesL p).drop 4).take 8 = leN 8 p.lsn := by
    have := sl_eq (b := bytesL p) (x := leN 8 p.lsn) (f := 4) (by rw [leN_len, bytesL_len]; decide) fun j hj => by
      rw [leN_len] at hj
      rw [bytesL_at p (by omega), rawL_out h (.inl (by omega)), headB_at, if_neg (by omega), if_neg (by omega), if_neg (by omega), if_pos (by omega), show 4 + j - 4 = j by omega]
    rw [leN_len] at this; exact this
  have sl4 : ((bytesL p).drop 13).take 4 = leN 4 p.extra := by
    have := sl_eq (b := bytesL p) (x := leN 4 p.extra) (f := 13) (by rw [leN_len, bytesL_len]; decide) fun j hj => by
      rw [leN_len] at hj
      rw [bytesL_at p (by omega), rawL_out h (.inl (by omega)), headB_at, if_neg (by omega), if_pos (by omega), show 13 + j - 13 = j by omega]
    rw [leN_len] at this; exact this
  have elsn : lsnB (bytesL p) = p.lsn := by
    unfold lsnB
    rw [sl8, valS_leN 8 _ (by have := h.l; have : (256 : Nat) ^ 8 = 18446744073709551616 := by decide
                              omega)]
  have eext : extB (bytesL p) = p.extra := by
    unfold extB
    rw [sl4, valS_leN 4 _ (by have := h.e; have : (256 : Nat) ^ 4 = 4294967296 := by decide
                              omega)]
  have ekind : bAt (bytesL p) 12 = p.kind := by rw [bytesL_at p (by decide), rawL_out h (.inl (by decide)), headB_at, if_neg (by decide), if_neg (by decide), if_pos rfl]
  have eopen : (openL (bytesL p)).2 = true := by
    have e1 : (bytesL p).take 4 = le4 (crcSum ((bytesL p).drop 4)) := rfl
    unfold openL
    rw [if_pos (by rw [bytesL_len]; decide), if_pos e1]
  have lay := Lay.congr (R := rawL p) (R' := bytesL p) (by rw [rawL_len, bytesL_len]) (fun j hj => (bytesL_at p hj).symm) p.items 0 512 (by rw [rawL_len]; decide) (by omega) (rawL_lay h)
  have hp := parseI_lay (bytesL p) p.items.length p.items 0 512 [] (Nat.le_refl _) h.x (by omega) lay
  rw [List.nil_append, Nat.mul_zero, Nat.add_zero] at hp
  unfold parseL
  rw [if_neg (by
    rw [elsn, c17, eopen, bytesL_len]
    have := h.l
    rintro (q | q | q | q)
    · exact q rfl
    · cases q
    · omega
    · omega), c17, hp]
  have hz : zeroes (((bytesL p).drop (18 + 2 * p.items.length)).take (512 - lensL p.items - (18 + 2 * p.items.length))) = true := by
    unfold zeroes
    rw [List.all_eq_true]
    intro x hx
    obtain ⟨j, hj, rfl⟩ := List.getElem_of_mem hx
    rw [List.length_take, List.length_drop, bytesL_len] at hj
    have : bAt (((bytesL p).drop (18 + 2 * p.items.length)).take (512 - lensL p.items - (18 + 2 * p.items.length))) j = 0 := by
      rw [bAt_take _ _ _ (by omega), bAt_drop, bytesL_at p (by omega), rawL_out h (.inr ⟨by omega, by omega⟩), headB_at, if_neg (by omega), if_neg (by omega), if_neg (by omega), if_neg (by omega)]
    rw [bAt_get (by rw [List.length_take, List.length_drop, bytesL_len]; omega)] at this
    rw [this]; rfl
  simp only [hz, if_true]
  rw [elsn, ekind, eext]
end Go.Proofs.YtifambgaekjilaaDoor.Rd
