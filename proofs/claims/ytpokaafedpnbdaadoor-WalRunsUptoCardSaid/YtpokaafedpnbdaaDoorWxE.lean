/- Plain laws of the log: sectors made and read, the stream's records read again · Plain laws of the log: a sector made is read again, what Open makes of an image, what the disk's calls do to what its sectors hold · Plain laws of the log: what holds between its calls, whatever the disk refuses or loses · Plain laws of the log: its calls keep what holds between them · Plain laws of the log: Reset, a crash and an opening; a disk without a plan refuses nothing · The log's laws: a disk with an empty log that takes records · The log's laws: what the calls make of memory and of what holds of it; the example -/
import Derived.Test.YtpokaafedpnbdaaDoorWxD
import Derived.Test.YtpokaafedpnbdaaDoorDkJa
import Derived.Lib.SlBytesConst
import Derived.Laws.BytesString
import Derived.Laws.IdiomStrings
/-! Plain laws of the log: sectors made and read, the stream's records read again. Conditions: none. -/
namespace Go.Proofs.YtpokaafedpnbdaaDoor.Rd
open Go.Dn Go.RowKit Go.Shelf
set_option linter.unusedVariables false
set_option linter.unusedSimpArgs false
set_option maxRecDepth 100000
/-! ### numbers put and read -/
theorem putF_small {k u : Nat} (h : u < 128) : putF k u = [UInt8.ofNat u] := by
  cases k with
  | zero => rfl
  | succ k => unfold putF; rw [if_pos h]
/-- what is read is what was put -/
theorem getR_put : ∀ (k u i acc : Nat) (tail : List UInt8), i + k = 9 → u < 128 ^ (k + 1) → (i = 0 ∨ u ≠ 0) → (k = 0 → u ≤ 1) → u < 2 * 128 ^ k →
    getR (putF k u ++ tail) i acc = (acc + u * 128 ^ i, i + (putF k u).length, 0) := by
  intro k
  induction k with
  | zero =>
    intro u i acc tail hik hu h0 h1 h2
    have h1 := h1 rfl
    rw [putF_small (by omega)]
    have ht : (UInt8.ofNat u).toNat = u := by rw [UInt8.toNat_ofNat']; omega
    simp only [List.cons_append, List.nil_append, getR, ht]
    rw [if_neg (by omega), if_neg (by omega), if_neg (by omega), Nat.mod_eq_of_lt (by omega)]
    rfl
  | succ k ih =>
    intro u i acc tail hik hu h0 h1 h2
    by_cases h : u < 128
    · rw [putF_small h]
      have ht : (UInt8.ofNat u).toNat = u := by rw [UInt8.toNat_ofNat']; omega
      simp only [List.cons_append, List.nil_append, getR, ht]
      rw [if_neg (by omega), if_neg (by omega), if_neg (by omega), Nat.mod_eq_of_lt (by omega)]
      rfl
    · have hp : putF (k + 1) u = UInt8.ofNat (u % 128 + 128) :: putF k (u / 128) := by
        show (if u < 128 then [UInt8.ofNat u] else UInt8.ofNat (u % 128 + 128) :: putF k (u / 128)) = _
        rw [if_neg h]
      have ht : (UInt8.ofNat (u % 128 + 128)).toNat = u % 128 + 128 := by rw [UInt8.toNat_ofNat']; omega
      rw [hp]
      simp only [List.cons_append, getR, ht]
      rw [if_neg (by omega), if_pos (by omega), show (u % 128 + 128) % 128 = u % 128 by omega]
      have hd : u / 128 < 2 * 128 ^ k := by
        apply Nat.div_lt_of_lt_mul
        rw [Nat.pow_succ] at h2; omega
      rw [ih (u / 128) (i + 1) _ tail (by omega) (by
          apply Nat.div_lt_of_lt_mul; rw [Nat.pow_succ] at hu; omega) (.inr (by omega)) (fun hk => by subst hk; omega) hd]
      have e : acc + u % 128 * 128 ^ i + u / 128 * 128 ^ (i + 1) = acc + u * 128 ^ i := by
        rw [Nat.pow_succ, Nat.mul_comm (128 ^ i) 128, ← Nat.mul_assoc, Nat.add_assoc, ← Nat.add_mul]
        congr 2; omega
      rw [e, List.length_cons, show i + 1 + (putF k (u / 128)).length = i + ((putF k (u / 128)).length + 1) by omega]
theorem getR_putL (u : Nat) (hu : u < 18446744073709551616) (tail : List UInt8) : getR (putL u ++ tail) 0 0 = (u, (putL u).length, 0) := by
  unfold putL
  rw [getR_put 9 u 0 0 tail rfl (by omega) (.inl rfl) (by omega) (by omega)]
  simp
/-- a number that is cut off is none -/
theorem getR_cut : ∀ (k u i acc j : Nat), i + k ≤ 9 → j < (putF k u).length → (getR ((putF k u).take j) i acc).2.2 = 2 := by
  intro k
  induction k with
  | zero =>
    intro u i acc j hik hj
    have : j = 0 := by simp [putF] at hj; omega
    subst this; rfl
  | succ k ih =>
    intro u i acc j hik hj
    cases j with
    | zero => rfl
    | succ j =>
      by_cases h : u < 128
      · rw [putF_small h] at hj
        simp at hj
      · have hp : putF (k + 1) u = UInt8.ofNat (u % 128 + 128) :: putF k (u / 128) := by
          show (if u < 128 then [UInt8.ofNat u] else UInt8.ofNat (u % 128 + 128) :: putF k (u / 128)) = _
          rw [if_neg h]
        have ht : (UInt8.ofNat (u % 128 + 128)).toNat = u % 128 + 128 := by rw [UInt8.toNat_ofNat']; omega
        rw [hp] at hj ⊢
        rw [List.length_cons] at hj
        rw [List.take_succ_cons]
        simp only [getR, ht]
        rw [if_neg (by omega), if_pos (by omega)]
        exact ih _ _ _ _ (by omega) (by omega)
/-! ### records -/
def okX (x : Int × List UInt8) : Prop := 1 ≤ x.1 ∧ x.1 ≤ 255 ∧ x.2.length ≤ 1200
def recsB (xs : List (Int × List UInt8)) : List UInt8 := xs.flatMap fun x => recB x.1 x.2
def rcsOf (run : Nat) : Nat → List (Int × List UInt8) → List Rc
  | _, [] => []
  | a, x :: xs => ⟨(run * 16777216 + a : Nat), x.1, x.2⟩ :: rcsOf run (a + (recB x.1 x.2).length) xs
theorem recsB_cons (x : Int × List UInt8) (xs : List (Int × List UInt8)) : recsB (x :: xs) = recB x.1 x.2 ++ recsB xs := by simp [recsB]
theorem recsB_snoc (xs : List (Int × List UInt8)) (x : Int × List UInt8) : recsB (xs ++ [x]) = recsB xs ++ recB x.1 x.2 := by simp [recsB]
theorem recsB_app (xs ys : List (Int × List UInt8)) : recsB (xs ++ ys) = recsB xs ++ recsB ys := by simp [recsB]
theorem rcsOf_app (run : Nat) : ∀ (xs : List (Int × List UInt8)) (a : Nat) (ys : List (Int × List UInt8)), rcsOf run a (xs ++ ys) = rcsOf run a xs ++ rcsOf run (a + (recsB xs).length) ys
  | [], a, ys => by simp [rcsOf, recsB]
  | x :: xs, a, ys => by
    rw [List.cons_append, rcsOf, rcsOf, rcsOf_app run xs, recsB_cons, List.length_append, List.cons_append, Nat.add_assoc]
theorem rcsOf_len (run : Nat) : ∀ (xs : List (Int × List UInt8)) (a : Nat), (rcsOf run a xs).length = xs.length
  | [], a => rfl
  | x :: xs, a => by rw [rcsOf, List.length_cons, List.length_cons, rcsOf_len run xs]
theorem recB_len (k : Int) (u : List UInt8) : 2 ≤ (recB k u).length ∧ (recB k u).length = 1 + (putL u.length).length + u.length := by
  have : 0 < (putL u.length).length := by
    apply List.length_pos_iff.2
    show putF 9 u.length ≠ []
    unfold putF; split <;> simp
  unfold recB putT
  rw [List.length_cons, List.length_append]
  omega
theorem bAt_app (P Q : List UInt8) (j : Nat) : bAt (P ++ Q) (P.length + j) = bAt Q j := by
  unfold bAt
  rw [List.getD_eq_getElem?_getD, List.getD_eq_getElem?_getD, List.getElem?_append_right (by omega)]
  congr 2
  omega
theorem kindB {k : Int} (h : 1 ≤ k ∧ k ≤ 255) : (UInt8.ofNat (k % 256).toNat).toNat = k.toNat ∧ UInt8.ofNat (k % 256).toNat ≠ 0 := by
  have e : (UInt8.ofNat (k % 256).toNat).toNat = k.toNat := by rw [UInt8.toNat_ofNat']; omega
  refine ⟨e, fun h0 => ?_⟩
  rw [h0] at e
  have : (0 : UInt8).toNat = 0 := rfl
  omega
theorem getL_at (P Q : List UInt8) (h : 1 ≤ Q.length) : getL (P ++ Q) ((P.length : Int) + 1) = if (getR (Q.drop 1) 0 0).2.2 = 0 then ((getR (Q.drop 1) 0 0).1, P.length + 1 + (getR (Q.drop 1) 0 0).2.1, 0) else (0, 0, (getR (Q.drop 1) 0 0).2.2) := by
  unfold getL
  rw [if_neg (by omega), if_neg (by rw [List.length_append]; omega)]
  have e : ((P.length : Int) + 1).toNat = P.length + 1 := by omega
  have e2 : (P ++ Q).drop (P.length + 1) = Q.drop 1 := by
    rw [List.drop_append, List.drop_of_length_le (by omega), List.nil_append]
    congr 1
    omega
  simp only [e, e2]
/-- a whole record is read -/
theorem take_whole (run : Nat) (P R : List UInt8) {x : Int × List UInt8} (hx : okX x) : takeL run (P ++ (recB x.1 x.2 ++ R)) P.length = some (⟨(run * 16777216 + P.length : Nat), x.1, x.2⟩, P.length + (recB x.1 x.2).length) := by
  obtain ⟨h1, h2, h3⟩ := hx
  obtain ⟨k1, k2⟩ := kindB ⟨h1, h2⟩
  obtain ⟨l1, l2⟩ := recB_len x.1 x.2
  have eb : bAt (P ++ (recB x.1 x.2 ++ R)) P.length = UInt8.ofNat (x.1 % 256).toNat := by
    have := bAt_app P (recB x.1 x.2 ++ R) 0
    rw [Nat.add_zero] at this
    rw [this]; rfl
  have ed : (recB x.1 x.2 ++ R).drop 1 = putL x.2.length ++ (x.2 ++ R) := by
    unfold recB putT; simp
  have eg : getL (P ++ (recB x.1 x.2 ++ R)) ((P.length : Int) + 1) = (x.2.length, P.length + 1 + (putL x.2.length).length, 0) := by
    rw [getL_at P _ (by rw [List.length_append]; omega), ed, getR_putL _ (by omega)]
    rfl
  have et : textL (P ++ (recB x.1 x.2 ++ R)) ((P.length : Int) + 1) 1200 = (x.2, P.length + (recB x.1 x.2).length, 0) := by
    unfold textL
    rw [eg]
    simp only
    rw [if_neg (by simp), if_neg (by omega), if_neg (by rw [List.length_append, List.length_append]; omega)]
    have : (P ++ (recB x.1 x.2 ++ R)).drop (P.length + 1 + (putL x.2.length).length) = x.2 ++ R := by
      rw [List.drop_append, List.drop_of_length_le (by omega), List.nil_append, show P.length + 1 + (putL x.2.length).length - P.length = 1 + (putL x.2.length).length by omega, ← List.drop_drop, ed, List.drop_left]
    rw [this, List.take_left, l2]
    congr 2
    omega
  unfold takeL
  rw [if_pos (by rw [List.length_append, List.length_append]; omega), eb, if_neg k2, et]
  simp only [if_true, k1]
  congr 3
  omega
/-- a record that is cut off is none -/
theorem take_cut (run : Nat) (P : List UInt8) {x : Int × List UInt8} (hx : okX x) {j : Nat} (hj : j < (recB x.1 x.2).length) : takeL run (P ++ (recB x.1 x.2).take j) P.length = none := by
  obtain ⟨h1, h2, h3⟩ := hx
  obtain ⟨k1, k2⟩ := kindB ⟨h1, h2⟩
  obtain ⟨l1, l2⟩ := recB_len x.1 x.2
  unfold takeL
  by_cases h0 : j = 0
  · subst h0; rw [if_neg (by simp)]
  have ht : ((recB x.1 x.2).take j).length = j := by rw [List.length_take]; omega
  rw [if_pos (by rw [List.length_append, ht]; omega)]
  have eb : bAt (P ++ (recB x.1 x.2).take j) P.length = UInt8.ofNat (x.1 % 256).toNat := by
    have := bAt_app P ((recB x.1 x.2).take j) 0
    rw [Nat.add_zero] at this
    rw [this]
    obtain ⟨j', rfl⟩ : ∃ j', j = j' + 1 := ⟨j - 1, by omega⟩
    rfl
  rw [eb, if_neg k2]
  have ed : ((recB x.1 x.2).take j).drop 1 = (putL x.2.length ++ x.2).take (j - 1) := by
    obtain ⟨j', rfl⟩ : ∃ j', j = j' + 1 := ⟨j - 1, by omega⟩
    unfold recB putT; simp
  have eg := getL_at P ((recB x.1 x.2).take j) (by omega)
  rw [ed] at eg
  rw [if_neg]
  unfold textL
  by_cases hc : j - 1 < (putL x.2.length).length
  · rw [List.take_append, show j - 1 - (putL x.2.length).length = 0 by omega, List.take_zero, List.append_nil] at eg
    have := getR_cut 9 x.2.length 0 0 (j - 1) (by omega) hc
    have this' : (getR ((putL x.2.length).take (j - 1)) 0 0).2.2 = 2 := this
    rw [if_neg (by rw [this']; decide), this'] at eg
    rw [eg]
    simp
  · have e3 : (putL x.2.length ++ x.2).take (j - 1) = putL x.2.length ++ x.2.take (j - 1 - (putL x.2.length).length) := by
      rw [List.take_append, List.take_of_length_le (l := putL x.2.length) (by omega)]
    rw [e3, getR_putL _ (by omega), if_pos rfl] at eg
    rw [eg]
    simp only
    rw [if_neg (by simp), if_neg (by omega), if_pos (by rw [List.length_append, ht]; omega)]
    simp
/-- the stream's records, wherever it is cut off -/
theorem recsL_pre (run : Nat) : ∀ (xs : List (Int × List UInt8)) (P : List UInt8) (t k : Nat), (∀ x ∈ xs, okX x) → (P ++ (recsB xs).take t).length - P.length < k →
    ∃ j, j ≤ xs.length ∧ recsL run (P ++ (recsB xs).take t) k P.length = (rcsOf run P.length (xs.take j), P.length + (recsB (xs.take j)).length) ∧ (recsB (xs.take j)).length ≤ t ∧ (j = xs.length ∨ t < (recsB (xs.take (j + 1))).length) := by
  intro xs
  induction xs with
  | nil =>
    intro P t k hx hk
    refine ⟨0, Nat.le_refl _, ?_, Nat.zero_le _, .inl rfl⟩
    cases k with
    | zero => omega
    | succ k =>
      unfold recsL takeL
      rw [if_neg (by simp [recsB])]
      rfl
  | cons x xs ih =>
    intro P t k hx hk
    have hxx := hx x (List.mem_cons_self)
    obtain ⟨k, rfl⟩ : ∃ k', k = k' + 1 := ⟨k - 1, by omega⟩
    rw [recsB_cons] at hk ⊢
    by_cases ht : (recB x.1 x.2).length ≤ t
    · have e1 : (recB x.1 x.2 ++ recsB xs).take t = recB x.1 x.2 ++ (recsB xs).take (t - (recB x.1 x.2).length) := by
        rw [List.take_append, List.take_of_length_le ht]
      rw [e1] at hk ⊢
      have e2 : P ++ (recB x.1 x.2 ++ (recsB xs).take (t - (recB x.1 x.2).length)) = (P ++ recB x.1 x.2) ++ (recsB xs).take (t - (recB x.1 x.2).length) := by rw [List.append_assoc]
      have l1 := (recB_len x.1 x.2).1
      obtain ⟨j, q1, q2, q3, q4⟩ := ih (P ++ recB x.1 x.2) (t - (recB x.1 x.2).length) k (fun y hy => hx y (List.mem_cons_of_mem _ hy)) (by
        rw [← e2]
        rw [List.length_append, List.length_append] at hk ⊢
        rw [List.length_append]
        omega)
      refine ⟨j + 1, by rw [List.length_cons]; omega, ?_, ?_, ?_⟩
      · unfold recsL
        rw [take_whole run P _ hxx]
        simp only
        rw [e2]
        rw [List.length_append] at q2
        rw [q2, List.take_succ_cons, rcsOf, recsB_cons, List.length_append, Nat.add_assoc]
      · rw [List.take_succ_cons, recsB_cons, List.length_append]; omega
      · rcases q4 with q4 | q4
        · exact .inl (by rw [List.length_cons]; omega)
        · refine .inr ?_
          rw [List.take_succ_cons, recsB_cons, List.length_append]; omega
    · refine ⟨0, Nat.zero_le _, ?_, Nat.zero_le _, .inr ?_⟩
      · have e1 : (recB x.1 x.2 ++ recsB xs).take t = (recB x.1 x.2).take t := by
          rw [List.take_append, show t - (recB x.1 x.2).length = 0 by omega, List.take_zero, List.append_nil]
        rw [e1]
        unfold recsL
        rw [take_cut run P hxx (by omega)]
        rfl
      · rw [List.take_succ_cons, recsB_cons, List.length_append]; omega
end Go.Proofs.YtpokaafedpnbdaaDoor.Rd

/-! Plain laws of the log: a sector made is read again, what Open makes of an image, what the disk's calls do to what its sectors hold. Conditions: none. -/
namespace Go.Proofs.YtpokaafedpnbdaaDoor.Rd
open Go.Dn Go.RowKit Go.Shelf
set_option linter.unusedVariables false
set_option linter.unusedSimpArgs false
set_option maxRecDepth 100000
theorem valS_cons (b : UInt8) (l : List UInt8) : valS (l ++ [b]) = valS l * 256 + b.toNat := valS_snoc l b
theorem valS_le8 (r : Nat) (h : r ≤ 274877906944) : valS (le8 r).reverse = r := by
  have e : (le8 r).reverse = [UInt8.ofNat (r / 72057594037927936), UInt8.ofNat (r / 281474976710656), UInt8.ofNat (r / 1099511627776), UInt8.ofNat (r / 4294967296), UInt8.ofNat (r / 16777216), UInt8.ofNat (r / 65536), UInt8.ofNat (r / 256), UInt8.ofNat r] := rfl
  rw [e]
  unfold valS
  simp only [List.foldl_cons, List.foldl_nil, UInt8.toNat_ofNat']
  omega
theorem openL_seal (p : List UInt8) : openL (sealL p) = (p, true) := by
  unfold openL sealL
  have h4 : (le4 (crcSum p)).length = 4 := rfl
  rw [if_pos (by rw [List.length_append, h4]; omega), List.drop_left' h4, List.take_left' h4, if_pos rfl]
theorem parse_build {r : Nat} {u : List UInt8} (h1 : 1 ≤ r) (h2 : r ≤ 274877906944) (hu : u.length ≤ 498) : parseL (buildL r u) = (r, u, true) := by
  have ho : openL (buildL r u) = (payB r u, true) := openL_seal _
  have hd : (buildL r u).drop 4 = payB r u := List.drop_left' (by rfl)
  unfold parseL
  rw [ho, if_pos rfl, hd]
  have h8 : (payB r u).take 8 = le8 r := by
    unfold payB
    rw [List.append_assoc, List.append_assoc]
    exact List.take_left' rfl
  rw [h8, valS_le8 r h2]
  have h10 : (payB r u).drop 10 = u ++ List.replicate (498 - u.length) 0 := by
    unfold payB
    rw [List.append_assoc]
    exact List.drop_left' rfl
  have hb : lenP (payB r u) = u.length := by
    unfold lenP
    have b8 : bAt (payB r u) 8 = UInt8.ofNat u.length := by
      unfold payB; rw [List.append_assoc, List.append_assoc]; exact bAt_app (le8 r) _ 0
    have b9 : bAt (payB r u) 9 = UInt8.ofNat (u.length / 256) := by
      unfold payB; rw [List.append_assoc, List.append_assoc]; exact bAt_app (le8 r) _ 1
    rw [b8, b9, UInt8.toNat_ofNat', UInt8.toNat_ofNat']
    omega
  unfold restP
  rw [if_neg (by rw [hb]; omega), hb, h10, List.take_left, ← List.drop_drop, h10, List.drop_left]
  congr 2
  rw [List.all_eq_true]
  intro b hb
  rw [List.eq_of_mem_replicate hb]; rfl
theorem parse_zero : parseL (List.replicate 512 0) = (0, [], false) := by
  unfold parseL
  split
  · have : valS (((List.replicate 512 (0 : UInt8)).drop 4).take 8).reverse = 0 := by
      rw [List.drop_replicate, List.take_replicate, List.reverse_replicate]; rfl
    unfold restP
    rw [this, if_pos (.inl (by decide))]
  · rfl
theorem ldRun_zero : ldRun (List.replicate 512 0) = 0 := by unfold ldRun; rw [parse_zero]; rfl
theorem ldRun_build {r : Nat} {u : List UInt8} (h1 : 1 ≤ r) (h2 : r ≤ 274877906944) (hu : u.length ≤ 498) : ldRun (buildL r u) = r := by unfold ldRun; rw [parse_build h1 h2 hu]; rfl
theorem secU_len (S : List UInt8) (i : Nat) : (secU S i).length = min 498 (S.length - i * 498) := by unfold secU; rw [List.length_take, List.length_drop]
/-- the greatest run in the sectors -/
def mostF (f : Nat → List UInt8) : Nat → Nat
  | 0 => 0
  | n + 1 => max (mostF f n) (ldRun (f n))
theorem loadL_most (f : Nat → List UInt8) : ∀ n, (loadL f n).most = mostF f n
  | 0 => rfl
  | n + 1 => by show max (loadL f n).most (ldRun (f n)) = _; rw [loadL_most f n]; rfl
/-- sectors that hold a stream of a run -/
structure Img (f : Nat → List UInt8) (count run : Nat) (S : List UInt8) : Prop where
  r1 : 1 ≤ run
  r2 : run ≤ 274877906944
  sl : S.length ≤ count * 498
  has : ∀ i, i < count → (i = 0 ∨ i * 498 < S.length) → f i = buildL run (secU S i)
  end_ : ∀ i, i < count → i ≠ 0 → i * 498 = S.length → ldRun (f i) ≠ run
theorem load_img {f : Nat → List UInt8} {count run : Nat} {S : List UInt8} (h : Img f count run S) : ∀ n, n ≤ count → (1 ≤ n → (loadL f n).run = run) ∧ (loadL f n).stream = S.take (n * 498) ∧ ((loadL f n).op = true ↔ n * 498 ≤ S.length)
  | 0, _ => ⟨fun h => absurd h (by decide), by simp [loadL], by simp [loadL]⟩
  | n + 1, hn => by
    obtain ⟨i1, i2, i3⟩ := load_img h n (by omega)
    have hr0 : n = 0 ∨ 1 ≤ n := by omega
    have hru : (loadL f (n + 1)).run = if n = 0 then ldRun (f n) else (loadL f n).run := rfl
    have hs : (loadL f (n + 1)).stream = if ((loadL f n).op && ((parseL (f n)).2.2 && (ldRun (f n) == if n = 0 then ldRun (f n) else (loadL f n).run))) = true then (loadL f n).stream ++ (parseL (f n)).2.1 else (loadL f n).stream := rfl
    have ho : (loadL f (n + 1)).op = (((loadL f n).op && ((parseL (f n)).2.2 && (ldRun (f n) == if n = 0 then ldRun (f n) else (loadL f n).run))) && ((parseL (f n)).2.1.length == 498)) := rfl
    have hul := secU_len S n
    by_cases hb : n = 0 ∨ n * 498 < S.length
    · have hf := h.has n (by omega) hb
      have hp : parseL (f n) = (run, secU S n, true) := by rw [hf]; exact parse_build h.r1 h.r2 (by rw [hul]; omega)
      have hld : ldRun (f n) = run := by rw [hf]; exact ldRun_build h.r1 h.r2 (by rw [hul]; omega)
      have hrun : (if n = 0 then ldRun (f n) else (loadL f n).run) = run := by
        split
        · exact hld
        · rcases hr0 with q | q
          · omega
          · exact i1 q
      have hop : (loadL f n).op = true := i3.2 (by rcases hb with q | q <;> omega)
      rw [hrun] at hru
      rw [hrun, hp, hld, hop] at hs ho
      refine ⟨fun _ => hru, ?_, ?_⟩
      · rw [hs]
        simp only [Bool.true_and, beq_self_eq_true, Bool.and_self, if_true]
        rw [i2]
        unfold secU
        rw [show (n + 1) * 498 = n * 498 + 498 by omega, List.take_add]
      · rw [ho]
        simp only [Bool.true_and, beq_self_eq_true, Bool.and_self, beq_iff_eq]
        rw [hul]
        omega
    · have hn0 : n ≠ 0 := fun q => hb (.inl q)
      have hge : S.length ≤ n * 498 := by omega
      have hnot : ((loadL f n).op && ((parseL (f n)).2.2 && (ldRun (f n) == if n = 0 then ldRun (f n) else (loadL f n).run))) = false := by
        by_cases hop : (loadL f n).op = true
        · have heq : n * 498 = S.length := by have := i3.1 hop; omega
          have := h.end_ n (by omega) hn0 heq
          rw [if_neg hn0, i1 (by omega)]
          have : (ldRun (f n) == run) = false := by simpa using this
          rw [this]; simp
        · have : (loadL f n).op = false := by simpa using hop
          rw [this]; rfl
      rw [hnot] at hs ho
      rw [if_neg hn0] at hru
      refine ⟨fun _ => hru.trans (i1 (by omega)), ?_, ?_⟩
      · rw [hs, if_neg (by decide), i2, List.take_of_length_le (by omega), List.take_of_length_le (by omega)]
      · rw [ho]
        simp only [Bool.false_and, Bool.false_eq_true, false_iff]
        omega
theorem Img.load {f : Nat → List UInt8} {count run : Nat} {S : List UInt8} (h : Img f count run S) (hc : 1 ≤ count) : (loadL f count).run = run ∧ (loadL f count).stream = S ∧ (loadL f count).most = mostF f count := by
  obtain ⟨h1, h2, _⟩ := load_img h count (Nat.le_refl _)
  exact ⟨h1 hc, by rw [h2, List.take_of_length_le h.sl], loadL_most f count⟩
/-! ### the disk -/
/-- what a sector holds safely -/
def sB (d : Dk) (i : Nat) : List UInt8 := unI (d.safe.getD i z0).1
theorem hasS_put (d : Dk) (i j : Int) (s : Sec) : hasS { d with pend := putK d.pend i s } j = if i = j then s else hasS d j := by
  unfold hasS
  show (lk (putK d.pend i s) j).getD _ = _
  rw [lk_putK]
  split <;> rfl
theorem unI_secOf {b : List UInt8} (h : b.length = 512) : unI (secOf (toI b)).1 = b := by
  unfold secOf
  simp only
  rw [List.take_of_length_le (by rw [List.length_append, List.length_replicate, toI_len]; omega), toI_len, h, Nat.sub_self]
  rw [List.replicate_zero, List.append_nil, unI_toI]
theorem hB_put (d : Dk) (i j : Int) {b : List UInt8} (h : b.length = 512) : hB (putD i (toI b) d) j = if i = j then b else hB d j := by
  unfold hB putD
  rw [hasS_put]
  split
  · exact unI_secOf h
  · rfl
theorem hB_sync (d : Dk) (j : Nat) (h : j < d.safe.length) : hB (syncD d) (j : Int) = hB d (j : Int) ∧ sB (syncD d) j = hB d (j : Int) := by
  have e : (flushed d []).getD j z0 = hasS d (j : Int) := by
    rw [List.getD_eq_getElem?_getD, List.getElem?_eq_getElem (by rw [flushed_len]; exact h), Option.getD_some, flushed_get]
    rfl
  constructor
  · show unI ((none : Option Sec).getD ((flushed d []).getD ((j : Int)).toNat z0)).1 = _
    rw [Int.toNat_natCast, e]; rfl
  · show unI ((flushed d []).getD j z0).1 = _
    rw [e]; rfl
theorem hB_on (d : Dk) (ks : List Int) (j : Nat) (h : j < d.safe.length) : hB (onD d ks) (j : Int) = (if (j : Int) ∈ ks then hB d (j : Int) else sB d j) ∧ sB (onD d ks) j = hB (onD d ks) (j : Int) := by
  have e : (kept d ks).getD j z0 = if (j : Int) ∈ ks then hasS d (j : Int) else d.safe.getD j z0 := by
    rw [List.getD_eq_getElem?_getD, List.getElem?_eq_getElem (by rw [kept_len]; exact h), Option.getD_some]
    simp [kept]
  have e2 : hB (onD d ks) (j : Int) = unI ((kept d ks).getD j z0).1 := by
    show unI ((none : Option Sec).getD ((kept d ks).getD ((j : Int)).toNat z0)).1 = _
    rw [Int.toNat_natCast]; rfl
  constructor
  · rw [e2, e]; split <;> rfl
  · rw [e2]; rfl
theorem BD.put {d : Dk} (h : BD d) (i : Int) (b : List UInt8) (hb : b.length = 512) : BD (putD i (toI b) d) := by
  refine ⟨h.s, fun p hp => ?_⟩
  have hs : bySec (secOf (toI b)) := by
    intro x hx
    unfold secOf at hx
    simp only at hx
    have := List.mem_of_mem_take hx
    rw [List.mem_append] at this
    rcases this with q | q
    · exact toI_by b x q
    · have := List.eq_of_mem_replicate q; omega
  have hp' : p ∈ putK d.pend i (secOf (toI b)) := hp
  unfold putK at hp'
  split at hp'
  · obtain ⟨q, hq, rfl⟩ := List.mem_map.1 hp'
    split
    · exact hs
    · exact h.p q hq
  · rcases List.mem_append.1 hp' with q | q
    · exact h.p p q
    · rw [List.mem_singleton] at q; subst q; exact hs
theorem BD.sync {d : Dk} (h : BD d) : BD (syncD d) := by
  refine ⟨fun s hs => ?_, fun p hp => by cases hp⟩
  have hs' : s ∈ flushed d [] := hs
  unfold flushed at hs'
  obtain ⟨i, _, rfl⟩ := List.mem_map.1 hs'
  exact h.has _
theorem BD.on {d : Dk} (h : BD d) (ks : List Int) : BD (onD d ks) := by
  refine ⟨fun s hs => ?_, fun p hp => by cases hp⟩
  have hs' : s ∈ kept d ks := hs
  unfold kept at hs'
  obtain ⟨i, hi, rfl⟩ := List.mem_map.1 hs'
  split
  · exact h.has _
  · rw [List.getD_eq_getElem?_getD, List.getElem?_eq_getElem (by simpa using hi)]
    exact h.s _ (List.getElem_mem _)
theorem BD.steps {d : Dk} (h : BD d) (s : Int) : BD { d with steps := s } := ⟨h.s, h.p⟩
theorem BD.step {d : Dk} (h : BD d) {act : Dk → Dk} (ha : ∀ d, BD d → BD (act d)) : BD (stepD d act) := by
  unfold stepD
  simp only
  split
  · exact ⟨h.s, h.p⟩
  split
  · exact ⟨h.s, h.p⟩
  split
  · have := ha _ (h.steps (wrap64 (d.steps + 1)))
    exact ⟨this.s, this.p⟩
  · exact ha _ (h.steps _)
theorem BD.wr {d : Dk} (h : BD d) (i : Int) (b : List UInt8) (hb : b.length = 512) : BD (wrL d i b) := by
  unfold wrL wrD
  split
  · exact h
  split
  · exact h
  · exact h.step fun d hd => hd.put i b hb
theorem BD.sy {d : Dk} (h : BD d) : BD (syD d) := by
  unfold syD
  split
  · exact h
  · exact h.step fun d hd => hd.sync
theorem BD.new (n : Nat) : BD (newD n) := ⟨fun s hs => by rw [List.eq_of_mem_replicate hs]; exact z0_by, fun p hp => by cases hp⟩
end Go.Proofs.YtpokaafedpnbdaaDoor.Rd

/-! Plain laws of the log: what holds between its calls, whatever the disk refuses or loses. Conditions: none. -/
namespace Go.Proofs.YtpokaafedpnbdaaDoor.Rd
open Go.Dn Go.RowKit Go.Shelf
set_option linter.unusedVariables false
set_option linter.unusedSimpArgs false
set_option maxRecDepth 100000
/-- a sector's bytes, as a log of this run may have left them -/
def Ok1 (c : List UInt8) (run : Nat) (S : List UInt8) (safe i : Nat) : Prop :=
  (∃ t, safe ≤ t ∧ t ≤ S.length ∧ (i = 0 ∨ i * 498 < t) ∧ c = buildL run (secU (S.take t) i)) ∨ (i ≠ 0 ∧ safe ≤ i * 498 ∧ ldRun c ≠ run)
theorem secU_le (S : List UInt8) (i : Nat) : (secU S i).length ≤ 498 := by rw [secU_len]; omega
theorem load_pre {f : Nat → List UInt8} {count run safe : Nat} {S : List UInt8} (h1 : 1 ≤ run) (h2 : run ≤ 274877906944) (hs : S.length ≤ count * 498) (hsf : safe ≤ S.length) (h : ∀ i, i < count → Ok1 (f i) run S safe i) : ∀ n, n ≤ count → (1 ≤ n → (loadL f n).run = run) ∧
    (((loadL f n).op = true ∧ (loadL f n).stream = S.take (n * 498) ∧ n * 498 ≤ S.length) ∨ ((loadL f n).op = false ∧ ∃ q, safe ≤ q ∧ q ≤ S.length ∧ (loadL f n).stream = S.take q))
  | 0, _ => ⟨fun h => absurd h (by decide), .inl ⟨rfl, by simp [loadL], by simp⟩⟩
  | n + 1, hn => by
    obtain ⟨i1, i2⟩ := load_pre h1 h2 hs hsf h n (by omega)
    have hru : (loadL f (n + 1)).run = if n = 0 then ldRun (f n) else (loadL f n).run := rfl
    have hst : (loadL f (n + 1)).stream = if ((loadL f n).op && ((parseL (f n)).2.2 && (ldRun (f n) == if n = 0 then ldRun (f n) else (loadL f n).run))) = true then (loadL f n).stream ++ (parseL (f n)).2.1 else (loadL f n).stream := rfl
    have ho : (loadL f (n + 1)).op = (((loadL f n).op && ((parseL (f n)).2.2 && (ldRun (f n) == if n = 0 then ldRun (f n) else (loadL f n).run))) && ((parseL (f n)).2.1.length == 498)) := rfl
    rcases h n (by omega) with ⟨t, t1, t2, t3, hc⟩ | ⟨hn0, hsn, hne⟩
    · have hp : parseL (f n) = (run, secU (S.take t) n, true) := by rw [hc]; exact parse_build h1 h2 (secU_le _ _)
      have hld : ldRun (f n) = run := by rw [hc]; exact ldRun_build h1 h2 (secU_le _ _)
      have hrun : (if n = 0 then ldRun (f n) else (loadL f n).run) = run := by
        split
        · exact hld
        · exact i1 (by omega)
      rw [hrun] at hru hst ho
      rw [hp, hld] at hst ho
      refine ⟨fun _ => hru, ?_⟩
      rcases i2 with ⟨o1, o2, o3⟩ | ⟨o1, q, q1, q2, q3⟩
      · rw [o1] at hst ho
        simp only [Bool.true_and, beq_self_eq_true, Bool.and_self, if_true] at hst ho
        have hul : (secU (S.take t) n).length = min 498 (t - n * 498) := by rw [secU_len, List.length_take]; congr 2; omega
        have hcat : (loadL f n).stream ++ secU (S.take t) n = S.take (min t (n * 498 + 498)) := by
          rw [o2]
          unfold secU
          have e1 : S.take (n * 498) = (S.take t).take (n * 498) := by
            rw [List.take_take]; congr 1
            rcases t3 with t3 | t3
            · subst t3; simp
            · omega
          rw [e1, ← List.take_add, List.take_take]
          congr 1; omega
        rw [hcat] at hst
        by_cases hf : (n + 1) * 498 ≤ t
        · refine .inl ⟨?_, ?_, by omega⟩
          · rw [ho, hul]; simp; omega
          · rw [hst]; congr 1; omega
        · refine .inr ⟨?_, t, t1, t2, ?_⟩
          · rw [ho, hul]; simp; omega
          · rw [hst]; congr 1; omega
      · rw [o1] at hst ho
        simp only [Bool.false_and, Bool.false_eq_true, if_false] at hst ho
        exact .inr ⟨ho, q, q1, q2, by rw [hst]; exact q3⟩
    · rw [if_neg hn0] at hru
      refine ⟨fun _ => hru.trans (i1 (by omega)), ?_⟩
      have : ((loadL f n).op && ((parseL (f n)).2.2 && (ldRun (f n) == if n = 0 then ldRun (f n) else (loadL f n).run))) = false := by
        rw [if_neg hn0, i1 (by omega)]
        have : (ldRun (f n) == run) = false := by simpa using hne
        rw [this]; simp
      rw [this] at hst ho
      simp only [Bool.false_and, Bool.false_eq_true, if_false] at hst ho
      rcases i2 with ⟨o1, o2, o3⟩ | ⟨o1, q, q1, q2, q3⟩
      · exact .inr ⟨ho, n * 498, hsn, o3, by rw [hst]; exact o2⟩
      · exact .inr ⟨ho, q, q1, q2, by rw [hst]; exact q3⟩
theorem load_got {f : Nat → List UInt8} {count run safe : Nat} {S : List UInt8} (h1 : 1 ≤ run) (h2 : run ≤ 274877906944) (hs : S.length ≤ count * 498) (hsf : safe ≤ S.length) (hc : 1 ≤ count) (h : ∀ i, i < count → Ok1 (f i) run S safe i) :
    (loadL f count).run = run ∧ ∃ p, safe ≤ p ∧ p ≤ S.length ∧ (loadL f count).stream = S.take p := by
  obtain ⟨i1, i2⟩ := load_pre h1 h2 hs hsf h count (Nat.le_refl _)
  refine ⟨i1 hc, ?_⟩
  rcases i2 with ⟨_, o2, o3⟩ | ⟨_, q⟩
  · exact ⟨count * 498, by omega, o3, o2⟩
  · exact q
theorem mostF_ge (f : Nat → List UInt8) : ∀ n i, i < n → ldRun (f i) ≤ mostF f n
  | 0, i, h => absurd h (Nat.not_lt_zero _)
  | n + 1, i, h => by
    show _ ≤ max (mostF f n) (ldRun (f n))
    by_cases e : i = n
    · subst e; omega
    · have := mostF_ge f n i (by omega); omega
theorem mostF_le (f : Nat → List UInt8) (M : Nat) : ∀ n, (∀ i, i < n → ldRun (f i) ≤ M) → mostF f n ≤ M
  | 0, h => Nat.zero_le _
  | n + 1, h => by
    show max (mostF f n) (ldRun (f n)) ≤ M
    have := mostF_le f M n fun i hi => h i (by omega)
    have := h n (by omega)
    omega
/-- what a sector holds, or holds safely -/
def two (d : Dk) (i : Nat) (c : List UInt8) : Prop := c = hB d (i : Int) ∨ c = sB d i
/-- what holds between a log's calls -/
structure Cr (d : Dk) (l : Lg) (xs : List (Int × List UInt8)) (mb : Bool) : Prop where
  bd : BD d
  sz : l.first + l.count ≤ d.safe.length
  lg : LgS l
  st : l.stream = recsB xs
  rc : l.recs = rcsOf l.run 0 xs
  ok : ∀ x ∈ xs, okX x
  r1 : 1 ≤ l.run
  rm : l.run ≤ l.most
  fit : l.stream.length ≤ l.count * 498
  sec : ∀ i, i < l.count → ∀ c, two d (l.first + i) c → (mb = true ∧ i = 0 ∧ l.most < 274877906944 ∧ c = buildL (l.most + 1) []) ∨ ((l.old = false → Ok1 c l.run l.stream l.safe i) ∧ ldRun c ≤ l.most)
  sf : ∃ k, k ≤ xs.length ∧ l.safe = (recsB (xs.take k)).length
  dd : mb = true → l.dead = true ∧ l.old = false
  od : l.old = true → l.safe = l.stream.length
/-- opened: the log and its records -/
theorem open_got {d : Dk} {first count run safe : Nat} {xs : List (Int × List UInt8)} (h1 : 1 ≤ run) (h2 : run ≤ 274877906944) (hc : 1 ≤ count) (hfit : (recsB xs).length ≤ count * 498) (hx : ∀ x ∈ xs, okX x) (hsf : ∃ k, k ≤ xs.length ∧ safe = (recsB (xs.take k)).length) (h : ∀ i, i < count → Ok1 (secF d first i) run (recsB xs) safe i) :
    ∃ j, (∀ k, k ≤ xs.length → safe = (recsB (xs.take k)).length → k ≤ j) ∧ j ≤ xs.length ∧ openLg d first count = ⟨first, count, run, mostF (secF d first) count, recsB (xs.take j), (recsB (xs.take j)).length, rcsOf run 0 (xs.take j), true, false⟩ := by
  have hpre : ∀ k, (recsB (xs.take k)).length ≤ (recsB xs).length := fun k => by
    have := recsB_app (xs.take k) (xs.drop k)
    rw [List.take_append_drop] at this
    rw [this, List.length_append]; omega
  have hsl : safe ≤ (recsB xs).length := by obtain ⟨k, _, e⟩ := hsf; rw [e]; exact hpre k
  obtain ⟨g1, p, p1, p2, g2⟩ := load_got h1 h2 hfit hsl hc h
  obtain ⟨j, j1, j2, j3, j4⟩ := recsL_pre run xs [] p ((recsB xs).take p |>.length.succ) hx (by simp)
  rw [List.nil_append] at j2
  have j2' : recsL run ((recsB xs).take p) (((recsB xs).take p).length + 1) 0 = (rcsOf run 0 (xs.take j), (recsB (xs.take j)).length) := by
    have := j2
    simp only [List.length_nil, Nat.zero_add] at this
    exact this
  refine ⟨j, fun k hk e => ?_, j1, ?_⟩
  · rcases j4 with j4 | j4
    · omega
    · apply Classical.byContradiction
      intro hlt
      have hm : ∀ a b, a ≤ b → (recsB (xs.take a)).length ≤ (recsB (xs.take b)).length := fun a b hab => by
        have e1 : xs.take a = (xs.take b).take a := by rw [List.take_take]; congr 1; omega
        have := recsB_app ((xs.take b).take a) ((xs.take b).drop a)
        rw [List.take_append_drop] at this
        rw [e1, this, List.length_append]; omega
      have := hm (j + 1) k (by omega)
      omega
  · unfold openLg
    rw [loadL_most, g1, g2, j2']
    simp only
    congr 1
    have e : recsB xs = recsB (xs.take j) ++ recsB (xs.drop j) := by rw [← recsB_app, List.take_append_drop]
    rw [List.take_take, e, List.take_append_of_le_length (by omega), List.take_of_length_le (by omega)]
end Go.Proofs.YtpokaafedpnbdaaDoor.Rd

/-! Plain laws of the log: its calls keep what holds between them. Conditions: none. -/
namespace Go.Proofs.YtpokaafedpnbdaaDoor.Rd
open Go.Dn Go.RowKit Go.Shelf
set_option linter.unusedVariables false
set_option linter.unusedSimpArgs false
set_option maxRecDepth 100000
section
variable {d : Dk} {l : Lg} {xs : List (Int × List UInt8)} {mb : Bool}
theorem step_two {act : Dk → Dk} (d : Dk) {P : Dk → Prop} (h0 : ∀ s o, P { d with steps := s, off := o }) (h1 : ∀ s o, P { act { d with steps := s } with off := o }) (h2 : ∀ s, P (act { d with steps := s })) : P (stepD d act) := by
  unfold stepD
  simp only
  split
  · exact h0 _ d.off
  split
  · exact h0 _ _
  split
  · exact h1 _ _
  · exact h2 _
theorem two_wr {i j : Nat} {b c : List UInt8} (hb : b.length = 512) (h : two (wrL d (i : Int) b) j c) : two d j c ∨ (i = j ∧ c = b) := by
  have put : ∀ d' : Dk, d'.safe = d.safe → d'.pend = d.pend → ∀ d2 : Dk, d2.safe = (putD (i : Int) (toI b) d').safe → d2.pend = (putD (i : Int) (toI b) d').pend → two d2 j c → two d j c ∨ (i = j ∧ c = b) := fun d' e1 e2 d2 e3 e4 h => by
    have eh : hB d2 (j : Int) = hB (putD (i : Int) (toI b) d') (j : Int) := by unfold hB hasS; rw [e3, e4]
    have es : sB d2 j = sB d j := by unfold sB; rw [e3]; show unI (d'.safe.getD j z0).1 = _; rw [e1]
    rcases h with h | h
    · rw [eh, hB_put _ _ _ hb] at h
      split at h
      · exact .inr ⟨by omega, h⟩
      · refine .inl (.inl ?_)
        rw [h]; unfold hB hasS; rw [e1, e2]
    · exact .inl (.inr (by rw [← es]; exact h))
  unfold wrL wrD at h
  split at h
  · exact .inl h
  split at h
  · exact .inl h
  · revert h
    refine step_two (P := fun d2 => two d2 j c → _) d (fun s o h => .inl h) (fun s o => put { d with steps := s } rfl rfl _ rfl rfl) (fun s => put { d with steps := s } rfl rfl _ rfl rfl)
theorem two_sy {j : Nat} {c : List UInt8} (hj : j < d.safe.length) (h : two (syD d) j c) : two d j c := by
  have sy : ∀ s, ∀ d2 : Dk, d2.safe = (syncD { d with steps := s }).safe → d2.pend = (syncD { d with steps := s }).pend → two d2 j c → two d j c := fun s d2 e1 e2 h => by
    obtain ⟨q1, q2⟩ := hB_sync { d with steps := s } j hj
    have eh : hB d2 (j : Int) = hB d (j : Int) := by
      have : hB d2 (j : Int) = hB (syncD { d with steps := s }) (j : Int) := by unfold hB hasS; rw [e1, e2]
      rw [this, q1]; rfl
    have es : sB d2 j = hB d (j : Int) := by
      have : sB d2 j = sB (syncD { d with steps := s }) j := by unfold sB; rw [e1]
      rw [this, q2]; rfl
    rcases h with h | h
    · exact .inl (h.trans eh)
    · exact .inl (h.trans es)
  unfold syD at h
  split at h
  · exact h
  · revert h
    exact step_two (P := fun d2 => two d2 j c → _) d (fun s o h => h) (fun s o => sy s _ rfl rfl) (fun s => sy s _ rfl rfl)
theorem stepC_0 {d : Dk} {act : Dk → Dk} (h : stepC d = 0) : stepD d act = act { d with steps := wrap64 (d.steps + 1) } := by
  unfold stepC at h
  simp only at h
  unfold stepD
  simp only
  split at h
  · cases h
  rename_i h1
  split at h
  · cases h
  rename_i h2
  split at h
  · cases h
  rename_i h3
  rw [if_neg h1, if_neg h2, if_neg h3]
theorem wr_ok {i : Nat} {b : List UInt8} (hb : b.length = 512) (h : wcL d (i : Int) b = 0) : ∀ j : Nat, hB (wrL d (i : Int) b) (j : Int) = if i = j then b else hB d (j : Int) := by
  intro j
  unfold wcL wrC at h
  unfold wrL wrD
  split at h
  · cases h
  rename_i h1
  split at h
  · cases h
  rename_i h2
  rw [if_neg h1, if_neg h2, stepC_0 h, hB_put _ _ _ hb]
  have : ((i : Int) = (j : Int)) = (i = j) := propext (by omega)
  simp only [this]
  rfl
theorem sy_ok {j : Nat} {c : List UInt8} (hj : j < d.safe.length) (h0 : syC d = 0) (h : two (syD d) j c) : c = hB d (j : Int) := by
  unfold syC at h0
  unfold syD at h
  split at h0
  · cases h0
  rename_i h1
  rw [if_neg h1, stepC_0 h0] at h
  obtain ⟨q1, q2⟩ := hB_sync { d with steps := wrap64 (d.steps + 1) } j hj
  rcases h with h | h
  · exact h.trans (q1.trans rfl)
  · exact h.trans (q2.trans rfl)
theorem wr_size (i : Int) (b : List UInt8) : (wrL d i b).safe.length = d.safe.length := by
  unfold wrL wrD
  split
  · rfl
  split
  · rfl
  · exact step_two (P := fun d2 => d2.safe.length = d.safe.length) d (fun _ _ => rfl) (fun _ _ => rfl) fun _ => rfl
theorem sy_size : (syD d).safe.length = d.safe.length := by
  unfold syD
  split
  · rfl
  · exact step_two (P := fun d2 => d2.safe.length = d.safe.length) d (fun _ _ => rfl) (fun s _ => flushed_len _ _) fun _ => flushed_len _ _
theorem on_size (ks : List Int) : (onD d ks).safe.length = d.safe.length := kept_len _ _
theorem two_on {ks : List Int} {j : Nat} {c : List UInt8} (hj : j < d.safe.length) (h : two (onD d ks) j c) : two d j c ∧ c = hB (onD d ks) (j : Int) := by
  obtain ⟨q1, q2⟩ := hB_on d ks j hj
  have e : c = hB (onD d ks) (j : Int) := h.elim id fun h => h.trans q2
  refine ⟨?_, e⟩
  rw [q1] at e
  split at e
  · exact .inl e
  · exact .inr e
/-! ### append -/
theorem Ok1.more {c S R : List UInt8} {run safe i : Nat} (h : Ok1 c run S safe i) : Ok1 c run (S ++ R) safe i := by
  rcases h with ⟨t, h1, h2, h3, h4⟩ | h
  · refine .inl ⟨t, h1, by rw [List.length_append]; omega, h3, ?_⟩
    rw [List.take_append_of_le_length h2]; exact h4
  · exact .inr h
theorem Cr.append (h : Cr d l xs mb) (kind : Int) (u : List UInt8) :
    ((appendL l kind u).2.2 = 0 ∧ Cr d (appendL l kind u).1 (xs ++ [(kind, u)]) mb ∧ okX (kind, u) ∧ (appendL l kind u).2.1 = (l.run * 16777216 + l.stream.length : Nat) ∧ (appendL l kind u).1 = addL l kind u) ∨ ((appendL l kind u).2.2 ≠ 0 ∧ (appendL l kind u).2.1 = 0 ∧ (appendL l kind u).1 = l) := by
  have hS := appendL_S h.lg kind u
  unfold appendL at hS ⊢
  split; · exact .inr ⟨(show (91 : Int) ≠ 0 by decide), rfl, rfl⟩
  split; · exact .inr ⟨(show (111 : Int) ≠ 0 by decide), rfl, rfl⟩
  split; · exact .inr ⟨(show (1 : Int) ≠ 0 by decide), rfl, rfl⟩
  split; · exact .inr ⟨(show (4 : Int) ≠ 0 by decide), rfl, rfl⟩
  split; · exact .inr ⟨(show (90 : Int) ≠ 0 by decide), rfl, rfl⟩
  rename_i h1 h2 h3 h4 h5
  rw [if_neg h1, if_neg h2, if_neg h3, if_neg h4, if_neg h5] at hS
  have hx : okX (kind, u) := ⟨by show 1 ≤ kind; omega, by show kind ≤ 255; omega, by show u.length ≤ 1200; omega⟩
  refine .inl ⟨rfl, ⟨h.bd, h.sz, hS, ?_, ?_, ?_, h.r1, h.rm, ?_, ?_, ?_, h.dd, ?_⟩, hx, rfl, rfl⟩
  · show l.stream ++ recB kind u = _
    rw [recsB_snoc, h.st]
  · show l.recs ++ [_] = _
    rw [rcsOf_app, h.rc]
    congr 1
    show [_] = [_]
    congr 1
    unfold endL
    rw [h.st]
    show Rc.mk _ _ _ = Rc.mk _ _ _
    congr 1
    show ((l.run * 16777216 + (recsB xs).length : Nat) : Int) = ((l.run * 16777216 + (0 + (recsB xs).length) : Nat) : Int)
    rw [Nat.zero_add]
  · intro x hxx
    rcases List.mem_append.1 hxx with q | q
    · exact h.ok x q
    · rw [List.mem_singleton] at q; subst q; exact hx
  · show (l.stream ++ recB kind u).length ≤ l.count * 498
    rw [List.length_append]; omega
  · intro i hi c hc
    rcases h.sec i hi c hc with q | ⟨q1, q2⟩
    · exact .inl q
    · exact .inr ⟨fun ho => (q1 ho).more, q2⟩
  · obtain ⟨k, k1, k2⟩ := h.sf
    refine ⟨k, by rw [List.length_append]; omega, ?_⟩
    show l.safe = _
    rw [List.take_append_of_le_length k1]; exact k2
  · intro ho
    exact absurd ho h2
/-! ### flush -/
theorem flushGo_two (hu : ∀ n, (buildL l.run (secU l.stream n)).length = 512) : ∀ (k i : Nat) (d : Dk) (n : Nat) (c : List UInt8), two (flushGo l k i d).1 (l.first + n) c → two d (l.first + n) c ∨ (c = buildL l.run (secU l.stream n) ∧ n * 498 < l.stream.length)
  | 0, i, d, n, c, h => .inl h
  | k + 1, i, d, n, c, h => by
    unfold flushGo at h
    split at h
    · rename_i hi
      split at h
      · rcases two_wr (hu i) h with q | ⟨q1, q2⟩
        · exact .inl q
        · have : i = n := by omega
          subst this
          exact .inr ⟨q2, hi⟩
      · rcases flushGo_two hu k (i + 1) _ n c h with q | q
        · rcases two_wr (hu i) q with q | ⟨q1, q2⟩
          · exact .inl q
          · have : i = n := by omega
            subst this
            exact .inr ⟨q2, hi⟩
        · exact .inr q
    · exact .inl h
theorem flushGo_done (hu : ∀ n, (buildL l.run (secU l.stream n)).length = 512) : ∀ (k i : Nat) (d : Dk), l.stream.length ≤ (k + i) * 498 → (flushGo l k i d).2 = 0 → ∀ n, hB (flushGo l k i d).1 ((l.first + n : Nat) : Int) = if i ≤ n ∧ n * 498 < l.stream.length then buildL l.run (secU l.stream n) else hB d ((l.first + n : Nat) : Int)
  | 0, i, d, hk, h0, n => by
    rw [if_neg]; · rfl
    rintro ⟨q1, q2⟩
    have : i * 498 ≤ n * 498 := Nat.mul_le_mul_right _ q1
    omega
  | k + 1, i, d, hk, h0, n => by
    unfold flushGo at h0 ⊢
    by_cases hi : i * 498 < l.stream.length
    · rw [if_pos hi] at h0 ⊢
      by_cases hc : wcL d ((l.first + i : Nat) : Int) (buildL l.run (secU l.stream i)) = 0
      · rw [if_neg (by simpa using hc)] at h0 ⊢
        rw [flushGo_done hu k (i + 1) _ (by rw [show k + (i + 1) = k + 1 + i by omega]; exact hk) h0 n, wr_ok (hu i) hc]
        by_cases e : i = n
        · subst e
          rw [if_neg (by omega), if_pos rfl, if_pos ⟨Nat.le_refl _, hi⟩]
        · rw [if_neg (c := l.first + i = l.first + n) (by omega)]
          by_cases e2 : i ≤ n ∧ n * 498 < l.stream.length
          · rw [if_pos e2, if_pos ⟨by omega, e2.2⟩]
          · rw [if_neg e2, if_neg fun q => e2 ⟨by omega, q.2⟩]
      · rw [if_pos hc] at h0
        exact absurd h0 hc
    · rw [if_neg hi]
      rw [if_neg]
      rintro ⟨q1, q2⟩
      have : i * 498 ≤ n * 498 := Nat.mul_le_mul_right _ q1
      omega
theorem flushGo_bd (hu : ∀ n, (buildL l.run (secU l.stream n)).length = 512) : ∀ (k i : Nat) (d : Dk), BD d → BD (flushGo l k i d).1 ∧ (flushGo l k i d).1.safe.length = d.safe.length
  | 0, i, d, h => ⟨h, rfl⟩
  | k + 1, i, d, h => by
    unfold flushGo
    split
    · split
      · exact ⟨h.wr _ _ (hu i), wr_size _ _⟩
      · obtain ⟨q1, q2⟩ := flushGo_bd hu k (i + 1) _ (h.wr ((l.first + i : Nat) : Int) _ (hu i))
        exact ⟨q1, q2.trans (wr_size _ _)⟩
    · exact ⟨h, rfl⟩
theorem Cr.flush (h : Cr d l xs mb) : Cr (flushL d l).1 (flushL d l).2.1 xs mb ∧ (flushL d l).2.1.stream = l.stream ∧ (flushL d l).2.1.recs = l.recs ∧ (flushL d l).2.1.run = l.run ∧ (flushL d l).2.1.most = l.most ∧ (flushL d l).2.1.old = l.old ∧ (flushL d l).2.1.first = l.first ∧ (flushL d l).2.1.count = l.count ∧
    ((flushL d l).2.2 = 0 → (flushL d l).2.1.safe = l.stream.length ∧ (flushL d l).2.1.dead = false ∧ l.dead = false) ∧ ((flushL d l).2.2 ≠ 0 → (flushL d l).2.1.dead = true ∧ (flushL d l).2.1.safe = l.safe) := by
  have hS := flushL_S h.lg d
  have hu : ∀ n, (buildL l.run (secU l.stream n)).length = 512 := fun n => buildL_len _ (secU_le _ _)
  unfold flushL at hS ⊢
  by_cases h1 : l.dead = true
  · rw [if_pos h1]; exact ⟨h, rfl, rfl, rfl, rfl, rfl, rfl, rfl, fun q => absurd q (show ¬ (91 : Int) = 0 by decide), fun _ => ⟨h1, rfl⟩⟩
  rw [if_neg h1] at hS ⊢
  have h1' : l.dead = false := by simpa using h1
  by_cases h2 : l.safe = l.stream.length
  · rw [if_pos h2]; exact ⟨h, rfl, rfl, rfl, rfl, rfl, rfl, rfl, fun _ => ⟨h2, h1', h1'⟩, fun q => absurd rfl q⟩
  rw [if_neg h2] at hS ⊢
  have hold : l.old = false := by
    cases ho : l.old with
    | false => rfl
    | true => exact absurd (h.od ho) h2
  have hmb : mb = false := by
    cases hm : mb with
    | false => rfl
    | true => exact absurd (h.dd hm).1 h1
  subst hmb
  have hss := h.lg.s
  have hsa := h.lg.sa
  have hr1 := h.r1
  have hrm := h.rm
  have hrr := h.lg.run
  obtain ⟨g, hg⟩ : ∃ g, flushGo l 17 (l.safe / 498) d = g := ⟨_, rfl⟩
  have gb := flushGo_bd hu 17 (l.safe / 498) d h.bd
  have gt := flushGo_two hu 17 (l.safe / 498) d
  have gd := flushGo_done hu 17 (l.safe / 498) d (by omega)
  rw [hg] at hS gb gt gd ⊢
  have sec1 : ∀ i, i < l.count → ∀ c, two g.1 (l.first + i) c → (false = true ∧ i = 0 ∧ l.most < 274877906944 ∧ c = buildL (l.most + 1) []) ∨ ((l.old = false → Ok1 c l.run l.stream l.safe i) ∧ ldRun c ≤ l.most) := fun i hi c hc => by
    rcases gt i c hc with q | ⟨q1, q2⟩
    · exact h.sec i hi c q
    · refine .inr ⟨fun _ => .inl ⟨l.stream.length, hsa, Nat.le_refl _, .inr q2, by rw [List.take_length]; exact q1⟩, ?_⟩
      rw [q1, ldRun_build hr1 hrr (secU_le _ _)]; exact hrm
  have dead1 : ∀ d2 : Dk, BD d2 → d2.safe.length = d.safe.length → (∀ i, i < l.count → ∀ c, two d2 (l.first + i) c → (false = true ∧ i = 0 ∧ l.most < 274877906944 ∧ c = buildL (l.most + 1) []) ∨ ((l.old = false → Ok1 c l.run l.stream l.safe i) ∧ ldRun c ≤ l.most)) → Cr d2 { l with dead := true } xs false := fun d2 b1 b2 b3 =>
    ⟨b1, by rw [b2]; exact h.sz, ⟨h.lg.c0, h.lg.c, h.lg.f, h.lg.s, h.lg.sa, h.lg.run, h.lg.most, h.lg.rs⟩, h.st, h.rc, h.ok, h.r1, h.rm, h.fit, b3, h.sf, fun q => (by cases q), fun ho => absurd (hold.symm.trans ho) (by decide)⟩
  by_cases h3 : g.2 = 0
  · rw [if_neg (by simpa using h3)] at hS ⊢
    have sz2 : (syD g.1).safe.length = d.safe.length := sy_size.trans gb.2
    have hidx : ∀ i, i < l.count → l.first + i < g.1.safe.length := fun i hi => by rw [gb.2]; have := h.sz; omega
    by_cases h4 : syC g.1 = 0
    · rw [if_neg (by simpa using h4)] at hS ⊢
      refine ⟨⟨gb.1.sy, by rw [sz2]; exact h.sz, hS, h.st, h.rc, h.ok, h.r1, h.rm, h.fit, fun i hi c hc => ?_, ⟨xs.length, Nat.le_refl _, by rw [List.take_length, ← h.st]⟩, fun q => (by cases q), fun ho => rfl⟩, rfl, rfl, rfl, rfl, rfl, rfl, rfl, fun _ => ⟨rfl, h1', h1'⟩, fun q => absurd rfl q⟩
      have hc' := sy_ok (hidx i hi) h4 hc
      rw [gd h3 i] at hc'
      refine .inr ⟨fun _ => ?_, ?_⟩
      · show Ok1 c l.run l.stream l.stream.length i
        split at hc'
        · rename_i q
          exact .inl ⟨l.stream.length, Nat.le_refl _, Nat.le_refl _, .inr q.2, by rw [List.take_length]; exact hc'⟩
        · rename_i q
          rcases h.sec i hi c (.inl hc') with ⟨q1, _⟩ | ⟨q1, _⟩
          · cases q1
          · by_cases hge : l.stream.length ≤ i * 498
            · rcases q1 hold with ⟨t, t1, t2, t3, t4⟩ | ⟨t1, t2, t3⟩
              · rcases t3 with t3 | t3
                · subst t3; omega
                · omega
              · exact .inr ⟨t1, hge, t3⟩
            · have hlt : i < l.safe / 498 := by omega
              rcases q1 hold with ⟨t, t1, t2, t3, t4⟩ | ⟨t1, t2, t3⟩
              · refine .inl ⟨l.stream.length, Nat.le_refl _, Nat.le_refl _, .inr (by omega), ?_⟩
                rw [List.take_length, t4]
                congr 1
                unfold secU
                rw [List.drop_take, List.take_take]
                congr 1
                omega
              · omega
      · show ldRun c ≤ l.most
        split at hc'
        · rw [hc', ldRun_build hr1 hrr (secU_le _ _)]; exact hrm
        · rcases h.sec i hi c (.inl hc') with ⟨q1, _⟩ | ⟨_, q2⟩
          · cases q1
          · exact q2
    · rw [if_pos h4] at hS ⊢
      exact ⟨dead1 _ gb.1.sy sz2 fun i hi c hc => sec1 i hi c (two_sy (hidx i hi) hc), rfl, rfl, rfl, rfl, rfl, rfl, rfl, fun q => absurd q h4, fun _ => ⟨rfl, rfl⟩⟩
  · rw [if_pos h3] at hS ⊢
    exact ⟨dead1 _ gb.1 gb.2 sec1, rfl, rfl, rfl, rfl, rfl, rfl, rfl, fun q => absurd q h3, fun _ => ⟨rfl, rfl⟩⟩
end
end Go.Proofs.YtpokaafedpnbdaaDoor.Rd

/-! Plain laws of the log: Reset, a crash and an opening; a disk without a plan refuses nothing. Conditions: none. -/
namespace Go.Proofs.YtpokaafedpnbdaaDoor.Rd
open Go.Dn Go.RowKit Go.Shelf
set_option linter.unusedVariables false
set_option linter.unusedSimpArgs false
set_option maxRecDepth 100000
section
variable {d : Dk} {l : Lg} {xs : List (Int × List UInt8)} {mb : Bool}
theorem Ok1.empty {c : List UInt8} {run i : Nat} (h : (i = 0 ∧ c = buildL run []) ∨ (i ≠ 0 ∧ ldRun c ≠ run)) : Ok1 c run [] 0 i := by
  rcases h with ⟨h1, h2⟩ | ⟨h1, h2⟩
  · exact .inl ⟨0, Nat.le_refl _, Nat.le_refl _, .inl h1, by rw [h2]; unfold secU; simp⟩
  · exact .inr ⟨h1, Nat.zero_le _, h2⟩
theorem Cr.reset (h : Cr d l xs mb) :
    ((resetL d l).2.2 = 0 → l.dead = false ∧ l.most < 274877906944 ∧ (resetL d l).2.1 = freshL l ∧ Cr (resetL d l).1 (freshL l) [] false) ∧
    ((resetL d l).2.2 ≠ 0 → l.old = false → (((resetL d l).2.2 = 91 ∧ l.dead = true ∨ (resetL d l).2.2 = 90 ∧ 274877906944 ≤ l.most) ∧ (resetL d l).1 = d ∧ (resetL d l).2.1 = l) ∨ (l.dead = false ∧ (resetL d l).2.1 = { l with dead := true } ∧ Cr (resetL d l).1 { l with dead := true } xs true)) := by
  have hS := resetL_S h.lg d
  have e512 : (buildL (l.most + 1) []).length = 512 := buildL_len _ (by decide)
  unfold resetL at hS ⊢
  by_cases h1 : l.dead = true
  · rw [if_pos h1]; exact ⟨fun q => absurd q (show ¬ (91 : Int) = 0 by decide), fun _ _ => .inl ⟨.inl ⟨rfl, h1⟩, rfl, rfl⟩⟩
  rw [if_neg h1] at hS ⊢
  have h1' : l.dead = false := by simpa using h1
  by_cases h2 : 274877906944 ≤ l.most
  · rw [if_pos h2]; exact ⟨fun q => absurd q (show ¬ (90 : Int) = 0 by decide), fun _ _ => .inl ⟨.inr ⟨rfl, h2⟩, rfl, rfl⟩⟩
  rw [if_neg h2] at hS ⊢
  have hmb : mb = false := by
    cases hm : mb with
    | false => rfl
    | true => exact absurd (h.dd hm).1 h1
  subst hmb
  have szw : (wrL d (l.first : Int) (buildL (l.most + 1) [])).safe.length = d.safe.length := wr_size _ _
  have bw := h.bd.wr (l.first : Int) (buildL (l.most + 1) []) e512
  have hc0 := h.lg.c0
  have sec1 : ∀ i, i < l.count → ∀ c, two (wrL d (l.first : Int) (buildL (l.most + 1) [])) (l.first + i) c → (true = true ∧ i = 0 ∧ l.most < 274877906944 ∧ c = buildL (l.most + 1) []) ∨ ((l.old = false → Ok1 c l.run l.stream l.safe i) ∧ ldRun c ≤ l.most) := fun i hi c hc => by
    rcases two_wr e512 hc with q | ⟨q1, q2⟩
    · rcases h.sec i hi c q with ⟨q', _⟩ | q'
      · cases q'
      · exact .inr q'
    · exact .inl ⟨rfl, by omega, by omega, q2⟩
  have dead1 : l.old = false → ∀ d2 : Dk, BD d2 → d2.safe.length = d.safe.length → (∀ i, i < l.count → ∀ c, two d2 (l.first + i) c → (true = true ∧ i = 0 ∧ l.most < 274877906944 ∧ c = buildL (l.most + 1) []) ∨ ((l.old = false → Ok1 c l.run l.stream l.safe i) ∧ ldRun c ≤ l.most)) → Cr d2 { l with dead := true } xs true := fun ho d2 b1 b2 b3 =>
    ⟨b1, by rw [b2]; exact h.sz, ⟨h.lg.c0, h.lg.c, h.lg.f, h.lg.s, h.lg.sa, h.lg.run, h.lg.most, h.lg.rs⟩, h.st, h.rc, h.ok, h.r1, h.rm, h.fit, b3, h.sf, fun _ => ⟨rfl, ho⟩, fun q => absurd (ho.symm.trans q) (by decide)⟩
  have hidx : ∀ i, i < l.count → l.first + i < (wrL d (l.first : Int) (buildL (l.most + 1) [])).safe.length := fun i hi => by rw [szw]; have := h.sz; omega
  by_cases h3 : wcL d l.first (buildL (l.most + 1) []) = 0
  · rw [if_neg (by simpa using h3)] at hS ⊢
    by_cases h4 : syC (wrL d l.first (buildL (l.most + 1) [])) = 0
    · rw [if_neg (by simpa using h4)] at hS ⊢
      refine ⟨fun _ => ⟨h1', by omega, rfl, ⟨bw.sy, by rw [sy_size, szw]; exact h.sz, hS, rfl, rfl, fun x hx => (by cases hx), by show 1 ≤ l.most + 1; omega, Nat.le_refl _, Nat.zero_le _, fun i hi c hc => ?_, ⟨0, Nat.le_refl _, rfl⟩, fun q => (by cases q), fun _ => rfl⟩⟩, fun q => absurd rfl q⟩
      have hc' := sy_ok (hidx i hi) h4 hc
      have wk := wr_ok (d := d) (i := l.first) e512 h3 (l.first + i)
      rw [wk] at hc'
      refine .inr ⟨fun _ => ?_, ?_⟩
      · show Ok1 c (l.most + 1) [] 0 i
        refine Ok1.empty ?_
        split at hc'
        · exact .inl ⟨by omega, hc'⟩
        · refine .inr ⟨by omega, ?_⟩
          rcases h.sec i hi c (.inl hc') with ⟨q, _⟩ | ⟨_, q⟩
          · cases q
          · omega
      · show ldRun c ≤ l.most + 1
        split at hc'
        · rw [hc', ldRun_build (by omega) (by omega) (by decide)]; exact Nat.le_refl _
        · rcases h.sec i hi c (.inl hc') with ⟨q, _⟩ | ⟨_, q⟩
          · cases q
          · omega
    · rw [if_pos h4] at hS ⊢
      exact ⟨fun q => absurd q h4, fun _ ho => .inr ⟨h1', rfl, dead1 ho _ bw.sy (sy_size.trans szw) fun i hi c hc => sec1 i hi c (two_sy (hidx i hi) hc)⟩⟩
  · rw [if_pos h3] at hS ⊢
    exact ⟨fun q => absurd q h3, fun _ ho => .inr ⟨h1', rfl, dead1 ho _ bw szw sec1⟩⟩
/-- an opening where all that is seen is safe -/
theorem open_cr {first count run safe : Nat} (hb : BD d) (hsz : first + count ≤ d.safe.length) (hc : 1 ≤ count) (hc16 : count ≤ 16) (hf : first ≤ 4096) (h1 : 1 ≤ run) (h2 : run ≤ 274877906944) (hfit : (recsB xs).length ≤ count * 498) (hx : ∀ x ∈ xs, okX x) (hsf : ∃ k, k ≤ xs.length ∧ safe = (recsB (xs.take k)).length)
    (hs : ∀ i, i < count → ∀ c, two d (first + i) c → c = hB d ((first + i : Nat) : Int)) (h : ∀ i, i < count → Ok1 (secF d first i) run (recsB xs) safe i) :
    ∃ j, (∀ k, k ≤ xs.length → safe = (recsB (xs.take k)).length → k ≤ j) ∧ j ≤ xs.length ∧ openLg d first count = ⟨first, count, run, mostF (secF d first) count, recsB (xs.take j), (recsB (xs.take j)).length, rcsOf run 0 (xs.take j), true, false⟩ ∧
      (loadL (secF d first) count).run ≠ 0 ∧ run ≤ mostF (secF d first) count ∧ Cr d (openLg d first count) (xs.take j) false := by
  obtain ⟨j, j1, j2, j3⟩ := open_got h1 h2 hc hfit hx hsf h
  have hS := openLg_S (d := d) hc hc16 hf
  have hsl : safe ≤ (recsB xs).length := by
    obtain ⟨k, _, e⟩ := hsf
    have := recsB_app (xs.take k) (xs.drop k)
    rw [List.take_append_drop] at this
    rw [e, this, List.length_append]; omega
  have hrun : (loadL (secF d first) count).run = run := (load_got h1 h2 hfit hsl hc h).1
  have hr0 : ldRun (secF d first 0) = run := by
    rcases h 0 (by omega) with ⟨t, _, _, _, e⟩ | ⟨q, _⟩
    · rw [e]; exact ldRun_build h1 h2 (secU_le _ _)
    · exact absurd rfl q
  have hrm : run ≤ mostF (secF d first) count := by rw [← hr0]; exact mostF_ge _ count 0 (by omega)
  refine ⟨j, j1, j2, j3, by rw [hrun]; omega, hrm, ?_⟩
  rw [j3] at hS ⊢
  have hl : (recsB (xs.take j)).length ≤ (recsB xs).length := by
    have := recsB_app (xs.take j) (xs.drop j)
    rw [List.take_append_drop] at this
    rw [this, List.length_append]; omega
  refine ⟨hb, hsz, hS, rfl, rfl, fun x hx' => hx x (List.mem_of_mem_take hx'), h1, hrm, by show (recsB (xs.take j)).length ≤ count * 498; omega, fun i hi c hcc => ?_, ⟨(xs.take j).length, Nat.le_refl _, by rw [List.take_length]⟩, fun q => (by cases q), fun _ => rfl⟩
  refine .inr ⟨fun q => (by cases q), ?_⟩
  show ldRun c ≤ mostF (secF d first) count
  rw [hs i hi c hcc]
  exact mostF_ge (secF d first) count i hi
/-- a crash, and the log opened anew -/
theorem Cr.crash (h : Cr d l xs mb) (ho : l.old = false) (ks : List Int) :
    (loadL (secF (onD d ks) l.first) l.count).run ≠ 0 ∧ ∃ run ys, openLg (onD d ks) l.first l.count = ⟨l.first, l.count, run, mostF (secF (onD d ks) l.first) l.count, recsB ys, (recsB ys).length, rcsOf run 0 ys, true, false⟩ ∧ Cr (onD d ks) (openLg (onD d ks) l.first l.count) ys false ∧
      run ≤ mostF (secF (onD d ks) l.first) l.count ∧ mostF (secF (onD d ks) l.first) l.count ≤ (if mb then l.most + 1 else l.most) ∧ l.run ≤ run ∧
      ((mb = true ∧ ys = []) ∨ (run = l.run ∧ ∃ j, ys = xs.take j ∧ j ≤ xs.length ∧ ∀ k, k ≤ xs.length → l.safe = (recsB (xs.take k)).length → k ≤ j)) := by
  have hc0 := h.lg.c0
  have hidx : ∀ i, i < l.count → l.first + i < d.safe.length := fun i hi => by have := h.sz; omega
  have hs : ∀ i, i < l.count → ∀ c, two (onD d ks) (l.first + i) c → two d (l.first + i) c ∧ c = hB (onD d ks) ((l.first + i : Nat) : Int) := fun i hi c hc => two_on (hidx i hi) hc
  have sec : ∀ i, i < l.count → two d (l.first + i) (secF (onD d ks) l.first i) := fun i hi => (hs i hi _ (.inl rfl)).1
  have hrr := h.lg.run
  have hmm := h.lg.most
  have hrm := h.rm
  have hmost : mostF (secF (onD d ks) l.first) l.count ≤ (if mb then l.most + 1 else l.most) := mostF_le _ _ _ fun i hi => by
    rcases h.sec i hi _ (sec i hi) with ⟨q1, q2, q3, q4⟩ | ⟨_, q⟩
    · rw [q1, q4, ldRun_build (by omega) (by omega) (by decide)]; exact Nat.le_refl _
    · split <;> omega
  rcases h.sec 0 (by omega) _ (sec 0 (by omega)) with ⟨q1, _, q3, q4⟩ | ⟨q1, _⟩
  · obtain ⟨j, j1, j2, j3, j4, j5, j6⟩ := open_cr (d := onD d ks) (first := l.first) (count := l.count) (run := l.most + 1) (safe := 0) (xs := []) (h.bd.on ks) (by rw [on_size]; exact h.sz) hc0 h.lg.c h.lg.f (by omega) (by omega) (Nat.zero_le _) (fun x hx => (by cases hx)) ⟨0, Nat.le_refl _, rfl⟩ (fun i hi c hc => (hs i hi c hc).2) fun i hi => Ok1.empty (by
      by_cases hi0 : i = 0
      · subst hi0; exact .inl ⟨rfl, q4⟩
      · refine .inr ⟨hi0, ?_⟩
        rcases h.sec i hi _ (sec i hi) with ⟨_, e, _⟩ | ⟨_, q⟩
        · exact absurd e hi0
        · omega)
    have e : ([] : List (Int × List UInt8)).take j = [] := by simp
    rw [e] at j3 j6
    exact ⟨j4, l.most + 1, [], j3, j6, j5, hmost, by omega, .inl ⟨q1, rfl⟩⟩
  · obtain ⟨j, j1, j2, j3, j4, j5, j6⟩ := open_cr (d := onD d ks) (first := l.first) (count := l.count) (run := l.run) (safe := l.safe) (xs := xs) (h.bd.on ks) (by rw [on_size]; exact h.sz) hc0 h.lg.c h.lg.f h.r1 hrr (by rw [← h.st]; exact h.fit) h.ok h.sf (fun i hi c hc => (hs i hi c hc).2) fun i hi => (by
      by_cases hi0 : i = 0
      · subst hi0; rw [← h.st]; exact q1 ho
      · rcases h.sec i hi _ (sec i hi) with ⟨_, e, _⟩ | ⟨q, _⟩
        · exact absurd e hi0
        · rw [← h.st]; exact q ho)
    exact ⟨j4, l.run, xs.take j, j3, j6, j5, hmost, Nat.le_refl _, .inr ⟨rfl, j, rfl, j2, j1⟩⟩
/-! ### a disk without a plan -/
def NP (d : Dk) : Prop := d.off = false ∧ d.plan = []
theorem NP.step (h : NP d) {act : Dk → Dk} (ha : ∀ d, NP d → NP (act d)) : stepC d = 0 ∧ NP (stepD d act) := by
  have e : fateOf (wrap64 (d.steps + 1)) d.plan = 0 := by rw [h.2]; rfl
  have e0 : stepC d = 0 := by unfold stepC; rw [e]; rfl
  exact ⟨e0, by rw [stepC_0 e0]; exact ha _ h⟩
theorem NP.wr (h : NP d) {i : Nat} {b : List UInt8} (hb : b.length = 512) (hi : i < d.safe.length) : wcL d (i : Int) b = 0 ∧ NP (wrL d (i : Int) b) := by
  have hw : ¬ wrBad d (i : Int) (toI b) := by
    unfold wrBad
    rw [toI_len, hb]
    omega
  obtain ⟨q1, q2⟩ := h.step (act := putD (i : Int) (toI b)) fun d hd => hd
  unfold wcL wrC wrL wrD
  rw [if_neg (by rw [h.1]; decide), if_neg hw, if_neg (by rw [h.1]; decide), if_neg hw]
  exact ⟨q1, q2⟩
theorem NP.sy (h : NP d) : syC d = 0 ∧ NP (syD d) := by
  obtain ⟨q1, q2⟩ := h.step (act := syncD) fun d hd => hd
  unfold syC syD
  rw [if_neg (by rw [h.1]; decide), if_neg (by rw [h.1]; decide)]
  exact ⟨q1, q2⟩
theorem NP.on (h : d.plan = []) (ks : List Int) : NP (onD d ks) := ⟨rfl, h⟩
theorem NP.reset (h : NP d) (hl : l.dead = false) (hm : l.most < 274877906944) (hi : l.first < d.safe.length) : (resetL d l).2.2 = 0 ∧ NP (resetL d l).1 := by
  have e512 : (buildL (l.most + 1) []).length = 512 := buildL_len _ (by decide)
  obtain ⟨q1, q2⟩ := h.wr e512 hi
  obtain ⟨q3, q4⟩ := q2.sy
  unfold resetL
  rw [if_neg (by rw [hl]; decide), if_neg (by omega), if_neg (by simpa using q1), if_neg (by simpa using q3)]
  exact ⟨rfl, q4⟩
theorem NP.flushGo (hfit : l.stream.length ≤ l.count * 498) : ∀ (k i : Nat) (d : Dk), NP d → l.first + l.count ≤ d.safe.length → (flushGo l k i d).2 = 0 ∧ NP (flushGo l k i d).1
  | 0, i, d, h, hz => ⟨rfl, h⟩
  | k + 1, i, d, h, hz => by
    unfold Rd.flushGo
    split
    · rename_i hi
      obtain ⟨q1, q2⟩ := h.wr (i := l.first + i) (b := buildL l.run (secU l.stream i)) (buildL_len _ (secU_le _ _)) (by
        have : i < l.count := by
          apply Classical.byContradiction; intro hn
          have : l.count * 498 ≤ i * 498 := Nat.mul_le_mul_right _ (by omega)
          omega
        omega)
      rw [if_neg (by simpa using q1)]
      exact NP.flushGo hfit k (i + 1) _ q2 (by rw [wr_size]; exact hz)
    · exact ⟨rfl, h⟩
theorem NP.flush (h : NP d) (hl : l.dead = false) (hfit : l.stream.length ≤ l.count * 498) (hz : l.first + l.count ≤ d.safe.length) : (flushL d l).2.2 = 0 ∧ NP (flushL d l).1 := by
  unfold flushL
  rw [if_neg (by rw [hl]; decide)]
  split
  · exact ⟨rfl, h⟩
  obtain ⟨q1, q2⟩ := NP.flushGo (l := l) hfit 17 (l.safe / 498) d h hz
  obtain ⟨q3, q4⟩ := q2.sy
  rw [if_neg (by simpa using q1), if_neg (by simpa using q3)]
  exact ⟨rfl, q4⟩
end
end Go.Proofs.YtpokaafedpnbdaaDoor.Rd

/-! The log's laws: a disk with an empty log that takes records. Conditions: none. -/
namespace Go.Proofs.YtpokaafedpnbdaaDoor.Rd
open Go.Dn Go.RowKit Go.Shelf
set_option linter.unusedVariables false
set_option linter.unusedSimpArgs false
set_option maxRecDepth 100000
theorem hB_new (n : Nat) (j : Nat) : hB (newD n) (j : Int) = List.replicate 512 0 ∧ sB (newD n) j = List.replicate 512 0 := by
  have e : (List.replicate n z0).getD j z0 = z0 := by
    rw [List.getD_eq_getElem?_getD]
    by_cases h : j < n
    · rw [List.getElem?_eq_getElem (by simpa using h), Option.getD_some, List.getElem_replicate]
    · rw [List.getElem?_eq_none (by simpa using h)]; rfl
  have z : unI z0.1 = List.replicate 512 0 := by
    show (List.replicate 512 (0 : Int)).map _ = _
    rw [List.map_replicate]; rfl
  constructor
  · show unI ((none : Option Sec).getD ((List.replicate n z0).getD ((j : Int)).toNat z0)).1 = _
    rw [Int.toNat_natCast, e]; exact z
  · show unI ((List.replicate n z0).getD j z0).1 = _
    rw [e]; exact z
theorem wrap64_in {x : Int} (h : -9223372036854775808 ≤ x ∧ x ≤ 9223372036854775807) : wrap64 x = x := by unfold wrap64; omega
theorem stepsD {d : Dk} {act : Dk → Dk} (h : NP d) (ha : ∀ d, (act d).steps = d.steps) : (stepD d act).steps = wrap64 (d.steps + 1) := by
  have e : fateOf (wrap64 (d.steps + 1)) d.plan = 0 := by rw [h.2]; rfl
  have e0 : stepC d = 0 := by unfold stepC; rw [e]; rfl
  rw [stepC_0 e0, ha]
theorem steps_wr {d : Dk} {i : Nat} {b : List UInt8} (h : NP d) (hb : b.length = 512) (hi : i < d.safe.length) : (wrL d (i : Int) b).steps = wrap64 (d.steps + 1) := by
  have hw : ¬ wrBad d (i : Int) (toI b) := by
    unfold wrBad
    rw [toI_len, hb]
    omega
  unfold wrL wrD
  rw [if_neg (by rw [h.1]; decide), if_neg hw]
  exact stepsD h fun _ => rfl
theorem steps_sy {d : Dk} (h : NP d) : (syD d).steps = wrap64 (d.steps + 1) := by
  unfold syD
  rw [if_neg (by rw [h.1]; decide)]
  exact stepsD h fun _ => rfl
/-- an empty log that was made, and opened -/
theorem base_open {n first count : Nat} (hc : 1 ≤ count) (hc16 : count ≤ 16) (hf : first ≤ 4096) (hz : first + count ≤ n) :
    (formatL (newD n) first).2 = 0 ∧ NP (formatL (newD n) first).1 ∧ (formatL (newD n) first).1.steps = 2 ∧ (formatL (newD n) first).1.safe.length = n ∧ (loadL (secF (formatL (newD n) first).1 first) count).run ≠ 0 ∧
    openLg (formatL (newD n) first).1 first count = ⟨first, count, 1, 1, [], 0, [], true, false⟩ ∧ Cr (formatL (newD n) first).1 ⟨first, count, 1, 1, [], 0, [], true, false⟩ [] false := by
  have np : NP (newD n) := ⟨rfl, rfl⟩
  have hn : (newD n).safe.length = n := List.length_replicate
  have e512 : (buildL 1 []).length = 512 := buildL_len _ (by decide)
  obtain ⟨q1, q2⟩ := np.wr (i := first) e512 (by rw [hn]; omega)
  obtain ⟨q3, q4⟩ := q2.sy
  have hw : (wrL (newD n) (first : Int) (buildL 1 [])).safe.length = n := (wr_size _ _).trans hn
  unfold formatL
  rw [if_neg (by simpa using q1)]
  have st1 := steps_wr np (i := first) e512 (by rw [hn]; omega)
  have st2 := steps_sy q2
  have hst : (syD (wrL (newD n) (first : Int) (buildL 1 []))).steps = 2 := by
    rw [st2, st1]
    show wrap64 (wrap64 (0 + 1) + 1) = 2
    rw [wrap64_in (x := 0 + 1) (by omega), wrap64_in (by omega)]
    rfl
  have bd : BD (syD (wrL (newD n) (first : Int) (buildL 1 []))) := ((BD.new n).wr _ _ e512).sy
  have hsz : (syD (wrL (newD n) (first : Int) (buildL 1 []))).safe.length = n := sy_size.trans hw
  have two1 : ∀ i, i < count → ∀ c, two (syD (wrL (newD n) (first : Int) (buildL 1 []))) (first + i) c → c = if i = 0 then buildL 1 [] else List.replicate 512 0 := fun i hi c hc => by
    have := sy_ok (j := first + i) (by rw [hw]; omega) q3 hc
    rw [this, wr_ok e512 q1, (hB_new n (first + i)).1]
    by_cases h0 : i = 0
    · rw [if_pos h0, if_pos (by omega)]
    · rw [if_neg h0, if_neg (by omega)]
  have sec1 : ∀ i, i < count → secF (syD (wrL (newD n) (first : Int) (buildL 1 []))) first i = if i = 0 then buildL 1 [] else List.replicate 512 0 := fun i hi => two1 i hi _ (.inl rfl)
  have hld : ldRun (buildL 1 []) = 1 := ldRun_build (Nat.le_refl _) (by decide) (by decide)
  obtain ⟨j, j1, j2, j3, j4, j5, j6⟩ := open_cr (d := syD (wrL (newD n) (first : Int) (buildL 1 []))) (first := first) (count := count) (run := 1) (safe := 0) (xs := []) bd (by rw [hsz]; exact hz) hc hc16 hf (Nat.le_refl _) (by decide) (Nat.zero_le _) (fun x hx => (by cases hx)) ⟨0, Nat.le_refl _, rfl⟩
    (fun i hi c hc => (two1 i hi c hc).trans (sec1 i hi).symm) fun i hi => Ok1.empty (by
      rw [sec1 i hi]
      by_cases h0 : i = 0
      · rw [if_pos h0]; exact .inl ⟨h0, rfl⟩
      · rw [if_neg h0]; exact .inr ⟨h0, by rw [ldRun_zero]; decide⟩)
  have hm : mostF (secF (syD (wrL (newD n) (first : Int) (buildL 1 []))) first) count = 1 := by
    have := mostF_le (secF (syD (wrL (newD n) (first : Int) (buildL 1 []))) first) 1 count fun i hi => by
      rw [sec1 i hi]
      split
      · rw [hld]; exact Nat.le_refl _
      · rw [ldRun_zero]; decide
    omega
  have ej : ([] : List (Int × List UInt8)).take j = [] := by simp
  rw [hm, ej] at j3
  rw [ej] at j6
  have j3' : openLg (syD (wrL (newD n) (first : Int) (buildL 1 []))) first count = ⟨first, count, 1, 1, [], 0, [], true, false⟩ := j3
  rw [j3'] at j6
  exact ⟨q3, q4, hst, hsz, j4, j3', j6⟩
/-- memory and what holds of it -/
structure WS (w : World) (B : Nat) (r : RD) (ρ : RL) (d : Dk) (l : Lg) (xs : List (Int × List UInt8)) (mb : Bool) : Prop where
  dm : DM w B r d
  lm : LM w B r ρ l
  cr : Cr d l xs mb
section
variable {w w' : World} {B B1 : Nat} {r : RD} {d : Dk} {ρ : RL} {l : Lg} {xs : List (Int × List UInt8)} {mb : Bool}
theorem OwnE.monoB {α : Type} {enc : α → List Value} {k e c : Nat} {A : Option Addr} {xs : List α} (h : OwnE enc k w B e A c xs) (hB : B1 ≤ B) : OwnE enc k w B1 e A c xs := ⟨h.1, h.2.imp id fun ⟨g, cap, cur, q1, q2, q3⟩ => ⟨g, cap, cur, q1, Nat.le_trans hB q2, q3⟩⟩
theorem LM.monoB (h : LM w B r ρ l) (hB : B1 ≤ B) : LM w B1 r ρ l := by
  obtain ⟨ms, h1, h2⟩ := h.rc
  exact ⟨h.hb, Nat.le_trans hB h.lo, h.st.mono hB, ms, OwnE.monoB h1 hB, h2⟩
theorem WS.below (h : WS w B r ρ d l xs mb) (k : Below w.heap.size w w') : WS w' B r ρ d l xs mb := ⟨h.dm.below k, h.lm.below k, h.cr⟩
theorem WS.lo (h : WS w B r ρ d l xs mb) : B ≤ w.heap.size := by have := h.lm.lo; have := h.lm.hb.lt; omega
theorem WS.wn (h : WS w B r ρ d l xs mb) : ∀ k, WN r ρ k → k < w.heap.size ∧ B ≤ k := fun k hk => hk.elim (h.dm.lt k) (h.lm.lt k)
theorem WS.bel (h : WS w B r ρ d l xs mb) (k : Keeps (WN r ρ) w w') : Below B w w' := k.below h.lo fun i hi hN => by have := (h.wn i hN).2; omega
def mkL (count : Nat) : Lg := ⟨1, count, 2, 2, [], 0, [], false, false⟩
theorem made_ok {count : Nat} (hc : 1 ≤ count) (hc9 : count ≤ 9) :
    Calls Tryd.prog 9 #[.int .i64 (count : Int)] w fun e w' => ∃ r ρ d, e = .returned (.tuple #[.pointer (some ⟨r.D, 0, none⟩), .pointer (some ⟨ρ.L, 0, none⟩)]) ∧ WS w' w.heap.size r ρ d (mkL count) [] false ∧ NP d ∧ d.steps = 4 ∧ d.safe.length = 10 ∧ Below w.heap.size w w' := by
  apply f_law09_made.ok
  unfold f_law09_made.wp
  refine (New_ok w 10).mono ?_
  rintro _ w1 ⟨r, rfl, h1, g1⟩
  have e10 : nS 10 = 10 := rfl
  rw [e10] at h1
  have hn : (newD 10).safe.length = 10 := List.length_replicate
  obtain ⟨b1, b2, b3, b4, b5, b6, b7⟩ := base_open (n := 10) (first := 1) (count := count) hc (by omega) (by decide) (by omega)
  refine ⟨_, rfl, sel_f rfl ((Format_ok (first := 1) h1 hc (by rw [hn]; omega)).mono ?_)⟩
  rintro _ w2 ⟨rfl, h2, k2⟩
  rw [b1]
  have g2 : Below w.heap.size w w2 := g1.trans (k2.below g1.size fun k hk hF => by have := (h1.lt k hF).2; omega)
  refine ⟨_, rfl, sel_f rfl ((Open_wal h2 b7.bd b2.1 hc (by omega) (by rw [b4]; omega) b5).mono ?_)⟩
  rintro _ w3 ⟨ρ, A, c, Bx, rfl, h3, l3, o3, p3, q3, g3⟩
  rw [b6] at l3 ⊢
  have g3' : Below w.heap.size w w3 := g2.trans (g3.mono g2.size)
  refine ⟨_, _, _, _, _, rfl, sel_f rfl (sel_f rfl ?_)⟩
  obtain ⟨r1, r2⟩ := b2.reset (l := ⟨1, count, 1, 1, [], 0, [], true, false⟩) rfl (by show 1 < _; decide) (by show 1 < _; rw [b4]; decide)
  obtain ⟨c1, _⟩ := b7.reset
  obtain ⟨c2, c3, c4, c5⟩ := c1 r1
  refine (Reset_ok h3 l3 b7.lg g3.size).mono ?_
  rintro _ w4 ⟨rfl, h4, ⟨ρ', eL, l4, n4⟩, k4⟩
  rw [c4] at l4
  rw [r1]
  have g4 : Below w.heap.size w w4 := g3'.trans (k4.below g3'.size fun k hk hN => by
    rcases hN with q | q
    · have := (h3.lt k q).2; omega
    · have := (l3.lt k q).2; have := g2.size; omega)
  refine ⟨_, rfl, sel_f rfl ⟨r, ρ', _, by rw [eL], ⟨h4, l4.monoB g2.size, c5⟩, r2, ?_, ?_, g4⟩⟩
  · unfold resetL
    have e512 : (buildL 2 []).length = 512 := buildL_len _ (by decide)
    have hi : 1 < (formatL (newD 10) 1).1.safe.length := by rw [b4]; decide
    obtain ⟨w1', w2'⟩ := b2.wr (i := 1) e512 hi
    obtain ⟨w3', w4'⟩ := w2'.sy
    have s1 := steps_wr b2 (i := 1) e512 hi
    have s2 := steps_sy w2'
    simp only [Bool.false_eq_true, if_false]
    rw [if_neg (by decide), if_neg (by simpa using w1'), if_neg (by simpa using w3')]
    show (syD (wrL (formatL (newD 10) 1).1 ((1 : Nat) : Int) (buildL 2 []))).steps = 4
    rw [s2, s1, b3, wrap64_in (x := 2 + 1) (by omega), wrap64_in (by omega)]
    rfl
  · have : (resetL (formatL (newD 10) 1).1 ⟨1, count, 1, 1, [], 0, [], true, false⟩).1.safe.length = (formatL (newD 10) 1).1.safe.length := by
      unfold resetL
      split; · rfl
      split; · rfl
      split; · exact wr_size _ _
      split; · exact sy_size.trans (wr_size _ _)
      exact sy_size.trans (wr_size _ _)
    rw [this, b4]
end
end Go.Proofs.YtpokaafedpnbdaaDoor.Rd

/-! The log's laws: what the calls make of memory and of what holds of it; the example. Conditions: none. -/
namespace Go.Proofs.YtpokaafedpnbdaaDoor.Rd
open Go.Dn Go.RowKit Go.Shelf
set_option linter.unusedVariables false
set_option linter.unusedSimpArgs false
set_option maxRecDepth 100000
theorem lit_u {w : World} {l : List UInt8} {cs : Array Value} (hcs : cs.toList = l.map byteV) {n c : Nat} {K : Value → World → Prop}
    (hK : ∀ b w', b = w.heap.size → Go.Dn.RB w' (some ⟨b, 0, none⟩) l → Below w.heap.size w w' → w'.heap.size = b + 1 → K (.slice (some ⟨b, 0, none⟩) n c) w') :
    alW w (.cells cs 5) fun B w1 => Runs Tryd.prog (Go.convert 29 29 (.slice (some (⟨B, 0, Option.none⟩ : Addr)) n c)) w1 K := by
  refine alW_intro ?_
  refine runs_of (Lib.run_convert_bytes_const w 29 5 cs n c (by kernel_rfl) (by kernel_rfl)) (hK _ _ rfl ?_ ((Below.refl _ _).alloc (Nat.le_refl _) _) (by simp))
  intro i hi
  refine ⟨_, rfl, ?_⟩
  rw [add_mk, Nat.zero_add, World.cell?_alloc_mark, ← Array.getElem?_toList, hcs]
  simp [hi]
theorem conv_str {w : World} {A : Option Addr} {l : List UInt8} {n c : Nat} (hr : Go.Dn.RB w A l) (hn : n = l.length) (hlen : 0 < l.length) {K : Value → World → Prop}
    (hK : K (.string ⟨l.toArray⟩) w) : Runs Tryd.prog (Go.convert 29 9 (.slice A n c)) w K := by
  subst hn
  obtain ⟨a, rfl, _⟩ := hr 0 hlen
  refine runs_of (run_convert_bytes_back w 29 9 5 a c l (by kernel_rfl) (by kernel_rfl) (by kernel_rfl) ?_) hK
  intro i hi
  obtain ⟨a', ha, hc⟩ := hr i hi
  injection ha with ha; subst ha
  exact hc
section
variable {w w' : World} {B B1 : Nat} {r : RD} {d : Dk} {ρ : RL} {l : Lg} {xs : List (Int × List UInt8)} {mb : Bool}
def appX (l : Lg) (xs : List (Int × List UInt8)) (kind : Int) (u : List UInt8) : List (Int × List UInt8) := if (appendL l kind u).2.2 = 0 then xs ++ [(kind, u)] else xs
theorem WS.append (h : WS w B r ρ d l xs mb) {kind : Int} {A : Option Addr} {n c : Nat} {u : List UInt8} (hr : Go.Dn.RB w A u) (hn : n = u.length) (hA : A = none → c = 0) (hA2 : ∀ a, A = some a → ¬ LN ρ a.block) (hu : u.length ≤ 140737488355000) :
    Calls Tryd.prog 10 #[.pointer (some ⟨ρ.L, 0, none⟩), .int .i64 kind, .slice A n c] w fun e w' => ∃ ρ', e = .returned (.tuple #[.int .i64 (appendL l kind u).2.1, .int .i64 (appendL l kind u).2.2]) ∧ ρ'.L = ρ.L ∧ WS w' B r ρ' d (appendL l kind u).1 (appX l xs kind u) mb ∧
      (∀ k, LN ρ' k → LN ρ k ∨ w.heap.size ≤ k) ∧ Keeps (WN r ρ) w w' := by
  refine (Append_wal h.dm h.lm h.cr.lg h.lo hr hn hA hA2 hu).mono ?_
  rintro _ w' ⟨rfl, q1, ⟨ρ', q2, q3, q4⟩, q5⟩
  refine ⟨ρ', rfl, q2, ⟨q1, q3, ?_⟩, q4, q5.mono fun _ _ => .inr⟩
  unfold appX
  rcases h.cr.append kind u with ⟨e, c, _⟩ | ⟨e, _, e2⟩
  · rw [if_pos e]; exact c
  · rw [if_neg e, e2]; exact h.cr
theorem WS.flush (h : WS w B r ρ d l xs mb) :
    Calls Tryd.prog 12 #[.pointer (some ⟨ρ.L, 0, none⟩)] w fun e w' => e = .returned (.int .i64 (flushL d l).2.2) ∧ WS w' B r ρ (flushL d l).1 (flushL d l).2.1 xs mb ∧ Keeps (WN r ρ) w w' := by
  refine (Flush_wal h.dm h.lm h.cr.lg).mono ?_
  rintro _ w' ⟨rfl, q1, q2, q3⟩
  exact ⟨rfl, ⟨q1, q2, h.cr.flush.1⟩, q3⟩
/-- the power comes back, and the log is opened anew -/
theorem WS.open (h : WS w B r ρ d l xs mb) (ho : l.old = false) {ks : List Int} (hd : DM w' B r (onD d ks)) (hB : B ≤ w'.heap.size) :
    Calls Tryd.prog 18 #[.pointer (some ⟨r.D, 0, none⟩), .int .i64 l.first, .int .i64 l.count] w' fun e w2 => ∃ (ρ' : RL) (A : Option Addr) (c Bx run : Nat) (ys : List (Int × List UInt8)), e = .returned (.tuple #[.pointer (some ⟨ρ'.L, 0, none⟩), .slice A ys.length c, .int .i64 0]) ∧
      WS w2 B r ρ' (onD d ks) ⟨l.first, l.count, run, mostF (secF (onD d ks) l.first) l.count, recsB ys, (recsB ys).length, rcsOf run 0 ys, true, false⟩ ys false ∧ RsO w2 Bx A c (rcsOf run 0 ys) ∧ w'.heap.size ≤ Bx ∧ (∀ k, LN ρ' k → k < Bx ∧ w'.heap.size ≤ k) ∧ Below w'.heap.size w' w2 ∧
      run ≤ mostF (secF (onD d ks) l.first) l.count ∧ mostF (secF (onD d ks) l.first) l.count ≤ (if mb then l.most + 1 else l.most) ∧ l.run ≤ run ∧
      ((mb = true ∧ ys = []) ∨ (run = l.run ∧ ∃ j, ys = xs.take j ∧ j ≤ xs.length ∧ ∀ k, k ≤ xs.length → l.safe = (recsB (xs.take k)).length → k ≤ j)) := by
  obtain ⟨c1, run, ys, c2, c3, c4, c5, c6, c7⟩ := h.cr.crash ho ks
  refine (Open_wal hd (h.cr.bd.on ks) rfl h.cr.lg.c0 h.cr.lg.c (by rw [on_size]; exact h.cr.sz) c1).mono ?_
  rintro _ w2 ⟨ρ', A, c, Bx, rfl, q1, q2, q3, q4, q5, q6⟩
  rw [c2] at q2 q3 c3 ⊢
  refine ⟨ρ', A, c, Bx, run, ys, ?_, ⟨q1, q2.monoB hB, c3⟩, q3, q4, fun k hk => ⟨q5 k hk, (q2.lt k hk).2⟩, q6, c4, c5, c6, c7⟩
  show Ending.returned (.tuple #[_, .slice A (rcsOf run 0 ys).length c, _]) = _
  rw [rcsOf_len]
theorem recs_two : recsB [((1 : Int), [97, 98]), (2, [])] = [1, 2, 97, 98, 2, 0] := by decide +kernel
theorem alive_ok (w : World) : Calls Tryd.prog 8 #[] w fun e w' => e = .returned (.bool true) ∧ Below w.heap.size w w' := by
  apply f_law09_alive.ok
  unfold f_law09_alive.wp
  refine (New_ok w 8).mono ?_
  rintro _ w1 ⟨r, rfl, h1, g1⟩
  have e8 : nS 8 = 8 := rfl
  rw [e8] at h1
  have hn : (newD 8).safe.length = 8 := List.length_replicate
  obtain ⟨b1, b2, b3, b4, b5, b6, b7⟩ := base_open (n := 8) (first := 0) (count := 4) (by decide) (by decide) (by decide) (by decide)
  refine ⟨_, rfl, sel_f rfl ((Format_ok (first := 0) (count := 4) h1 (by decide) (by rw [hn]; decide)).mono ?_)⟩
  rintro _ w2 ⟨rfl, h2, k2⟩
  rw [b1]
  have g2 : Below w.heap.size w w2 := g1.trans (k2.below g1.size fun k hk hF => by have := (h1.lt k hF).2; omega)
  refine ⟨_, rfl, sel_f rfl ((Open_wal (first := 0) (count := 4) h2 b7.bd b2.1 (by decide) (by decide) (by rw [b4]; decide) b5).mono ?_)⟩
  rintro _ w3 ⟨ρ, A, c, Bx, rfl, h3, l3, o3, p3, q3, g3⟩
  rw [b6] at l3 ⊢
  have g3' : Below w.heap.size w w3 := g2.trans (g3.mono g2.size)
  have S3 : WS w3 w.heap.size r ρ (formatL (newD 8) 0).1 ⟨0, 4, 1, 1, [], 0, [], true, false⟩ [] false := ⟨h3, l3.monoB g2.size, b7⟩
  refine ⟨_, _, _, _, _, rfl, sel_f rfl (sel_f rfl (sel_f rfl ((S3.append (kind := 1) (u := []) (RB.nil _ _) rfl (fun _ => rfl) (fun a ha => by cases ha) (by decide)).mono ?_)))⟩
  rintro _ w4 ⟨ρ4, rfl, eL4, S4, n4, k4⟩
  have e4 : appendL ⟨0, 4, 1, 1, [], 0, [], true, false⟩ 1 [] = (⟨0, 4, 1, 1, [], 0, [], true, false⟩, 0, 111) := rfl
  have x4 : appX ⟨0, 4, 1, 1, [], 0, [], true, false⟩ [] 1 [] = [] := by unfold appX; rw [e4]; rfl
  rw [e4, x4] at S4
  rw [e4]
  obtain ⟨r1, r2⟩ := b2.reset (l := ⟨0, 4, 1, 1, [], 0, [], true, false⟩) rfl (by show 1 < _; decide) (by show 0 < _; rw [b4]; decide)
  obtain ⟨c1, _⟩ := b7.reset
  obtain ⟨c2, c3, c4, c5⟩ := c1 r1
  refine ⟨_, _, rfl, ?_⟩
  rw [← eL4]
  refine (Reset_ok S4.dm S4.lm S4.cr.lg S4.lo).mono ?_
  rintro _ w5 ⟨rfl, h5, ⟨ρ5, eL5, l5, n5⟩, k5⟩
  rw [c4] at l5
  rw [r1]
  obtain ⟨d5, hd5⟩ : ∃ d5, (resetL (formatL (newD 8) 0).1 ⟨0, 4, 1, 1, [], 0, [], true, false⟩).1 = d5 := ⟨_, rfl⟩
  rw [hd5] at h5 c5 r2
  have S5 : WS w5 w.heap.size r ρ5 d5 ⟨0, 4, 2, 2, [], 0, [], false, false⟩ [] false := ⟨h5, l5, c5⟩
  have g5 : Below w.heap.size w w5 := (g3'.trans (S3.bel k4)).trans (S4.bel k5)
  refine ⟨_, rfl, lit_u (l := [97, 98]) rfl fun b w6 eb r6 g6 s6 => ⟨_, _, _, rfl, ?_⟩⟩
  have S6 := S5.below g6
  rw [← eL5]
  refine (S6.append (kind := 1) (u := [97, 98]) r6 rfl (fun h => by cases h) (fun a ha hN => by injection ha with ha; subst ha; exact absurd (S5.lm.lt _ hN).1 (by show ¬ b < _; omega)) (by decide)).mono ?_
  rintro _ w7 ⟨ρ7, rfl, eL7, S7, n7, k7⟩
  have e7 : appendL ⟨0, 4, 2, 2, [], 0, [], false, false⟩ 1 [97, 98] = (⟨0, 4, 2, 2, [1, 2, 97, 98], 0, [⟨33554432, 1, [97, 98]⟩], false, false⟩, 33554432, 0) := by kernel_rfl
  have x7 : appX ⟨0, 4, 2, 2, [], 0, [], false, false⟩ [] 1 [97, 98] = [(1, [97, 98])] := by unfold appX; rw [e7]; rfl
  rw [e7, x7] at S7
  rw [e7]
  refine ⟨_, _, rfl, ?_⟩
  rw [← eL7]
  refine (S7.append (kind := 2) (u := []) (RB.nil _ _) rfl (fun _ => rfl) (fun a ha => by cases ha) (by decide)).mono ?_
  rintro _ w8 ⟨ρ8, rfl, eL8, S8, n8, k8⟩
  have e8' : appendL ⟨0, 4, 2, 2, [1, 2, 97, 98], 0, [⟨33554432, 1, [97, 98]⟩], false, false⟩ 2 [] = (⟨0, 4, 2, 2, [1, 2, 97, 98, 2, 0], 0, [⟨33554432, 1, [97, 98]⟩, ⟨33554436, 2, []⟩], false, false⟩, 33554436, 0) := by kernel_rfl
  have x8 : appX ⟨0, 4, 2, 2, [1, 2, 97, 98], 0, [⟨33554432, 1, [97, 98]⟩], false, false⟩ [(1, [97, 98])] 2 [] = [(1, [97, 98]), (2, [])] := by unfold appX; rw [e8']; rfl
  rw [e8', x8] at S8
  rw [e8']
  refine ⟨_, _, rfl, ?_⟩
  rw [← eL8]
  obtain ⟨f1, f2⟩ := r2.flush (l := ⟨0, 4, 2, 2, [1, 2, 97, 98, 2, 0], 0, [⟨33554432, 1, [97, 98]⟩, ⟨33554436, 2, []⟩], false, false⟩) rfl (by show 6 ≤ _; decide) S8.cr.sz
  have fl := S8.cr.flush
  refine S8.flush.mono ?_
  rintro _ w9 ⟨rfl, S9, k9⟩
  rw [f1]
  obtain ⟨d9, hd9⟩ : ∃ d9, (flushL d5 ⟨0, 4, 2, 2, [1, 2, 97, 98, 2, 0], 0, [⟨33554432, 1, [97, 98]⟩, ⟨33554436, 2, []⟩], false, false⟩) = d9 := ⟨_, rfl⟩
  rw [hd9] at S9 f1 f2 fl
  obtain ⟨_, t1, t2, t3, t4, t5, t6, t7, t8, _⟩ := fl
  obtain ⟨t9, t10, _⟩ := t8 f1
  refine ⟨_, rfl, (On_ok S9.dm (A := none) (c := 0) (n := 0) (ks := []) (fun i hi => absurd hi (Nat.not_lt_zero _)) rfl (fun a ha => by cases ha) (by decide)).mono ?_⟩
  rintro _ w10 ⟨rfl, h10, k10⟩
  refine ⟨rfl, ?_⟩
  have L10 := S9.lm.disk S9.dm k10
  have K9 : Below w.heap.size w w9 := ((((g5.trans (g6.mono g5.size)).trans (S6.bel k7)).trans (S7.bel k8)).trans (S8.bel k9))
  have K10 : Below w.heap.size w w10 := K9.trans (k10.below K9.size fun k hk hF => by have := (S9.dm.lt k hF).2; omega)
  unfold f_law09_alive.j0
  have op := S9.open t5 h10 K10.size
  rw [t6, t7] at op
  refine op.mono ?_
  rintro _ w11 ⟨ρ', A', c', Bx', run, ys, rfl, S11, o11, p11, q11, g11, v1, v2, v3, v4⟩
  have K11 : Below w.heap.size w w11 := K10.trans (g11.mono K10.size)
  rcases v4 with ⟨v, _⟩ | ⟨v5, j, v6, v7, v8⟩
  · cases v
  have hj : 2 ≤ j := v8 2 (by decide) (by rw [t9]; decide +kernel)
  have hj2 : j = 2 := Nat.le_antisymm v7 hj
  subst hj2
  have v6' : ys = [(1, [97, 98]), (2, [])] := v6
  subst v6'
  rw [t3] at v5
  subst v5
  refine ⟨_, _, _, _, _, rfl, sel_t rfl (sel_t rfl (sel_t rfl (sel_t rfl (sel_t rfl (sel_t rfl (sel_t rfl (sel_t rfl (sel_t rfl (sel_t rfl ?_)))))))))⟩
  obtain ⟨ms, m1, m2⟩ := o11
  have hml : 0 < ms.length := by rw [m2.1]; decide
  have row := m1.reads ER
  obtain ⟨a, rfl, _⟩ := row 0 hml
  have c2' := row.cj hml (j := 2) (by decide)
  have hr0 := m2.2 0 hml (by decide)
  have hb0 : (rcsOf 2 0 [((1 : Int), [97, 98]), (2, [])])[0].body = [97, 98] := rfl
  refine optB_some rfl (req_intro (by decide) ?_)
  rw [show ((0 : Int).toNat * 3) = 0 * 3 from rfl]
  refine ldS_intro (A := ms[0].A) (n := ms[0].n) (c := ms[0].c) c2' ?_
  have rb0 := hr0.rb
  have n0 := hr0.n
  rw [hb0] at rb0 n0
  refine conv_str rb0 n0 (by decide) ⟨_, rfl, sel_t (by decide +kernel) ?_⟩
  have L11 := L10.below g11
  refine (Room_ok L11 S9.cr.lg).mono ?_
  rintro _ w12 ⟨rfl, g12⟩
  refine ⟨_, rfl, ?_⟩
  rw [t7, t1]
  exact fun _ => ⟨rfl, K11.trans (g12.mono K11.size)⟩
end
end Go.Proofs.YtpokaafedpnbdaaDoor.Rd
