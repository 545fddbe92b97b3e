/- The document's Version and Split. Conditions: keys below 2^46. -/
import Derived.Test.YtakgoekfnhkgaaaDoorKeF
namespace Go.Proofs.YtakgoekfnhkgaaaDoor.Rd
open Go.Dn Go.RowKit Go.Lib
set_option linter.unusedVariables false
set_option linter.unusedSimpArgs false
set_option maxRecDepth 100000
section
variable {w w0 : World} {A : Option Addr} {c B : Nat} {l : List UInt8}
theorem rb_ld {i : Nat} {j : Int} (hr : Go.Dn.RB w A l) (hi : i < l.length) (hj : j = (i : Int)) {n : Nat} (hn : n = l.length) {K : Int → Prop} (hk : K (l[i].toNat : Int)) : optB A fun a => req (decide (0 ≤ j ∧ j < (n : Int))) (ldI w (a.add (j.toNat * 1)) .u8 K) := by
  subst hj; subst hn
  obtain ⟨a, rfl, hc⟩ := hr i hi
  refine optB_some rfl (req_intro (by simp; omega) ?_)
  rw [Int.toNat_natCast, Nat.mul_one]
  exact ldI_intro hc hk
theorem w64n {x : Int} {n : Nat} (h : x = (n : Int)) (hn : n ≤ 9223372036854775807) : IntKind.i64.wrap x = (n : Int) := by rw [w64_in (by omega), h]
theorem escL_snoc (l : List UInt8) (b : UInt8) : escL (l ++ [b]) = escL l ++ (if b = 0 then [0, 255] else [b]) := by
  rw [escL_app]; congr 1
theorem RVersion_l0 (hr : Go.Dn.RB w0 A l) (hlen : l.length ≤ 60000000000000) (hB : w0.heap.size ≤ B)
    {K : Option Addr → Nat → Nat → World → Prop} (hK : ∀ A' c' w', OwnB w' B TU8 A' c' (escL l) → Below B w0 w' → B ≤ w'.heap.size → K A' (escL l).length c' w') :
    ∀ (m k i n3 : Nat) (A3 : Option Addr) (c3 : Nat) (w : World), l.length - i = m → i ≤ l.length → m < k → n3 = (escL (l.take i)).length → OwnB w B TU8 A3 c3 (escL (l.take i)) → Below B w0 w → B ≤ w.heap.size →
      f_ref04_Version.l0 k A l.length c A3 n3 c3 (i : Int) w K := by
  intro m
  induction m with
  | zero =>
    intro k i n3 A3 c3 w hm hi hk hn ho hb hBw
    obtain ⟨k, rfl⟩ : ∃ j, k = j + 1 := ⟨k - 1, by omega⟩
    unfold f_ref04_Version.l0
    refine sel_f (by simp; omega) ?_
    obtain rfl : i = l.length := by omega
    rw [List.take_length] at ho hn
    subst hn
    exact hK _ _ _ ho hb hBw
  | succ m ih =>
    intro k i n3 A3 c3 w hm hi hk hn ho hb hBw
    obtain ⟨k, rfl⟩ : ∃ j, k = j + 1 := ⟨k - 1, by omega⟩
    have hlt : i < l.length := by omega
    have hel := escL_len (l.take i)
    have htl : (l.take i).length = i := by rw [List.length_take]; omega
    have e : escL (l.take (i + 1)) = escL (l.take i) ++ (if l[i] = 0 then [0, 255] else [l[i]]) := by rw [List.take_succ_eq_append_getElem hlt, escL_snoc]
    unfold f_ref04_Version.l0
    refine sel_t (by simp; omega) (rb_ld (hr.below hb hB) hlt rfl rfl ?_)
    refine app_one ho hn hBw (by omega) fun A' c' w' o' b' h' => ⟨_, _, _, rfl, rb_ld (hr.below (hb.trans b') hB) hlt rfl rfl ?_⟩
    have e1 : IntKind.i64.wrap ((i : Int) + 1) = ((i + 1 : Nat) : Int) := w64n (by omega) (by omega)
    rw [e1]
    by_cases q : l[i] = 0
    · refine sel_t (by rw [q]; rfl) ?_
      rw [if_pos q] at e
      rw [q] at o'
      refine app_one (b := 255) o' (by rw [List.length_append, List.length_singleton]) h' (by rw [List.length_append, List.length_singleton]; omega) fun A'' c'' w'' o'' b'' h'' => ⟨_, _, _, rfl, ?_⟩
      rw [List.append_assoc] at o''
      refine ih k (i + 1) _ A'' c'' w'' (by omega) (by omega) (by omega) ?_ (by rw [e]; exact o'') ((hb.trans b').trans b'') h''
      rw [e]; simp
    · have hz : ¬ ((l[i].toNat : Int) == 0) = true := by
        rw [beq_iff_eq]; intro h
        exact q (UInt8.toNat_inj.1 (by show l[i].toNat = 0; omega))
      refine sel_f (by simpa using hz) ?_
      rw [if_neg q] at e
      refine ih k (i + 1) _ A' c' w' (by omega) (by omega) (by omega) ?_ (by rw [e]; exact o') (hb.trans b') h'
      rw [e]; simp
theorem RVersion_ok {t : Int} (r0 : Go.Dn.RB w A l) (hl : l.length ≤ 60000000000000) (ht : -9223372036854775808 ≤ t ∧ t ≤ 9223372036854775807) :
    Calls Tryd.prog 20 #[.slice A l.length c, .int .i64 t] w fun e w' => ∃ A c, e = .returned (.tuple #[.slice A (versL l t).1.length c, .int .i64 (versL l t).2]) ∧ OwnB w' w.heap.size TU8 A c (versL l t).1 ∧ Below w.heap.size w w' := by
  apply f_ref04_Version.ok
  unfold f_ref04_Version.wp versL
  by_cases h1 : t < 0
  · rw [if_pos (.inl h1)]
    exact sel_t (by simpa using h1) ⟨none, 0, rfl, World.ownsRow_nil _ _ _ _, Below.refl _ _⟩
  refine sel_f (by simpa using h1) ?_
  by_cases h2 : 1099511627776 < t
  · rw [if_pos (.inr h2)]
    exact sel_t (by simpa using h2) ⟨none, 0, rfl, World.ownsRow_nil _ _ _ _, Below.refl _ _⟩
  rw [if_neg (show ¬ badT t by unfold badT; omega)]
  have hel := escL_len l
  refine sel_f (by simpa using h2) (alW_intro ⟨l.length + 1, ?_⟩)
  have h0 := OwnB.lit (w := w) (B := w.heap.size) (e := TU8) [] (cs := #[]) rfl (Nat.le_refl _) (by simp)
  refine RVersion_l0 (w0 := w) (B := w.heap.size) r0 (by omega) (Nat.le_refl _) ?_ l.length _ 0 0 _ _ _ (by omega) (by omega) (by omega) rfl h0 ((Below.refl _ _).alloc (Nat.le_refl _) _) (by simp)
  intro A1 c1 w1 o1 b1 h1' _
  refine app_one (b := 0) o1 rfl h1' (by omega) fun A2 c2 w2 o2 b2 h2' => ⟨_, _, _, rfl, ?_⟩
  refine app_one (b := 0) o2 (by rw [List.length_append, List.length_singleton]) h2' (by rw [List.length_append, List.length_singleton]; omega) fun A3 c3 w3 o3 b3 h3' => ⟨_, _, _, rfl, ?_⟩
  rw [show IntKind.i64.wrap (0 - t) = -t by rw [w64_in (by omega)]; omega]
  refine (RBig_ok (-t) (by omega)).mono ?_
  rintro _ w4 ⟨A4, rfl, o4, b4⟩
  refine ⟨_, _, _, rfl, (Cat_ok (o3.reads.below b4 (Nat.le_refl _)) o4.reads (by simp) rfl (by simp [be8]; omega)).mono ?_⟩
  rintro _ w5 ⟨A5, c5, rfl, o5, b5⟩
  have s4 := b4.size
  have e : escL l ++ [0] ++ [0] ++ be8 (-t + 9223372036854775808).toNat = escL l ++ [0, 0] ++ bigL t := by unfold bigL; simp
  rw [e] at o5 ⊢
  exact ⟨_, _, _, rfl, _, _, rfl, OwnB.mono o5 (by omega), (((b1.trans b2).trans b3).trans (b4.mono h3')).trans (b5.mono (by omega))⟩
/-! ### Split -/
/-- the number that the last bytes write -/
def timeOf (b : List UInt8) : Int := IntKind.i64.wrap (9223372036854775808 - (valB b : Int))
def rsplitL (l : List UInt8) : List UInt8 × Int × Int :=
  if l.length < 10 then ([], 0, 40) else
  let n := l.length - 10
  match decL (l.take n) with
  | none => ([], 0, 40)
  | some k => if (l.drop n).take 2 = [0, 0] then (if badT (timeOf (l.drop (n + 2))) then ([], 0, 40) else (k, timeOf (l.drop (n + 2)), 0)) else ([], 0, 40)
theorem decL_ne {b : UInt8} (q : b ≠ 0) : ∀ r : List UInt8, decL (b :: r) = (decL r).map (b :: ·)
  | [] => by
    show (if b = 0 then none else some [b]) = _
    rw [if_neg q]; rfl
  | d :: r => by
    conv => lhs; unfold decL
    rw [if_neg q]
theorem drop_cons {l : List UInt8} {i : Nat} (h : i < l.length) : l.drop i = l[i] :: l.drop (i + 1) := List.drop_eq_getElem_cons h
theorem RSplit_l0 {x : List UInt8} {N n : Nat} (hr : Go.Dn.RB w0 A l) (hx : x = l.take N) (hN : N ≤ l.length) (hlen : l.length ≤ 70368744177664) (hn : n = l.length) (hB : w0.heap.size ≤ B) {res : Option (List UInt8)}
    {K : Option Addr → Nat → Nat → World → Prop} {Kr : Option Addr → Nat → Nat → Int → Int → World → Prop} (hK : ∀ k A' c' w', res = some k → OwnB w' B TU8 A' c' k → Below B w0 w' → B ≤ w'.heap.size → K A' k.length c' w') (hKr : res = none → ∀ w', Below B w0 w' → B ≤ w'.heap.size → Kr none 0 0 0 40 w') :
    ∀ (m i k n3 : Nat) (acc : List UInt8) (A3 : Option Addr) (c3 : Nat) (w : World), N - i = m → i ≤ N → m < k → n3 = acc.length → acc.length ≤ i → res = (decL (x.drop i)).map (acc ++ ·) → OwnB w B TU8 A3 c3 acc → Below B w0 w → B ≤ w.heap.size →
      f_ref04_Split.l0 k A n c (N : Int) A3 n3 c3 (i : Int) w K Kr := by
  subst hn
  have hxl : x.length = N := by rw [hx, List.length_take]; omega
  have hxi : ∀ (i : Nat) (h : i < x.length), x[i] = l[i]'(by omega) := fun i h => by subst hx; simp
  intro m
  induction m using Nat.strongRecOn with
  | ind m ih =>
    intro i k n3 acc A3 c3 w hm hi hk hn ho' hres ho hb hBw
    obtain ⟨k, rfl⟩ : ∃ j, k = j + 1 := ⟨k - 1, by omega⟩
    unfold f_ref04_Split.l0
    by_cases hiN : i = N
    · refine sel_f (by simp; omega) ?_
      rw [List.drop_of_length_le (by omega)] at hres
      have hres : res = some (acc ++ []) := hres
      rw [List.append_nil] at hres
      subst hn
      exact hK acc _ _ _ hres ho hb hBw
    have hlt : i < l.length := by omega
    have e1 : IntKind.i64.wrap ((i : Int) + 1) = ((i + 1 : Nat) : Int) := w64n (by omega) (by omega)
    have hd := drop_cons (l := x) (i := i) (by omega)
    rw [hxi i (by omega)] at hd
    refine sel_t (by simp; omega) (rb_ld (hr.below hb hB) hlt rfl rfl ?_)
    refine app_one ho hn hBw (by omega) fun A' c' w' o' b' h' => ⟨_, _, _, rfl, rb_ld (hr.below (hb.trans b') hB) hlt rfl rfl ?_⟩
    rw [e1]
    by_cases q : l[i] = 0
    · refine sel_t (by rw [q]; rfl) ?_
      by_cases q2 : i + 1 = N
      · refine sel_t (by simp; omega) (hKr ?_ _ (hb.trans b') h')
        rw [hd, List.drop_of_length_le (by omega), q] at hres
        exact hres
      · refine sel_f (by simp; omega) (rb_ld (i := i + 1) (hr.below (hb.trans b') hB) (by omega) rfl rfl ?_)
        have hd2 := drop_cons (l := x) (i := i + 1) (by omega)
        rw [hxi (i + 1) (by omega)] at hd2
        rw [hd, hd2, q] at hres
        unfold decL at hres
        rw [if_pos rfl] at hres
        by_cases q3 : l[i + 1] = 255
        · refine sel_f (by rw [q3]; rfl) ?_
          rw [if_pos q3, Option.map_map] at hres
          rw [show IntKind.i64.wrap (((i + 1 : Nat) : Int) + 1) = ((i + 2 : Nat) : Int) from w64n (by omega) (by omega)]
          rw [q] at o'
          refine ih (N - (i + 2)) (by omega) (i + 2) k _ (acc ++ [0]) A' c' w' rfl (by omega) (by omega) (by simp) (by simp; omega) ?_ o' (hb.trans b') h'
          rw [hres]
          congr 1
          funext y
          simp
        · have hz : ((l[i + 1].toNat : Int) != 255) = true := by
            rw [bne_iff_ne]; intro h
            exact q3 (UInt8.toNat_inj.1 (by show l[i + 1].toNat = 255; omega))
          refine sel_t hz (hKr ?_ _ (hb.trans b') h')
          rw [hres, if_neg q3]; rfl
    · have hz : ¬ ((l[i].toNat : Int) == 0) = true := by
        rw [beq_iff_eq]; intro h
        exact q (UInt8.toNat_inj.1 (by show l[i].toNat = 0; omega))
      refine sel_f (by simpa using hz) ?_
      have hdec : decL (l[i] :: x.drop (i + 1)) = (decL (x.drop (i + 1))).map (l[i] :: ·) := by
        exact decL_ne q _
      rw [hd, hdec, Option.map_map] at hres
      refine ih (N - (i + 1)) (by omega) (i + 1) k _ (acc ++ [l[i]]) A' c' w' rfl (by omega) (by omega) (by simp) (by simp; omega) ?_ o' (hb.trans b') h'
      rw [hres]
      congr 1
      funext y
      simp
theorem RSplit_l1 {w : World} {n N : Nat} (hr : Go.Dn.RB w A l) (hl : l.length = N + 8) (hlen : l.length ≤ 70368744177664) (hn : n = l.length) {K : Int → World → Prop} (hK : K (valB (l.drop N) : Int) w) :
    ∀ (m i k : Nat), l.length - i = m → N ≤ i → i ≤ l.length → m < k → f_ref04_Split.l1 k A n c (valB ((l.take i).drop N) : Int) (i : Int) w K := by
  subst hn
  intro m
  induction m with
  | zero =>
    intro i k hm hN hi hk
    obtain ⟨k, rfl⟩ : ∃ j, k = j + 1 := ⟨k - 1, by omega⟩
    unfold f_ref04_Split.l1
    obtain rfl : i = l.length := by omega
    refine sel_f (by simp) ?_
    rw [List.take_length]
    exact hK
  | succ m ih =>
    intro i k hm hN hi hk
    obtain ⟨k, rfl⟩ : ∃ j, k = j + 1 := ⟨k - 1, by omega⟩
    have hlt : i < l.length := by omega
    unfold f_ref04_Split.l1
    refine sel_t (by simp; omega) (rb_ld hr hlt rfl rfl ?_)
    have e1 : IntKind.i64.wrap ((i : Int) + 1) = ((i + 1 : Nat) : Int) := w64n (by omega) (by omega)
    have hv := valB_lt ((l.take i).drop N)
    have hvl : ((l.take i).drop N).length = i - N := by rw [List.length_drop, List.length_take]; omega
    have e2 : (l.take (i + 1)).drop N = (l.take i).drop N ++ [l[i]] := by
      rw [List.take_succ_eq_append_getElem hlt, List.drop_append_of_le_length (by rw [List.length_take]; omega)]
    have hp : 256 ^ (i - N) ≤ 256 ^ 7 := Nat.pow_le_pow_right (by decide) (by omega)
    rw [hvl] at hv
    have hc := l[i].toNat_lt
    have hv7 : valB ((l.take i).drop N) < 72057594037927936 := by
      have : (256 : Nat) ^ 7 = 72057594037927936 := by decide
      omega
    have e3 : IntKind.u64.wrap ((IntKind.u64.wrap ((valB ((l.take i).drop N) : Int) * 256)) + (IntKind.u64.wrap (l[i].toNat : Int))) = ((valB ((l.take (i + 1)).drop N) : Nat) : Int) := by
      rw [e2, valB_snoc, u64w, u64w, u64w]
      omega
    rw [e1, e3]
    exact ih (i + 1) k (by omega) (by omega) (by omega) (by omega)
theorem RSplit_ok (r0 : Go.Dn.RB w A l) (hl : l.length ≤ 70368744177664) :
    Calls Tryd.prog 22 #[.slice A l.length c] w fun e w' => ∃ A c, e = .returned (.tuple #[.slice A (rsplitL l).1.length c, .int .i64 (rsplitL l).2.1, .int .i64 (rsplitL l).2.2]) ∧ OwnB w' w.heap.size TU8 A c (rsplitL l).1 ∧ Below w.heap.size w w' := by
  apply f_ref04_Split.ok
  unfold f_ref04_Split.wp
  obtain ⟨R, hR⟩ : ∃ R, rsplitL l = R := ⟨_, rfl⟩
  rw [hR]
  refine alW_intro ⟨l.length + 1, ?_⟩
  have h0 := OwnB.lit (w := w) (B := w.heap.size) (e := TU8) [] (cs := #[]) rfl (Nat.le_refl _) (by simp)
  have b0 : Below w.heap.size w (w.alloc (.cells #[] TU8)) := (Below.refl _ _).alloc (Nat.le_refl _) _
  have s0 : w.heap.size ≤ (w.alloc (.cells #[] TU8)).heap.size := b0.size
  obtain ⟨w1, hw1⟩ : ∃ w1, w.alloc (.cells #[] TU8) = w1 := ⟨_, rfl⟩
  rw [hw1] at h0 b0 s0 ⊢
  unfold rsplitL at hR
  have bad : ∀ w', R = ([], 0, 40) → Below w.heap.size w w' → ∃ A c, Ending.returned (.tuple #[.slice none 0 0, .int .i64 (0 : Int), .int .i64 (40 : Int)]) = .returned (.tuple #[.slice A R.1.length c, .int .i64 R.2.1, .int .i64 R.2.2]) ∧ OwnB w' w.heap.size TU8 A c R.1 ∧ Below w.heap.size w w' := fun w' e b => by
    subst e
    exact ⟨none, 0, rfl, World.ownsRow_nil _ _ _ _, b⟩
  by_cases hs : l.length < 10
  · have ez : IntKind.i64.wrap ((l.length : Int) - 10) = (l.length : Int) - 10 := w64_in (by omega)
    rw [ez]
    unfold f_ref04_Split.l0
    rw [if_pos hs] at hR
    exact sel_f (by simp; omega) fun _ => sel_t (by simp; omega) (bad _ hR.symm b0)
  rw [if_neg hs] at hR
  dsimp only at hR
  obtain ⟨N, hN⟩ : ∃ N, l.length = N + 10 := ⟨l.length - 10, by omega⟩
  have ez : IntKind.i64.wrap ((l.length : Int) - 10) = (N : Int) := w64n (by omega) (by omega)
  rw [ez]
  rw [show l.length - 10 = N by omega] at hR
  refine RSplit_l0 (w0 := w) (B := w.heap.size) (x := l.take N) (res := decL (l.take N)) r0 rfl (by omega) hl rfl (Nat.le_refl _) ?_ ?_ N 0 _ 0 [] _ _ w1 (by omega) (by omega) (by omega) rfl (Nat.zero_le _) (by rw [List.drop_zero]; cases decL (l.take N) <;> rfl) h0 b0 s0
  · intro k A' c' w2 hres o2 b2 h2 _
    rw [hres] at hR
    have hd := drop_cons (l := l) (i := N) (by omega)
    have hd2 := drop_cons (l := l) (i := N + 1) (by omega)
    have ht2 : (l.drop N).take 2 = [l[N], l[N + 1]] := by rw [hd, hd2]; rfl
    simp only [ht2] at hR
    refine sel_f (by simp) (rb_ld (i := N) (r0.below b2 (Nat.le_refl _)) (by omega) rfl rfl ?_)
    have e1 : IntKind.i64.wrap ((N : Int) + 1) = ((N + 1 : Nat) : Int) := w64n (by omega) (by omega)
    have e2 : IntKind.i64.wrap ((N : Int) + 2) = ((N + 2 : Nat) : Int) := w64n (by omega) (by omega)
    have nz : ∀ x : UInt8, x ≠ 0 → ((x.toNat : Int) != 0) = true := fun x hx => by
      rw [bne_iff_ne]; intro h
      exact hx (UInt8.toNat_inj.1 (by show x.toNat = 0; omega))
    by_cases q0 : l[N] = 0
    case neg =>
      rw [if_neg (by intro h; injection h with h _; exact q0 h)] at hR
      exact sel_t (nz _ q0) (bad _ hR.symm b2)
    refine sel_f (by rw [q0]; rfl) ?_
    rw [e1]
    refine rb_ld (i := N + 1) (r0.below b2 (Nat.le_refl _)) (by omega) rfl rfl ?_
    by_cases q1 : l[N + 1] = 0
    case neg =>
      rw [if_neg (by intro h; injection h with _ h; injection h with h _; exact q1 h)] at hR
      exact sel_t (nz _ q1) (bad _ hR.symm b2)
    refine sel_f (by rw [q1]; rfl) ?_
    rw [if_pos (by rw [q0, q1])] at hR
    rw [e2]
    have hv := valB_lt (l.drop (N + 2))
    have hvl : (l.drop (N + 2)).length = 8 := by rw [List.length_drop]; omega
    rw [hvl] at hv
    have hv8 : valB (l.drop (N + 2)) < 18446744073709551616 := by
      have : (256 : Nat) ^ 8 = 18446744073709551616 := by decide
      omega
    refine ⟨9, ?_⟩
    have hstart := RSplit_l1 (c := c) (w := w2) (n := l.length) (N := N + 2) (r0.below b2 (Nat.le_refl _)) (by omega) hl rfl (K := fun (x22 : Int) (w23 : World) => ∀ _ : Fr,
  sel (decide ((IntKind.i64.wrap (IntKind.u64.wrap ((9223372036854775808 : Int) - x22))) < (0 : Int))) (
  ∃ A c_1, Ending.returned (.tuple #[.slice none 0 0, .int .i64 (0 : Int), .int .i64 (40 : Int)]) = .returned (.tuple #[.slice A R.1.length c_1, .int .i64 R.2.1, .int .i64 R.2.2]) ∧ OwnB w23 w.heap.size TU8 A c_1 R.1 ∧ Below w.heap.size w w23) (
  sel (decide ((IntKind.i64.wrap (IntKind.u64.wrap ((9223372036854775808 : Int) - x22))) > (1099511627776 : Int))) (
  ∃ A c_1, Ending.returned (.tuple #[.slice none 0 0, .int .i64 (0 : Int), .int .i64 (40 : Int)]) = .returned (.tuple #[.slice A R.1.length c_1, .int .i64 R.2.1, .int .i64 R.2.2]) ∧ OwnB w23 w.heap.size TU8 A c_1 R.1 ∧ Below w.heap.size w w23) (
  ∃ A c_1, Ending.returned (.tuple #[.slice A' k.length c', .int .i64 (IntKind.i64.wrap (IntKind.u64.wrap ((9223372036854775808 : Int) - x22))), .int .i64 (0 : Int)]) = .returned (.tuple #[.slice A R.1.length c_1, .int .i64 R.2.1, .int .i64 R.2.2]) ∧ OwnB w23 w.heap.size TU8 A c_1 R.1 ∧ Below w.heap.size w w23))) ?_ 8 (N + 2) 9 (by omega) (by omega) (by omega) (by omega)
    · have e0 : (l.take (N + 2)).drop (N + 2) = [] := List.drop_of_length_le (by rw [List.length_take]; omega)
      rw [e0] at hstart
      exact hstart
    intro _
    have et : IntKind.i64.wrap (IntKind.u64.wrap ((9223372036854775808 : Int) - (valB (l.drop (N + 2)) : Int))) = timeOf (l.drop (N + 2)) := by
      unfold timeOf
      rw [i64w, u64w, i64w]; omega
    rw [et]
    obtain ⟨t, htt⟩ : ∃ t, timeOf (l.drop (N + 2)) = t := ⟨_, rfl⟩
    rw [htt] at hR ⊢
    by_cases t1 : t < 0
    · rw [if_pos (show badT t from .inl t1)] at hR
      exact sel_t (by simpa using t1) (bad _ hR.symm b2)
    refine sel_f (by simpa using t1) ?_
    by_cases t2 : 1099511627776 < t
    · rw [if_pos (show badT t from .inr t2)] at hR
      exact sel_t (by simpa using t2) (bad _ hR.symm b2)
    refine sel_f (by simpa using t2) ?_
    rw [if_neg (show ¬ badT t by unfold badT; omega)] at hR
    subst hR
    exact ⟨_, _, rfl, o2, b2⟩
  · intro hres w2 b2 h2 _
    rw [hres] at hR
    exact bad _ hR.symm b2
end
end Go.Proofs.YtakgoekfnhkgaaaDoor.Rd
