/- Numbers are written. Conditions: numbers below 2^64. -/
import Derived.Test.YtakgoekfnhkgaaaDoorHelp2
import Derived.Laws.NewBlocks
namespace Go.Proofs.YtakgoekfnhkgaaaDoor.Rd
open Go.Dn Go.RowKit
set_option linter.unusedVariables false
set_option linter.unusedSimpArgs false

/-! ### numbers -/
theorem u64w (x : Int) : IntKind.u64.wrap x = x % 18446744073709551616 := by simp [IntKind.wrap, IntKind.bits, IntKind.signed]
theorem bv64 (n : Nat) (h : n < 18446744073709551616) : (BitVec.ofInt 64 (n : Int)).toNat = n := by simp [BitVec.toNat_ofInt]; omega
theorem bv8 (n : Nat) (h : n < 256) : (BitVec.ofInt 8 (n : Int)).toNat = n := by simp [BitVec.toNat_ofInt]; omega
theorem bor8_128 (n : Nat) (h : n < 256) : bor .u8 (n : Int) 128 = ((n % 128 + 128 : Nat) : Int) := by
  unfold bor
  show IntKind.u8.wrap (((BitVec.ofInt 8 (n : Int)) ||| BitVec.ofInt 8 ((128 : Nat) : Int)).toNat : Int) = _
  rw [BitVec.toNat_or, bv8 n h, bv8 128 (by decide)]
  have : n ||| 128 = n % 128 + 128 := by
    have : ∀ k : Fin 256, k.val ||| 128 = k.val % 128 + 128 := by decide +kernel
    exact this ⟨n, h⟩
  rw [this, u8w]; omega
theorem bxor64_nat (m n : Nat) (hm : m < 18446744073709551616) (hn : n < 18446744073709551616) : bxor .u64 (m : Int) (n : Int) = ((m ^^^ n : Nat) : Int) := by
  unfold bxor
  show IntKind.u64.wrap (((BitVec.ofInt 64 (m : Int)) ^^^ BitVec.ofInt 64 (n : Int)).toNat : Int) = _
  rw [BitVec.toNat_xor, bv64 m hm, bv64 n hn, u64w]
  have := Nat.xor_lt_two_pow (n := 64) (x := m) (y := n) hm hn
  omega

/-- a number's bytes -/
def putF : Nat → Nat → List UInt8
  | 0, u => [UInt8.ofNat u]
  | k + 1, u => if u < 128 then [UInt8.ofNat u] else UInt8.ofNat (u % 128 + 128) :: putF k (u / 128)
def putL (u : Nat) : List UInt8 := putF 9 u
theorem putF_len : ∀ (k u : Nat), (putF k u).length ≤ k + 1
  | 0, u => by simp [putF]
  | k + 1, u => by
    unfold putF; split
    · simp
    · have := putF_len k (u / 128); simp; omega
theorem putL_len (u : Nat) : (putL u).length ≤ 10 := putF_len 9 u

/-- a byte more behind a row: what 'append(out, b)' comes to -/
theorem app_one {w : World} {B : Nat} {A : Option Addr} {n c : Nat} {l : List UInt8} {b : UInt8} {K : Value → World → Prop} (ho : OwnB w B 5 A c l) (hn : n = l.length) (hB : B ≤ w.heap.size) (hlen : l.length ≤ 140737488355300)
    (hK : ∀ A' c' w', OwnB w' B 5 A' c' (l ++ [b]) → Below B w w' → B ≤ w'.heap.size → K (.slice A' (l.length + 1) c') w') :
    alW w (.cells #[.int .u8 (b.toNat : Int)] 5) fun B1 w2 => Runs Tryd.prog (Builtin.append_ #[24, 24] 24 #[.slice A n c, .slice (some (⟨B1, 0, Option.none⟩ : Addr)) 1 1]) w2 K := by
  refine alW_intro ?_
  have hba := (Below.refl w.heap.size w).alloc (Nat.le_refl _) (.cells #[.int .u8 (b.toNat : Int)] 5)
  have h1 : RB (w.alloc (.cells #[.int .u8 (b.toNat : Int)] 5)) (some ⟨w.heap.size, 0, none⟩) [b] := (OwnB.lit (B := B) [b] rfl hB (by simp)).reads
  refine app_runs TBy (ho.keep hba) hn h1 rfl (fun h => by cases h) (Nat.le_trans hB hba.size) (by simp; omega) ?_
  intro A' c' w' ho' hb' _ _
  have := hK A' c' w' ho' ((hba.mono hB).trans hb') (Nat.le_trans (Nat.le_trans hB hba.size) hb'.size)
  rw [List.length_append, List.length_singleton]; exact this
theorem low7 (u : Nat) : IntKind.u8.wrap (u : Int) = ((u % 256 : Nat) : Int) := by rw [u8w]; omega
theorem ofNat_val (u : Nat) (h : u < 256) : ((UInt8.ofNat u).toNat : Int) = (u : Int) := by rw [UInt8.toNat_ofNat']; omega

theorem Put_l0 {w0 : World} {B : Nat} {K : Int → Option Addr → Nat → Nat → World → Prop} (u0 : List UInt8)
    (hK : ∀ (x : Nat) A' c' w' l, x < 128 → OwnB w' B 5 A' c' l → l ++ [UInt8.ofNat x] = u0 → l.length ≤ 10 → Below B w0 w' → B ≤ w'.heap.size → K (x : Int) A' l.length c' w') :
    ∀ (m k u : Nat) (A3 : Option Addr) (n3 c3 : Nat) (w : World) (l : List UInt8), u < 128 ^ (m + 1) → m < k → m + l.length ≤ 9 → n3 = l.length → l ++ putF m u = u0 → OwnB w B 5 A3 c3 l → Below B w0 w → B ≤ w.heap.size →
      f_num_Put.l0 k (u : Int) A3 n3 c3 w K := by
  intro m
  induction m with
  | zero =>
    intro k u A3 n3 c3 w l hu hk hl hn he ho hb hB
    obtain ⟨k, rfl⟩ : ∃ j, k = j + 1 := ⟨k - 1, by omega⟩
    simp only [f_num_Put.l0]
    refine sel_f (by simp; omega) ?_
    rw [hn]
    exact hK u A3 c3 w l (by omega) ho he (by omega) hb hB
  | succ m ih =>
    intro k u A3 n3 c3 w l hu hk hl hn he ho hb hB
    obtain ⟨k, rfl⟩ : ∃ j, k = j + 1 := ⟨k - 1, by omega⟩
    simp only [f_num_Put.l0]
    unfold putF at he
    by_cases h : u < 128
    · rw [if_pos h] at he
      refine sel_f (by simp; omega) ?_
      rw [hn]
      exact hK u A3 c3 w l h ho he (by omega) hb hB
    · rw [if_neg h] at he
      refine sel_t (by simp; omega) ?_
      have e1 : bor .u8 (IntKind.u8.wrap (u : Int)) 128 = ((UInt8.ofNat (u % 128 + 128)).toNat : Int) := by
        rw [low7, bor8_128 _ (by omega), ofNat_val _ (by omega)]; congr 2; omega
      have e2 : (u : Int).fdiv (2 ^ 7) = ((u / 128 : Nat) : Int) := by rw [Int.fdiv_eq_ediv_of_nonneg _ (by decide)]; omega
      rw [e1, e2]
      refine app_one ho hn hB (by omega) ?_
      intro A' c' w' ho' hb' hB'
      refine ⟨_, _, _, rfl, ?_⟩
      refine ih k (u / 128) A' _ c' w' (l ++ [UInt8.ofNat (u % 128 + 128)]) ?_ (by omega) (by simp; omega) (by simp) (by rw [List.append_assoc]; exact he) ho' (hb.trans hb') hB'
      rw [Nat.pow_succ] at hu
      exact Nat.div_lt_of_lt_mul (by omega)
theorem Put_ok {w : World} (u : Nat) (hu : u < 18446744073709551616) :
    Calls Tryd.prog 56 #[.int .u64 (u : Int)] w fun e w' => ∃ A' c', e = .returned (.slice A' (putL u).length c') ∧ OwnB w' w.heap.size 5 A' c' (putL u) ∧ Below w.heap.size w w' := by
  apply f_num_Put.ok
  unfold f_num_Put.wp
  refine ⟨10, ?_⟩
  refine Put_l0 (w0 := w) (B := w.heap.size) (putL u) ?_ 9 10 u none 0 0 w [] (by omega) (by omega) (by simp) rfl rfl (World.ownsRow_nil _ _ _ _) (Below.refl _ _) (Nat.le_refl _)
  intro x A1 c1 w1 l hx ho he hl hb hB _
  have e1 : IntKind.u8.wrap (x : Int) = ((UInt8.ofNat x).toNat : Int) := by rw [low7, ofNat_val _ (by omega)]; congr 1; omega
  rw [e1]
  refine app_one ho rfl hB (by omega) ?_
  intro A' c' w' ho' hb' hB'
  rw [he] at ho'
  have hle : l.length + 1 = (putL u).length := by rw [← he]; simp
  rw [hle]
  exact ⟨_, _, _, rfl, A', c', rfl, ho', hb.trans hb'⟩

/-! ### texts -/
def putT (l : List UInt8) : List UInt8 := putL l.length ++ l
theorem rb_none {w : World} {l : List UInt8} (h : RB w none l) : l = [] := by
  cases l with
  | nil => rfl
  | cons b l => obtain ⟨a, ha, _⟩ := h 0 (by simp); cases ha
/-! ### signs -/
/-- a sign folded in -/
def fold (v : Int) : Nat := if 0 ≤ v then (2 * v).toNat else (-2 * v - 1).toNat
theorem fold_lt {v : Int} (h : -9223372036854775808 ≤ v ∧ v ≤ 9223372036854775807) : fold v < 18446744073709551616 := by unfold fold; split <;> omega
theorem i64w (x : Int) : IntKind.i64.wrap x = (x + 9223372036854775808) % 18446744073709551616 - 9223372036854775808 := by
  simp [IntKind.wrap, IntKind.bits, IntKind.signed]
  split <;> omega
theorem xor_ones (n : Nat) (h : n < 18446744073709551616) : n ^^^ 18446744073709551615 = 18446744073709551615 - n := by
  have h1 : (BitVec.ofNat 64 n ^^^ BitVec.allOnes 64).toNat = (~~~ (BitVec.ofNat 64 n)).toNat := by rw [BitVec.xor_allOnes]
  rw [BitVec.toNat_xor, BitVec.toNat_not, BitVec.toNat_allOnes, BitVec.toNat_ofNat, Nat.mod_eq_of_lt (by omega)] at h1
  exact h1
theorem shl1 (v : Int) (h : -9223372036854775808 ≤ v ∧ v ≤ 9223372036854775807) : bxor .u64 (IntKind.u64.wrap (IntKind.i64.wrap (v * 2 ^ 1))) (IntKind.u64.wrap (v.fdiv (2 ^ 63))) = (fold v : Int) := by
  by_cases hv : 0 ≤ v
  · have e1 : IntKind.u64.wrap (IntKind.i64.wrap (v * 2 ^ 1)) = (((2 * v).toNat : Nat) : Int) := by rw [i64w, u64w]; omega
    have e2 : IntKind.u64.wrap (v.fdiv (2 ^ 63)) = ((0 : Nat) : Int) := by rw [Int.fdiv_eq_ediv_of_nonneg _ (by decide), u64w]; omega
    rw [e1, e2, bxor64_nat _ _ (by omega) (by decide), Nat.xor_zero]
    unfold fold; rw [if_pos hv]
  · have e1 : IntKind.u64.wrap (IntKind.i64.wrap (v * 2 ^ 1)) = (((2 * v + 18446744073709551616).toNat : Nat) : Int) := by rw [i64w, u64w]; omega
    have e2 : IntKind.u64.wrap (v.fdiv (2 ^ 63)) = ((18446744073709551615 : Nat) : Int) := by rw [Int.fdiv_eq_ediv_of_nonneg _ (by decide), u64w]; omega
    rw [e1, e2, bxor64_nat _ _ (by omega) (by decide), xor_ones _ (by omega)]
    unfold fold; rw [if_neg hv]; omega
theorem PutS_ok {w : World} (v : Int) (h : -9223372036854775808 ≤ v ∧ v ≤ 9223372036854775807) :
    Calls Tryd.prog 49 #[.int .i64 v] w fun e w' => ∃ A' c', e = .returned (.slice A' (putL (fold v)).length c') ∧ OwnB w' w.heap.size 5 A' c' (putL (fold v)) ∧ Below w.heap.size w w' := by
  apply f_num_PutS.ok
  unfold f_num_PutS.wp
  rw [shl1 v h]
  refine (Put_ok (fold v) (fold_lt h)).mono ?_
  rintro e w1 ⟨A1, c1, rfl, ho, hb⟩
  exact ⟨_, _, _, rfl, A1, c1, rfl, ho, hb⟩
/-! ### reading -/
/-- the number, how many bytes it takes, the error's number -/
def getR : List UInt8 → Nat → Nat → Nat × Nat × Nat
  | [], i, u => (0, 0, 2)
  | c :: r, i, u => if i = 9 ∧ 1 < c.toNat then (0, 0, 10) else
    if 128 ≤ c.toNat then getR r (i + 1) (u + c.toNat % 128 * 128 ^ i) else
    if c.toNat = 0 ∧ 0 < i then (0, 0, 5) else (u + c.toNat % 128 * 128 ^ i, i + 1, 0)
/-- the number from a place on, the place behind it, the error's number -/
def getL (l : List UInt8) (at_ : Int) : Nat × Nat × Nat :=
  if at_ < 0 then (0, 0, 1) else if (l.length : Int) < at_ then (0, 0, 1) else
  let r := getR (l.drop at_.toNat) 0 0
  if r.2.2 = 0 then (r.1, at_.toNat + r.2.1, 0) else (0, 0, r.2.2)
theorem getR_form : ∀ (l : List UInt8) (i u : Nat), i ≤ 9 → u < 128 ^ i → ((getR l i u).2.2 = 0 ∧ (getR l i u).1 < 18446744073709551616 ∧ (getR l i u).2.1 ≤ i + l.length ∧ i < (getR l i u).2.1 ∧ (getR l i u).2.1 ≤ 10) ∨ ((getR l i u).2.2 ≠ 0 ∧ (getR l i u).2.2 < 11 ∧ (getR l i u).1 = 0 ∧ (getR l i u).2.1 = 0)
  | [], i, u, hi, hu => .inr ⟨by simp [getR], by simp [getR], rfl, rfl⟩
  | c :: r, i, u, hi, hu => by
    unfold getR
    split
    · exact .inr ⟨by simp, by simp, rfl, rfl⟩
    · rename_i h9
      have hp : 128 ^ i * 128 = 128 ^ (i + 1) := (Nat.pow_succ ..).symm
      have hb : u + c.toNat % 128 * 128 ^ i < 128 ^ (i + 1) := by
        have : c.toNat % 128 * 128 ^ i ≤ 127 * 128 ^ i := Nat.mul_le_mul_right _ (by omega)
        omega
      split
      · rename_i hc
        have hi9 : i ≠ 9 := fun h => h9 ⟨h, by omega⟩
        rcases getR_form r (i + 1) (u + c.toNat % 128 * 128 ^ i) (by omega) hb with h | h
        · refine .inl ⟨h.1, h.2.1, ?_, by omega, h.2.2.2.2⟩
          rw [List.length_cons]; omega
        · exact .inr h
      · rename_i hc
        split
        · exact .inr ⟨by simp, by simp, rfl, rfl⟩
        · refine .inl ⟨rfl, ?_, ?_, ?_, ?_⟩
          · show u + c.toNat % 128 * 128 ^ i < _
            by_cases h : i = 9
            · subst h
              have : c.toNat ≤ 1 := by
                rcases Nat.lt_or_ge 1 c.toNat with h' | h'
                · exact absurd ⟨rfl, h'⟩ h9
                · exact h'
              have : c.toNat % 128 * 128 ^ 9 ≤ 1 * 128 ^ 9 := Nat.mul_le_mul_right _ (by omega)
              omega
            · have : 128 ^ (i + 1) ≤ 128 ^ 9 := Nat.pow_le_pow_right (by decide) (by omega)
              omega
          · show i + 1 ≤ _; rw [List.length_cons]; omega
          · show i < i + 1; omega
          · show i + 1 ≤ 10; omega
theorem band8_127 (n : Nat) (h : n < 256) : band .u8 (n : Int) 127 = ((n % 128 : Nat) : Int) := by
  unfold band
  show IntKind.u8.wrap (((BitVec.ofInt 8 (n : Int)) &&& BitVec.ofInt 8 ((127 : Nat) : Int)).toNat : Int) = _
  rw [BitVec.toNat_and, bv8 n h, bv8 127 (by decide)]
  have : n &&& 127 = n % 128 := Nat.and_two_pow_sub_one_eq_mod n 7
  rw [this, u8w]; omega
theorem bor64_nat (m n : Nat) (hm : m < 18446744073709551616) (hn : n < 18446744073709551616) : bor .u64 (m : Int) (n : Int) = ((m ||| n : Nat) : Int) := by
  unfold bor
  show IntKind.u64.wrap (((BitVec.ofInt 64 (m : Int)) ||| BitVec.ofInt 64 (n : Int)).toNat : Int) = _
  rw [BitVec.toNat_or, bv64 m hm, bv64 n hn, u64w]
  have := Nat.or_lt_two_pow (n := 64) (x := m) (y := n) hm hn
  omega
/-- a byte's seven bits put ahead of those that are there -/
theorem add_bits (i u c : Nat) (hi : i ≤ 9) (hu : u < 128 ^ i) (hc : c < 256) (h9 : ¬ (i = 9 ∧ 1 < c)) :
    bor .u64 (u : Int) (IntKind.u64.wrap ((IntKind.u64.wrap (band .u8 (c : Int) 127)) * 2 ^ (min (IntKind.u64.wrap (IntKind.i64.wrap ((7 : Int) * (i : Int)))).toNat 64))) = ((u + c % 128 * 128 ^ i : Nat) : Int) := by
  have e0 : IntKind.u64.wrap (IntKind.i64.wrap ((7 : Int) * (i : Int))) = ((7 * i : Nat) : Int) := by rw [w64_in (by omega), u64w]; omega
  rw [e0, Int.toNat_natCast, show min (7 * i) 64 = 7 * i by omega, band8_127 c hc, show IntKind.u64.wrap ((c % 128 : Nat) : Int) = ((c % 128 : Nat) : Int) by rw [u64w]; omega]
  have hp : (2 : Nat) ^ (7 * i) = 128 ^ i := by rw [Nat.pow_mul]
  have hlt : c % 128 * 128 ^ i < 18446744073709551616 := by
    by_cases h : i = 9
    · subst h
      have : c % 128 * 128 ^ 9 ≤ 1 * 128 ^ 9 := Nat.mul_le_mul_right _ (by omega)
      omega
    · have h1 : c % 128 * 128 ^ i ≤ 127 * 128 ^ i := Nat.mul_le_mul_right _ (by omega)
      have h2 : 128 ^ i ≤ 128 ^ 8 := Nat.pow_le_pow_right (by decide) (by omega)
      omega
  have hu2 : u < 18446744073709551616 := by
    have h2 : 128 ^ i ≤ 128 ^ 9 := Nat.pow_le_pow_right (by decide) hi
    omega
  have e1 : IntKind.u64.wrap (((c % 128 : Nat) : Int) * 2 ^ (7 * i)) = ((c % 128 * 128 ^ i : Nat) : Int) := by
    rw [← hp, u64w]
    have : (((c % 128 : Nat) : Int) * 2 ^ (7 * i)) = ((c % 128 * 2 ^ (7 * i) : Nat) : Int) := by push_cast; rfl
    rw [this]
    rw [hp] at *
    omega
  rw [e1, bor64_nat _ _ hu2 hlt]
  congr 1
  rw [Nat.or_comm, ← hp, Nat.mul_comm, Nat.add_comm]
  exact (Nat.two_pow_add_eq_or_of_lt (by rw [hp]; exact hu) (c % 128)).symm
end Go.Proofs.YtakgoekfnhkgaaaDoor.Rd
