/- Contracts of the sums of layer 2 and of the document's, over the printed readings. Conditions: lengths at most 2^46. -/
import Derived.Test.YtifambgaekjilaaDoorHelp
namespace Go.Proofs.YtifambgaekjilaaDoor.Rd
open Go.Dn Go.RowKit
set_option linter.unusedVariables false
set_option linter.unusedSimpArgs false

/-! ### numbers -/
theorem band_one (x : Int) (h0 : 0 ≤ x) (h1 : x < 4294967296) : band .u32 x 1 = x % 2 := by
  obtain ⟨n, rfl⟩ := Int.eq_ofNat_of_zero_le h0
  unfold band
  have e : ((BitVec.ofInt IntKind.u32.bits (n : Int)) &&& BitVec.ofInt IntKind.u32.bits 1).toNat = n % 2 := by
    show ((BitVec.ofInt 32 (n : Int)) &&& BitVec.ofInt 32 1).toNat = n % 2
    rw [BitVec.toNat_and]
    have : (BitVec.ofInt 32 (n : Int)).toNat = n := by simp [BitVec.toNat_ofInt]; omega
    rw [this]
    show n &&& 1 = n % 2
    exact Nat.and_one_is_mod n
  rw [e, u32w]; omega
theorem bits32_lt (x : BitVec 32) : x.toNat < 4294967296 := x.isLt
theorem toNat32 (n : Nat) (h : n < 4294967296) : (BitVec.ofInt 32 (n : Int)).toNat = n := by simp [BitVec.toNat_ofInt]; omega
theorem bxor_nat (m n : Nat) (hm : m < 4294967296) (hn : n < 4294967296) : bxor .u32 (m : Int) (n : Int) = ((m ^^^ n : Nat) : Int) := by
  unfold bxor
  show IntKind.u32.wrap (((BitVec.ofInt 32 (m : Int)) ^^^ BitVec.ofInt 32 (n : Int)).toNat : Int) = _
  rw [BitVec.toNat_xor, toNat32 m hm, toNat32 n hn, u32w]
  have := Nat.xor_lt_two_pow (n := 32) (x := m) (y := n) hm hn
  omega
theorem band_nat (m n : Nat) (hm : m < 4294967296) (hn : n < 4294967296) : band .u32 (m : Int) (n : Int) = ((m &&& n : Nat) : Int) := by
  unfold band
  show IntKind.u32.wrap (((BitVec.ofInt 32 (m : Int)) &&& BitVec.ofInt 32 (n : Int)).toNat : Int) = _
  rw [BitVec.toNat_and, toNat32 m hm, toNat32 n hn, u32w]
  have := Nat.and_lt_two_pow (n := 32) m (y := n) hn
  omega

/-- one bit of the sum, on numbers -/
def stp (n : Nat) : Nat := if n % 2 = 1 then (n / 2) ^^^ 3988292384 else n / 2
theorem stp_lt {n : Nat} (h : n < 4294967296) : stp n < 4294967296 := by
  unfold stp
  split
  · exact Nat.xor_lt_two_pow (n := 32) (by omega) (by decide)
  · omega
def stps : Nat → Nat → Nat
  | 0, n => n
  | k + 1, n => stps k (stp n)
theorem stps_lt : ∀ {k n : Nat}, n < 4294967296 → stps k n < 4294967296
  | 0, _, h => h
  | k + 1, _, h => stps_lt (k := k) (stp_lt h)
/-- a byte more -/
def crcB (s : Nat) (b : UInt8) : Nat := stps 8 (s ^^^ b.toNat)
theorem crcB_lt {s : Nat} {b : UInt8} (h : s < 4294967296) : crcB s b < 4294967296 :=
  stps_lt (Nat.xor_lt_two_pow (n := 32) h (by have := b.toNat_lt; omega))
def crcL (s : Nat) (l : List UInt8) : Nat := l.foldl crcB s
theorem crcL_lt {s : Nat} {l : List UInt8} (h : s < 4294967296) : crcL s l < 4294967296 := by
  induction l generalizing s with
  | nil => exact h
  | cons b l ih => exact ih (crcB_lt h)
def crcSum (l : List UInt8) : Nat := crcL 4294967295 l ^^^ 4294967295

theorem cstep_ok (n : Nat) (h : n < 4294967296) (w : World) : Calls Tryd.prog 69 #[.int .u32 (n : Int)] w fun e w' => e = .returned (.int .u32 (stp n : Int)) ∧ w' = w := by
  apply f_crc_step.ok
  unfold f_crc_step.wp
  refine ⟨?_, rfl⟩
  congr 2
  rw [band_one _ (by omega) (by omega)]
  have hd : (n : Int).fdiv (2 ^ 1) = ((n / 2 : Nat) : Int) := by
    rw [Int.fdiv_eq_ediv_of_nonneg _ (by decide)]; simp
  rw [hd]
  rcases Nat.mod_two_eq_zero_or_one n with h2 | h2
  · have e1 : IntKind.u32.wrap (0 - (n : Int) % 2) = ((0 : Nat) : Int) := by rw [u32w]; omega
    rw [e1, show (3988292384 : Int) = ((3988292384 : Nat) : Int) from rfl, band_nat _ _ (by decide) (by decide), bxor_nat _ _ (by omega) (by decide)]
    simp [stp, h2]
  · have e1 : IntKind.u32.wrap (0 - (n : Int) % 2) = ((4294967295 : Nat) : Int) := by rw [u32w]; omega
    rw [e1, show (3988292384 : Int) = ((3988292384 : Nat) : Int) from rfl, band_nat _ _ (by decide) (by decide), bxor_nat _ _ (by omega) (by decide)]
    simp [stp, h2]

/-! ### the sum over parts -/
theorem Sum_l2 {K : Int → World → Prop} {w : World} : ∀ (m k n : Nat), m ≤ 8 → m < k → n < 4294967296 → K (stps m n : Int) w → f_crc_Sum.l2 k (n : Int) ((8 - m : Nat) : Int) w K := by
  intro m
  induction m with
  | zero =>
    intro k n _ hk hn h
    obtain ⟨k, rfl⟩ : ∃ j, k = j + 1 := ⟨k - 1, by omega⟩
    simp only [f_crc_Sum.l2]
    exact sel_f (by decide) h
  | succ m ih =>
    intro k n hm hk hn h
    obtain ⟨k, rfl⟩ : ∃ j, k = j + 1 := ⟨k - 1, by omega⟩
    simp only [f_crc_Sum.l2]
    refine sel_t (by simp; omega) ?_
    refine (cstep_ok n hn w).mono ?_
    rintro e w' ⟨rfl, rfl⟩
    refine ⟨_, rfl, ?_⟩
    rw [w64_in (by omega), show ((8 - (m + 1) : Nat) : Int) + 1 = ((8 - m : Nat) : Int) by omega]
    exact ih k _ (by omega) (by omega) (stp_lt hn) h

theorem Sum_l1 {K : Int → World → Prop} {w : World} {A : Option Addr} {c : Nat} {l : List UInt8} (hr : RB w A l) (hlen : l.length ≤ 140737488355328) :
    ∀ (m k i n : Nat), l.length - i = m → i ≤ l.length → m < k → n < 4294967296 → K (crcL n (l.drop i) : Int) w → f_crc_Sum.l1 k (n : Int) A l.length c (l.length : Int) (i : Int) w K := by
  intro m
  induction m with
  | zero =>
    intro k i n hm hi hk hn h
    obtain ⟨k, rfl⟩ : ∃ j, k = j + 1 := ⟨k - 1, by omega⟩
    simp only [f_crc_Sum.l1]
    refine sel_f (by simp; omega) ?_
    rw [List.drop_eq_nil_of_le (by omega)] at h
    exact h
  | succ m ih =>
    intro k i n hm hi hk hn h
    obtain ⟨k, rfl⟩ : ∃ j, k = j + 1 := ⟨k - 1, by omega⟩
    have hlt : i < l.length := by omega
    simp only [f_crc_Sum.l1]
    refine sel_t (by simp; omega) ?_
    obtain ⟨a, rfl, hc⟩ := hr i hlt
    refine optB_some rfl (req_intro (by simp; omega) ?_)
    refine ldI_intro (x := (l[i].toNat : Int)) (by rw [Int.toNat_natCast, Nat.mul_one]; exact hc) ?_
    have hb := (l[i]).toNat_lt
    rw [u32w, show ((l[i].toNat : Int) % 4294967296) = (l[i].toNat : Int) by omega, bxor_nat _ _ hn (by omega)]
    refine ⟨9, ?_⟩
    refine Sum_l2 8 9 (n ^^^ l[i].toNat) (by omega) (by omega) (Nat.xor_lt_two_pow (n := 32) hn (by omega)) ?_
    intro _
    rw [w64_in (by omega), show (i : Int) + 1 = ((i + 1 : Nat) : Int) by omega]
    refine ih k (i + 1) _ (by omega) (by omega) (by omega) (stps_lt (Nat.xor_lt_two_pow (n := 32) hn (by omega))) ?_
    rw [List.drop_eq_getElem_cons hlt] at h
    exact h

/-- a slice at A reads slices that read these lists of bytes -/
def RP (w : World) (A : Option Addr) (L : List (List UInt8)) : Prop :=
  ∀ i (h : i < L.length), ∃ a Ai ci, A = some a ∧ w.cell? (a.add i) = some (.slice Ai L[i].length ci) ∧ RB w Ai L[i] ∧ L[i].length ≤ 140737488355328

theorem Sum_l0 {K : Int → World → Prop} {w : World} {A : Option Addr} {c : Nat} {L : List (List UInt8)} (hr : RP w A L) (hlen : L.length ≤ 140737488355328) :
    ∀ (m k i n : Nat), L.length - i = m → i ≤ L.length → m < k → n < 4294967296 → K (crcL n (L.drop i).flatten : Int) w → f_crc_Sum.l0 k (n : Int) A L.length c (L.length : Int) (i : Int) w K := by
  intro m
  induction m with
  | zero =>
    intro k i n hm hi hk hn h
    obtain ⟨k, rfl⟩ : ∃ j, k = j + 1 := ⟨k - 1, by omega⟩
    simp only [f_crc_Sum.l0]
    refine sel_f (by simp; omega) ?_
    rw [List.drop_eq_nil_of_le (by omega)] at h
    exact h
  | succ m ih =>
    intro k i n hm hi hk hn h
    obtain ⟨k, rfl⟩ : ∃ j, k = j + 1 := ⟨k - 1, by omega⟩
    have hlt : i < L.length := by omega
    simp only [f_crc_Sum.l0]
    refine sel_t (by simp; omega) ?_
    obtain ⟨a, Ai, ci, rfl, hc, hb, hl⟩ := hr i hlt
    refine optB_some rfl (req_intro (by simp; omega) ?_)
    refine ldS_intro (A := Ai) (n := L[i].length) (c := ci) (by simpa using hc) ?_
    refine ⟨L[i].length + 1, ?_⟩
    refine Sum_l1 hb hl L[i].length _ 0 n (by omega) (by omega) (by omega) hn ?_
    intro _
    rw [w64_in (by omega), show (i : Int) + 1 = ((i + 1 : Nat) : Int) by omega]
    refine ih k (i + 1) _ (by omega) (by omega) (by omega) (crcL_lt hn) ?_
    rw [List.drop_eq_getElem_cons hlt, List.flatten_cons] at h
    rw [List.drop_zero]
    unfold crcL at h ⊢
    rw [List.foldl_append] at h
    exact h

theorem Sum_ok {w : World} {A : Option Addr} {c : Nat} {L : List (List UInt8)} (hr : RP w A L) (hlen : L.length ≤ 140737488355328) :
    Calls Tryd.prog 53 #[.slice A L.length c] w fun e w' => e = .returned (.int .u32 (crcSum L.flatten : Int)) ∧ w' = w := by
  apply f_crc_Sum.ok
  unfold f_crc_Sum.wp
  refine ⟨L.length + 1, ?_⟩
  refine Sum_l0 hr hlen L.length _ 0 4294967295 (by omega) (by omega) (by omega) (by decide) ?_
  intro _
  rw [List.drop_zero, show (4294967295 : Int) = ((4294967295 : Nat) : Int) from rfl, bxor_nat _ _ (by decide) (crcL_lt (by decide)), Nat.xor_comm]
  exact ⟨rfl, rfl⟩

/-! ### the document's sum -/
theorem RSum_l1 {K : Int → World → Prop} {w : World} : ∀ (m k n : Nat), m ≤ 8 → m < k → n < 4294967296 → K (stps m n : Int) w → f_ref02_Sum.l1 k (n : Int) ((8 - m : Nat) : Int) w K := by
  intro m
  induction m with
  | zero =>
    intro k n _ hk hn h
    obtain ⟨k, rfl⟩ : ∃ j, k = j + 1 := ⟨k - 1, by omega⟩
    simp only [f_ref02_Sum.l1]
    exact sel_f (by decide) h
  | succ m ih =>
    intro k n hm hk hn h
    obtain ⟨k, rfl⟩ : ∃ j, k = j + 1 := ⟨k - 1, by omega⟩
    simp only [f_ref02_Sum.l1]
    refine sel_t (by simp; omega) ?_
    have e1 : (n : Int).tmod 2 = ((n % 2 : Nat) : Int) := by rw [Int.tmod_eq_emod_of_nonneg (by omega)]; omega
    have e2 : IntKind.u32.wrap ((n : Int).tdiv 2) = ((n / 2 : Nat) : Int) := by rw [Int.tdiv_eq_ediv_of_nonneg (by omega), u32w]; omega
    rw [w64_in (by omega), show ((8 - (m + 1) : Nat) : Int) + 1 = ((8 - m : Nat) : Int) by omega, e1, e2]
    rcases Nat.mod_two_eq_zero_or_one n with h2 | h2
    · refine sel_f (by simp [h2]) ?_
      have hs : stp n = n / 2 := by simp [stp, h2]
      rw [← hs]
      exact ih k _ (by omega) (by omega) (stp_lt hn) h
    · refine sel_t (by simp [h2]) ?_
      have hs : stp n = (n / 2) ^^^ 3988292384 := by simp [stp, h2]
      rw [show (3988292384 : Int) = ((3988292384 : Nat) : Int) from rfl, bxor_nat _ _ (by omega) (by decide), ← hs]
      exact ih k _ (by omega) (by omega) (stp_lt hn) h
theorem RSum_l0 {K : Int → World → Prop} {w : World} {A : Option Addr} {c : Nat} {l : List UInt8} (hr : RB w A l) (hlen : l.length ≤ 140737488355328) :
    ∀ (m k i n : Nat), l.length - i = m → i ≤ l.length → m < k → n < 4294967296 → K (crcL n (l.drop i) : Int) w → f_ref02_Sum.l0 k A l.length c (n : Int) (i : Int) w K := by
  intro m
  induction m with
  | zero =>
    intro k i n hm hi hk hn h
    obtain ⟨k, rfl⟩ : ∃ j, k = j + 1 := ⟨k - 1, by omega⟩
    simp only [f_ref02_Sum.l0]
    refine sel_f (by simp; omega) ?_
    rw [List.drop_eq_nil_of_le (by omega)] at h
    exact h
  | succ m ih =>
    intro k i n hm hi hk hn h
    obtain ⟨k, rfl⟩ : ∃ j, k = j + 1 := ⟨k - 1, by omega⟩
    have hlt : i < l.length := by omega
    simp only [f_ref02_Sum.l0]
    refine sel_t (by simp; omega) ?_
    obtain ⟨a, rfl, hc⟩ := hr i hlt
    refine optB_some rfl (req_intro (by simp; omega) ?_)
    refine ldI_intro (x := (l[i].toNat : Int)) (by rw [Int.toNat_natCast, Nat.mul_one]; exact hc) ?_
    have hb := (l[i]).toNat_lt
    rw [u32w, show ((l[i].toNat : Int) % 4294967296) = (l[i].toNat : Int) by omega, bxor_nat _ _ hn (by omega)]
    refine ⟨9, ?_⟩
    refine RSum_l1 8 9 (n ^^^ l[i].toNat) (by omega) (by omega) (Nat.xor_lt_two_pow (n := 32) hn (by omega)) ?_
    intro _
    rw [w64_in (by omega), show (i : Int) + 1 = ((i + 1 : Nat) : Int) by omega]
    refine ih k (i + 1) _ (by omega) (by omega) (by omega) (stps_lt (Nat.xor_lt_two_pow (n := 32) hn (by omega))) ?_
    rw [List.drop_eq_getElem_cons hlt] at h
    exact h
theorem RSum_ok {w : World} {A : Option Addr} {c : Nat} {l : List UInt8} (hr : RB w A l) (hlen : l.length ≤ 140737488355328) :
    Calls Tryd.prog 75 #[.slice A l.length c] w fun e w' => e = .returned (.int .u32 (crcSum l : Int)) ∧ w' = w := by
  apply f_ref02_Sum.ok
  unfold f_ref02_Sum.wp
  refine ⟨l.length + 1, ?_⟩
  refine RSum_l0 hr hlen l.length _ 0 4294967295 (by omega) (by omega) (by omega) (by decide) ?_
  intro _
  rw [List.drop_zero, show (4294967295 : Int) = ((4294967295 : Nat) : Int) from rfl, bxor_nat _ _ (crcL_lt (by decide)) (by decide)]
  exact ⟨rfl, rfl⟩

end Go.Proofs.YtifambgaekjilaaDoor.Rd
