/- A number's bytes in the numbers' order. Conditions: none. -/
import Derived.Test.YtakgoekfnhkgaaaDoorKnC
namespace Go.Proofs.YtakgoekfnhkgaaaDoor.Rd
open Go.Dn Go.RowKit
set_option linter.unusedVariables false
set_option linter.unusedSimpArgs false

theorem wr_new {w : World} {cs : Array Value} {e : TypeId} {i : Nat} {v : Value} (h : cs[i]? = some v) : Wr (w.alloc (.cells cs e)) ⟨w.heap.size, i, none⟩ := by
  refine ⟨⟨v, ?_⟩, ?_⟩
  · rw [World.cell?_alloc_at _ _ _ _ rfl]; exact h
  · rw [World.frozen?_alloc_at _ _ _ _ rfl]
/-- the j-th of a number's eight bytes, the highest first -/
def bB (u j : Nat) : UInt8 := UInt8.ofNat (u / 2 ^ (56 - 8 * j))
def be8 (u : Nat) : List UInt8 := [bB u 0, bB u 1, bB u 2, bB u 3, bB u 4, bB u 5, bB u 6, bB u 7]
theorem Big_l0 {w : World} {u : Nat} {K : World → Prop} (hK : ∀ cs' : Array Value, cs'.size = 8 → (∀ j, j < 8 → cs'[j]? = some (byteV (bB u j))) → K (w.alloc (.cells cs' 72))) :
    ∀ (m k i : Nat) (cs : Array Value), 8 - i = m → i ≤ 8 → m < k → cs.size = 8 → (∀ j, j < i → cs[j]? = some (byteV (bB u j))) →
      f_num_Big.l0 k ⟨w.heap.size, 0, none⟩ (u : Int) (i : Int) (w.alloc (.cells cs 72)) K := by
  intro m
  induction m with
  | zero =>
    intro k i cs hm hi hk hsz hcs
    obtain ⟨k, rfl⟩ : ∃ j, k = j + 1 := ⟨k - 1, by omega⟩
    simp only [f_num_Big.l0]
    exact sel_f (by simp; omega) (hK cs hsz fun j hj => hcs j (by omega))
  | succ m ih =>
    intro k i cs hm hi hk hsz hcs
    obtain ⟨k, rfl⟩ : ∃ j, k = j + 1 := ⟨k - 1, by omega⟩
    simp only [f_num_Big.l0]
    have e0 : IntKind.u64.wrap (IntKind.i64.wrap ((56 : Int) - (IntKind.i64.wrap ((8 : Int) * (i : Int))))) = ((56 - 8 * i : Nat) : Int) := by rw [w64_in (x := 8 * (i : Int)) (by omega), w64_in (by omega), u64w]; omega
    rw [e0, Int.toNat_natCast, Int.toNat_natCast, Nat.mul_one, add_mk, Nat.zero_add, show min (56 - 8 * i) 64 = 56 - 8 * i by omega]
    have e1 : IntKind.u8.wrap ((u : Int).fdiv (2 ^ (56 - 8 * i))) = ((bB u i).toNat : Int) := by
      rw [Int.fdiv_eq_ediv_of_nonneg _ (by exact_mod_cast Nat.zero_le (2 ^ (56 - 8 * i))), u8w]
      unfold bB
      rw [UInt8.toNat_ofNat']
      have : (u : Int) / 2 ^ (56 - 8 * i) = ((u / 2 ^ (56 - 8 * i) : Nat) : Int) := by push_cast; rfl
      rw [this]; omega
    rw [e1]
    refine sel_t (by simp; omega) (req_intro (by simp) (req_intro (by simp; omega) ?_))
    obtain ⟨v, hv⟩ : ∃ v, cs[i]? = some v := ⟨cs[i]'(by omega), Array.getElem?_eq_getElem (by omega)⟩
    refine stW_intro (wr_new hv) ?_
    rw [World.setCell_alloc_at _ _ _ _ _ rfl, w64_in (by omega), show (i : Int) + 1 = ((i + 1 : Nat) : Int) by omega]
    refine ih k (i + 1) _ (by omega) (by omega) (by omega) (by simpa using hsz) ?_
    intro j hj
    by_cases hji : j = i
    · subst hji; rw [Array.getElem?_setIfInBounds_self_of_lt (by omega)]; rfl
    · rw [Array.getElem?_setIfInBounds_ne (by omega)]; exact hcs j (by omega)
theorem flip63 (v : Int) (h : -9223372036854775808 ≤ v ∧ v ≤ 9223372036854775807) : bxor .u64 (IntKind.u64.wrap v) 9223372036854775808 = (((v + 9223372036854775808).toNat : Nat) : Int) := by
  have e1 : IntKind.u64.wrap v = (((v + (if v < 0 then 18446744073709551616 else 0)).toNat : Nat) : Int) := by rw [u64w]; split <;> omega
  rw [e1, show (9223372036854775808 : Int) = ((9223372036854775808 : Nat) : Int) from rfl, bxor64_nat _ _ (by split <;> omega) (by decide)]
  congr 1
  have key : ∀ n, n < 18446744073709551616 → n ^^^ 9223372036854775808 = if n < 9223372036854775808 then n + 9223372036854775808 else n - 9223372036854775808 := by
    intro n hn
    have d : (n ^^^ 9223372036854775808) / 9223372036854775808 = (n / 9223372036854775808) ^^^ 1 := Nat.xor_div_two_pow (n := 63)
    have m : (n ^^^ 9223372036854775808) % 9223372036854775808 = (n % 9223372036854775808) ^^^ 0 := Nat.xor_mod_two_pow (n := 63)
    rw [Nat.xor_zero] at m
    generalize n ^^^ 9223372036854775808 = x at *
    split
    · rename_i h1
      rw [show n / 9223372036854775808 = 0 by omega, Nat.zero_xor] at d
      omega
    · rename_i h1
      rw [show n / 9223372036854775808 = 1 by omega, Nat.xor_self] at d
      omega
  rw [key _ (by split <;> omega)]
  split <;> split <;> omega
theorem eight {cs : Array Value} {f : Nat → Value} (hsz : cs.size = 8) (h : ∀ j, j < 8 → cs[j]? = some (f j)) : cs = #[f 0, f 1, f 2, f 3, f 4, f 5, f 6, f 7] := by
  apply Array.ext_getElem?
  intro i
  rcases Nat.lt_or_ge i 8 with hi | hi
  · rw [h i hi]
    match i, hi with
    | 0, _ | 1, _ | 2, _ | 3, _ | 4, _ | 5, _ | 6, _ | 7, _ => rfl
  · rw [Array.getElem?_eq_none (by omega), Array.getElem?_eq_none (by simpa using hi)]
theorem stW_same {w : World} {cs : Array Value} {e : TypeId} {i : Nat} {v : Value} {K : World → Prop} (h : cs[i]? = some v) (hk : K (w.alloc (.cells cs e))) : stW (w.alloc (.cells cs e)) ⟨w.heap.size, i, none⟩ v K := by
  refine stW_intro (wr_new h) ?_
  rw [World.setCell_alloc_at _ _ _ _ _ rfl]
  have : cs.setIfInBounds i v = cs := by
    apply Array.ext_getElem?
    intro j
    by_cases hj : i = j
    · subst hj
      obtain ⟨hlt, _⟩ := Array.getElem?_eq_some_iff.1 h
      rw [Array.getElem?_setIfInBounds_self_of_lt hlt, h]
    · rw [Array.getElem?_setIfInBounds_ne hj]
  rw [this]; exact hk
theorem Big_ok {w : World} (v : Int) (h : -9223372036854775808 ≤ v ∧ v ≤ 9223372036854775807) :
    Calls Tryd.prog 44 #[.int .i64 v] w fun e w' => e = .returned (.agg ((be8 (v + 9223372036854775808).toNat).map byteV).toArray) ∧ Below w.heap.size w w' := by
  apply f_num_Big.ok
  unfold f_num_Big.wp
  rw [flip63 v h]
  generalize (v + 9223372036854775808).toNat = u
  refine alW_intro ⟨9, ?_⟩
  refine Big_l0 (w := w) (u := u) ?_ 8 9 0 _ (by omega) (by omega) (by omega) rfl (fun j hj => absurd hj (Nat.not_lt_zero _))
  intro cs hsz hcs _
  have h8 := eight hsz hcs
  rw [h8]
  unfold be8
  clear h8 hcs hsz
  generalize bB u 0 = b0; generalize bB u 1 = b1; generalize bB u 2 = b2; generalize bB u 3 = b3
  generalize bB u 4 = b4; generalize bB u 5 = b5; generalize bB u 6 = b6; generalize bB u 7 = b7
  simp only [add_mk, Nat.zero_add]
  iterate 8 refine ldI_intro (World.cell?_alloc_at _ _ _ _ rfl) ?_
  iterate 8 refine stW_same rfl ?_
  iterate 8 refine ldI_intro (World.cell?_alloc_at _ _ _ _ rfl) ?_
  exact ⟨rfl, (Below.refl _ _).alloc (Nat.le_refl _) _⟩
end Go.Proofs.YtakgoekfnhkgaaaDoor.Rd
