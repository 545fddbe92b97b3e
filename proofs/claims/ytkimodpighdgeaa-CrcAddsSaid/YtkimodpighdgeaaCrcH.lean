/- Plain laws of the sum: it is linear. Conditions: none. -/
import Derived.Test.YtkimodpighdgeaaCrcG
namespace Go.Proofs.Ytkimodpighdgeaa.Rd
open Go.Dn Go.RowKit
set_option linter.unusedVariables false
set_option linter.unusedSimpArgs false

theorem xor_mod2 (x y : Nat) : (x ^^^ y) % 2 = (x % 2 + y % 2) % 2 := by
  have := Nat.xor_mod_two_pow (a := x) (b := y) (n := 1)
  rw [Nat.pow_one] at this
  rw [this]
  rcases Nat.mod_two_eq_zero_or_one x with h | h <;> rcases Nat.mod_two_eq_zero_or_one y with h' | h' <;> rw [h, h'] <;> rfl
theorem xor_div2 (x y : Nat) : (x ^^^ y) / 2 = (x / 2) ^^^ (y / 2) := by
  have := Nat.xor_div_two_pow (a := x) (b := y) (n := 1)
  rwa [Nat.pow_one] at this
theorem stp_xor (x y : Nat) : stp (x ^^^ y) = stp x ^^^ stp y := by
  unfold stp
  rw [xor_mod2, xor_div2]
  generalize x / 2 = p; generalize y / 2 = q
  rcases Nat.mod_two_eq_zero_or_one x with h | h <;> rcases Nat.mod_two_eq_zero_or_one y with h' | h' <;> rw [h, h'] <;> simp
  · rw [Nat.xor_assoc]
  · rw [Nat.xor_assoc, Nat.xor_assoc, Nat.xor_comm q]
  · rw [Nat.xor_assoc, Nat.xor_comm 3988292384 (q ^^^ 3988292384), Nat.xor_assoc q, Nat.xor_self, Nat.xor_zero]
theorem stps_xor : ∀ (k x y : Nat), stps k (x ^^^ y) = stps k x ^^^ stps k y
  | 0, _, _ => rfl
  | k + 1, x, y => by
    show stps k (stp (x ^^^ y)) = _
    rw [stp_xor, stps_xor k]; rfl
/-- what a difference comes to behind n bytes -/
def crcZ : Nat → Nat → Nat
  | z, 0 => z
  | z, n + 1 => crcZ (stps 8 z) n
theorem xor_cancel (s t b : Nat) : (s ^^^ b) ^^^ (t ^^^ b) = s ^^^ t := by
  rw [Nat.xor_assoc, Nat.xor_comm b (t ^^^ b), Nat.xor_assoc t, Nat.xor_self, Nat.xor_zero]
theorem crcL_diff : ∀ (l : List UInt8) (s t : Nat), crcL s l ^^^ crcL t l = crcZ (s ^^^ t) l.length
  | [], _, _ => rfl
  | b :: l, s, t => by
    show crcL (crcB s b) l ^^^ crcL (crcB t b) l = crcZ (stps 8 (s ^^^ t)) l.length
    rw [crcL_diff l, ← xor_cancel s t b.toNat, stps_xor]; rfl
theorem crcL_app (s : Nat) (a c : List UInt8) : crcL s (a ++ c) = crcL (crcL s a) c := List.foldl_append ..
theorem behind_law (a b c d : List UInt8) (h : c.length = d.length) : crcSum (a ++ c) ^^^ crcSum (b ++ c) = crcSum (a ++ d) ^^^ crcSum (b ++ d) := by
  unfold crcSum
  rw [xor_cancel, xor_cancel, crcL_app, crcL_app, crcL_app, crcL_app, crcL_diff, crcL_diff, h]
theorem crcL_three : ∀ (a b c : List UInt8) (r s t : Nat), a.length = b.length → a.length = c.length →
    crcL (r ^^^ s ^^^ t) (List.zipWith (fun x y => x ^^^ y) (List.zipWith (fun x y => x ^^^ y) a b) c) = crcL r a ^^^ crcL s b ^^^ crcL t c
  | [], [], [], _, _, _, _, _ => rfl
  | x :: a, y :: b, z :: c, r, s, t, h1, h2 => by
    show crcL (crcB (r ^^^ s ^^^ t) (x ^^^ y ^^^ z)) _ = crcL (crcB r x) a ^^^ crcL (crcB s y) b ^^^ crcL (crcB t z) c
    rw [← crcL_three a b c _ _ _ (by simpa using h1) (by simpa using h2)]
    congr 1
    unfold crcB
    rw [← stps_xor, ← stps_xor, UInt8.toNat_xor, UInt8.toNat_xor]
    congr 1
    apply Nat.eq_of_testBit_eq; intro i
    simp only [Nat.testBit_xor]
    cases Nat.testBit r i <;> cases Nat.testBit s i <;> cases Nat.testBit t i <;> cases Nat.testBit x.toNat i <;> cases Nat.testBit y.toNat i <;> cases Nat.testBit z.toNat i <;> rfl
  | [], _ :: _, _, _, _, _, h, _ => by simp at h
  | _ :: _, [], _, _, _, _, h, _ => by simp at h
  | [], [], _ :: _, _, _, _, _, h => by simp at h
  | _ :: _, _ :: _, [], _, _, _, _, h => by simp at h
theorem adds_law (a b c : List UInt8) (h1 : a.length = b.length) (h2 : a.length = c.length) :
    crcSum (List.zipWith (fun x y => x ^^^ y) (List.zipWith (fun x y => x ^^^ y) a b) c) = crcSum a ^^^ crcSum b ^^^ crcSum c := by
  unfold crcSum
  have := crcL_three a b c 4294967295 4294967295 4294967295 h1 h2
  rw [show (4294967295 : Nat) ^^^ 4294967295 ^^^ 4294967295 = 4294967295 by decide] at this
  rw [this]
  generalize crcL 4294967295 a = p; generalize crcL 4294967295 b = q; generalize crcL 4294967295 c = r
  apply Nat.eq_of_testBit_eq; intro i
  simp only [Nat.testBit_xor]
  cases Nat.testBit p i <;> cases Nat.testBit q i <;> cases Nat.testBit r i <;> cases Nat.testBit 4294967295 i <;> rfl
end Go.Proofs.Ytkimodpighdgeaa.Rd
