/- bytes.Trim with a zero. Conditions: none. -/
import Derived.Test.YtifambgaekjilaaDoorHelpC
namespace Go.Proofs.YtifambgaekjilaaDoor.Rd
open Go.Dn Go.RowKit
set_option linter.unusedVariables false
set_option linter.unusedSimpArgs false
theorem trimR_l0 {w : World} (K0 : Option Addr → Nat → Nat → World → Prop) : ∀ (m : Nat) (A : Option Addr) (c : Nat) (l : List UInt8), l.length = m → l.length ≤ c → l.length ≤ 140737488355328 → Go.Dn.RB w A l →
    (∀ A' c' l', Go.Dn.RB w A' l' → l'.length ≤ c' → l'.length ≤ l.length → ((∀ b ∈ l, b = 0) → l' = []) → (l' = [] → ∀ b ∈ l, b = 0) → (∀ h : l' ≠ [], l'.getLast h ≠ 0) → K0 A' l'.length c' w) → f_bytes_trimRightByte.l0 (m + 1) A l.length c 0 w K0 := by
  intro m
  induction m with
  | zero =>
    intro A c l hm hc hl hr k
    have : l = [] := List.length_eq_zero_iff.1 hm
    subst this
    unfold f_bytes_trimRightByte.l0
    exact sel_f (by simp) (k A c [] hr hc (Nat.le_refl _) (fun _ => rfl) (fun _ b hb => by cases hb) (fun h => absurd rfl h))
  | succ m ih =>
    intro A c l hm hc hl hr k
    have hne : l ≠ [] := fun h => by subst h; cases hm
    have ew : IntKind.i64.wrap ((l.length : Int) - 1) = (m : Int) := by rw [w64_in (by omega)]; omega
    have hlt : m < l.length := by omega
    obtain ⟨a, rfl, q⟩ := hr m hlt
    have elast : l.getLast hne = l[m] := by rw [List.getLast_eq_getElem]; congr 1; omega
    unfold f_bytes_trimRightByte.l0
    rw [ew]
    refine sel_t (by simp; omega) (optB_some rfl (req_intro (by simp; omega) (ldI_intro (x := (l[m].toNat : Int)) (by rw [Int.toNat_natCast, Nat.mul_one]; exact q) ?_)))
    by_cases e : l[m] = 0
    · refine sel_t (by rw [e]; rfl) (req_intro (by simp; omega) ?_)
      rw [slA0, show ((m : Int).toNat - 0) = (l.take m).length by rw [List.length_take]; omega]
      refine ih (some a) (c - 0) (l.take m) (by rw [List.length_take]; omega) (by rw [List.length_take]; omega) (by rw [List.length_take]; omega) (hr.take m) fun A' c' l' q1 q2 q3 q4 q5 q6 => ?_
      have sp : ∀ b ∈ l, b ∈ l.take m ∨ b = 0 := fun b hb => by
        have e2 : l = l.take m ++ [l[m]] := by
          rw [← List.take_succ_eq_append_getElem hlt, List.take_of_length_le (by omega)]
        rw [e2] at hb
        rcases List.mem_append.1 hb with h | h
        · exact .inl h
        · exact .inr (by rw [List.mem_singleton.1 h, e])
      exact k A' c' l' q1 q2 (Nat.le_trans q3 (by rw [List.length_take]; omega)) (fun h => q4 fun b hb => h b (List.mem_of_mem_take hb)) (fun h b hb => (sp b hb).elim (q5 h b) id) q6
    · refine sel_f (by simp; intro h; exact e (UInt8.toNat.inj (by simpa using h))) (k (some a) c l hr hc (Nat.le_refl _) (fun h => absurd (h _ (List.getElem_mem hlt)) e) (fun h => absurd h hne) (fun h => by rw [elast]; exact e))
theorem trimR_ok {w : World} {A : Option Addr} {n c : Nat} {l : List UInt8} (hr : Go.Dn.RB w A l) (hn : n = l.length) (hc : l.length ≤ c) (hl : l.length ≤ 140737488355328) :
    Calls Tryd.prog 56 #[.slice A n c, .int .u8 0] w fun e w' => (∃ A' c' l', e = .returned (.slice A' l'.length c') ∧ Go.Dn.RB w A' l' ∧ l'.length ≤ c' ∧ l'.length ≤ l.length ∧ (l' = [] ↔ ∀ b ∈ l, b = 0) ∧ (∀ h : l' ≠ [], l'.getLast h ≠ 0)) ∧ w' = w := by
  subst hn
  apply f_bytes_trimRightByte.ok
  unfold f_bytes_trimRightByte.wp
  refine ⟨_, trimR_l0 _ l.length A c l rfl hc hl hr fun A' c' l' q1 q2 q3 q4 q5 q6 _ => ⟨⟨A', c', l', rfl, q1, q2, q3, ⟨q5, q4⟩, q6⟩, rfl⟩⟩
theorem trimL_l0 {w : World} (K0 : Option Addr → Nat → Nat → World → Prop) : ∀ (m : Nat) (A : Option Addr) (c : Nat) (l : List UInt8), l.length = m → l.length ≤ c → l.length ≤ 140737488355328 → Go.Dn.RB w A l →
    (∀ A' n' c', (n' = 0 ↔ ∀ b ∈ l, b = 0) → K0 A' n' c' w) → f_bytes_trimLeftByte.l0 (m + 1) A l.length c 0 w K0 := by
  intro m
  induction m with
  | zero =>
    intro A c l hm hc hl hr k
    have : l = [] := List.length_eq_zero_iff.1 hm
    subst this
    unfold f_bytes_trimLeftByte.l0
    exact sel_f (by simp) (k A 0 c ⟨fun _ b hb => (by cases hb), fun _ => rfl⟩)
  | succ m ih =>
    intro A c l hm hc hl hr k
    cases l with
    | nil => cases hm
    | cons b0 l =>
      obtain ⟨a, rfl, q⟩ := hr 0 (by simp)
      unfold f_bytes_trimLeftByte.l0
      refine sel_t (by simp) (optB_some rfl (req_intro (by simp) (ldI_intro (x := (b0.toNat : Int)) (by simpa [byteV] using q) ?_)))
      by_cases e : b0 = 0
      · refine sel_t (by rw [e]; rfl) (req_intro (by simp; omega) ?_)
        have hd := RB.slA hr hc 1
        rw [show (b0 :: l).length - 1 = l.length by simp]
        refine ih (slA (some a) 1 c 1) (c - 1) l (by simpa using hm) (by simp at hc; omega) (by simp at hl; omega) hd fun A' n' c' h => k A' n' c' (h.trans ?_)
        constructor
        · intro h b hb
          rcases List.mem_cons.1 hb with rfl | hb
          · exact e
          · exact h b hb
        · intro h b hb
          exact h b (List.mem_cons_of_mem _ hb)
      · refine sel_f (by simp; intro h; exact e (UInt8.toNat.inj (by simpa using h))) (k _ _ _ ⟨fun h => by simp at h, fun h => absurd (h b0 (by simp)) e⟩)
theorem trimL_ok {w : World} {A : Option Addr} {n c : Nat} {l : List UInt8} (hr : Go.Dn.RB w A l) (hn : n = l.length) (hc : l.length ≤ c) (hl : l.length ≤ 140737488355328) :
    Calls Tryd.prog 55 #[.slice A n c, .int .u8 0] w fun e w' => (∃ A' n' c', e = .returned (.slice A' n' c') ∧ (n' = 0 ↔ ∀ b ∈ l, b = 0)) ∧ w' = w := by
  subst hn
  apply f_bytes_trimLeftByte.ok
  unfold f_bytes_trimLeftByte.wp
  refine ⟨_, trimL_l0 _ l.length A c l rfl hc hl hr fun A' n' c' q _ => ?_⟩
  by_cases h0 : n' = 0
  · exact sel_t (by simp [h0]) ⟨⟨none, 0, 0, rfl, by rw [← q]; simp [h0]⟩, rfl⟩
  · exact sel_f (by simpa using h0) ⟨⟨A', n', c', rfl, q⟩, rfl⟩
theorem Trim_ok {w : World} {A : Option Addr} {n c : Nat} {l : List UInt8} (hr : Go.Dn.RB w A l) (hn : n = l.length) (hc : l.length ≤ c) (hl : l.length ≤ 140737488355328) :
    Calls Tryd.prog 34 #[.slice A n c, .string ⟨#[0]⟩] w fun e w' => (∃ A' n' c', e = .returned (.slice A' n' c') ∧ (n' = 0 ↔ ∀ b ∈ l, b = 0)) ∧ Below w.heap.size w w' := by
  subst hn
  apply f_bytes_Trim.ok
  unfold f_bytes_Trim.wp
  by_cases h0 : l.length = 0
  · have : l = [] := List.length_eq_zero_iff.1 h0
    subst this
    exact sel_t (by simp) ⟨⟨none, 0, 0, rfl, ⟨fun _ b hb => (by cases hb), fun _ => rfl⟩⟩, Below.refl _ _⟩
  refine sel_f (by simp; exact fun h => h0 (by rw [h]; rfl)) (sel_f (by decide +kernel) (sel_t (by decide) (req_intro (by decide) (sel_t (by decide) (drW_intro (req_intro (by decide) (req_intro (by decide) ?_)))))))
  have gd := (Below.refl w.heap.size w).drew
  refine (trimR_ok (hr.below gd (Nat.le_refl _)) rfl hc hl).mono ?_
  rintro _ _ ⟨⟨A1, c1, l1, rfl, r1, k1, s1, e1, q6⟩, rfl⟩
  refine ⟨_, _, _, rfl, ?_⟩
  refine (trimL_ok r1 rfl k1 (by omega)).mono ?_
  rintro _ _ ⟨⟨A2, n2, c2, rfl, e2⟩, rfl⟩
  refine ⟨_, _, _, rfl, ⟨A2, n2, c2, rfl, ?_⟩, gd⟩
  rw [e2]
  constructor
  · intro h
    refine e1.1 (Classical.byContradiction fun hne => q6 hne (h _ (List.getLast_mem hne)))
  · intro h
    rw [e1.2 h]
    exact fun b hb => (by cases hb)
end Go.Proofs.YtifambgaekjilaaDoor.Rd
