/- Contracts: a slice of a slice; bytes.Clone. Conditions: lengths at most 2^46. -/
import Derived.Test.YtakgoekfnhkgaaaDoorHelp
namespace Go.Proofs.YtakgoekfnhkgaaaDoor.Rd
open Go.Dn Go.RowKit
set_option linter.unusedVariables false
set_option linter.unusedSimpArgs false

theorem slA0 (A : Option Addr) (m z : Nat) : slA A 0 m z = A := by
  unfold slA
  split
  · rfl
  · cases A with
    | none => rfl
    | some a => simp [add_zero]
theorem RB.slA {w : World} {A : Option Addr} {l : List UInt8} {c : Nat} (h : RB w A l) (hc : l.length ≤ c) (k : Nat) : RB w (Go.Dn.slA A k c 1) (l.drop k) := by
  unfold Go.Dn.slA
  split
  · rename_i e
    rw [List.drop_eq_nil_of_le (by omega)]; exact RB.nil _ _
  · cases A with
    | none =>
      have : l = [] := by
        cases l with
        | nil => rfl
        | cons b l => obtain ⟨a, ha, _⟩ := h 0 (by simp); cases ha
      subst this; rw [List.drop_nil]; exact RB.nil _ _
    | some a => rw [Option.map_some, Nat.mul_one]; exact h.drop k

theorem Clone_ok {w : World} {A : Option Addr} {n c : Nat} {l : List UInt8} (hr : RB w A l) (hn : n = l.length) (hlen : l.length ≤ 140737488355328) :
    Calls Tryd.prog 70 #[.slice A n c] w fun e w' => ∃ A' c', e = .returned (.slice A' l.length c') ∧ OwnB w' w.heap.size 5 A' c' l ∧ (A' = none → c' = 0) ∧ Below w.heap.size w w' := by
  subst hn
  apply f_bytes_Clone.ok
  unfold f_bytes_Clone.wp
  cases A with
  | none =>
    have hl : l = [] := by
      cases l with
      | nil => rfl
      | cons b l => obtain ⟨a, ha, _⟩ := hr 0 (by simp); cases ha
    subst hl
    exact sel_t rfl ⟨none, 0, rfl, World.ownsRow_nil _ _ _ _, fun _ => rfl, Below.refl _ _⟩
  | some a =>
    refine sel_f rfl (alW_intro ?_)
    have h0 := OwnB.lit (w := w) (B := w.heap.size) (e := 5) [] (cs := #[]) rfl (Nat.le_refl _) (by simp)
    have hb := (Below.refl w.heap.size w).alloc (Nat.le_refl _) (.cells #[] 5)
    refine app_runs TBy h0 rfl (hr.below hb (Nat.le_refl _)) rfl (fun h => by cases h) (by simp) (by simpa using hlen) ?_
    intro A' c' w' ho' hb' _ _
    rw [List.nil_append] at ho' ⊢
    refine ⟨_, _, _, rfl, A', c', rfl, ho', ?_, hb.trans hb'⟩
    intro hA
    subst hA
    obtain ⟨_, h⟩ := ho'
    rcases h with ⟨h, _⟩ | ⟨g, cap, cur, hv, _⟩
    · injection h
    · injection hv with hv; cases hv

end Go.Proofs.YtakgoekfnhkgaaaDoor.Rd
