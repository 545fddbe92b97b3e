/- A row appended to a row of one's own: the same block, or a new one. Conditions: none. -/
import Derived.Test.YtifambgaekjilaaDoorRecR
namespace Go.Dn
open Go.RowKit
set_option linter.unusedVariables false
theorem app_row2 {α : Type} {P : Program} {t te : TypeId} {k by_ : Nat} (T : RecTy P t te k by_) {enc : α → List Value} (E : Enc enc k) (hby : 0 < by_) {w : World} {B : Nat} {A : Option Addr} {n c : Nat} {l l2 : List α} (ho : OwnE enc k w B te A c l) (hn : n = l.length) {A2 : Option Addr} {m c2 : Nat} (hr : RowE enc k w A2 l2) (hm : m = l2.length) (h0 : A2 = none → c2 = 0 ∧ m = 0)
    (hB : B ≤ w.heap.size) (hlen : (l.length + l2.length) * by_ ≤ 140737488355328) {ty : TypeId} {K : Value → World → Prop}
    (hK : ∀ A' c' w', OwnE enc k w' B te A' c' (l ++ l2) → Keeps (Ob A) w w' → (∀ a, A' = some a → A = some a ∨ w.heap.size ≤ a.block) → K (.slice A' (l ++ l2).length c') w') :
    Runs P (Builtin.append_ #[t, t] ty #[.slice A n c, .slice A2 m c2]) w K := by
  subst hn; subst hm
  obtain ⟨i, z, hi, hz, hz1, hs, hbyt⟩ := T.info
  have hlen2 : l.length + l2.length ≤ 140737488355328 := Nat.le_trans (Nat.le_mul_of_pos_right _ hby) hlen
  cases A2 with
  | none =>
    obtain ⟨rfl, hl2⟩ := h0 rfl
    have hl2 := List.length_eq_zero_iff.1 hl2
    subst hl2
    refine runs_of (run_append_owned_none w B t ty te i k T.und hi _ _ _ ho) ?_
    have := hK A c w (by rw [List.append_nil]; exact ho) (.refl _ _) fun a ha => .inl ha
    rw [List.append_nil] at this
    exact this
  | some a =>
    have hnews : ∀ j u, (encs enc l2)[j]? = some u → w.cell? (a.add j) = some u := fun j u hj => by
      have hjl := (List.getElem?_eq_some_iff.1 hj).1
      rw [encs_len E] at hjl
      have hi2 : j / k < l2.length := Nat.div_lt_of_lt_mul (by rw [Nat.mul_comm]; exact hjl)
      have hj2 : j % k < k := Nat.mod_lt _ E.pos
      have := hr.cj hi2 hj2
      rw [add_add, ← encs_get E hi2 hj2, Nat.mul_comm, Nat.div_add_mod] at this
      rw [this]; exact hj
    have hone : ∀ u ∈ encs enc l2, u.oneCell' = true := fun u hu => by
      unfold encs at hu
      obtain ⟨x, _, hx⟩ := List.mem_flatMap.1 hu
      exact E.one x u hx
    -- where it lies: a row of one's own with a base behind all is new
    have go : ∀ B', B' ≤ w.heap.size → OwnE enc k w B' te A c l → ∃ v' w', (Builtin.append_ #[t, t] ty #[.slice A l.length c, .slice (some a) l2.length c2]).run P w = .ok v' w' ∧ w'.ownsRow B' te k v' (l.length + l2.length) (encs enc l ++ encs enc l2) ∧ w.grownBy w' (Value.slice A l.length c).ownBlock := fun B' hB' ho' => by
      obtain ⟨v', w', h1, h2, h3, _⟩ := run_append_own (P := P) w B' t ty te i z k by_ T.und hi hz hs hbyt hz1 E.pos (.slice A l.length c) l.length (encs enc l) ho' a l2.length c2 (encs enc l2) (encs_len E l2) hnews hone (by unfold maxLen; omega) hlen hB'
      exact ⟨v', w', h1, h2, h3⟩
    obtain ⟨v', w', hrun, ho', hg⟩ := go B hB ho
    have hk : Keeps (Ob A) w w' := ⟨hg.os, hg.tape, hg.output, hg.size, fun k hk hn => hg.block k hk fun h => hn (ob_own h)⟩
    have hloc : ∀ a', (∃ n' c', v' = .slice (some a') n' c') → A = some a' ∨ w.heap.size ≤ a'.block := by
      rintro a' ⟨n', c', rfl⟩
      rcases ho.2 with ⟨h1, h2⟩ | ⟨g, cap, cur, hv, hbg, hgg, hnc, hcm, hcs', htake⟩
      · injection h1 with h1 _ h3; subst h1; subst h3
        have hl0 : l = [] := List.length_eq_zero_iff.mp h2
        subst hl0
        obtain ⟨v2, w2, hrun2, ho2, _⟩ := go w.heap.size (Nat.le_refl _) (OwnE.none _ _ _ _ _)
        rw [hrun2] at hrun
        injection hrun with e1 e2
        subst e1
        rcases ho2.2 with ⟨h1, _⟩ | ⟨g, cap, cur, hv, hbg, _⟩
        · cases h1
        · injection hv with hv; injection hv with hv
          rw [hv]; exact .inr hbg
      · injection hv with hA hn hc
        subst hA; subst hc
        by_cases hroom : l.length + l2.length ≤ c
        · obtain ⟨w2, hrun2, _⟩ := run_append_fits (P := P) w B t ty te i k T.und hi hs g l.length c (encs enc l) ho a l2.length c2 (encs enc l2) (encs_len E l2) hnews hone hroom
          rw [hrun2] at hrun
          injection hrun with hv _
          injection hv with hv; exact .inl hv
        · have hr2 := run_append_grow (P := P) w t ty te i z T.und hi hz ⟨g, 0, none⟩ l.length c (encs enc l) (by rw [hs, encs_len E]) (ho.cells (g := g) rfl) a l2.length c2 (encs enc l2) (by rw [hs, encs_len E]) hnews (by omega) (by omega)
            (by rw [hbyt]; exact growslice_fits (by omega) hlen)
          rw [hr2] at hrun
          injection hrun with hv hw
          injection hv with hv
          injection hv with hv
          rw [← hv]; exact .inr (Nat.le_refl _)
    rw [← encs_app] at ho'
    obtain ⟨A', c', rfl⟩ : ∃ A' c', v' = .slice A' (l.length + l2.length) c' := by
      obtain ⟨_, h⟩ := ho'
      rcases h with ⟨h1, h2⟩ | ⟨g, cap, cur, hv, _⟩
      · exact ⟨none, 0, by rw [h1, h2]⟩
      · exact ⟨_, _, hv⟩
    have hlen3 : (l ++ l2).length = l.length + l2.length := by simp
    refine runs_of hrun ?_
    have := hK A' c' w' (by unfold OwnE; rw [hlen3]; exact ho') hk fun a' ha' => hloc a' ⟨_, _, by rw [ha']⟩
    rw [hlen3] at this; exact this
end Go.Dn
