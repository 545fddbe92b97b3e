/- The document's example, walked. Conditions: none. -/
import Derived.Test.YtfknppccgojhdaaLcU
import Derived.Test.YtfknppccgojhdaaRdB
import Derived.Test.YtfknppccgojhdaaRdC
namespace Go.Dn
open Go.RowKit
set_option linter.unusedVariables false
theorem Wk.inv {es : List E} {Q : Int → Prop} (hQ : ∀ e ∈ es, Q e.u ↔ Q e.v) {u v : Int} {p : List E} (h : Wk es u p v) : Q u → Q v := by
  induction h with
  | nil => exact id
  | cons he hm h ih =>
    rename_i e m v p
    intro hq
    refine ih ?_
    unfold oth
    split
    · rename_i h1; rw [← hQ e he, h1]; exact hq
    · rename_i h1; rw [hQ e he, hm.resolve_left h1]; exact hq
end Go.Dn
namespace Go.Proofs.Ytfknppccgojhdaa.Rd
open Go.Dn Go.RowKit
set_option linter.unusedVariables false
set_option maxRecDepth 100000
theorem new_step {w0 w : World} (hb : Below w0.heap.size w0 w) {Q : Option Addr → World → Prop} (hQ : ∀ w' F R, LF w0 w' F R [] [] → Below w.heap.size w w' → (∀ k, F k → w.heap.size ≤ k) → Q (some ⟨R, 0, none⟩) w') :
    Calls Try.prog 8 #[] w fun e w' => ∃ p : Option Addr, e = .returned (.pointer p) ∧ Q p w' := by
  refine (New_ok w).mono ?_
  rintro e w1 ⟨F, R, rfl, hr, hb1, hF⟩
  exact ⟨_, rfl, hQ w1 F R ⟨hr, fun k hk => Nat.le_trans hb.size (hF k hk), hb.trans (hb1.mono hb.size)⟩ hb1 hF⟩
instance (n : Int) : Decidable (W64 n) := inferInstanceAs (Decidable (_ ∧ _))
def x7 : E := ⟨7, 1, 2, 5⟩
def x8 : E := ⟨8, 2, 3, 4⟩
def x9 : E := ⟨9, 1, 3, 1⟩
theorem alive_ok (w : World) : Calls Try.prog 9 #[] w fun e w' => e = .returned (.bool true) ∧ Below w.heap.size w w' := by
  apply f_law17_alive.ok
  unfold f_law17_alive.wp
  refine new_step (Below.refl _ w) fun w1 F1 R h1 _ _ => sel_f rfl ?_
  refine addV_step h1 fun w2 F2 h2 _ => ?_
  have e1 : addVC [] 1 = 0 := by decide
  have e1' : addVs [] 1 = [1] := by unfold addVs; rw [if_pos e1]
  rw [e1]; rw [e1'] at h2
  refine sel_f rfl (addV_step h2 fun w3 F3 h3 _ => ?_)
  have e2 : addVC [1] 2 = 0 := by decide
  have e2' : addVs [1] 2 = [2, 1] := by unfold addVs; rw [if_pos e2]
  rw [e2]; rw [e2'] at h3
  refine sel_f rfl (addV_step h3 fun w4 F4 h4 _ => ?_)
  have e3 : addVC [2, 1] 3 = 0 := by decide
  have e3' : addVs [2, 1] 3 = [3, 2, 1] := by unfold addVs; rw [if_pos e3]
  rw [e3]; rw [e3'] at h4
  refine sel_f rfl (link_step (e := x7) h4 (by decide) (by decide) fun w5 F5 j5 hj5 h5 _ => ?_)
  have e5 : j5 = false := by
    cases j5 with
    | false => rfl
    | true =>
      obtain ⟨p, hp, _⟩ := (hj5 (by decide) (by decide)).1 rfl
      cases hp with
      | cons he _ _ => cases he
  subst e5
  have e5 : linkC [3, 2, 1] [] x7 false = 0 := by decide
  have e5' : linkE [3, 2, 1] [] x7 false = [x7] := by unfold linkE; rw [if_pos e5]
  rw [e5]; rw [e5'] at h5
  refine link_step (e := x8) h5 (by decide) (by decide) fun w6 F6 j6 hj6 h6 _ => ?_
  have e6 : j6 = false := by
    cases j6 with
    | false => rfl
    | true =>
      obtain ⟨p, hp, _⟩ := (hj6 (by decide) (by decide)).1 rfl
      have := hp.inv (Q := fun n => n ≠ 3) (fun e he => by simp only [List.mem_singleton] at he; subst he; decide) (by decide)
      exact absurd rfl this
  subst e6
  have e6 : linkC [3, 2, 1] [x7] x8 false = 0 := by decide
  have e6' : linkE [3, 2, 1] [x7] x8 false = [x8, x7] := by unfold linkE; rw [if_pos e6]
  rw [e6]; rw [e6'] at h6
  have hw : Wk [x8, x7] 1 [x7, x8] 3 := .cons (by simp) (.inl rfl) (.cons (by simp) (.inl rfl) (.nil _))
  have hnb : NB [x7, x8] := ⟨by decide, trivial⟩
  refine link_step (e := x9) h6 (by decide) (by decide) fun w7 F7 j7 hj7 h7 _ => ?_
  have e7 : j7 = true := (hj7 (by decide) (by decide)).2 ⟨_, hw, hnb⟩
  subst e7
  have e7 : linkC [3, 2, 1] [x8, x7] x9 true = 151 := by decide
  have e7' : linkE [3, 2, 1] [x8, x7] x9 true = [x8, x7] := by unfold linkE; rw [if_neg (by rw [e7]; decide)]
  rw [e7]; rw [e7'] at h7
  refine along_step h7 (by decide) (by decide) fun w8 b8 mx W K code ha h8 l8 _ => ?_
  obtain ⟨rfl, hmx, rfl, rfl⟩ := ha.of h7.rep.ve (by decide) (by decide) hw hnb
  refine edge_step h8 (i := 8) (by decide) fun w9 b9 h9 l9 k9 => ?_
  have l8 := k9 _ _ _ l8
  refine len_step h9 fun w10 h10 k10 => ?_
  have l8 := k10 _ _ _ l8
  have l9 := k10 _ _ _ l9
  refine cut_step h10 (i := 7) (by decide) fun w11 F11 h11 k11 => ?_
  have l8 := k11 _ _ _ l8
  have l9 := k11 _ _ _ l9
  have e8 : cutC [x8, x7] 7 = 0 := by decide
  have e8' : cutE [x8, x7] 7 = [x8] := by unfold cutE; rw [if_pos e8]; rfl
  rw [e8]; rw [e8'] at h11
  refine along_step h11 (by decide) (by decide) fun w12 b12 mx2 W2 K2 code2 ha2 h12 l12 k12 => ?_
  have l8 := k12 _ _ _ l8
  have l9 := k12 _ _ _ l9
  have c2 : code2 = 61 := by
    rcases ha2 with ⟨h, _⟩ | ⟨_, _, _, _, _, _, h⟩ | ⟨_, _, p, hp, _⟩
    · exact absurd (by decide) h
    · exact h
    · have := hp.inv (Q := fun n => n = 1) (fun e he => by simp only [List.mem_singleton] at he; subst he; decide) rfl
      cases this
  subst c2
  unfold f_law17_alive.j0
  refine joined_step h12 (by decide) (by decide) fun w13 b13 hb13 h13 k13 => ?_
  have l8 := k13 _ _ _ l8
  have l9 := k13 _ _ _ l9
  have b13t : b13 = true := hb13.2 ⟨by decide, by decide, [x8], .cons (by simp) (.inl rfl) (.nil _), trivial⟩
  subst b13t
  refine sel_t rfl (sel_t rfl (sel_t rfl (sel_t rfl (hb_ldI0 l8.hb rfl ?_))))
  have mid : mx.id = 7 := by
    obtain ⟨h1, h2⟩ := hmx.s (by simp)
    simp only [List.mem_cons, List.not_mem_nil, or_false] at h1
    rcases h1 with rfl | rfl
    · rfl
    · exact absurd (h2 x7 (by simp)) (by unfold leE; decide)
  refine sel_t (by rw [mid]; rfl) (hb_ldC l8.hb (j := 4) rfl ?_)
  have f9 : (4621256167635550208 : Nat) = fb 9 := by decide
  have f2 : (4611686018427387904 : Nat) = fb 2 := by decide
  rw [f9, f2]
  refine cx_eq w13 _ _ (by unfold In53; decide) (by unfold In53; decide) (by unfold In53; decide) (by unfold In53; decide) ⟨_, rfl, sel_t (by decide) (hb_ldI l9.hb (j := 3) rfl ?_)⟩
  refine sel_t (by decide) (sel_t (by decide) (sel_t (by decide) (sel_t (by decide) (sel_t rfl (sel_t rfl (sel_t rfl fun _ => ⟨by simp, h13.bel⟩))))))
end Go.Proofs.Ytfknppccgojhdaa.Rd
