/- A script's calls on a forest. Conditions: none. -/
import Derived.Test.YtfknppccgojhdaaLdC
namespace Go.Proofs.Ytfknppccgojhdaa.Rd
open Go.Dn Go.RowKit
set_option linter.unusedVariables false
set_option maxRecDepth 100000
/-- a script's record, readable -/
structure RO1 (w : World) (a : Addr) (i : Nat) (o : Int × E) : Prop where
  c0 : w.cell? (a.add (i * 5)) = some (.int .i64 o.1)
  c1 : w.cell? ((a.add (i * 5)).add 1) = some (.int .i64 o.2.id)
  c2 : w.cell? ((a.add (i * 5)).add 2) = some (.int .i64 o.2.u)
  c3 : w.cell? ((a.add (i * 5)).add 3) = some (.int .i64 o.2.v)
  c4 : w.cell? ((a.add (i * 5)).add 4) = some (.int .i64 o.2.w)
def RO (w : World) (A : Option Addr) (l : List (Int × E)) : Prop := ∀ i (hi : i < l.length), ∃ a, A = some a ∧ RO1 w a i l[i]
theorem RO.belw {w w' : World} {A : Option Addr} {l : List (Int × E)} (h : RO w A l) (hb : Below w.heap.size w w') : RO w' A l := fun i hi => by
  obtain ⟨a, ha, h0, h1, h2, h3, h4⟩ := h i hi
  have k := Keeps.of_below (S := fun _ => False) hb
  exact ⟨a, ha, k.cell h0 id, k.cell h1 id, k.cell h2 id, k.cell h3 id, k.cell h4 id⟩
theorem rowO {w : World} {a : Addr} {i : Nat} {o : Int × E} (h : RO1 w a i o) {K : Int → Int → Int → Int → Int → Prop} (hk : K o.1 o.2.id o.2.u o.2.v o.2.w) :
    ldI w (a.add ((i : Int).toNat * 5)) .i64 fun x0 => ldI w ((a.add ((i : Int).toNat * 5)).add 1) .i64 fun x1 => ldI w ((a.add ((i : Int).toNat * 5)).add 2) .i64 fun x2 => ldI w ((a.add ((i : Int).toNat * 5)).add 3) .i64 fun x3 => ldI w ((a.add ((i : Int).toNat * 5)).add 4) .i64 fun x4 => K x0 x1 x2 x3 x4 := by
  rw [Int.toNat_natCast]
  exact ldI_intro h.c0 (ldI_intro h.c1 (ldI_intro h.c2 (ldI_intro h.c3 (ldI_intro h.c4 hk))))
noncomputable def run (l : List (Int × E)) : List Int × List E := l.foldl stp ([], [])
theorem run_snoc (l : List (Int × E)) (o : Int × E) : run (l ++ [o]) = stp (run l) o := by unfold run; rw [List.foldl_append]; rfl
structure Scr (w : World) (A : Option Addr) (n : Nat) (l : List (Int × E)) : Prop where
  r : RO w A l
  n : n = l.length
  le : l.length ≤ 9223372036854775807
  ok : ∀ o ∈ l, OpW o
theorem filled_ok {w : World} {A : Option Addr} {n c : Nat} {l : List (Int × E)} (h : Scr w A n l) :
    Calls Try.prog 15 #[.slice A n c] w fun e w' => ∃ F R, e = .returned (.pointer (some ⟨R, 0, none⟩)) ∧ LF w w' F R (run l).1 (run l).2 := by
  obtain ⟨hr, rfl, hle, hok⟩ := h
  apply f_law17_filled.ok
  unfold f_law17_filled.wp
  refine new_step (Below.refl _ w) fun w1 F1 R h1 _ _ => ?_
  refine ⟨l.length + 1, ?_⟩
  have key : ∀ (m i : Nat) (w2 : World) (F : Nat → Prop), l.length - i = m → i ≤ l.length → LF w w2 F R (run (l.take i)).1 (run (l.take i)).2 →
      f_law17_filled.l0 (m + 1) A l.length c (some ⟨R, 0, none⟩) (i : Int) w2 (fun w13 => ∀ _ : Fr, (fun e w' => ∃ F R, e = Ending.returned (.pointer (some ⟨R, 0, none⟩)) ∧ LF w w' F R (run l).1 (run l).2) (.returned (.pointer (some ⟨R, 0, none⟩))) w13) := by
    intro m
    induction m with
    | zero =>
      intro i w2 F hm hi hf
      have : i = l.length := by omega
      subst this
      rw [List.take_length] at hf
      unfold f_law17_filled.l0
      exact sel_t rfl (sel_f (by simp) fun _ => ⟨F, R, rfl, hf⟩)
    | succ m ih =>
      intro i w2 F hm hi hf
      have hlt : i < l.length := by omega
      obtain ⟨a, rfl, q⟩ := (hr.belw hf.bel) i hlt
      have hw : IntKind.i64.wrap ((i : Int) + 1) = ((i + 1 : Nat) : Int) := by rw [w64_in (by omega)]; omega
      unfold f_law17_filled.l0
      refine sel_t rfl (sel_t (by simpa using hlt) (optB_some rfl (req_intro (by simp; omega) (rowO q ?_))))
      have H : L2 w w2 F R (run (l.take i)) s0 ([], []) := ⟨hf, RF.zero w2, fun k hk => hk.elim (fun ⟨_, h, _⟩ => by cases h) (fun ⟨_, h, _⟩ => by cases h)⟩
      refine (does_ok H rg0 (by simp) (o := l[i]) (hok _ (List.getElem_mem hlt))).mono ?_
      rintro _ w3 ⟨F', s', rfl, H3, _⟩
      refine ⟨_, _, _, _, _, _, _, _, _, _, _, _, _, rfl, ?_⟩
      rw [hw]
      refine ih (i + 1) w3 F' (by omega) (by omega) ?_
      have : run (l.take (i + 1)) = stp (run (l.take i)) l[i] := by rw [List.take_succ_eq_append_getElem hlt, run_snoc]
      rw [this]; exact H3.f
  exact key l.length 0 w1 F1 (by omega) (by omega) h1
end Go.Proofs.Ytfknppccgojhdaa.Rd
