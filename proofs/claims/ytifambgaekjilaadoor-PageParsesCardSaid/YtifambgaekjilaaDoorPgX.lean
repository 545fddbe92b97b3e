/- The law PageParses, walked: bytes are parsed, or refused, as the document says. Conditions: bytes as an argument. -/
import Derived.Test.YtifambgaekjilaaDoorPgW
import Derived.Test.YtifambgaekjilaaDoorPgO
import Derived.Test.YtifambgaekjilaaDoorPgQ
import Derived.Test.YtifambgaekjilaaDoorRdL3
namespace Go.Proofs.YtifambgaekjilaaDoor.Rd
open Go.Dn Go.RowKit
set_option linter.unusedVariables false
set_option linter.unusedSimpArgs false
set_option maxRecDepth 100000
theorem PageParses_row {w : World} {A : Option Addr} {c : Nat} {b : List UInt8} (hb : Go.Dn.RB w A b) (_ : A = none → c = 0) (_ : b.length ≤ c) (hl : b.length ≤ 140737488355000) :
    Calls Tryd.prog 3 #[.slice A b.length c] w fun e w' => e = .returned (.bool true) ∧ Below w.heap.size w w' := by
  apply f_law08_PageParses.ok
  unfold f_law08_PageParses.wp
  refine (alive_ok w).mono ?_
  rintro _ w1 ⟨rfl, g1⟩
  refine ⟨_, rfl, sel_f rfl ((Wide_ok (hb.below g1 (Nat.le_refl _)) hl).mono ?_)⟩
  rintro _ w2 ⟨A6, c6, rfl, o6, g2⟩
  have hml : marks.length = 64 := rfl
  have hl6 : (b ++ marks).length = b.length + 64 := by rw [List.length_append, hml]
  have hc6 : b.length + 64 ≤ c6 := by have := o6.le; omega
  obtain ⟨a6, ea6, _⟩ := o6.reads 0 (by omega)
  have hb6 := o6.block a6 ea6
  have esl : slA A6 0 c6 1 = A6 := by
    unfold slA
    rw [if_neg (by omega), ea6]
    show some (a6.add (0 * 1)) = some a6
    rw [Nat.zero_mul, Go.Dn.add_zero]
  have rb6 : Go.Dn.RB w2 A6 b := fun i hi => by
    obtain ⟨a, ea, hc⟩ := o6.reads i (by omega)
    exact ⟨a, ea, by rw [hc, List.getElem_append_left hi]⟩
  have g02 := g1.trans (g2.mono g1.size)
  refine ⟨_, _, _, rfl, req_intro (by simp; omega) ?_⟩
  rw [esl, Int.toNat_natCast, Nat.sub_zero, Nat.sub_zero]
  refine (Parse_ok rb6 rfl (by omega) hl).mono ?_
  rintro _ w3 ⟨g3, hq⟩
  have g03 := g02.trans (g3.mono g02.size)
  have sz1 := g1.size
  have sz2 := g2.size
  have sz3 := g3.size
  have ob6 : ∀ {k}, Ob A6 k → k = a6.block := fun {k} ⟨a, ea, e⟩ => by rw [ea6] at ea; cases ea; exact e.symm
  cases hp : parseL b with
  | none =>
    rw [hp] at hq
    subst hq
    refine ⟨_, _, rfl, (RParse_ok (c := c) (hb.below g03 (Nat.le_refl _)) rfl hl).mono ?_⟩
    rintro _ w4 ⟨g4, hr⟩
    rw [hp] at hr
    obtain ⟨x0, x1, x2, A', n', c', rfl⟩ := hr
    have sz4 := g4.size
    refine ⟨_, _, _, _, _, _, _, rfl, al_new fun w5 b5 e5 s5 h5 g5 => stR (show HB w5 b5 z4 TRp from h5) fun w6 h6 k6 => sel_f rfl (sel_f rfl (sel_t rfl (sel_f rfl ?_)))⟩
    have g36 : Below w3.heap.size w3 w6 := (g4.trans (g5.mono sz4)).trans (k6.below (by omega) fun k hk e => by omega)
    have g06 := g03.trans (g36.mono (by omega))
    refine (Intact_ok ((o6.keep g3).keep g36).reads (hb.below g06 (Nat.le_refl _)) hl rfl).mono ?_
    rintro _ w7 ⟨rfl, g7⟩
    have sz6 := g36.size
    exact ⟨_, rfl, sel_f rfl (sel_t rfl ⟨rfl, g06.trans (g7.mono (by omega))⟩)⟩
  | some p =>
    rw [hp] at hq
    obtain ⟨ρ, rfl, h3⟩ := hq
    obtain ⟨hok, hby⟩ := parse_only hp
    refine ⟨_, _, rfl, (RParse_ok (c := c) (hb.below g03 (Nat.le_refl _)) rfl hl).mono ?_⟩
    rintro _ w4 ⟨g4, hr⟩
    rw [hp] at hr
    obtain ⟨A4, c4, rfl, b4⟩ := hr
    have sz4 := g4.size
    refine ⟨_, _, _, _, _, _, _, rfl, al_new fun w5 b5 e5 s5 h5 g5 => stR (show HB w5 b5 z4 TRp from h5) fun w6 h6 k6 => sel_f rfl (sel_f rfl (sel_f rfl ?_))⟩
    have g46 : Below w4.heap.size w4 w6 := g5.trans (k6.below (by omega) fun k hk e => by omega)
    have g36 : Below w3.heap.size w3 w6 := g4.trans (g46.mono sz4)
    have sz46 := g46.size
    have g06 := g03.trans (g36.mono (by omega))
    refine (Intact_ok ((o6.keep g3).keep g36).reads (hb.below g06 (Nat.le_refl _)) hl rfl).mono ?_
    rintro _ w7 ⟨rfl, g7⟩
    have g37 := g36.trans (g7.mono (by omega))
    have sz7 := g7.size
    refine ⟨_, rfl, sel_f rfl (sel_f rfl ((Spoil_ok ((o6.keep g3).keep g37) rfl (by omega)).mono ?_))⟩
    rintro _ w8 ⟨rfl, _, gr⟩
    have kS : Keeps (Ob A6) w7 w8 := ⟨gr.os, gr.tape, gr.output, gr.size, fun k hk hn => gr.block k hk fun h => hn (ob_own h)⟩
    have h7 := h3.below g37
    have h8 := h7.keepsX kS (fun k hk ho => by have := ob6 ho; have := (h3.lt k hk).2; omega) fun k ho => by show k < w2.heap.size; have := ob6 ho; omega
    have b8 := ((b4.below g46).below g7).keeps kS fun k ho => .inl (by have := ob6 ho; omega)
    have i8 := (h6.below g7).keeps kS fun ho => by have := ob6 ho; omega
    have g08 : Below w.heap.size w w8 := (g06.trans (g7.mono (by omega))).trans (kS.below (by omega) fun k hk ho => by have := ob6 ho; omega)
    refine ⟨rfl, ldR i8 ((Stands_ok rfl h8 b8).mono ?_)⟩
    rintro _ w9 ⟨rfl, g9⟩
    refine ⟨_, rfl, sel_t rfl ((Bytes_pg (h8.below g9)).mono ?_)⟩
    rintro _ w10 ⟨A10, c10, rfl, o10, l10, g10⟩
    have g010 := (g08.trans (g9.mono g08.size)).trans (g10.mono (by have := g08.size; have := g9.size; omega))
    refine ⟨_, _, _, rfl, (Same_ok o10.reads (hb.below g010 (Nat.le_refl _)) l10.symm rfl (by rw [l10]; decide)).mono ?_⟩
    rintro _ w11 ⟨rfl, g11⟩
    exact ⟨_, rfl, by rw [hby]; simp, g010.trans (g11.mono g010.size)⟩
end Go.Proofs.YtifambgaekjilaaDoor.Rd
