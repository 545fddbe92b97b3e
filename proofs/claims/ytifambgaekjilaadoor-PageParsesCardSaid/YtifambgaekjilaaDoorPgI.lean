/- page.Parse: a page read, or refused. Conditions: none. -/
import Derived.Test.YtifambgaekjilaaDoorPgH
namespace Go.Proofs.YtifambgaekjilaaDoor.Rd
open Go.Dn Go.RowKit
set_option linter.unusedVariables false
set_option linter.unusedSimpArgs false
set_option maxRecDepth 100000
theorem valS_lt4 (l : List UInt8) (h : l.length ≤ 4) : valS l < 4294967296 := by
  have h1 := valS_lt l
  have h2 : 256 ^ l.length ≤ 256 ^ 4 := Nat.pow_le_pow_right (by decide) h
  have h3 : (256 : Nat) ^ 4 = 4294967296 := by decide
  omega
theorem valS_lt8 (l : List UInt8) (h : l.length ≤ 8) : valS l < 18446744073709551616 := by
  have h1 := valS_lt l
  have h2 : 256 ^ l.length ≤ 256 ^ 8 := Nat.pow_le_pow_right (by decide) h
  have h3 : (256 : Nat) ^ 8 = 18446744073709551616 := by decide
  omega
section
variable {w w' : World}
def parseQ (w : World) (b : List UInt8) (e : Ending) (w' : World) : Prop := Below w.heap.size w w' ∧ match parseL b with
  | none => e = .returned (.tuple #[.pointer none, .int .i64 80])
  | some p => ∃ ρ : RPg, e = .returned (.tuple #[.pointer (some ⟨ρ.P, 0, none⟩), .int .i64 0]) ∧ PM w' w.heap.size (fun k => k < w.heap.size) ρ p
set_option maxHeartbeats 1000000 in
theorem Parse_ok {A : Option Addr} {n c : Nat} {b : List UInt8} (hr : Go.Dn.RB w A b) (hn : n = b.length) (hc : b.length ≤ c) (hl : b.length ≤ 140737488355000) :
    Calls Tryd.prog 9 #[.slice A n c] w (parseQ w b) := by
  subst hn
  apply f_page_Parse.ok
  unfold f_page_Parse.wp f_page_Parse.s0
  have bad : ∀ {w' : World}, Below w.heap.size w w' → parseL b = none → ∃ k : Nat, f_page_Parse.g0 k w' (fun (p53 : Option Addr) (x54 : Int) (w55 : World) => ∀ _ : Fr, parseQ w b (.returned (.tuple #[.pointer p53, .int .i64 x54])) w55) := fun {w'} g e => by
    refine ⟨1, ?_⟩
    unfold f_page_Parse.g0 f_page_Parse.j1
    intro _
    unfold parseQ
    rw [e]
    exact ⟨g, rfl⟩
  by_cases q1' : b.length ≠ 512
  · exact sel_t (by simp; omega) (bad (Below.refl _ _) (by unfold parseL; rw [if_pos (.inl q1')]))
  have q1 : b.length = 512 := by omega
  refine sel_f (by rw [q1]; rfl) ((Open_ok hr rfl hl hc).mono ?_)
  rintro _ w1 ⟨A1, c1, rfl, o1, _, g1⟩
  refine ⟨_, _, _, _, rfl, ?_⟩
  by_cases q2 : (openL b).2 = false
  · exact sel_t (by rw [q2]; rfl) (bad g1 (by unfold parseL; rw [if_pos (.inr (.inl q2))]))
  refine sel_f (by simpa using q2) (req_intro (by simp; omega) ?_)
  have hr1 := hr.below g1 (Nat.le_refl _)
  obtain ⟨a0, ea0, hc0⟩ := hr 0 (by omega)
  have hsp : a0.spot = none := by
    obtain ⟨_, _, _, _, h⟩ := World.shape?_of_cell? hc0
    exact h
  have spot : ∀ (i : Nat) (a : Addr), slA A i c 1 = some a → a.spot = none := fun i a ha => by
    unfold slA at ha
    split at ha
    · rw [ea0] at ha; cases ha; exact hsp
    · rw [ea0, Option.map_some] at ha
      obtain ⟨g0, f0, sp0⟩ := a0
      have hsp : sp0 = none := hsp
      subst hsp
      rw [add_mk] at ha
      cases ha; rfl
  have l8 : ((b.drop 4).take 8).length = 8 := by rw [List.length_take, List.length_drop]; omega
  have l4 : ((b.drop 13).take 4).length = 4 := by rw [List.length_take, List.length_drop]; omega
  refine (low_ok (rb_sl (f := 4) (k := 8) hr1 hc) (by rw [l8]) (by omega) (by omega) (spot 4)).mono ?_
  rintro _ w2 ⟨rfl, g2⟩
  have g02 := g1.trans (g2.mono g1.size)
  have hlsn : valS ((b.drop 4).take 8).reverse = lsnB b := rfl
  have hl8 : lsnB b < 18446744073709551616 := valS_lt8 _ (by rw [List.length_reverse, l8]; decide)
  rw [hlsn]
  refine ⟨_, rfl, ?_⟩
  by_cases q3 : 9223372036854775807 < lsnB b
  · exact sel_t (by simp; omega) (bad g02 (by unfold parseL; rw [if_pos (.inr (.inr (.inl q3)))]))
  refine sel_f (by simp; omega) ?_
  have hr2 := hr.below g02 (Nat.le_refl _)
  obtain ⟨a, ea, h17⟩ := rb_at hr2 (j := 17) (by omega)
  refine optB_some ea (req_intro (by simp; omega) (ldI_intro h17 ?_))
  have hcn : (bAt b 17).toNat = cntB b := rfl
  rw [hcn]
  by_cases q4 : 100 < cntB b
  · exact sel_t (by simp; omega) (bad g02 (by unfold parseL; rw [if_pos (.inr (.inr (.inr q4)))]))
  refine sel_f (by simp; omega) ?_
  have gd : Below w2.heap.size w2 w2.drew := (Below.refl _ _).drew
  have g0d := g02.trans (gd.mono g02.size)
  have hrd := hr.below g0d (Nat.le_refl _)
  obtain ⟨a', ea', h12⟩ := rb_at hrd (j := 12) (by omega)
  refine drW_intro ⟨fun W => Below w2.drew.heap.size w2.drew W, Below.refl _ _, optB_some ea' (req_intro (by simp; omega) ⟨_, fun W hW => (hW.cell (World.block_lt_of_cell? _ _ h12)).trans h12, req_intro (by simp; omega) ?_⟩)⟩
  refine (low_ok (rb_sl (f := 13) (k := 4) hrd hc) (by rw [l4]) (by omega) (by omega) (spot 13)).mono ?_
  rintro _ w3 ⟨rfl, g3⟩
  have hext : valS ((b.drop 13).take 4).reverse = extB b := rfl
  have he4 : extB b < 4294967296 := valS_lt4 _ (by rw [List.length_reverse, l4]; decide)
  rw [hext]
  have g03 := g0d.trans (g3.mono g0d.size)
  refine ⟨_, rfl, g3, al_new fun w4 P e4 s4 h4 g4 => drW_intro ?_⟩
  have g04 := g03.trans (g4.mono g03.size)
  have gd4 : Below w4.heap.size w4 w4.drew := (Below.refl _ _).drew
  have g0e := g04.trans (gd4.mono g04.size)
  have hre := hr.below g0e (Nat.le_refl _)
  obtain ⟨a2, ea2, h17'⟩ := rb_at hre (j := 17) (by omega)
  have e1 : IntKind.i64.wrap (lsnB b : Int) = (lsnB b : Int) := w64_in (by omega)
  have e2 : IntKind.u32.wrap (extB b : Int) = (extB b : Int) := by simp [IntKind.wrap, IntKind.bits, IntKind.signed]; omega
  rw [e1, e2] at h4
  refine optB_some ea2 (req_intro (by simp; omega) (ldI_intro h17' ?_))
  rw [hcn]
  have e3 : IntKind.i64.wrap ((18 : Int) + IntKind.i64.wrap ((2 : Int) * IntKind.i64.wrap (cntB b : Int))) = ((18 + 2 * cntB b : Nat) : Int) := by
    rw [w64_in (x := (cntB b : Int)) (by omega), w64_in (x := 2 * (cntB b : Int)) (by omega), w64_in (by omega)]; omega
  rw [e3]
  have p0 : PM w4.drew w.heap.size (fun k => k < w.heap.size) ⟨P, none, 0⟩ ⟨lsnB b, bAt b 12, extB b, []⟩ := by
    refine ⟨HB.below h4 gd4, ?_, ⟨[], OwnE.none _ _ _ _ _, rfl, fun i h => absurd h (Nat.not_lt_zero _)⟩, ⟨Nat.zero_le _, fun x h => (by cases h), by show 18 + 2 * 0 + 0 ≤ 512; omega, by show lsnB b < _; omega, he4⟩⟩
    have := g03.size
    show w.heap.size ≤ P
    omega
  have nb : ¬ (b.length ≠ 512 ∨ (openL b).2 = false ∨ 9223372036854775807 < lsnB b ∨ 100 < cntB b) := by
    rintro (h | h | h | h)
    · exact h q1
    · exact q2 h
    · exact q3 h
    · exact q4 h
  rw [q1]
  refine ⟨_, Parse_l2 (w0 := w) (ρ := ⟨P, none, 0⟩) (X := fun k => k < w.heap.size) (B := w.heap.size) (n := cntB b) (lsn := lsnB b) (kd := bAt b 12) (ext := extB b) hr q1 (by omega) (by omega) (fun k hk => hk) (Nat.le_refl _) (fun hpi w' g _ => bad g (by unfold parseL; rw [if_neg nb, hpi])) (fun w' ρ' its e hpi hp hg he1 he2 eP _ => ?_) (cntB b) 18 512 w4.drew _ [] rfl rfl rfl (by omega) rfl rfl p0 g0e⟩
  · refine req_intro (by simp; omega) (req_intro (by simp; omega) ?_)
    rw [Int.toNat_natCast, Int.toNat_natCast]
    have hz : ((b.drop (18 + 2 * cntB b)).take (e - (18 + 2 * cntB b))).length = e - (18 + 2 * cntB b) := by rw [List.length_take, List.length_drop]; omega
    refine (Trim_ok (rb_sl (f := 18 + 2 * cntB b) (k := e - (18 + 2 * cntB b)) (hr.below hg (Nat.le_refl _)) hc) hz.symm (by omega) (by omega)).mono ?_
    rintro _ w6 ⟨⟨A6, n6, c6, rfl, hz6⟩, g6⟩
    have hg6 := hg.trans (g6.mono hg.size)
    refine ⟨_, _, _, rfl, ?_⟩
    by_cases z : n6 = 0
    · refine sel_f (by rw [z]; rfl) fun _ => ?_
      have za : zeroes ((b.drop (18 + 2 * cntB b)).take (e - (18 + 2 * cntB b))) = true := by
        unfold zeroes
        rw [List.all_eq_true]
        intro x hx
        simpa using (hz6.1 z) x hx
      unfold parseQ
      have e : parseL b = some ⟨lsnB b, bAt b 12, extB b, its⟩ := by
        unfold parseL
        rw [if_neg nb, hpi]
        simp only [za, if_true]
      rw [e]
      exact ⟨hg6, ρ', by rw [eP], hp.below g6⟩
    · refine sel_t (by simp; omega) (bad hg6 ?_)
      unfold parseL
      rw [if_neg nb, hpi]
      have za : zeroes ((b.drop (18 + 2 * cntB b)).take (e - (18 + 2 * cntB b))) = false := by
        cases hh : zeroes ((b.drop (18 + 2 * cntB b)).take (e - (18 + 2 * cntB b))) with
        | false => rfl
        | true =>
          unfold zeroes at hh
          rw [List.all_eq_true] at hh
          exact absurd (hz6.2 fun x hx => by simpa using hh x hx) z
      simp only [za, Bool.false_eq_true, if_false]
end
end Go.Proofs.YtifambgaekjilaaDoor.Rd
