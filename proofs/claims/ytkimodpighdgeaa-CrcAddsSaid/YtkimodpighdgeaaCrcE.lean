/- The statement CrcSums: the sum is that of the definition, however the bytes are cut into parts. -/
import Derived.Test.YtkimodpighdgeaaCrcD
import Derived.Laws.BytesString
import Derived.Laws.IdiomStrings
namespace Go.Proofs.Ytkimodpighdgeaa.Rd
open Go.Dn Go.RowKit
set_option linter.unusedVariables false
set_option linter.unusedSimpArgs false

/-- a literal slice of bytes under a mark -/
theorem conv_lit {w : World} {l : List UInt8} {cs : Array Value} (hcs : cs.toList = l.map byteV) {n c : Nat} {K : Value → World → Prop}
    (hK : ∀ w', RB w' (some ⟨w.heap.size, 0, none⟩) l → Below w.heap.size w w' → w'.heap.size = w.heap.size + 1 → K (.slice (some ⟨w.heap.size, 0, none⟩) n c) w') :
    Runs Try.prog (Go.convert 22 22 (.slice (some ⟨w.heap.size, 0, none⟩) n c)) (w.alloc (.cells cs 5)) K := by
  refine runs_of (Lib.run_convert_bytes_const w 22 5 cs n c (by kernel_rfl) (by kernel_rfl)) (hK _ ?_ ((Below.refl _ _).alloc (Nat.le_refl _) _) (by simp))
  intro i hi
  refine ⟨_, rfl, ?_⟩
  rw [add_mk, Nat.zero_add, World.cell?_alloc_mark, ← Array.getElem?_toList, hcs]
  simp [hi]
theorem conv_str {w : World} {A : Option Addr} {l : List UInt8} {n c : Nat} (hr : RB w A l) (hn : n = l.length) (hlen : 0 < l.length) {K : Value → World → Prop}
    (hK : K (.string ⟨l.toArray⟩) w) : Runs Try.prog (Go.convert 22 9 (.slice A n c)) w K := by
  subst hn
  obtain ⟨a, rfl, _⟩ := hr 0 hlen
  refine runs_of (run_convert_bytes_back w 22 9 5 a c l (by kernel_rfl) (by kernel_rfl) (by kernel_rfl) ?_) hK
  intro i hi
  obtain ⟨a', ha, hc⟩ := hr i hi
  injection ha with ha; subst ha
  exact hc

theorem open0 : openL [0, 0, 0, 0] = ([], true) := by decide
theorem open1 : openL [1, 0, 0, 0] = ([], false) := by decide
theorem openq : openL (sealL [113]) = ([113], true) := by decide
theorem sum19 : crcSum ([[49, 50, 51, 52], [53, 54, 55, 56, 57]] : List (List UInt8)).flatten = 3421780262 := by decide +kernel
theorem lit_reads {w : World} (l : List UInt8) {cs : Array Value} (hcs : cs.toList = l.map byteV) : RB (w.alloc (.cells cs 5)) (some ⟨w.heap.size, 0, none⟩) l := by
  intro i hi
  refine ⟨_, rfl, ?_⟩
  rw [add_mk, Nat.zero_add, World.cell?_alloc_at _ _ _ _ rfl, ← Array.getElem?_toList, hcs]
  simp [hi]
theorem alive_ok (w : World) : Calls Try.prog 12 #[] w fun e w' => e = .returned (.bool true) ∧ Below w.heap.size w w' := by
  apply f_law02_alive.ok
  unfold f_law02_alive.wp
  refine alW_intro ?_
  have hb0 := (Below.refl w.heap.size w).alloc (Nat.le_refl _) (.cells #[.int .u8 0, .int .u8 0, .int .u8 0, .int .u8 0] 5)
  refine (Open_ok (l := [0, 0, 0, 0]) (lit_reads _ rfl) rfl (by decide) (by decide)).mono ?_
  rintro e w1 ⟨A1, c1, rfl, ho1, -, hb1⟩
  rw [open0] at *
  refine ⟨_, _, _, _, rfl, alW_intro ?_⟩
  have hs1 := hb1.size
  simp at hs1
  have hbb1 := hb0.trans (hb1.mono (by simp))
  have hb2 := hbb1.alloc (by omega) (.cells #[.int .u8 1, .int .u8 0, .int .u8 0, .int .u8 0] 5)
  refine (Open_ok (l := [1, 0, 0, 0]) (lit_reads _ rfl) rfl (by decide) (by decide)).mono ?_
  rintro e w2 ⟨A2, c2, rfl, ho2, -, hb2'⟩
  rw [open1] at *
  refine ⟨_, _, _, _, rfl, alW_intro ?_⟩
  have hs2 := hb2'.size
  simp at hs2
  have hbb2 := hb2.trans (hb2'.mono (by simp; omega))
  refine conv_lit (l := [113]) rfl ?_
  intro w3 hr3 hb3 hs3
  have hbb3 := hbb2.trans (hb3.mono (by omega))
  refine ⟨_, _, _, rfl, ?_⟩
  refine (Seal_ok (l := [113]) hr3 rfl (fun h => by cases h) (by decide)).mono ?_
  rintro e w4 ⟨A4, c4, rfl, ho4, hb4⟩
  have hs4 := hb4.size
  have hbb4 := hbb3.trans (hb4.mono (by omega))
  refine ⟨_, _, _, rfl, ?_⟩
  refine (Open_ok ho4.reads rfl (by decide) ho4.le).mono ?_
  rintro e w5 ⟨A5, c5, rfl, ho5, -, hb5⟩
  rw [openq] at *
  have hs5 := hb5.size
  have hbb5 := hbb4.trans (hb5.mono (by omega))
  refine ⟨_, _, _, _, rfl, alW_intro ?_⟩
  refine conv_lit (l := [49, 50, 51, 52]) rfl ?_
  intro w6 hr6 hb6 hs6
  have hbb6 := hbb5.trans (hb6.mono (by omega))
  refine ⟨_, _, _, rfl, alW_intro ?_⟩
  refine conv_lit (l := [53, 54, 55, 56, 57]) rfl ?_
  intro w7 hr7 hb7 hs7
  have hbb7 := hbb6.trans (hb7.mono (by omega))
  refine ⟨_, _, _, rfl, alW_intro ?_⟩
  have hb8 : Below w7.heap.size w7 (w7.alloc (.cells #[.slice (some ⟨w5.heap.size, 0, none⟩) 4 4, .slice (some ⟨w6.heap.size, 0, none⟩) 5 5] 22)) := (Below.refl _ _).alloc (Nat.le_refl _) _
  have hbb8 := hbb7.trans (hb8.mono (by omega))
  have hRP : RP (w7.alloc (.cells #[.slice (some ⟨w5.heap.size, 0, none⟩) 4 4, .slice (some ⟨w6.heap.size, 0, none⟩) 5 5] 22)) (some ⟨w7.heap.size, 0, none⟩) [[49, 50, 51, 52], [53, 54, 55, 56, 57]] := by
    intro i hi
    match i, hi with
    | 0, _ =>
      refine ⟨_, some ⟨w5.heap.size, 0, none⟩, 4, rfl, ?_, (hr6.below hb7 (Nat.le_refl _)).below hb8 (Nat.le_refl _), by show 4 ≤ 140737488355328; decide⟩
      rw [add_mk, World.cell?_alloc_at _ _ _ _ rfl]; rfl
    | 1, _ =>
      refine ⟨_, some ⟨w6.heap.size, 0, none⟩, 5, rfl, ?_, hr7.below hb8 (Nat.le_refl _), by show 5 ≤ 140737488355328; decide⟩
      rw [add_mk, World.cell?_alloc_at _ _ _ _ rfl]; rfl
  refine (Sum_ok (c := 2) hRP (by decide)).mono ?_
  rintro e w9 ⟨rfl, rfl⟩
  rw [sum19]
  refine ⟨_, rfl, sel_t (by decide) (sel_t rfl (sel_t rfl (sel_t rfl ?_)))⟩
  refine conv_str (l := [113]) (ho5.reads.below (B := w5.heap.size) ((hb6.trans (hb7.mono (by omega))).trans (hb8.mono (by omega))) (Nat.le_refl _)) rfl (by decide) ⟨_, rfl, ?_⟩
  exact ⟨by congr 2; exact beq_self_eq_true _, hbb8⟩
end Go.Proofs.Ytkimodpighdgeaa.Rd
