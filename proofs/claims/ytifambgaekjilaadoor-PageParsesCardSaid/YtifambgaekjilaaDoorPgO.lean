/- page: the document's example. Conditions: none. -/
import Derived.Test.YtifambgaekjilaaDoorPgN
import Derived.Test.YtifambgaekjilaaDoorPgJ
import Derived.Lib.SlBytesConst
import Derived.Laws.BytesString
import Derived.Laws.IdiomStrings
namespace Go.Proofs.YtifambgaekjilaaDoor.Rd
open Go.Dn Go.RowKit Go.Shelf
set_option linter.unusedVariables false
set_option linter.unusedSimpArgs false
set_option maxRecDepth 100000
theorem lit_u {w : World} {l : List UInt8} {cs : Array Value} (hcs : cs.toList = l.map byteV) {n c : Nat} {K : Value → World → Prop}
    (hK : ∀ b w', b = w.heap.size → Go.Dn.RB w' (some ⟨b, 0, none⟩) l → Below w.heap.size w w' → w'.heap.size = b + 1 → K (.slice (some ⟨b, 0, none⟩) n c) w') :
    alW w (.cells cs 5) fun B w1 => Runs Tryd.prog (Go.convert 22 22 (.slice (some (⟨B, 0, Option.none⟩ : Addr)) n c)) w1 K := by
  refine alW_intro ?_
  refine runs_of (Lib.run_convert_bytes_const w 22 5 cs n c (by kernel_rfl) (by kernel_rfl)) (hK _ _ rfl ?_ ((Below.refl _ _).alloc (Nat.le_refl _) _) (by simp))
  intro i hi
  refine ⟨_, rfl, ?_⟩
  rw [add_mk, Nat.zero_add, World.cell?_alloc_mark, ← Array.getElem?_toList, hcs]
  simp [hi]
theorem conv_str {w : World} {A : Option Addr} {l : List UInt8} {n c : Nat} (hr : Go.Dn.RB w A l) (hn : n = l.length) (hlen : 0 < l.length) {K : Value → World → Prop}
    (hK : K (.string ⟨l.toArray⟩) w) : Runs Tryd.prog (Go.convert 22 9 (.slice A n c)) w K := by
  subst hn
  obtain ⟨a, rfl, _⟩ := hr 0 hlen
  refine runs_of (run_convert_bytes_back w 22 9 5 a c l (by kernel_rfl) (by kernel_rfl) (by kernel_rfl) ?_) hK
  intro i hi
  obtain ⟨a', ha, hc⟩ := hr i hi
  injection ha with ha; subst ha
  exact hc
def pE0 : Pg := ⟨0, UInt8.ofNat ((1 : Int) % 256).toNat, 7, []⟩
def pE1 : Pg := { pE0 with items := [[98]] }
def pE2 : Pg := { pE0 with items := [[97], [98]] }
theorem ins1 : insL pE0 0 [98] = (pE1, 0) := by kernel_rfl
theorem ins2 : insL pE1 0 [97] = (pE2, 0) := by kernel_rfl
theorem dropB (p : Pg) {j : Nat} (hj : 4 ≤ j) : (bytesL p).drop j = (rawL p).drop j := by
  obtain ⟨k, rfl⟩ : ∃ k, j = 4 + k := ⟨j - 4, by omega⟩
  have e : (bytesL p).drop 4 = (rawL p).drop 4 := rfl
  rw [← List.drop_drop, e, List.drop_drop]
theorem pe17 : bAt (rawL pE2) 17 = 2 := by decide +kernel
theorem pe18 : ((rawL pE2).drop 18).take 4 = [255, 1, 254, 1] := by decide +kernel
theorem pe510 : ((rawL pE2).drop 510).take 2 = [98, 97] := by decide +kernel
set_option maxHeartbeats 1000000 in
theorem alive_ok (w : World) : Calls Tryd.prog 7 #[] w fun e w' => e = .returned (.bool true) ∧ Below w.heap.size w w' := by
  apply f_law08_alive.ok
  unfold f_law08_alive.wp
  refine (New_pg w 1 7 (by decide)).mono ?_
  rintro _ w1 ⟨ρ, rfl, h1, g1⟩
  have h1 : PM w1 w.heap.size XF ρ pE0 := h1
  have hr : roomL pE0 = 200 := by kernel_rfl
  refine ⟨_, rfl, sel_f rfl ((Room_pg h1).mono ?_)⟩
  rintro _ w1 ⟨rfl, rfl⟩
  rw [hr]
  refine ⟨_, rfl, sel_f rfl (lit_u (l := [98]) rfl fun b w2 eb r2 g2 s2 => ⟨_, _, _, rfl, ?_⟩)⟩
  refine (Insert_pg (h1.below g2) (i := 0) (x := [98]) r2 rfl (by decide) fun k hk => hk.elim).mono ?_
  rintro _ w3 ⟨ρ3, rfl, e3, h3, n3, k3⟩
  rw [ins1] at h3 ⊢
  have g3 : Below w.heap.size w w3 := (g1.trans (g2.mono g1.size)).trans ((h1.below g2).bel k3)
  refine ⟨_, rfl, sel_f rfl (lit_u (l := [97]) rfl fun b' w4 eb' r4 g4 s4 => ⟨_, _, _, rfl, ?_⟩)⟩
  rw [← e3]
  refine (Insert_pg (h3.below g4) (i := 0) (x := [97]) r4 rfl (by decide) fun k hk => hk.elim).mono ?_
  rintro _ w5 ⟨ρ5, rfl, e5, h5, n5, k5⟩
  rw [ins2] at h5 ⊢
  have g5 : Below w.heap.size w w5 := (g3.trans (g4.mono g3.size)).trans ((h3.below g4).bel k5)
  refine ⟨_, rfl, sel_f rfl ?_⟩
  rw [← e5]
  refine (Len_pg h5).mono ?_
  rintro _ w5 ⟨rfl, rfl⟩
  refine ⟨_, rfl, sel_f rfl ((Item_pg h5 (i := 1)).mono ?_)⟩
  rintro _ w6 ⟨A6, c6, x6, f6, rfl, o6, g6, hx6⟩
  rw [if_neg (by show ¬((1 : Int) < 0 ∨ (((2 : Nat) : Int)) ≤ 1); omega)] at hx6
  obtain ⟨rfl, hi6, hx6⟩ := hx6
  have hx6 : x6 = [98] := hx6
  subst hx6
  refine ⟨_, _, _, _, rfl, (Bytes_pg (h5.below g6)).mono ?_⟩
  rintro _ w7 ⟨A7, c7, rfl, o7, l7, g7⟩
  have hc7 := o7.le
  refine ⟨_, _, _, rfl, (Parse_ok (b := bytesL pE2) o7.reads l7.symm o7.le (by rw [l7]; decide)).mono ?_⟩
  rintro _ w8 ⟨g8, hq⟩
  rw [parse_bytes h5.ok] at hq
  obtain ⟨ρ8, rfl, h8⟩ := hq
  have g68 : Below w6.heap.size w6 w8 := g7.trans (g8.mono g7.size)
  have g08 : Below w.heap.size w w8 := ((g5.trans (g6.mono g5.size)).trans (g68.mono (by have := g5.size; have := g6.size; omega)))
  have o8 := o7.keep g8
  refine ⟨_, _, rfl, sel_t rfl (conv_str (l := [98]) (o6.reads.below g68 (Nat.le_refl _)) rfl (by decide) ⟨_, rfl, sel_t (by decide +kernel) (sel_t rfl ?_)⟩)⟩
  obtain ⟨a, ea, ha⟩ := rb_at o8.reads (j := 17) (by rw [l7]; decide)
  refine optB_some ea (req_intro (by decide) (ldI_intro (x := 2) ?_ (sel_t rfl (req_intro (by simp; omega) ?_))))
  · have e : (17 : Int).toNat * 1 = 17 * 1 := rfl
    rw [e, ha, bytesL_at _ (by decide), pe17]; rfl
  refine alW_intro ?_
  have g9 : Below w8.heap.size w8 (w8.alloc (.cells #[.int .u8 255, .int .u8 1, .int .u8 254, .int .u8 1] TU8)) := (Below.refl _ _).alloc (Nat.le_refl _) _
  have o9 : OwnB (w8.alloc (.cells #[.int .u8 255, .int .u8 1, .int .u8 254, .int .u8 1] TU8)) w8.heap.size TU8 (some ⟨w8.heap.size, 0, none⟩) 4 [255, 1, 254, 1] := OwnB.lit [255, 1, 254, 1] rfl (Nat.le_refl _) (by decide)
  obtain ⟨w9, hw9⟩ : ∃ w9, w8.alloc (.cells #[.int .u8 255, .int .u8 1, .int .u8 254, .int .u8 1] TU8) = w9 := ⟨_, rfl⟩
  rw [hw9] at g9 o9 ⊢
  have r9 := rb_sl (f := 18) (k := 4) (o8.keep g9).reads o7.le
  rw [dropB _ (by decide), pe18] at r9
  refine (Same_ok r9 o9.reads rfl rfl (by decide)).mono ?_
  rintro _ w10 ⟨rfl, g10⟩
  refine ⟨_, rfl, sel_t rfl (req_intro (by decide) ?_)⟩
  have r10 := rb_sl (f := 510) (k := 2) ((o8.keep g9).keep g10).reads o7.le
  rw [dropB _ (by decide), pe510] at r10
  have g9' : Below w8.heap.size w8 w10 := g9.trans (g10.mono g9.size)
  have g0 : Below w.heap.size w w10 := g08.trans (g9'.mono g08.size)
  have h10 := h8.below g9'
  refine conv_str (l := [98, 97]) r10 rfl (by decide) ⟨_, rfl, sel_t (by decide +kernel) (sel_t rfl (sel_t rfl ((Kind_pg h10).mono ?_)))⟩
  rintro _ w10 ⟨rfl, rfl⟩
  refine ⟨_, rfl, sel_t rfl ((Extra_pg h10).mono ?_)⟩
  rintro _ w10 ⟨rfl, rfl⟩
  exact ⟨_, rfl, rfl, g0⟩
end Go.Proofs.YtifambgaekjilaaDoor.Rd
