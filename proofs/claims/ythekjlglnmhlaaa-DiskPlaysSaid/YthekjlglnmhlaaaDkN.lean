/- A disk in memory: the document's example. Conditions: none. -/
import Derived.Test.YthekjlglnmhlaaaDkM
import Derived.Lib.SlBytesConst
import Derived.Laws.BytesString
import Derived.Laws.IdiomStrings
namespace Go.Proofs.Ythekjlglnmhlaaa.Rd
open Go.Dn Go.RowKit Go.Shelf
set_option linter.unusedVariables false
set_option linter.unusedSimpArgs false
set_option maxRecDepth 100000
/-- a literal slice of bytes under a mark -/
theorem lit_b {w : World} {l : List Int} {cs : Array Value} (hcs : cs.toList = l.map bV) {n c : Nat} {K : Value → World → Prop}
    (hK : ∀ b w', b = w.heap.size → RB w' (some ⟨b, 0, none⟩) l → Below w.heap.size w w' → w'.heap.size = b + 1 → K (.slice (some ⟨b, 0, none⟩) n c) w') :
    alW w (.cells cs 5) fun B w1 => Runs Try.prog (Go.convert 35 35 (.slice (some (⟨B, 0, Option.none⟩ : Addr)) n c)) w1 K := by
  refine alW_intro ?_
  refine runs_of (Lib.run_convert_bytes_const w 35 5 cs n c (by kernel_rfl) (by kernel_rfl)) (hK _ _ rfl ?_ ((Below.refl _ _).alloc (Nat.le_refl _) _) (by simp))
  intro i hi
  refine ⟨_, rfl, ?_⟩
  rw [add_mk, Nat.zero_add, World.cell?_alloc_mark, ← Array.getElem?_toList, hcs]
  simp [hi, bV]
theorem sec_str {w : World} {b : Nat} {s : Sec} (h : HB w b (secV s) TS) {l : List UInt8} (hl : s.1.take l.length = l.map fun x => (x.toNat : Int)) {c : Nat} {K : Value → World → Prop}
    (hK : K (.string ⟨l.toArray⟩) w) : Runs Try.prog (Go.convert 35 9 (.slice (some (⟨b, 0, none⟩ : Addr)) l.length c)) w K := by
  refine runs_of (run_convert_bytes_back w 35 9 5 (⟨b, 0, none⟩ : Addr) c l (by kernel_rfl) (by kernel_rfl) (by kernel_rfl) ?_) hK
  intro i hi
  rw [h.cell i]
  have e : (s.1.take l.length)[i]? = (l.map fun x => (x.toNat : Int))[i]? := by rw [hl]
  rw [List.getElem?_take_of_lt hi, List.getElem?_map] at e
  simp [secV, secL, bV, e, hi]
theorem wr1 : wrap64 1 = 1 := by decide +kernel
theorem wr2 : wrap64 2 = 2 := by decide +kernel
theorem wr3 : wrap64 3 = 3 := by decide +kernel
theorem wr4 : wrap64 4 = 4 := by decide +kernel
theorem s0 : newD (nS 2) = ⟨[z0, z0], [], [], 0, false⟩ := rfl
section
variable (a b c : Sec)
theorem s1 (l : List Int) (hl : ¬ 512 < l.length) : wrD ⟨[z0, z0], [], [], 0, false⟩ 0 l = ⟨[z0, z0], [(0, secOf l)], [], 1, false⟩ ∧ wrC ⟨[z0, z0], [], [], 0, false⟩ 0 l = 0 := by
  have : ¬ wrBad ⟨[z0, z0], [], [], 0, false⟩ 0 l := by unfold wrBad; simp; omega
  constructor <;> simp [wrD, wrC, this, stepD, stepC, putD, fateOf, putK, hasK, wr1, wr3, wr4]
theorem s2 : syD ⟨[z0, z0], [(0, a)], [], 1, false⟩ = ⟨[a, z0], [], [], 2, false⟩ ∧ syC ⟨[z0, z0], [(0, a)], [], 1, false⟩ = 0 := by
  constructor <;> simp [syD, syC, stepD, stepC, syncD, flushed, fateOf, wr2, List.range_succ, hasK, hasS, lk]
theorem s3 (l : List Int) (hl : ¬ 512 < l.length) : wrD ⟨[a, z0], [], [], 2, false⟩ 0 l = ⟨[a, z0], [(0, secOf l)], [], 3, false⟩ ∧ wrC ⟨[a, z0], [], [], 2, false⟩ 0 l = 0 := by
  have : ¬ wrBad ⟨[a, z0], [], [], 2, false⟩ 0 l := by unfold wrBad; simp; omega
  constructor <;> simp [wrD, wrC, this, stepD, stepC, putD, fateOf, putK, hasK, wr1, wr3, wr4]
theorem s4 (l : List Int) (hl : ¬ 512 < l.length) : wrD ⟨[a, z0], [(0, b)], [], 3, false⟩ 1 l = ⟨[a, z0], [(0, b), (1, secOf l)], [], 4, false⟩ ∧ wrC ⟨[a, z0], [(0, b)], [], 3, false⟩ 1 l = 0 := by
  have : ¬ wrBad ⟨[a, z0], [(0, b)], [], 3, false⟩ 1 l := by unfold wrBad; simp; omega
  constructor <;> simp [wrD, wrC, this, stepD, stepC, putD, fateOf, putK, hasK, wr1, wr3, wr4]
theorem s5 : (looseD ⟨[a, z0], [(0, b), (1, c)], [], 4, false⟩).length = 2 := rfl
theorem s6 : onD ⟨[a, z0], [(0, b), (1, c)], [], 4, false⟩ [1] = ⟨[a, c], [], [], 4, false⟩ := by
  unfold onD kept
  simp [List.range_succ, hasS, lk]
theorem s7 : hasS ⟨[a, c], [], [], 4, false⟩ 0 = a ∧ hasS ⟨[a, c], [], [], 4, false⟩ 1 = c := ⟨rfl, rfl⟩
end
theorem secOf_two (x y : Int) : (secOf [x, y]).1.take 2 = [x, y] := by
  unfold secOf
  simp
theorem alive_ok (w : World) : Calls Try.prog 9 #[] w fun e w' => e = .returned (.bool true) ∧ Below w.heap.size w w' := by
  apply f_law07_alive.ok
  unfold f_law07_alive.wp
  refine (New_ok w 2).mono ?_
  rintro _ w1 ⟨r, rfl, h1, g1⟩
  rw [s0] at h1
  have upK : ∀ {W W' : World} {d : Dk}, DM W w.heap.size r d → Below w.heap.size w W → Keeps (FD r) W W' → Below w.heap.size w W' := fun h g k => g.trans (k.below g.size fun i hi ho => by have := (h.lt i ho).2; omega)
  have frB : ∀ {W W' : World} {d : Dk} {b : Nat}, DM W w.heap.size r d → b = W.heap.size → ∀ a : Addr, some (⟨b, 0, none⟩ : Addr) = some a → ¬ FD r a.block := by
    rintro W W' d b h hb a ha ho
    injection ha with ha; subst ha
    have := (h.lt _ ho).1
    simp at this; omega
  refine ⟨_, rfl, sel_f rfl (lit_b (l := [97, 98]) rfl fun b2 w2 e2 r2 g2 z2 => ?_)⟩
  have h2 := h1.below g2
  have G2 := g1.trans (g2.mono g1.size)
  have q := Write_ok (i := 0) (n := 2) (c := 2) h2 rfl r2 (frB (W' := w1) h1 e2)
  rw [(s1 [97, 98] (by decide)).1, (s1 [97, 98] (by decide)).2] at q
  refine ⟨_, _, _, rfl, q.mono ?_⟩
  rintro _ w3 ⟨rfl, h3, k3⟩
  have G3 := upK h2 G2 k3
  have q := Sync_ok h3
  rw [(s2 _).1, (s2 _).2] at q
  refine ⟨_, rfl, sel_f rfl (q.mono ?_)⟩
  rintro _ w4 ⟨rfl, h4, k4⟩
  have G4 := upK h3 G3 k4
  refine ⟨_, rfl, sel_f rfl (lit_b (l := [99, 100]) rfl fun b5 w5 e5 r5 g5 z5 => ?_)⟩
  have h5 := h4.below g5
  have G5 := G4.trans (g5.mono G4.size)
  have q := Write_ok (i := 0) (n := 2) (c := 2) h5 rfl r5 (frB (W' := w1) h4 e5)
  rw [(s3 _ [99, 100] (by decide)).1, (s3 _ [99, 100] (by decide)).2] at q
  refine ⟨_, _, _, rfl, q.mono ?_⟩
  rintro _ w6 ⟨rfl, h6, k6⟩
  have G6 := upK h5 G5 k6
  refine ⟨_, rfl, sel_f rfl (lit_b (l := [101, 102]) rfl fun b7 w7 e7 r7 g7 z7 => ?_)⟩
  have h7 := h6.below g7
  have G7 := G6.trans (g7.mono G6.size)
  have q := Write_ok (i := 1) (n := 2) (c := 2) h7 rfl r7 (frB (W' := w1) h6 e7)
  rw [(s4 _ _ [101, 102] (by decide)).1, (s4 _ _ [101, 102] (by decide)).2] at q
  refine ⟨_, _, _, rfl, q.mono ?_⟩
  rintro _ w8 ⟨rfl, h8, k8⟩
  have G8 := upK h7 G7 k8
  refine ⟨_, rfl, sel_f rfl ((Loose_ok h8).mono ?_)⟩
  rintro _ w9 ⟨A9, c9, rfl, -, g9⟩
  have h9 := h8.below g9
  have G9 := G8.trans (g9.mono G8.size)
  rw [s5]
  refine ⟨_, _, _, rfl, alW_intro ?_⟩
  have g10 := (Below.refl w9.heap.size w9).alloc (Nat.le_refl _) (.cells #[.int .i64 1] 3)
  have h10 := h9.below g10
  have G10 := G9.trans (g10.mono G9.size)
  have q := On_ok (n := 1) (c := 1) h10 (RI.lit w9 [1] (cs := #[.int .i64 1]) rfl 3) rfl (fun a ha ho => frB (W' := w1) h9 rfl a ha (.inr (.inr (.inl ho)))) (by decide)
  rw [s6] at q
  refine q.mono ?_
  rintro _ w11 ⟨rfl, h11, k11⟩
  have G11 := upK h10 G10 k11
  refine ⟨rfl, (Read_ok h11 0).mono ?_⟩
  rintro _ w12 ⟨⟨A12, n12, c12, x12, rfl, hd⟩, g12⟩
  have h12 := h11.below g12
  have G12 := G11.trans (g12.mono G11.size)
  rcases hd with ⟨hd, _⟩ | ⟨_, hd, _⟩ | ⟨_, _, _, rfl, rfl, rfl, b12, rfl, hb12, H12⟩
  · cases hd
  · simp at hd
  refine ⟨_, _, _, _, rfl, (Read_ok h12 1).mono ?_⟩
  rintro _ w13 ⟨⟨A13, n13, c13, x13, rfl, hd⟩, g13⟩
  have h13 := h12.below g13
  have G13 := G12.trans (g13.mono G12.size)
  rcases hd with ⟨hd, _⟩ | ⟨_, hd, _⟩ | ⟨_, _, _, rfl, rfl, rfl, b13, rfl, hb13, H13⟩
  · cases hd
  · simp at hd
  rw [(s7 _ _).1] at H12
  rw [(s7 _ _).2] at H13
  refine ⟨_, _, _, _, rfl, lit_b (l := [113]) rfl fun b14 w14 e14 r14 g14 z14 => ?_⟩
  have h14 := h13.below g14
  have G14 := G13.trans (g14.mono G13.size)
  refine ⟨_, _, _, rfl, (Load_ok (c := 1) r14 rfl (by decide) (by decide) (fun a ha _ => by injection ha with ha; subst ha; simp; omega)).mono ?_⟩
  rintro _ w15 ⟨r', rfl, h15, g15⟩
  have G15 := G14.trans (g15.mono G14.size)
  have H12' := ((H12.below g13).below g14).below g15
  have H13' := (H13.below g14).below g15
  have hD := h14.below g15
  refine ⟨_, rfl, sel_t rfl (sel_t rfl (sel_t rfl (sel_t rfl (req_intro (by decide) ?_))))⟩
  refine sec_str (l := [97, 98]) H12' (secOf_two 97 98) ⟨_, rfl, sel_t (by exact beq_self_eq_true _) (sel_t rfl (req_intro (by decide) ?_))⟩
  refine sec_str (l := [101, 102]) H13' (secOf_two 101 102) ⟨_, rfl, sel_t (by exact beq_self_eq_true _) ?_⟩
  refine (Size_ok hD).mono ?_
  rintro _ _ ⟨rfl, rfl⟩
  refine ⟨_, rfl, sel_t rfl ((Steps_ok hD).mono ?_)⟩
  rintro _ _ ⟨rfl, rfl⟩
  refine ⟨_, rfl, sel_t rfl (sel_t rfl ((Size_ok h15).mono ?_))⟩
  rintro _ _ ⟨rfl, rfl⟩
  exact ⟨_, rfl, rfl, G15⟩
end Go.Proofs.Ythekjlglnmhlaaa.Rd
