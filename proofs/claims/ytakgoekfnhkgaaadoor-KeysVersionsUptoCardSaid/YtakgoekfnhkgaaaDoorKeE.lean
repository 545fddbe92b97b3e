/- Versions of keys, the program's and the document's. Conditions: keys below 2^23. -/
import Derived.Test.YtakgoekfnhkgaaaDoorKeD
namespace Go.Proofs.YtakgoekfnhkgaaaDoor.Rd
open Go.Dn Go.RowKit Go.Lib
set_option linter.unusedVariables false
set_option linter.unusedSimpArgs false
set_option maxRecDepth 100000
/-- a key escaped -/
def escL : List UInt8 → List UInt8
  | [] => []
  | c :: l => if c = 0 then 0 :: 255 :: escL l else c :: escL l
theorem escL_len : ∀ l : List UInt8, (escL l).length ≤ 2 * l.length
  | [] => Nat.zero_le _
  | c :: l => by
    have := escL_len l
    unfold escL; split <;> simp <;> omega
theorem escL_app : ∀ a b : List UInt8, escL (a ++ b) = escL a ++ escL b
  | [], b => rfl
  | c :: a, b => by
    show (if c = 0 then 0 :: 255 :: escL (a ++ b) else c :: escL (a ++ b)) = (if c = 0 then 0 :: 255 :: escL a else c :: escL a) ++ escL b
    rw [escL_app a b]
    split <;> rfl
/-- cut at the noughts -/
def cutZ : List UInt8 → List (List UInt8) × List UInt8
  | [] => ([], [])
  | c :: l => if c = 0 then ([] :: (cutZ l).1, (cutZ l).2) else match (cutZ l).1 with
    | [] => ([], c :: (cutZ l).2)
    | s :: r => ((c :: s) :: r, (cutZ l).2)
theorem cutZ_J : ∀ (l nw : List UInt8), J [0] (cutZ l).1 (cutZ l).2 = l ∧ J (0 :: 255 :: []) (cutZ l).1 (cutZ l).2 = escL l ∧ (cutZ l).1.length = l.count 0 ∧ (∀ s ∈ (cutZ l).1, ∀ c ∈ s, c ≠ 0)
  | [], nw => ⟨rfl, rfl, rfl, fun s hs => by cases hs⟩
  | c :: l, nw => by
    obtain ⟨h1, h2, h3, h4⟩ := cutZ_J l nw
    unfold cutZ escL
    by_cases q : c = 0
    · subst q
      rw [if_pos rfl, if_pos rfl]
      refine ⟨?_, ?_, ?_, ?_⟩
      · show [] ++ ([0] ++ J [0] (cutZ l).1 (cutZ l).2) = _
        rw [h1]; rfl
      · show [] ++ ([0, 255] ++ J [0, 255] (cutZ l).1 (cutZ l).2) = _
        rw [h2]; rfl
      · rw [List.length_cons, h3, List.count_cons_self]
      · intro s hs
        rcases List.mem_cons.1 hs with rfl | hs
        · intro c hc; cases hc
        · exact h4 s hs
    · rw [if_neg q, if_neg q]
      have hcnt : (c :: l).count 0 = l.count 0 := List.count_cons_of_ne (fun e => q e)
      cases hs : (cutZ l).1 with
      | nil =>
        rw [hs] at h1 h2 h3
        simp only
        refine ⟨?_, ?_, by rw [hcnt]; exact h3, fun s hs => by cases hs⟩
        · show c :: (cutZ l).2 = _
          have : (cutZ l).2 = l := h1
          rw [this]
        · show c :: (cutZ l).2 = _
          have : (cutZ l).2 = escL l := h2
          rw [this]
      | cons s r =>
        rw [hs] at h1 h2 h3 h4
        simp only
        refine ⟨?_, ?_, by rw [hcnt]; exact h3, ?_⟩
        · show c :: (s ++ ([0] ++ J [0] r (cutZ l).2)) = _
          have : s ++ ([0] ++ J [0] r (cutZ l).2) = l := h1
          rw [this]
        · show c :: (s ++ ([0, 255] ++ J [0, 255] r (cutZ l).2)) = _
          have : s ++ ([0, 255] ++ J [0, 255] r (cutZ l).2) = escL l := h2
          rw [this]
        · intro t ht
          rcases List.mem_cons.1 ht with rfl | ht
          · intro d hd
            rcases List.mem_cons.1 hd with rfl | hd
            · exact q
            · exact h4 s List.mem_cons_self d hd
          · exact h4 t (List.mem_cons_of_mem _ ht)
theorem indexByte_at : ∀ (s r : List UInt8), (∀ c ∈ s, c ≠ 0) → indexByte (s ++ 0 :: r) 0 = (s.length : Int)
  | [], r, _ => rfl
  | c :: s, r, h => by
    rw [List.cons_append]
    unfold indexByte
    have hc : (c == 0) = false := by simpa using h c List.mem_cons_self
    rw [hc, indexByte_at s r fun d hd => h d (List.mem_cons_of_mem _ hd)]
    have : (((s.length : Int)) == -1) = false := by rw [beq_eq_false_iff_ne]; omega
    rw [this, List.length_cons]
    simp
section
variable {w w0 : World} {A0 A1 A2 : Option Addr} {c0 c1 c2 : Nat} {l : List UInt8}
theorem Escape_ok (r0 : Go.Dn.RB w A0 l) (hz : A0 = none → c0 = 0) (hc : l.length ≤ c0) (r1 : Go.Dn.RB w A1 [0]) (r2 : Go.Dn.RB w A2 [0, 255]) (hl : l.length ≤ 8000000) :
    Calls Tryd.prog 45 #[.slice A0 l.length c0, .slice A1 1 c1, .slice A2 2 c2] w fun e w' => ∃ A c, e = .returned (.slice A (escL l).length c) ∧ OwnB w' w.heap.size TU8 A c (escL l) ∧ Below w.heap.size w w' := by
  apply f_bytes_ReplaceAll.ok
  unfold f_bytes_ReplaceAll.wp
  obtain ⟨h1, h2, h3, h4⟩ := cutZ_J l []
  have hle := escL_len l
  have hrep := Replace_ok (Z := fun _ => True) (fun _ _ _ _ _ _ => trivial) trivial (w := w) (A0 := A0) (A1 := A1) (A2 := A2) (c0 := c0) (c1 := c1) (c2 := c2) (l := l) (o := [0]) (nw := [0, 255]) (last := (cutZ l).2) (segs := (cutZ l).1) r0 hz hc r1 (by simp) r2 (by simp) h1.symm (by rw [h2]; omega) (by omega) (by rw [h3]; exact Count_one r0 r1) (fun p s r hd hsuf w' q0 q1 _ => by
    have hin : s ∈ (cutZ l).1 := hsuf.subset List.mem_cons_self
    have hd' : l.drop p = s ++ 0 :: J [0] r (cutZ l).2 := hd
    have hlen : (l.drop p).length = l.length - p := List.length_drop
    have hpos : 0 < (l.drop p).length := by rw [hd', List.length_append, List.length_cons]; omega
    have rd := rb_sl (f := p) (k := l.length - p) q0 hc
    rw [List.take_of_length_le (by omega)] at rd
    have := Index_one (c := c0 - p) (c1 := c1) rd hpos q1
    rw [hlen] at this
    refine this.mono ?_
    rintro _ w'' ⟨rfl, g⟩
    rw [hd', indexByte_at s _ (h4 s hin)]
    exact ⟨rfl, g⟩)
  rw [h2] at hrep
  refine hrep.mono ?_
  rintro _ w' ⟨A, c, rfl, o, g⟩
  exact ⟨_, _, _, rfl, A, c, rfl, o, g⟩
def badT (t : Int) : Prop := t < 0 ∨ 1099511627776 < t
instance (t : Int) : Decidable (badT t) := inferInstanceAs (Decidable (_ ∨ _))
def bigL (t : Int) : List UInt8 := be8 (-t + 9223372036854775808).toNat
def versL (k : List UInt8) (t : Int) : List UInt8 × Int := if badT t then ([], 1) else (escL k ++ [0, 0] ++ bigL t, 0)
theorem bigL_len (t : Int) : (bigL t).length = 8 := rfl
theorem slB0 (a : Addr) (m sz : Nat) : slB a 0 m sz = a := by
  unfold slB
  split
  · rfl
  · rw [Nat.zero_mul]; rfl
theorem Version_ok {t : Int} (r0 : Go.Dn.RB w A0 l) (hz : A0 = none → c0 = 0) (hc : l.length ≤ c0) (hl : l.length ≤ 8000000) (ht : -9223372036854775808 ≤ t ∧ t ≤ 9223372036854775807) :
    Calls Tryd.prog 19 #[.slice A0 l.length c0, .int .i64 t] w fun e w' => ∃ A c, e = .returned (.tuple #[.slice A (versL l t).1.length c, .int .i64 (versL l t).2]) ∧ OwnB w' w.heap.size TU8 A c (versL l t).1 ∧ Below w.heap.size w w' := by
  apply f_keys_Version.ok
  unfold f_keys_Version.wp
  have hbt : Calls Tryd.prog 43 #[.int .i64 t] w fun e w' => e = .returned (.bool (decide (badT t))) ∧ w' = w := by
    apply f_keys_badTime.ok
    unfold f_keys_badTime.wp badT
    by_cases h : t < 0
    · exact sel_t (by simpa using h) ⟨by simp [h], rfl⟩
    · exact sel_f (by simpa using h) ⟨by simp [h], rfl⟩
  refine hbt.mono ?_
  rintro _ w ⟨rfl, rfl⟩
  refine ⟨_, rfl, ?_⟩
  unfold versL
  by_cases hb : badT t
  · rw [if_pos hb]
    exact sel_t (by simpa using hb) ⟨none, 0, rfl, World.ownsRow_nil _ _ _ _, Below.refl _ _⟩
  rw [if_neg hb]
  have htt : 0 ≤ t ∧ t ≤ 1099511627776 := by unfold badT at hb; omega
  refine sel_f (by simpa using hb) ?_
  rw [show IntKind.i64.wrap (0 - t) = -t by rw [w64_in (by omega)]; omega]
  refine (Big_ok (-t) (by omega)).mono ?_
  rintro _ w1 ⟨rfl, g1⟩
  refine ⟨_, _, _, _, _, _, _, _, rfl, ?_⟩
  have eu : be8 (-t + 9223372036854775808).toNat = bigL t := rfl
  obtain ⟨u, hu⟩ : ∃ u, (-t + 9223372036854775808).toNat = u := ⟨_, rfl⟩
  have ebig : bigL t = be8 u := by rw [← hu]; rfl
  rw [hu]
  refine alW_intro (st8 rfl ?_)
  have g2 : Below w1.heap.size w1 (w1.alloc (.cells #[.int .u8 ((bB u 0).toNat : Int), .int .u8 ((bB u 1).toNat : Int), .int .u8 ((bB u 2).toNat : Int), .int .u8 ((bB u 3).toNat : Int), .int .u8 ((bB u 4).toNat : Int), .int .u8 ((bB u 5).toNat : Int), .int .u8 ((bB u 6).toNat : Int), .int .u8 ((bB u 7).toNat : Int)] 72)) := (Below.refl _ _).alloc (Nat.le_refl _) _
  have r2 : Go.Dn.RB (w1.alloc (.cells #[.int .u8 ((bB u 0).toNat : Int), .int .u8 ((bB u 1).toNat : Int), .int .u8 ((bB u 2).toNat : Int), .int .u8 ((bB u 3).toNat : Int), .int .u8 ((bB u 4).toNat : Int), .int .u8 ((bB u 5).toNat : Int), .int .u8 ((bB u 6).toNat : Int), .int .u8 ((bB u 7).toNat : Int)] 72)) (some ⟨w1.heap.size, 0, none⟩) (be8 u) := (OwnB.lit (B := 0) (be8 u) rfl (Nat.zero_le _) (by simp [be8])).reads
  obtain ⟨w2, hw2⟩ : ∃ w2, w1.alloc (.cells #[.int .u8 ((bB u 0).toNat : Int), .int .u8 ((bB u 1).toNat : Int), .int .u8 ((bB u 2).toNat : Int), .int .u8 ((bB u 3).toNat : Int), .int .u8 ((bB u 4).toNat : Int), .int .u8 ((bB u 5).toNat : Int), .int .u8 ((bB u 6).toNat : Int), .int .u8 ((bB u 7).toNat : Int)] 72) = w2 := ⟨_, rfl⟩
  rw [hw2] at g2 r2 ⊢
  have s12 : w2.heap.size = w1.heap.size + 1 := by rw [← hw2]; exact Array.size_push _
  have g02 := g1.trans (g2.mono g1.size)
  refine lit_ok (l := [0]) rfl (by simp) fun b3 w3 e3 o3 g3 => lit_ok (l := [0, 255]) rfl (by simp) fun b4 w4 e4 o4 g4 => ?_
  have sz1 := g1.size
  have sz2 := g2.size
  have sz3 := g3.size
  have sz4 := g4.size
  have g04 : Below w.heap.size w w4 := (g02.trans (g3.mono (by omega))).trans (g4.mono (by omega))
  refine (Escape_ok (r0.below g04 (Nat.le_refl _)) hz hc (o3.keep g4).reads o4.reads hl).mono ?_
  rintro _ w5 ⟨A5, c5, rfl, o5, g5⟩
  have sz5 := g5.size
  refine ⟨_, _, _, rfl, drW_intro ?_⟩
  have gd : Below w5.heap.size w5 w5.drew := (Below.refl _ _).drew
  have o6 := o5.keep gd
  have szd := gd.size
  have g25 : Below w2.heap.size w2 w5.drew := ((g3.trans (g4.mono sz3)).trans (g5.mono (by omega))).trans (gd.mono (by omega))
  obtain ⟨w6, hw6⟩ : ∃ w6, w5.drew = w6 := ⟨_, rfl⟩
  rw [hw6] at gd o6 szd g25 ⊢
  refine lit_ok (l := [0, 0]) rfl (by simp) fun b7 w7 e7 o7 g7 => ?_
  have sz7 := g7.size
  have o8 := o6.keep g7
  have hle := escL_len l
  refine app_runs TBy o8 rfl o7.reads rfl (fun h => by cases h) (by omega) (by simp; omega) fun A9 c9 w9 o9 g9 z9 k9 => ⟨_, _, _, rfl, ?_⟩
  have r9 : Go.Dn.RB w9 (some ⟨w1.heap.size, 0, none⟩) (be8 u) := by
    have := (r2.below g25 (Nat.le_refl _)).below g7 (Nat.le_refl _)
    refine RBk this (S := fun k => ¬ k < w4.heap.size) ⟨g9.os, g9.tape, g9.output, g9.size, fun k hk hn => g9.block k (by omega)⟩ fun a ha hn => by (cases ha; exact hn (by show w1.heap.size < w4.heap.size; omega))
  rw [slB0]
  refine app_runs TBy o9 rfl r9 rfl (fun h => by cases h) (by have := g9.size; omega) (by simp [be8]; omega) fun A10 c10 w10 o10 g10 z10 k10 => ⟨_, _, _, rfl, ?_⟩
  have gg : Below w.heap.size w w10 := (((g02.trans (g25.mono (by omega))).trans (g7.mono (by omega))).trans (g9.mono (by omega))).trans (g10.mono (by omega))
  rw [← ebig] at o10 ⊢
  refine ⟨_, _, rfl, ?_, gg⟩
  exact OwnB.mono o10 (by omega)
end
end Go.Proofs.YtakgoekfnhkgaaaDoor.Rd
