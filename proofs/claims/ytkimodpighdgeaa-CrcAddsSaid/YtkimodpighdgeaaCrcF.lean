/- The statement CrcSums: the sum is that of the definition, however the bytes are cut into parts. -/
import Derived.Test.YtkimodpighdgeaaCrcE
namespace Go.Proofs.Ytkimodpighdgeaa.Rd
open Go.Dn Go.RowKit
set_option linter.unusedVariables false
set_option linter.unusedSimpArgs false

theorem CrcSums_j0 {w : World} {A : Option Addr} {c k : Nat} {l : List UInt8} (hr : RB w A l) (hlen : l.length ≤ 140737488351232) (hk : k ≤ l.length) {K : Bool → World → Prop}
    (hK : ∀ w', Below w.heap.size w w' → K true w') : f_law02_CrcSums.j0 A l.length c (k : Int) w K := by
  unfold f_law02_CrcSums.j0
  refine (Wide_ok hr (by omega)).mono ?_
  rintro e w1 ⟨A1, c1, rfl, ho1, hb1⟩
  refine ⟨_, _, _, rfl, ?_⟩
  refine (RSum_ok (hr.below hb1 (Nat.le_refl _)) (by omega)).mono ?_
  rintro e w2 ⟨rfl, rfl⟩
  refine ⟨_, rfl, drW_intro ?_⟩
  have hle : (l ++ marks).length ≤ c1 := OwnB.le ho1
  have hml : (l ++ marks).length = l.length + 64 := by rw [List.length_append, marks_length]
  have hw1 : RB w2 A1 (l ++ marks) := ho1.reads
  have hl1 : RB w2 A1 l := by have := hw1.take l.length; rwa [List.take_left] at this
  refine req_intro (by simp; omega) (alW_intro ?_)
  rw [slA0, show ((l.length : Int).toNat - 0) = l.length by omega]
  have hbd := Below.drw (B := w.heap.size) (w := w2)
  have hb3 := (hb1.trans hbd).alloc (by simpa using hb1.size) (.cells #[.slice A1 l.length (c1 - 0)] 22)
  have hs1 := hb1.size
  refine (Sum_ok (L := [l]) (c := 1) (RP.one (w := w2.drew) (hl1.below (Below.drw (B := w2.heap.size)) (Nat.le_refl _)) (by omega)) (by simp)).mono ?_
  rintro e w3 ⟨rfl, rfl⟩
  rw [show [l].flatten = l by simp]
  refine ⟨_, rfl, sel_t (by simp) ?_⟩
  refine req_intro (by simp; omega) (req_intro (by simp; omega) (req_intro (by simp; omega) (alW_intro ?_)))
  rw [show ((k : Int).toNat - 0) = k by omega, show ((k : Int).toNat) = k by omega, show ((l.length : Int).toNat - k) = l.length - k by omega]
  have hb32 : Below w2.heap.size w2 (w2.drew.alloc (.cells #[.slice A1 l.length (c1 - 0)] 22)) := (Below.drw (B := w2.heap.size)).alloc (by simp) _
  have hb43 := hb32.alloc (by simp) (.cells #[.slice A1 k (c1 - 0), .slice none 0 0, .slice (slA A1 k c1 1) (l.length - k) (c1 - k)] 22)
  have hRP : RP ((w2.drew.alloc (.cells #[.slice A1 l.length (c1 - 0)] 22)).alloc (.cells #[.slice A1 k (c1 - 0), .slice none 0 0, .slice (slA A1 k c1 1) (l.length - k) (c1 - k)] 22))
      (some ⟨(w2.drew.alloc (.cells #[.slice A1 l.length (c1 - 0)] 22)).heap.size, 0, none⟩) [l.take k, [], l.drop k] := by
    intro i hi
    match i, hi with
    | 0, _ =>
      refine ⟨_, A1, c1 - 0, rfl, ?_, (hl1.take k).below hb43 (Nat.le_refl _), by show (l.take k).length ≤ _; rw [List.length_take]; omega⟩
      rw [add_mk, World.cell?_alloc_at _ _ _ _ rfl]
      show _ = some (Value.slice A1 (l.take k).length (c1 - 0))
      rw [List.length_take, Nat.min_eq_left hk]; rfl
    | 1, _ =>
      refine ⟨_, none, 0, rfl, ?_, RB.nil _ _, by show 0 ≤ _; omega⟩
      rw [add_mk, World.cell?_alloc_at _ _ _ _ rfl]; rfl
    | 2, _ =>
      refine ⟨_, slA A1 k c1 1, c1 - k, rfl, ?_, (RB.slA hl1 (by omega) k).below hb43 (Nat.le_refl _), by show (l.drop k).length ≤ _; rw [List.length_drop]; omega⟩
      rw [add_mk, World.cell?_alloc_at _ _ _ _ rfl]
      show _ = some (Value.slice (slA A1 k c1 1) (l.drop k).length (c1 - k))
      rw [List.length_drop]; rfl
  refine (Sum_ok (c := 3) hRP (by show 3 ≤ _; decide)).mono ?_
  rintro e w4 ⟨rfl, rfl⟩
  rw [show [l.take k, [], l.drop k].flatten = l by simp]
  refine ⟨_, rfl, sel_t (by simp) ?_⟩
  have hb4 := hb3.alloc (by simp; omega) (.cells #[.slice A1 k (c1 - 0), .slice none 0 0, .slice (slA A1 k c1 1) (l.length - k) (c1 - k)] 22)
  refine (Intact_ok (hw1.below hb43 (Nat.le_refl _)) (hr.below hb4 (Nat.le_refl _)) (by omega) rfl).mono ?_
  rintro e w5 ⟨rfl, hb5⟩
  exact ⟨_, rfl, hK _ (hb4.trans (hb5.mono (by simp; omega)))⟩

theorem CrcSums_walk {w : World} {A : Option Addr} {n c : Nat} {l : List UInt8} (hr : RB w A l) (hn : n = l.length) (hlen : l.length ≤ 140737488351232) (cut : Int) :
    Calls Try.prog 3 #[.slice A n c, .int .i64 cut] w fun e w' => e = .returned (.bool true) ∧ Below w.heap.size w w' := by
  subst hn
  apply f_law02_CrcSums.ok
  unfold f_law02_CrcSums.wp
  refine (alive_ok w).mono ?_
  rintro e w1 ⟨rfl, hb1⟩
  refine ⟨_, rfl, sel_f rfl ?_⟩
  have hr1 := hr.below hb1 (Nat.le_refl _)
  have done : ∀ w', Below w1.heap.size w1 w' → (Ending.returned (.bool true) = .returned (.bool true) ∧ Below w.heap.size w w') := fun w' h => ⟨rfl, hb1.trans (h.mono hb1.size)⟩
  by_cases h0 : cut < 0
  · refine sel_t (by simp; exact h0) ?_
    exact CrcSums_j0 hr1 hlen (Nat.le_refl _) fun w' h _ => done w' h
  · refine sel_f (by simp; omega) ?_
    by_cases h1 : cut > (l.length : Int)
    · refine sel_t (by simp; omega) ?_
      exact CrcSums_j0 hr1 hlen (Nat.le_refl _) fun w' h _ => done w' h
    · refine sel_f (by simp; omega) ?_
      obtain ⟨k, rfl⟩ := Int.eq_ofNat_of_zero_le (show 0 ≤ cut by omega)
      exact CrcSums_j0 hr1 hlen (by omega) fun w' h _ => done w' h

theorem CrcSums_row {w : World} {A : Option Addr} {n c : Nat} {zs : List Int} {cut : Int} (h : IsRow .u8 w A n c zs) (hs : n * 1 ≤ 140737488351232) (_ : (Lit.int .i64 cut).wf = true) :
    Calls Try.prog 3 #[.slice A n c, .int .i64 cut] w fun e w' => e = .returned (.bool true) ∧ Below w.heap.size w w' := by
  obtain ⟨l, hr, hn, _, _⟩ := rb_of_row h
  exact CrcSums_walk hr hn (by omega) cut
end Go.Proofs.Ytkimodpighdgeaa.Rd
