/- Contracts of the seals of layer 2, and its examples. Conditions: lengths at most 2^46. -/
import Derived.Test.YtifambgaekjilaaDoorCsC
import Derived.Test.YtifambgaekjilaaDoorHelpC
import Derived.Lib.SlBytesConst
import Derived.Laws.NewBlocks
namespace Go.Proofs.YtifambgaekjilaaDoor.Rd
open Go.Dn Go.RowKit
set_option linter.unusedVariables false
set_option linter.unusedSimpArgs false

/-- a number's four bytes, the lowest first -/
def le4 (n : Nat) : List UInt8 := [UInt8.ofNat n, UInt8.ofNat (n / 256), UInt8.ofNat (n / 65536), UInt8.ofNat (n / 16777216)]
theorem le4_length (n : Nat) : (le4 n).length = 4 := rfl
theorem wr_new {w : World} {cs : Array Value} {e : TypeId} {i : Nat} {v : Value} (h : cs[i]? = some v) : Wr (w.alloc (.cells cs e)) ⟨w.heap.size, i, none⟩ := by
  refine ⟨⟨v, ?_⟩, ?_⟩
  · rw [World.cell?_alloc_at _ _ _ _ rfl]; exact h
  · rw [World.frozen?_alloc_at _ _ _ _ rfl]
theorem byte_at (n d : Nat) : IntKind.u8.wrap ((n : Int).fdiv ((2 ^ d : Nat) : Int)) = ((UInt8.ofNat (n / 2 ^ d)).toNat : Int) := by
  rw [u8w, UInt8.toNat_ofNat', Int.fdiv_eq_ediv_of_nonneg _ (Int.natCast_nonneg _)]
  rw [← Int.natCast_ediv]; omega
theorem byte_at0 (n : Nat) : IntKind.u8.wrap (n : Int) = ((UInt8.ofNat n).toNat : Int) := by
  rw [u8w, UInt8.toNat_ofNat']; omega

theorem head_ok (n : Nat) (w : World) : Calls Tryd.prog 52 #[.int .u32 (n : Int)] w fun e w' =>
    e = .returned (.agg #[byteV (UInt8.ofNat n), byteV (UInt8.ofNat (n / 256)), byteV (UInt8.ofNat (n / 65536)), byteV (UInt8.ofNat (n / 16777216))]) ∧ Below w.heap.size w w' := by
  apply f_crc_head.ok
  unfold f_crc_head.wp
  have e1 := byte_at n 8
  have e2 := byte_at n 16
  have e3 := byte_at n 24
  rw [byte_at0, show ((2 : Int) ^ 8) = ((2 ^ 8 : Nat) : Int) from rfl, e1, show ((2 : Int) ^ 16) = ((2 ^ 16 : Nat) : Int) from rfl, e2, show ((2 : Int) ^ 24) = ((2 ^ 24 : Nat) : Int) from rfl, e3]
  refine alW_intro ?_
  simp only [add_mk, Nat.zero_add]
  refine stW_intro (wr_new rfl) ?_
  rw [World.setCell_alloc_at _ _ _ _ _ rfl]
  refine stW_intro (wr_new rfl) ?_
  rw [World.setCell_alloc_at _ _ _ _ _ rfl]
  refine stW_intro (wr_new rfl) ?_
  rw [World.setCell_alloc_at _ _ _ _ _ rfl]
  refine stW_intro (wr_new rfl) ?_
  rw [World.setCell_alloc_at _ _ _ _ _ rfl]
  refine ldI_intro (World.cell?_alloc_at _ _ _ _ rfl) ?_
  refine ldI_intro (World.cell?_alloc_at _ _ _ _ rfl) ?_
  refine ldI_intro (World.cell?_alloc_at _ _ _ _ rfl) ?_
  refine ldI_intro (World.cell?_alloc_at _ _ _ _ rfl) ?_
  exact ⟨rfl, (Below.refl _ _).alloc (Nat.le_refl _) _⟩

/-- bytes, sealed -/
def sealL (l : List UInt8) : List UInt8 := le4 (crcSum l) ++ l
theorem crcSum_lt (l : List UInt8) : crcSum l < 4294967296 := Nat.xor_lt_two_pow (n := 32) (crcL_lt (by decide)) (by decide)
theorem RP.one {w : World} {A : Option Addr} {c : Nat} {l : List UInt8} (hr : RB w A l) (hlen : l.length ≤ 140737488355328) :
    RP (w.alloc (.cells #[.slice A l.length c] 22)) (some ⟨w.heap.size, 0, none⟩) [l] := by
  intro i hi
  obtain rfl : i = 0 := by simpa using hi
  refine ⟨_, A, c, rfl, ?_, hr.below ((Below.refl w.heap.size w).alloc (Nat.le_refl _) _) (Nat.le_refl _), hlen⟩
  rw [add_mk, World.cell?_alloc_at _ _ _ _ rfl]; rfl
theorem Seal_ok {w : World} {A : Option Addr} {n c : Nat} {l : List UInt8} (hr : RB w A l) (hn : n = l.length) (hA : A = none → c = 0) (hlen : l.length ≤ 140737488355000) :
    Calls Tryd.prog 41 #[.slice A n c] w fun e w' => ∃ A' c', e = .returned (.slice A' (sealL l).length c') ∧ OwnB w' w.heap.size 5 A' c' (sealL l) ∧ Below w.heap.size w w' := by
  subst hn
  apply f_crc_Seal.ok
  unfold f_crc_Seal.wp
  refine alW_intro ?_
  have hb1 := (Below.refl w.heap.size w).alloc (Nat.le_refl _) (.cells #[.slice A l.length c] 22)
  refine (Sum_ok (L := [l]) (c := 1) (RP.one hr (by omega)) (by simp)).mono ?_
  rintro e w1 ⟨rfl, rfl⟩
  rw [show [l].flatten = l by simp]
  refine ⟨_, rfl, ?_⟩
  refine (head_ok (crcSum l) _).mono ?_
  rintro e w2 ⟨rfl, hb2⟩
  have hb12 := hb1.trans (hb2.mono (by simp))
  refine ⟨_, _, _, _, rfl, alW_intro ?_⟩
  simp only [add_mk, Nat.zero_add]
  refine stW_intro (wr_new rfl) ?_
  rw [World.setCell_alloc_at _ _ _ _ _ rfl]
  refine stW_intro (wr_new rfl) ?_
  rw [World.setCell_alloc_at _ _ _ _ _ rfl]
  refine stW_intro (wr_new rfl) ?_
  rw [World.setCell_alloc_at _ _ _ _ _ rfl]
  refine stW_intro (wr_new rfl) ?_
  rw [World.setCell_alloc_at _ _ _ _ _ rfl]
  refine drW_intro ?_
  have hs2 := hb2.size
  have hs1 : w.heap.size ≤ w2.heap.size := by simp at hs2; omega
  have hb3 := (hb12.alloc hs1 (.cells (((((#[.int .u8 0, .int .u8 0, .int .u8 0, .int .u8 0] : Array Value).setIfInBounds 0 (byteV (UInt8.ofNat (crcSum l)))).setIfInBounds 1 (byteV (UInt8.ofNat (crcSum l / 256)))).setIfInBounds 2 (byteV (UInt8.ofNat (crcSum l / 65536)))).setIfInBounds 3 (byteV (UInt8.ofNat (crcSum l / 16777216)))) 79)).drew
  have h4 : RB (w2.alloc (.cells (((((#[.int .u8 0, .int .u8 0, .int .u8 0, .int .u8 0] : Array Value).setIfInBounds 0 (byteV (UInt8.ofNat (crcSum l)))).setIfInBounds 1 (byteV (UInt8.ofNat (crcSum l / 256)))).setIfInBounds 2 (byteV (UInt8.ofNat (crcSum l / 65536)))).setIfInBounds 3 (byteV (UInt8.ofNat (crcSum l / 16777216)))) 79)).drew (some ⟨w2.heap.size, 0, none⟩) (le4 (crcSum l)) := by
    intro i hi
    refine ⟨_, rfl, ?_⟩
    rw [add_mk, World.cell?_drew, World.cell?_alloc_at _ _ _ _ rfl]
    rw [le4_length] at hi
    match i, hi with
    | 0, _ => rfl
    | 1, _ => rfl
    | 2, _ => rfl
    | 3, _ => rfl
  rw [w64_in (by omega), show (l.length : Int) + 4 = ((l.length + 4 : Nat) : Int) by omega]
  obtain ⟨i, hi, hz, hs, hby⟩ := TBy.info
  obtain ⟨w5, hrun, ho5, hg5⟩ := run_make_own (w2.alloc (.cells (((((#[.int .u8 0, .int .u8 0, .int .u8 0, .int .u8 0] : Array Value).setIfInBounds 0 (byteV (UInt8.ofNat (crcSum l)))).setIfInBounds 1 (byteV (UInt8.ofNat (crcSum l / 256)))).setIfInBounds 2 (byteV (UInt8.ofNat (crcSum l / 65536)))).setIfInBounds 3 (byteV (UInt8.ofNat (crcSum l / 16777216)))) 79)).drew w.heap.size 22 5 i (.int .u8 0) 1 TBy.und hi hz hs .i64 .i64 (l.length + 4)
    (by rw [hby]; omega) (by unfold maxLen; omega) (by simp; omega)
  refine runs_of hrun ⟨_, _, _, rfl, ?_⟩
  have hb5 := hb3.grown hg5 (by simp; omega) (fun k h => by cases h)
  have hb35 : Below (w2.alloc (.cells (((((#[.int .u8 0, .int .u8 0, .int .u8 0, .int .u8 0] : Array Value).setIfInBounds 0 (byteV (UInt8.ofNat (crcSum l)))).setIfInBounds 1 (byteV (UInt8.ofNat (crcSum l / 256)))).setIfInBounds 2 (byteV (UInt8.ofNat (crcSum l / 65536)))).setIfInBounds 3 (byteV (UInt8.ofNat (crcSum l / 16777216)))) 79)).drew.heap.size _ w5 := (Below.refl _ _).grown hg5 (Nat.le_refl _) (fun k h => by cases h)
  have h5 := h4.below hb35 (Nat.le_refl _)
  have ho5' : OwnB w5 w.heap.size 5 (some ⟨_, 0, none⟩) (l.length + 4) [] := ho5
  have hsl : slB (⟨w2.heap.size, 0, none⟩ : Addr) 0 4 1 = ⟨w2.heap.size, 0, none⟩ := rfl
  rw [hsl]
  refine app_runs TBy (l := []) ho5' rfl h5 rfl (fun h => by cases h) hb5.size (by rw [le4_length]; simp) ?_
  intro A6 c6 w6 ho6 hb6 _ _
  rw [List.nil_append] at ho6 ⊢
  refine ⟨_, _, _, rfl, ?_⟩
  have hb06 := hb5.trans hb6
  refine app_runs TBy ho6 rfl (hr.below hb06 (Nat.le_refl _)) rfl (fun h => ?_) hb06.size (by rw [le4_length]; omega) ?_
  · subst h
    refine ⟨?_, hA rfl⟩
    cases l with
    | nil => rfl
    | cons b l => obtain ⟨a, ha, _⟩ := hr 0 (by simp); cases ha
  intro A7 c7 w7 ho7 hb7 _ _
  exact ⟨_, _, _, rfl, A7, c7, rfl, ho7, hb06.trans hb7⟩

/-- bytes, opened -/
def openL (l : List UInt8) : List UInt8 × Bool := if 4 ≤ l.length then (if l.take 4 = le4 (crcSum (l.drop 4)) then (l.drop 4, true) else ([], false)) else ([], false)
theorem four {l : List UInt8} (h : 4 ≤ l.length) : ∃ a b c d r, l = a :: b :: c :: d :: r := by
  match l, h with
  | a :: b :: c :: d :: r, _ => exact ⟨a, b, c, d, r, rfl⟩
theorem byteV_eq {a b : UInt8} : ((a.toNat : Int) == (b.toNat : Int)) = decide (a = b) := by
  rw [Bool.eq_iff_iff]
  simp only [beq_iff_eq, decide_eq_true_eq]
  exact ⟨fun h => UInt8.toNat.inj (by omega), fun h => by rw [h]⟩
theorem Open_ok {w : World} {A : Option Addr} {n c : Nat} {l : List UInt8} (hr : RB w A l) (hn : n = l.length) (hlen : l.length ≤ 140737488355000) (hc : l.length ≤ c) :
    Calls Tryd.prog 31 #[.slice A n c] w fun e w' => ∃ A' c', e = .returned (.tuple #[.slice A' (openL l).1.length c', .bool (openL l).2]) ∧ OwnB w' w.heap.size 5 A' c' (openL l).1 ∧ (A' = none → c' = 0) ∧ Below w.heap.size w w' := by
  subst hn
  apply f_crc_Open.ok
  unfold f_crc_Open.wp
  refine drW_intro ⟨fun w' => Below w.heap.size w w', Below.drw, ?_⟩
  by_cases h4 : 4 ≤ l.length
  · refine sel_f (by simp; omega) (req_intro (by simp; exact h4) ?_)
    obtain ⟨b0, b1, b2, b3, r, rfl⟩ := four h4
    obtain ⟨a, rfl, hc0⟩ := hr 0 (by simp)
    refine optB_some rfl ?_
    have hrd : ∀ (i : Nat) (hi : i < (b0 :: b1 :: b2 :: b3 :: r).length) (w' : World), Below w.heap.size w w' → w'.cell? (a.add i) = some (byteV (b0 :: b1 :: b2 :: b3 :: r)[i]) := by
      intro i hi w' hb
      obtain ⟨a', ha, hc⟩ := (hr.below hb (Nat.le_refl _)) i hi
      injection ha with ha; subst ha; exact hc
    refine ⟨(b0.toNat : Int), fun w' hw => hrd 0 (by simp) w' hw, ?_⟩
    refine ⟨(b1.toNat : Int), fun w' hw => hrd 1 (by simp) w' hw, ?_⟩
    refine ⟨(b2.toNat : Int), fun w' hw => hrd 2 (by simp) w' hw, ?_⟩
    refine ⟨(b3.toNat : Int), fun w' hw => hrd 3 (by simp) w' hw, ?_⟩
    refine req_intro (by simp; omega) (alW_intro ?_)
    have hb1 := (Below.drw (B := w.heap.size) (w := w)).alloc (Nat.le_refl _) (.cells #[.slice (slA (some a) 4 c 1) ((b0 :: b1 :: b2 :: b3 :: r).length - 4) (c - 4)] 22)
    refine ⟨hb1, ?_⟩
    have hlr : (b0 :: b1 :: b2 :: b3 :: r).length - 4 = r.length := by simp
    have hsl : RB w (slA (some a) 4 c 1) r := by
      unfold slA
      split
      · rename_i hc4
        have : r = [] := by
          have : r.length = 0 := by simp at hc; omega
          exact List.length_eq_zero_iff.mp this
        subst this; exact RB.nil _ _
      · have := hr.drop 4; exact this
    rw [hlr]
    rw [hlr] at hb1
    have hsum := Sum_ok (w := w.drew.alloc (.cells #[.slice (slA (some a) 4 c 1) r.length (c - 4)] 22)) (L := [r]) (c := 1) (A := some ⟨w.heap.size, 0, none⟩)
      (RP.one (w := w.drew) (c := c - 4) (hsl.below (Below.drw (B := w.heap.size)) (Nat.le_refl _)) (by simp at hlen; omega)) (by simp)
    refine hsum.mono ?_
    rintro e w1 ⟨rfl, rfl⟩
    rw [show [r].flatten = r by simp]
    refine ⟨_, rfl, hb1, ?_⟩
    refine (head_ok (crcSum r) _).mono ?_
    rintro e w2 ⟨rfl, hb2⟩
    have hb12 := hb1.trans (hb2.mono (by simp))
    refine ⟨_, _, _, _, rfl, hb12, ?_⟩
    simp only [byteV_eq]
    have hopen : openL (b0 :: b1 :: b2 :: b3 :: r) = if [b0, b1, b2, b3] = le4 (crcSum r) then (r, true) else ([], false) := by
      unfold openL
      rw [if_pos h4]
      rfl
    rw [hopen]
    by_cases he : [b0, b1, b2, b3] = le4 (crcSum r)
    · rw [if_pos he]
      refine sel_f ?_ (req_intro (by simp; omega) ?_)
      · unfold le4 at he
        simp only [List.cons.injEq] at he
        simp [he.1, he.2.1, he.2.2.1, he.2.2.2.1]
      · refine (Clone_ok (hsl.below hb12 (Nat.le_refl _)) rfl (by simp at hlen; omega)).mono ?_
        rintro e w3 ⟨A3, c3, rfl, ho, hc3, hb3⟩
        exact ⟨_, _, _, rfl, A3, c3, rfl, ho.mono hb12.size, hc3, hb12.trans (hb3.mono hb12.size)⟩
    · rw [if_neg he]
      refine sel_t ?_ ⟨none, 0, rfl, World.ownsRow_nil _ _ _ _, fun _ => rfl, hb12⟩
      unfold le4 at he
      simp only [List.cons.injEq, and_true] at he
      simp only [Bool.and_true, Bool.not_eq_true', Bool.and_eq_false_iff, decide_eq_false_iff_not]
      by_cases e0 : b0 = UInt8.ofNat (crcSum r)
      · by_cases e1 : b1 = UInt8.ofNat (crcSum r / 256)
        · by_cases e2 : b2 = UInt8.ofNat (crcSum r / 65536)
          · exact .inr (.inr (.inr fun e3 => he ⟨e0, e1, e2, e3⟩))
          · exact .inr (.inr (.inl e2))
        · exact .inr (.inl e1)
      · exact .inl e0
  · refine sel_t (by simp; omega) ⟨Below.drw, Below.drw, Below.drw, none, 0, ?_, ?_, fun _ => rfl, Below.drw⟩
    · unfold openL; rw [if_neg h4]; rfl
    · unfold openL; rw [if_neg h4]; exact World.ownsRow_nil _ _ _ _
end Go.Proofs.YtifambgaekjilaaDoor.Rd
