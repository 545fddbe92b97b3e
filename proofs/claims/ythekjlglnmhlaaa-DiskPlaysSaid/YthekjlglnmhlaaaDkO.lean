/- The reference's helpers over rows of bytes told as whole numbers. Conditions: lengths at most 2^46. -/
import Derived.Test.YthekjlglnmhlaaaDkN
import Derived.Test.YthekjlglnmhlaaaRdB
namespace Go.Proofs.Ythekjlglnmhlaaa.Rd
open Go.Dn Go.RowKit Go.Shelf
set_option linter.unusedVariables false
set_option linter.unusedSimpArgs false
set_option maxRecDepth 100000
theorem eB_encs (l : List Int) : encs eB l = l.map bV := by
  unfold encs
  induction l with
  | nil => rfl
  | cons a l ih => simp only [List.flatMap_cons, List.map_cons, ih]; rfl
theorem RB.rowE {w : World} {A : Option Addr} {l : List Int} (h : RB w A l) : RowE eB 1 w A l := fun i hi => by
  obtain ⟨a, ha, hc⟩ := h i hi
  refine ⟨a, ha, fun j hj => ?_⟩
  have : j = 0 := by omega
  subst this
  rw [Nat.mul_one, add_zero]
  simpa [eB, bV] using hc
theorem RowE.rb {w : World} {A : Option Addr} {l : List Int} (h : RowE eB 1 w A l) : RB w A l := fun i hi => by
  obtain ⟨a, ha, hc⟩ := h i hi
  refine ⟨a, ha, ?_⟩
  have := hc 0 (by decide)
  rw [Nat.mul_one, add_zero] at this
  simpa [eB, bV] using this
theorem OwnE.rb {w : World} {B e c : Nat} {A : Option Addr} {l : List Int} (h : OwnE eB 1 w B e A c l) : RB w A l := RowE.rb (h.reads EB)
theorem RB.take {w : World} {A : Option Addr} {l : List Int} (h : RB w A l) (n : Nat) : RB w A (l.take n) := fun i hi => by
  rw [List.length_take] at hi
  obtain ⟨a, ha, hc⟩ := h i (by omega)
  exact ⟨a, ha, by rw [hc]; simp⟩
theorem RB.nil (w : World) (A : Option Addr) : RB w A [] := fun i h => absurd h (Nat.not_lt_zero _)
theorem rb_ld {w : World} {A : Option Addr} {l : List Int} (h : RB w A l) {i : Nat} (hi : i < l.length) {K : Int → Prop} (hk : K l[i]) : optB A fun a => req (decide (0 ≤ (i : Int) ∧ (i : Int) < (l.length : Int))) <| ldI w (a.add ((i : Int).toNat * 1)) .u8 K := by
  obtain ⟨a, rfl, hc⟩ := h i hi
  exact optB_some rfl (req_intro (by simp; omega) (ldI_intro (x := l[i]) (by rw [Int.toNat_natCast, Nat.mul_one]; exact hc) hk))
theorem wrs {i n : Nat} (h : i < n) (hn : n ≤ 140737488355328) : IntKind.i64.wrap ((i : Int) + 1) = ((i + 1 : Nat) : Int) := by rw [w64_in (by omega)]; omega
/-! ### copies -/
theorem BCopy_l0 {w0 : World} {A0 : Option Addr} {c0 : Nat} {l : List Int} (hr : RB w0 A0 l) (hlen : l.length ≤ 140737488355328)
    {K0 : Option Addr → Nat → Nat → World → Prop} (k0 : ∀ A c w, OwnE eB 1 w w0.heap.size 5 A c l → Below w0.heap.size w0 w → K0 A l.length c w) :
    ∀ (m i : Nat) (A : Option Addr) (n c : Nat) (w : World), l.length - i = m → i ≤ l.length → n = (l.take i).length → OwnE eB 1 w w0.heap.size 5 A c (l.take i) → Below w0.heap.size w0 w →
      f_ref01_Copy.l0 (m + 1) A0 l.length c0 A n c (i : Int) w K0 := by
  intro m
  induction m with
  | zero =>
    intro i A n c w hm hi en o hb
    have : i = l.length := by omega
    subst this
    rw [List.take_length] at o en
    subst en
    unfold f_ref01_Copy.l0
    exact sel_f (by simp) (k0 _ _ _ o hb)
  | succ m ih =>
    intro i A n c w hm hi en o hb
    have hlt : i < l.length := by omega
    unfold f_ref01_Copy.l0
    refine sel_t (by simpa using hlt) (rb_ld (hr.belw hb) hlt ?_)
    refine put_e RTb EB (by decide) o en l[i] rfl hb.size (by rw [List.length_take]; omega) fun A' c' w1 o1 k1 _ => ?_
    rw [wrs hlt hlen]
    have e : l.take i ++ [l[i]] = l.take (i + 1) := by rw [List.take_succ_eq_append_getElem hlt]
    rw [e] at o1 ⊢
    exact ih (i + 1) _ _ c' w1 (by omega) (by omega) rfl o1 (hb.trans (k1.below hb.size fun k hk ⟨a, ha, e⟩ => by have := (o.block a ha).1; omega))
theorem BCopy_ok {w : World} {A : Option Addr} {n c : Nat} {l : List Int} (hr : RB w A l) (hn : n = l.length) (hlen : l.length ≤ 140737488355328) :
    Calls Try.prog 19 #[.slice A n c] w fun e w' => ∃ A' c', e = .returned (.slice A' l.length c') ∧ OwnE eB 1 w' w.heap.size 5 A' c' l ∧ Below w.heap.size w w' := by
  subst hn
  apply f_ref01_Copy.ok
  unfold f_ref01_Copy.wp
  refine alW_intro ⟨l.length + 1, ?_⟩
  refine BCopy_l0 (w0 := w) hr hlen (fun A' c' w' o hb => ?_) l.length 0 _ 0 0 _ rfl (by omega) (by simp) (OwnE.empty (Nat.le_refl _)) ((Below.refl _ _).alloc (Nat.le_refl _) _)
  exact fun _ => ⟨A', c', rfl, o, hb⟩
/-! ### pieces -/
def pieceL (l : List Int) (p q : Nat) : List Int := (l.take q).drop p
theorem BPiece_l1 {w0 : World} {A0 : Option Addr} {c0 : Nat} {l : List Int} (hr : RB w0 A0 l) (hlen : l.length ≤ 140737488355328) {p q : Nat}
    {K0 : Option Addr → Nat → Nat → World → Prop} (k0 : ∀ A c w, OwnE eB 1 w w0.heap.size 5 A c (pieceL l p q) → Below w0.heap.size w0 w → K0 A (pieceL l p q).length c w) :
    ∀ (m i : Nat) (A : Option Addr) (n c : Nat) (w : World), l.length - i = m → p ≤ i → (i ≤ q ∨ i = p) → n = (pieceL l p i).length → OwnE eB 1 w w0.heap.size 5 A c (pieceL l p i) → Below w0.heap.size w0 w →
      f_ref01_Piece.l1 (m + 1) A0 l.length c0 (q : Int) A n c (i : Int) w K0 := by
  intro m
  induction m with
  | zero =>
    intro i A n c w hm hp hi en o hb
    have e : pieceL l p i = pieceL l p q := by
      unfold pieceL
      rcases hi with hi | hi
      · rw [List.take_of_length_le (by omega), List.take_of_length_le (by omega)]
      · rw [List.drop_eq_nil_of_le (by rw [List.length_take]; omega), List.drop_eq_nil_of_le (by rw [List.length_take]; omega)]
    rw [e] at o en
    subst en
    unfold f_ref01_Piece.l1
    exact sel_f (by simp; omega) (k0 _ _ _ o hb)
  | succ m ih =>
    intro i A n c w hm hp hi en o hb
    have hlt : i < l.length := by omega
    unfold f_ref01_Piece.l1
    refine sel_t (by simpa using hlt) ?_
    by_cases hq : i < q
    · refine sel_t (by simpa using hq) (rb_ld (hr.belw hb) hlt ?_)
      refine put_e RTb EB (by decide) o en l[i] rfl hb.size (by unfold pieceL; rw [List.length_drop, List.length_take]; omega) fun A' c' w1 o1 k1 _ => ?_
      rw [wrs hlt hlen]
      have e : pieceL l p i ++ [l[i]] = pieceL l p (i + 1) := by
        unfold pieceL
        rw [List.take_succ_eq_append_getElem hlt, List.drop_append_of_le_length (by rw [List.length_take]; omega)]
      rw [e] at o1 ⊢
      exact ih (i + 1) _ _ c' w1 (by omega) (by omega) (.inl (by omega)) rfl o1 (hb.trans (k1.below hb.size fun k hk ⟨a, ha, e⟩ => by have := (o.block a ha).1; omega))
    · refine sel_f (by simpa using hq) ?_
      have e : pieceL l p i = pieceL l p q := by
        rcases hi with hi | hi
        · rw [show i = q by omega]
        · subst hi; unfold pieceL
          rw [List.drop_eq_nil_of_le (by rw [List.length_take]; omega), List.drop_eq_nil_of_le (by rw [List.length_take]; omega)]
      rw [e] at o en
      subst en
      exact k0 _ _ _ o hb
theorem BPiece_ok {w : World} {A : Option Addr} {n c p q : Nat} {l : List Int} (hr : RB w A l) (hn : n = l.length) (hlen : l.length ≤ 140737488355328) :
    Calls Try.prog 23 #[.slice A n c, .int .i64 (p : Int), .int .i64 (q : Int)] w fun e w' => ∃ A' c', e = .returned (.slice A' (pieceL l p q).length c') ∧ OwnE eB 1 w' w.heap.size 5 A' c' (pieceL l p q) ∧ Below w.heap.size w w' := by
  subst hn
  apply f_ref01_Piece.ok
  unfold f_ref01_Piece.wp
  refine alW_intro (sel_f (by simp) ?_)
  unfold f_ref01_Piece.j0
  have he : pieceL l p p = [] := List.drop_eq_nil_of_le (by rw [List.length_take]; omega)
  refine ⟨l.length - p + 1, BPiece_l1 (w0 := w) hr hlen (fun A' c' w' o hb => ?_) (l.length - p) p _ 0 0 _ rfl (Nat.le_refl _) (.inr rfl) (by rw [he]; rfl) (by rw [he]; exact OwnE.empty (Nat.le_refl _)) ((Below.refl _ _).alloc (Nat.le_refl _) _)⟩
  exact fun _ _ => ⟨A', c', rfl, o, hb⟩
/-! ### comparing -/
theorem BSame_l0 {w0 : World} {A1 A2 : Option Addr} {c1 c2 : Nat} {l1 l2 : List Int} (r1 : RB w0 A1 l1) (r2 : RB w0 A2 l2) (hl : l1.length = l2.length) (hlen : l1.length ≤ 140737488355328)
    {K0 : World → Prop} {Kr : Bool → World → Prop} (k0 : l1 = l2 → ∀ w, Below w0.heap.size w0 w → K0 w) (kr : l1 ≠ l2 → ∀ w, Below w0.heap.size w0 w → Kr false w) :
    ∀ (m i : Nat) (w : World), l1.length - i = m → i ≤ l1.length → l1.take i = l2.take i → Below w0.heap.size w0 w →
      f_ref01_Same.l0 (m + 1) A1 l1.length c1 A2 l2.length c2 (i : Int) w K0 Kr := by
  intro m
  induction m with
  | zero =>
    intro i w hm hi ht hb
    have : i = l1.length := by omega
    subst this
    rw [List.take_length, hl, List.take_length] at ht
    unfold f_ref01_Same.l0
    exact sel_f (by simp) (k0 ht w hb)
  | succ m ih =>
    intro i w hm hi ht hb
    have hlt : i < l1.length := by omega
    have hlt2 : i < l2.length := by omega
    have hb1 : Below w0.heap.size w0 w.drew := hb.trans ((Below.refl w0.heap.size w).drew)
    unfold f_ref01_Same.l0
    refine sel_t (by simpa using hlt) (drW_intro (rb_ld (r1.belw hb1) hlt (rb_ld (r2.belw hb1) hlt2 ?_)))
    by_cases e : l1[i] = l2[i]
    · refine sel_f (by simp [e]) ?_
      rw [wrs hlt hlen]
      exact ih (i + 1) _ (by omega) (by omega) (by rw [List.take_succ_eq_append_getElem hlt, List.take_succ_eq_append_getElem hlt2, ht, e]) hb1
    · refine sel_t (by simp [e]) (kr (fun h => e (by subst h; rfl)) _ hb1)
theorem BSame_ok {w : World} {A1 A2 : Option Addr} {l1 l2 : List Int} {n1 n2 c1 c2 : Nat} (r1 : RB w A1 l1) (e1 : n1 = l1.length) (r2 : RB w A2 l2) (e2 : n2 = l2.length) (hmax : l1.length ≤ 140737488355328) :
    Calls Try.prog 22 #[.slice A1 n1 c1, .slice A2 n2 c2] w fun e w' => e = .returned (.bool (decide (l1 = l2))) ∧ Below w.heap.size w w' := by
  subst e1; subst e2
  apply f_ref01_Same.ok
  unfold f_ref01_Same.wp
  by_cases hl : l1.length = l2.length
  · refine sel_f (by simp [hl]) ⟨_, BSame_l0 (w0 := w) r1 r2 hl hmax (fun e w' hb _ => ⟨by simp [e], hb⟩) (fun e w' hb _ => ⟨by simp [e], hb⟩) l1.length 0 w rfl (by omega) (by simp) (Below.refl _ _)⟩
  · refine sel_t (by simp only [bne_iff_ne, ne_eq]; omega) ⟨?_, Below.refl _ _⟩
    have : l1 ≠ l2 := fun e => hl (by rw [e])
    simp [this]
/-! ### a whole sector -/
theorem secOf_val (l : List Int) : (secOf l).1 = (l ++ List.replicate (512 - l.length) 0).take 512 := rfl
theorem full_l0 {w0 : World} {l : List Int} (hl : l.length ≤ 512)
    {K0 : Option Addr → Nat → Nat → World → Prop} (k0 : ∀ A c w, OwnE eB 1 w w0.heap.size 5 A c (secOf l).1 → Below w0.heap.size w0 w → K0 A 512 c w) :
    ∀ (m i : Nat) (A : Option Addr) (n c : Nat) (w : World), 512 - l.length - i = m → i ≤ 512 - l.length → n = l.length + i → OwnE eB 1 w w0.heap.size 5 A c (l ++ List.replicate i 0) → Below w0.heap.size w0 w →
      f_ref07_full.l0 (m + 1) A n c w K0 := by
  intro m
  induction m with
  | zero =>
    intro i A n c w hm hi en o hb
    have e : (secOf l).1 = l ++ List.replicate i 0 := by
      rw [secOf_val, show 512 - l.length = i by omega]
      exact List.take_of_length_le (by rw [List.length_append, List.length_replicate]; omega)
    rw [← e] at o
    have : n = 512 := by omega
    subst this
    unfold f_ref07_full.l0
    exact sel_f (by simp) (k0 _ _ _ o hb)
  | succ m ih =>
    intro i A n c w hm hi en o hb
    unfold f_ref07_full.l0
    refine sel_t (by simp; omega) ?_
    refine put_e RTb EB (by decide) o (by rw [List.length_append, List.length_replicate]; exact en) 0 rfl hb.size (by rw [List.length_append, List.length_replicate]; omega) fun A' c' w1 o1 k1 _ => ?_
    have e : l ++ List.replicate i 0 ++ [0] = l ++ List.replicate (i + 1) (0 : Int) := by rw [List.append_assoc, List.replicate_succ']
    rw [e] at o1 ⊢
    exact ih (i + 1) _ _ c' w1 (by omega) (by omega) (by rw [List.length_append, List.length_replicate]) o1 (hb.trans (k1.below hb.size fun k hk ⟨a, ha, e⟩ => by have := (o.block a ha).1; omega))
theorem secOf_take1 (l : List Int) : secOf (l.take 512) = secOf l := by
  apply Subtype.ext
  unfold secOf
  simp only
  by_cases h : l.length ≤ 512
  · rw [List.take_of_length_le h]
  · rw [List.take_append_of_le_length (by rw [List.length_take]; omega), List.take_append_of_le_length (by omega), List.take_take]
    simp
theorem full_ok {w : World} {A : Option Addr} {n c : Nat} {l : List Int} (hr : RB w A l) (hn : n = l.length) (hlen : l.length ≤ 140737488355328) :
    Calls Try.prog 36 #[.slice A n c] w fun e w' => ∃ A' c', e = .returned (.slice A' 512 c') ∧ OwnE eB 1 w' w.heap.size 5 A' c' (secOf l).1 ∧ Below w.heap.size w w' := by
  apply f_ref07_full.ok
  unfold f_ref07_full.wp
  refine (BPiece_ok (p := 0) (q := 512) hr hn hlen).mono ?_
  rintro _ w1 ⟨A1, c1, rfl, o1, g1⟩
  have ep : pieceL l 0 512 = l.take 512 := by unfold pieceL; rw [List.drop_zero]
  rw [ep] at o1 ⊢
  have hl : (l.take 512).length ≤ 512 := by rw [List.length_take]; omega
  refine ⟨_, _, _, rfl, _, full_l0 (w0 := w) hl (fun A' c' w' o hb => ?_) _ 0 A1 _ c1 w1 rfl (by omega) rfl (by simpa using o1) g1⟩
  rw [secOf_take1] at o
  exact fun _ => ⟨A', c', rfl, o, hb⟩
end Go.Proofs.Ythekjlglnmhlaaa.Rd
