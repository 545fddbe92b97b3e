/- UnBig; conversions. Conditions: none. -/
import Derived.Test.YtakgoekfnhkgaaaDoorKnD
import Derived.Lib.SlBytesConst
import Derived.Laws.BytesString
import Derived.Laws.IdiomStrings
namespace Go.Proofs.YtakgoekfnhkgaaaDoor.Rd
open Go.Dn Go.RowKit
set_option linter.unusedVariables false
set_option linter.unusedSimpArgs false

/-- a number out of its bytes, the highest first -/
def valB (l : List UInt8) : Nat := l.foldl (fun u b => u * 256 + b.toNat) 0
theorem valB_lt (l : List UInt8) : valB l < 256 ^ l.length := by
  unfold valB
  have key : ∀ (l : List UInt8) (a n : Nat), a < 256 ^ n → l.foldl (fun u b => u * 256 + b.toNat) a < 256 ^ (n + l.length) := by
    intro l
    induction l with
    | nil => intro a n h; exact h
    | cons b l ih =>
      intro a n h
      have hb := b.toNat_lt
      rw [List.foldl_cons, List.length_cons, show n + (l.length + 1) = (n + 1) + l.length by omega]
      refine ih _ (n + 1) ?_
      rw [Nat.pow_succ]; omega
  simpa using key l 0 0 (by decide)
theorem valB_snoc (l : List UInt8) (b : UInt8) : valB (l ++ [b]) = valB l * 256 + b.toNat := by simp [valB]
theorem bor_byte (u : Nat) (b : UInt8) (h : u < 72057594037927936) : bor .u64 (IntKind.u64.wrap ((u : Int) * 2 ^ 8)) (IntKind.u64.wrap (b.toNat : Int)) = ((u * 256 + b.toNat : Nat) : Int) := by
  have hb := b.toNat_lt
  rw [show IntKind.u64.wrap ((u : Int) * 2 ^ 8) = ((u * 256 : Nat) : Int) by rw [u64w]; omega, show IntKind.u64.wrap (b.toNat : Int) = (b.toNat : Int) by rw [u64w]; omega, bor64_nat _ _ (by omega) (by omega)]
  congr 1
  have := Nat.two_pow_add_eq_or_of_lt (i := 8) (b := b.toNat) hb u
  rw [Nat.mul_comm u 256]; exact this.symm
theorem UnBig_l0 {b0 b1 b2 b3 b4 b5 b6 b7 : UInt8} {w : World} {K : Int → World → Prop} (hK : K (valB [b0, b1, b2, b3, b4, b5, b6, b7] : Int) w) :
    ∀ (m k i : Nat), 8 - i = m → i ≤ 8 → m < k → f_num_UnBig.l0 k (valB ([b0, b1, b2, b3, b4, b5, b6, b7].take i) : Int) (b0.toNat : Int) (b1.toNat : Int) (b2.toNat : Int) (b3.toNat : Int) (b4.toNat : Int) (b5.toNat : Int) (b6.toNat : Int) (b7.toNat : Int) (i : Int) w K := by
  intro m
  induction m with
  | zero =>
    intro k i hm hi hk
    obtain ⟨k, rfl⟩ : ∃ j, k = j + 1 := ⟨k - 1, by omega⟩
    simp only [f_num_UnBig.l0]
    obtain rfl : i = 8 := by omega
    exact sel_f (by simp) hK
  | succ m ih =>
    intro k i hm hi hk
    obtain ⟨k, rfl⟩ : ∃ j, k = j + 1 := ⟨k - 1, by omega⟩
    simp only [f_num_UnBig.l0]
    have hlt : i < [b0, b1, b2, b3, b4, b5, b6, b7].length := by simp; omega
    refine sel_t (by simp; omega) (req_intro (by simp; omega) ?_)
    have hget : (#[.int .u8 (b0.toNat : Int), .int .u8 (b1.toNat : Int), .int .u8 (b2.toNat : Int), .int .u8 (b3.toNat : Int), .int .u8 (b4.toNat : Int), .int .u8 (b5.toNat : Int), .int .u8 (b6.toNat : Int), .int .u8 (b7.toNat : Int)] : Array Value)[i]? = some (.int .u8 ([b0, b1, b2, b3, b4, b5, b6, b7][i].toNat : Int)) := by
      simp at hlt
      match i, hlt with
      | 0, _ | 1, _ | 2, _ | 3, _ | 4, _ | 5, _ | 6, _ | 7, _ => rfl
    unfold idxI
    rw [Int.toNat_natCast]
    refine optB_some hget (req_intro rfl ?_)
    show f_num_UnBig.l0 _ _ _ _ _ _ _ _ _ _ _ _ _
    have hv := valB_lt ([b0, b1, b2, b3, b4, b5, b6, b7].take i)
    have hl : ([b0, b1, b2, b3, b4, b5, b6, b7].take i).length = i := by rw [List.length_take]; simp; omega
    rw [hl] at hv
    have hp : 256 ^ i ≤ 256 ^ 7 := Nat.pow_le_pow_right (by decide) (by omega)
    rw [bor_byte _ _ (by omega), ← valB_snoc, ← List.take_succ_eq_append_getElem hlt, w64_in (by omega), show (i : Int) + 1 = ((i + 1 : Nat) : Int) by omega]
    exact ih k (i + 1) (by omega) (by omega) (by omega)
theorem unflip63 (u : Nat) (h : u < 18446744073709551616) : IntKind.i64.wrap (bxor .u64 (u : Int) 9223372036854775808) = (u : Int) - 9223372036854775808 := by
  have := flip63 (IntKind.i64.wrap (u : Int)) (by rw [i64w]; omega)
  rw [show IntKind.u64.wrap (IntKind.i64.wrap (u : Int)) = (u : Int) by rw [i64w, u64w]; omega] at this
  rw [this, i64w, i64w]; omega
theorem UnBig_ok {w : World} (b0 b1 b2 b3 b4 b5 b6 b7 : UInt8) :
    Calls Tryd.prog 47 #[.agg #[.int .u8 (b0.toNat : Int), .int .u8 (b1.toNat : Int), .int .u8 (b2.toNat : Int), .int .u8 (b3.toNat : Int), .int .u8 (b4.toNat : Int), .int .u8 (b5.toNat : Int), .int .u8 (b6.toNat : Int), .int .u8 (b7.toNat : Int)]] w fun e w' =>
      e = .returned (.int .i64 ((valB [b0, b1, b2, b3, b4, b5, b6, b7] : Int) - 9223372036854775808)) ∧ Below w.heap.size w w' := by
  apply f_num_UnBig.ok
  unfold f_num_UnBig.wp
  refine alW_intro ?_
  simp only [add_mk, Nat.zero_add]
  iterate 8 refine ldI_intro (World.cell?_alloc_at _ _ _ _ rfl) ?_
  refine ⟨9, UnBig_l0 ?_ 8 9 0 (by omega) (by omega) (by omega)⟩
  intro _
  have := valB_lt [b0, b1, b2, b3, b4, b5, b6, b7]
  rw [unflip63 _ (by simpa using this)]
  exact ⟨rfl, (Below.refl _ _).alloc (Nat.le_refl _) _⟩

/-- a literal slice of bytes under a mark -/
theorem conv_lit {w : World} {l : List UInt8} {cs : Array Value} (hcs : cs.toList = l.map byteV) {n c : Nat} {K : Value → World → Prop}
    (hK : ∀ w', RB w' (some ⟨w.heap.size, 0, none⟩) l → Below w.heap.size w w' → w'.heap.size = w.heap.size + 1 → K (.slice (some ⟨w.heap.size, 0, none⟩) n c) w') :
    Runs Tryd.prog (Go.convert 24 24 (.slice (some ⟨w.heap.size, 0, none⟩) n c)) (w.alloc (.cells cs 5)) K := by
  refine runs_of (Lib.run_convert_bytes_const w 24 5 cs n c (by kernel_rfl) (by kernel_rfl)) (hK _ ?_ ((Below.refl _ _).alloc (Nat.le_refl _) _) (by simp))
  intro i hi
  refine ⟨_, rfl, ?_⟩
  rw [add_mk, Nat.zero_add, World.cell?_alloc_mark, ← Array.getElem?_toList, hcs]
  simp [hi]
theorem conv_str {w : World} {A : Option Addr} {l : List UInt8} {n c : Nat} (hr : RB w A l) (hn : n = l.length) (hlen : 0 < l.length) {K : Value → World → Prop}
    (hK : K (.string ⟨l.toArray⟩) w) : Runs Tryd.prog (Go.convert 24 9 (.slice A n c)) w K := by
  subst hn
  obtain ⟨a, rfl, _⟩ := hr 0 hlen
  refine runs_of (run_convert_bytes_back w 24 9 5 a c l (by kernel_rfl) (by kernel_rfl) (by kernel_rfl) ?_) hK
  intro i hi
  obtain ⟨a', ha, hc⟩ := hr i hi
  injection ha with ha; subst ha
  exact hc
theorem lit_reads {w : World} (l : List UInt8) {cs : Array Value} (hcs : cs.toList = l.map byteV) : RB (w.alloc (.cells cs 5)) (some ⟨w.heap.size, 0, none⟩) l := by
  intro i hi
  refine ⟨_, rfl, ?_⟩
  rw [add_mk, Nat.zero_add, World.cell?_alloc_at _ _ _ _ rfl, ← Array.getElem?_toList, hcs]
  simp [hi]
theorem st8 {w : World} {cs : Array Value} {e : TypeId} (hsz : cs.size = 8) {v0 v1 v2 v3 v4 v5 v6 v7 : Value} {K : World → Prop} (hk : K (w.alloc (.cells #[v0, v1, v2, v3, v4, v5, v6, v7] e))) :
    stW (w.alloc (.cells cs e)) ⟨w.heap.size, 0, none⟩ v0 fun w1 => stW w1 ⟨w.heap.size, 1, none⟩ v1 fun w2 => stW w2 ⟨w.heap.size, 2, none⟩ v2 fun w3 => stW w3 ⟨w.heap.size, 3, none⟩ v3 fun w4 =>
    stW w4 ⟨w.heap.size, 4, none⟩ v4 fun w5 => stW w5 ⟨w.heap.size, 5, none⟩ v5 fun w6 => stW w6 ⟨w.heap.size, 6, none⟩ v6 fun w7 => stW w7 ⟨w.heap.size, 7, none⟩ v7 K := by
  have hg : ∀ (cs : Array Value) (i : Nat), cs.size = 8 → i < 8 → ∃ v, cs[i]? = some v := fun cs i h hi => ⟨cs[i]'(by omega), Array.getElem?_eq_getElem (by omega)⟩
  have step : ∀ (cs : Array Value) (i : Nat) (v : Value) (K : World → Prop), cs.size = 8 → i < 8 → K (w.alloc (.cells (cs.setIfInBounds i v) e)) → stW (w.alloc (.cells cs e)) ⟨w.heap.size, i, none⟩ v K := by
    intro cs i v K h hi hk
    obtain ⟨u, hu⟩ := hg cs i h hi
    refine stW_intro (wr_new hu) ?_
    rw [World.setCell_alloc_at _ _ _ _ _ rfl]; exact hk
  refine step _ 0 _ _ hsz (by decide) ?_
  refine step _ 1 _ _ (by simpa using hsz) (by decide) ?_
  refine step _ 2 _ _ (by simpa using hsz) (by decide) ?_
  refine step _ 3 _ _ (by simpa using hsz) (by decide) ?_
  refine step _ 4 _ _ (by simpa using hsz) (by decide) ?_
  refine step _ 5 _ _ (by simpa using hsz) (by decide) ?_
  refine step _ 6 _ _ (by simpa using hsz) (by decide) ?_
  refine step _ 7 _ _ (by simpa using hsz) (by decide) ?_
  have : ((((((((cs.setIfInBounds 0 v0).setIfInBounds 1 v1).setIfInBounds 2 v2).setIfInBounds 3 v3).setIfInBounds 4 v4).setIfInBounds 5 v5).setIfInBounds 6 v6).setIfInBounds 7 v7) = #[v0, v1, v2, v3, v4, v5, v6, v7] := by
    refine eight (f := fun j => (#[v0, v1, v2, v3, v4, v5, v6, v7] : Array Value).getD j undef) (by simpa using hsz) fun j hj => ?_
    match j, hj with
    | 0, _ | 1, _ | 2, _ | 3, _ | 4, _ | 5, _ | 6, _ | 7, _ => simp [Array.getElem?_setIfInBounds, hsz]
  rw [this]; exact hk
end Go.Proofs.YtakgoekfnhkgaaaDoor.Rd
