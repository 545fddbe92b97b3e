/- The rope in memory: a block of three cells, a row of nodes of eleven cells each, a row of seeds; words for reading and writing nodes. Conditions: none. -/
import Derived.Test.YtkkobfajahmfaaaTrA
import Derived.Test.YtkkobfajahmfaaaRdA
namespace Go.Dn
open Go.RowKit
set_option linter.unusedVariables false

/-! ### arenas: n nodes of sz cells -/
def enc (sz n : Nat) (F : Nat → Nat → Value) : List Value := (List.range (n * sz)).map fun k => F (k / sz) (k % sz)
theorem enc_len (sz n : Nat) (F : Nat → Nat → Value) : (enc sz n F).length = n * sz := by simp [enc]
theorem arith_dm {sz i j : Nat} (hj : j < sz) : (i * sz + j) / sz = i ∧ (i * sz + j) % sz = j := by
  constructor
  · rw [Nat.mul_comm, Nat.mul_add_div (by omega), Nat.div_eq_of_lt hj, Nat.add_zero]
  · rw [Nat.mul_comm, Nat.mul_add_mod]; exact Nat.mod_eq_of_lt hj
theorem arith_lt {sz n i j : Nat} (hi : i < n) (hj : j < sz) : i * sz + j < n * sz := by
  have : (i + 1) * sz ≤ n * sz := Nat.mul_le_mul_right _ hi
  rw [Nat.add_mul] at this; omega
theorem enc_get {sz n i j : Nat} {F : Nat → Nat → Value} (hi : i < n) (hj : j < sz) : (enc sz n F)[i * sz + j]? = some (F i j) := by
  unfold enc
  rw [List.getElem?_map, List.getElem?_range (arith_lt hi hj)]
  simp [arith_dm hj]
theorem enc_congr {sz n : Nat} {F F' : Nat → Nat → Value} (h : ∀ i, i < n → ∀ j, j < sz → F i j = F' i j) : enc sz n F = enc sz n F' := by
  unfold enc
  apply List.map_congr_left
  intro k hk
  have hk : k < n * sz := by simpa using hk
  have hs : 0 < sz := Nat.pos_of_ne_zero fun e => by subst e; simp at hk
  exact h _ (Nat.div_lt_of_lt_mul (by rw [Nat.mul_comm]; exact hk)) _ (Nat.mod_lt _ hs)
theorem enc_set {sz n i j : Nat} {F : Nat → Nat → Value} (hi : i < n) (hj : j < sz) (v : Value) : (enc sz n F).set (i * sz + j) v = enc sz n (fun i' j' => if i' = i ∧ j' = j then v else F i' j') := by
  apply List.ext_getElem?
  intro k
  by_cases hk : k < n * sz
  · have hs : 0 < sz := by omega
    have h1 : k / sz < n := Nat.div_lt_of_lt_mul (by rw [Nat.mul_comm]; exact hk)
    have h2 : k % sz < sz := Nat.mod_lt _ hs
    have hkk : k = k / sz * sz + k % sz := by rw [Nat.mul_comm]; exact (Nat.div_add_mod _ _).symm
    rw [hkk, enc_get h1 h2, List.getElem?_set]
    by_cases he : i * sz + j = k / sz * sz + k % sz
    · have e1 := congrArg (· / sz) he
      have e2 := congrArg (· % sz) he
      simp only [(arith_dm hj).1, (arith_dm hj).2, (arith_dm h2).1, (arith_dm h2).2] at e1 e2
      rw [if_pos he, if_pos (by rw [enc_len]; exact arith_lt hi hj), if_pos ⟨e1.symm, e2.symm⟩]
    · rw [if_neg he, enc_get h1 h2, if_neg]
      rintro ⟨rfl, rfl⟩
      exact he rfl
  · rw [List.getElem?_eq_none (by rw [List.length_set, enc_len]; omega), List.getElem?_eq_none (by rw [enc_len]; omega)]
theorem enc_app {sz n : Nat} {F F' : Nat → Nat → Value} (l : List Value) (hl : l.length = sz) (h0 : ∀ i, i < n → ∀ j, j < sz → F' i j = F i j) (h1 : ∀ j (hj : j < l.length), F' n j = l[j]) : enc sz n F ++ l = enc sz (n + 1) F' := by
  apply List.ext_getElem?
  intro k
  by_cases hk : k < n * sz
  · have hs : 0 < sz := Nat.pos_of_ne_zero fun e => by subst e; simp at hk
    have h1 : k / sz < n := Nat.div_lt_of_lt_mul (by rw [Nat.mul_comm]; exact hk)
    have h2 : k % sz < sz := Nat.mod_lt _ hs
    have hkk : k = k / sz * sz + k % sz := by rw [Nat.mul_comm]; exact (Nat.div_add_mod _ _).symm
    rw [List.getElem?_append_left (by rw [enc_len]; exact hk)]
    rw [hkk, enc_get h1 h2, enc_get (by omega) h2, h0 _ h1 _ h2]
  · rw [List.getElem?_append_right (by rw [enc_len]; omega), enc_len]
    by_cases hk2 : k < (n + 1) * sz
    · rw [Nat.add_mul, Nat.one_mul] at hk2
      obtain ⟨j, rfl⟩ : ∃ j, k = n * sz + j := ⟨k - n * sz, by omega⟩
      rw [enc_get (by omega) (by omega), Nat.add_sub_cancel_left, List.getElem?_eq_getElem (by omega), h1 j (by omega)]
    · rw [Nat.add_mul, Nat.one_mul] at hk2
      rw [List.getElem?_eq_none (by omega), List.getElem?_eq_none (by rw [enc_len, Nat.add_mul]; omega)]
/-- one cell turned -/
def st (N : Nat → Nat → Int) (i j : Nat) (v : Int) : Nat → Nat → Int := fun i' j' => if i' = i ∧ j' = j then v else N i' j'
theorem st_same (N : Nat → Nat → Int) (i j : Nat) (v : Int) : st N i j v i j = v := by simp [st]
theorem st_i (N : Nat → Nat → Int) {i i' : Nat} (j j' : Nat) (v : Int) (h : i' ≠ i) : st N i j v i' j' = N i' j' := by simp [st, h]
theorem st_j (N : Nat → Nat → Int) (i i' : Nat) {j j' : Nat} (v : Int) (h : j' ≠ j) : st N i j v i' j' = N i' j' := by simp [st, h]
end Go.Dn
namespace Go.Proofs.Ytkkobfajahmfaaa.Rd
open Go.Dn Go.RowKit
set_option linter.unusedVariables false
set_option maxRecDepth 100000

/-- a rope: its block R, its nodes' row at g, what the nodes hold, its seeds -/
structure RC where
  B : Nat
  R : Nat
  g : Nat
  c : Nat
  n : Nat
  As : Option Addr
  sl : List Int
  sc : Nat
  st : Int
def kd : Nat → IntKind
  | 3 => .u64
  | _ => .i64
structure Rp (w : World) (r : RC) (N : Nat → Nat → Int) : Prop where
  obj : w.heap[r.R]? = some (Obj.cells #[.slice (some ⟨r.g, 0, none⟩) r.n r.c, .slice r.As r.sl.length r.sc, .int .u64 r.st] 109)
  own : w.ownsRow r.B 112 11 (.slice (some ⟨r.g, 0, none⟩) r.n r.c) r.n (enc 11 r.n fun i j => .int (kd j) (N i j))
  hB : r.B ≤ r.R
  gR : r.g ≠ r.R
  sds : RI w r.As r.sl
  sap : ∀ a, r.As = some a → r.B ≤ a.block ∧ a.block < w.heap.size ∧ a.block ≠ r.R ∧ a.block ≠ r.g
/-- the blocks that a call on the rope may turn -/
def Sr (r : RC) (k : Nat) : Prop := k = r.R ∨ k = r.g
theorem Rp.R_lt {w : World} {r : RC} {N : Nat → Nat → Int} (h : Rp w r N) : r.R < w.heap.size := (Array.getElem?_eq_some_iff.1 h.obj).1
theorem Rp.g_lt {w : World} {r : RC} {N : Nat → Nat → Int} (h : Rp w r N) : r.B ≤ r.g ∧ r.g < w.heap.size := World.ownsRow.lt h.own r.g rfl
theorem Rp.keeps {S : Nat → Prop} {w w' : World} {r : RC} {N : Nat → Nat → Int} (h : Rp w r N) (k : Keeps S w w') (h1 : ¬ S r.R) (h2 : ¬ S r.g) (h3 : ∀ a, r.As = some a → ¬ S a.block) : Rp w' r N :=
  ⟨(k.block _ h.R_lt h1).trans h.obj, Keeps.own h.own k (fun i hi => by injection hi with hi; subst hi; exact h2), h.hB, h.gR, h.sds.keeps k h3, fun a ha => let ⟨x1, x2, x3⟩ := h.sap a ha; ⟨x1, Nat.lt_of_lt_of_le x2 k.size, x3⟩⟩
theorem Rp.below {w w' : World} {r : RC} {N : Nat → Nat → Int} (h : Rp w r N) (hb : Below w.heap.size w w') : Rp w' r N := h.keeps (S := fun _ => False) (.of_below hb) id id (fun _ _ => id)
theorem Rp.drew {w : World} {r : RC} {N : Nat → Nat → Int} (h : Rp w r N) : Rp w.drew r N := h.below (Below.refl _ _).drew
theorem Rp.alloc {w : World} {r : RC} {N : Nat → Nat → Int} (h : Rp w r N) (o : Obj) : Rp (w.alloc o) r N := h.below ((Below.refl _ _).alloc (Nat.le_refl _) _)
theorem Rp.sl0 {w : World} {r : RC} {N : Nat → Nat → Int} (h : Rp w r N) : w.cell? ⟨r.R, 0, none⟩ = some (.slice (some ⟨r.g, 0, none⟩) r.n r.c) := by rw [cell_of_row w _ _ _ _ _ h.obj]; rfl
theorem Rp.sl1 {w : World} {r : RC} {N : Nat → Nat → Int} (h : Rp w r N) : w.cell? ((⟨r.R, 0, none⟩ : Addr).add 1) = some (.slice r.As r.sl.length r.sc) := by rw [add_mk, cell_of_row w _ _ _ _ _ h.obj]; rfl
theorem Rp.sl2 {w : World} {r : RC} {N : Nat → Nat → Int} (h : Rp w r N) : w.cell? ((⟨r.R, 0, none⟩ : Addr).add 2) = some (.int .u64 r.st) := by rw [add_mk, cell_of_row w _ _ _ _ _ h.obj]; rfl
theorem Rp.cell0 {w : World} {r : RC} {N : Nat → Nat → Int} (h : Rp w r N) {i : Nat} (hi : i < r.n) {x : Int} (hx : x = (i : Int)) : w.cell? ((⟨r.g, 0, none⟩ : Addr).add (x.toNat * 11)) = some (.int .i64 (N i 0)) := by
  subst hx
  rw [Int.toNat_natCast, add_mk, World.ownsRow.cellAt h.own _ (by omega), show 0 + i * 11 = i * 11 + 0 by omega, enc_get hi (by omega)]; rfl
theorem Rp.cell {w : World} {r : RC} {N : Nat → Nat → Int} (h : Rp w r N) {i j : Nat} (hi : i < r.n) {x : Int} (hx : x = (i : Int)) (hj : j < 11) : w.cell? (((⟨r.g, 0, none⟩ : Addr).add (x.toNat * 11)).add j) = some (.int (kd j) (N i j)) := by
  subst hx
  rw [add_add, Int.toNat_natCast, add_mk, World.ownsRow.cellAt h.own _ (by omega), Nat.zero_add, enc_get hi hj]
theorem Rp.set {w : World} {r : RC} {N : Nat → Nat → Int} (h : Rp w r N) {i j : Nat} (hi : i < r.n) (hj : j < 11) (v : Int) : Rp (w.setCell ⟨r.g, i * 11 + j, none⟩ (.int (kd j) v)) r (Dn.st N i j v) ∧ Keeps (Sr r) w (w.setCell ⟨r.g, i * 11 + j, none⟩ (.int (kd j) v)) := by
  obtain ⟨ho, hg⟩ := World.ownsRow.stored h.own (i * 11 + j) (.int (kd j) v)
  have hk : Keeps (fun k => k = r.g) w (w.setCell ⟨r.g, i * 11 + j, none⟩ (.int (kd j) v)) := ⟨hg.os, hg.tape, hg.output, hg.size, fun k hk hn => hg.block k hk (by simpa using hn)⟩
  refine ⟨⟨(hk.block _ h.R_lt (fun e => h.gR e.symm)).trans h.obj, ?_, h.hB, h.gR, h.sds.keeps hk (fun a ha => (h.sap a ha).2.2.2), fun a ha => let ⟨x1, x2, x3⟩ := h.sap a ha; ⟨x1, Nat.lt_of_lt_of_le x2 hk.size, x3⟩⟩, hk.mono fun k _ e => .inr e⟩
  rw [enc_set hi hj] at ho
  have e : (enc 11 r.n fun i' j' => if i' = i ∧ j' = j then Value.int (kd j) v else .int (kd j') (N i' j')) = enc 11 r.n fun i' j' => .int (kd j') (Dn.st N i j v i' j') := by
    apply enc_congr
    intro i' _ j' _
    unfold Dn.st
    split
    · rename_i h; obtain ⟨rfl, rfl⟩ := h; rfl
    · rfl
  rw [e] at ho
  exact ho
theorem Rp.wr {w : World} {r : RC} {N : Nat → Nat → Int} (h : Rp w r N) {i j : Nat} (hi : i < r.n) (hj : j < 11) : Wr w ⟨r.g, i * 11 + j, none⟩ := by
  refine ⟨⟨.int (kd j) (N i j), ?_⟩, World.ownsRow.frozenAt h.own _⟩
  rw [World.ownsRow.cellAt h.own _ (by omega), enc_get hi hj]
/-- steps -/
theorem nd_ld {w : World} {r : RC} {N : Nat → Nat → Int} (h : Rp w r N) {i : Nat} (hi : i < r.n) {x : Int} (hx : x = (i : Int)) {j : Nat} (hj : j < 11) {K : Int → Prop} (hk : K (N i j)) : ldI w (((⟨r.g, 0, none⟩ : Addr).add (x.toNat * 11)).add j) (kd j) K := ldI_intro (h.cell hi hx hj) hk
theorem nd_ld0 {w : World} {r : RC} {N : Nat → Nat → Int} (h : Rp w r N) {i : Nat} (hi : i < r.n) {x : Int} (hx : x = (i : Int)) {K : Int → Prop} (hk : K (N i 0)) : ldI w ((⟨r.g, 0, none⟩ : Addr).add (x.toNat * 11)) .i64 K := ldI_intro (h.cell0 hi hx) hk
theorem nd_at {w : World} {r : RC} {N : Nat → Nat → Int} (h : Rp w r N) {i : Nat} (hi : i < r.n) {x : Int} (hx : x = (i : Int)) {K : Addr → Prop} (hk : K (⟨r.g, 0, none⟩ : Addr)) : ldS w ⟨r.R, 0, none⟩ fun A n' _ => optB A fun a => req (decide (0 ≤ x ∧ x < (n' : Int))) (K a) :=
  ldS_intro h.sl0 (optB_some rfl (req_intro (by subst hx; simp; omega) hk))
theorem nd_rd {w : World} {r : RC} {N : Nat → Nat → Int} (h : Rp w r N) {i : Nat} (hi : i < r.n) {x : Int} (hx : x = (i : Int)) {j : Nat} (hj : j < 11) {K : Int → Prop} (hk : K (N i j)) : ldS w ⟨r.R, 0, none⟩ fun A n' _ => optB A fun a => req (decide (0 ≤ x ∧ x < (n' : Int))) (ldI w ((a.add (x.toNat * 11)).add j) (kd j) K) :=
  nd_at (K := fun a => ldI w ((a.add (x.toNat * 11)).add j) (kd j) K) h hi hx (nd_ld h hi hx hj hk)
theorem nd_rd0 {w : World} {r : RC} {N : Nat → Nat → Int} (h : Rp w r N) {i : Nat} (hi : i < r.n) {x : Int} (hx : x = (i : Int)) {K : Int → Prop} (hk : K (N i 0)) : ldS w ⟨r.R, 0, none⟩ fun A n' _ => optB A fun a => req (decide (0 ≤ x ∧ x < (n' : Int))) (ldI w (a.add (x.toNat * 11)) .i64 K) :=
  nd_at (K := fun a => ldI w (a.add (x.toNat * 11)) .i64 K) h hi hx (nd_ld0 h hi hx hk)
theorem nd_st {w : World} {r : RC} {N : Nat → Nat → Int} (h : Rp w r N) {i : Nat} (hi : i < r.n) {x : Int} (hx : x = (i : Int)) {j : Nat} (hj : j < 11) {v : Int} {K : World → Prop} (hk : ∀ w', Rp w' r (Dn.st N i j v) → Keeps (Sr r) w w' → K w') : stW w (((⟨r.g, 0, none⟩ : Addr).add (x.toNat * 11)).add j) (.int (kd j) v) K := by
  subst hx
  rw [add_add, Int.toNat_natCast, add_mk, Nat.zero_add]
  exact stW_intro (h.wr hi hj) (hk _ (h.set hi hj v).1 (h.set hi hj v).2)
theorem nd_st0 {w : World} {r : RC} {N : Nat → Nat → Int} (h : Rp w r N) {i : Nat} (hi : i < r.n) {x : Int} (hx : x = (i : Int)) {v : Int} {K : World → Prop} (hk : ∀ w', Rp w' r (Dn.st N i 0 v) → Keeps (Sr r) w w' → K w') : stW w ((⟨r.g, 0, none⟩ : Addr).add (x.toNat * 11)) (.int .i64 v) K := by
  subst hx
  rw [Int.toNat_natCast, add_mk, Nat.zero_add]
  exact stW_intro (h.wr (j := 0) hi (by omega)) (hk _ (h.set (j := 0) hi (by omega) v).1 (h.set (j := 0) hi (by omega) v).2)
end Go.Proofs.Ytkkobfajahmfaaa.Rd
