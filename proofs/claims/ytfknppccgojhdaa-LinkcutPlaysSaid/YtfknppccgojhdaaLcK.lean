/- make, walked: a node comes, at the place of one that is spare or behind all others. Conditions: none. -/
import Derived.Test.YtfknppccgojhdaaLcJ
import Derived.Test.YtfknppccgojhdaaMapI
namespace Go.Dn
open Go.RowKit Go.Proofs.Ytfknppccgojhdaa.Rd
set_option linter.unusedVariables false
def zNd : Nd := ⟨0, 0, 0, false, zE, zE, 0, 0⟩
def nodeC (d : Nd) : Array Value := #[fld d 0, fld d 1, fld d 2, fld d 3, fld d 4, fld d 5, fld d 6, fld d 7, fld d 8, fld d 9, fld d 10, fld d 11, fld d 12]
theorem nodeC_get (d : Nd) {j : Nat} (h : j < 13) : (nodeC d)[j]? = some (fld d j) := by
  have : ∀ j, j < 13 → (nodeC d)[j]? = some (fld d j) := fld_cases ⟨rfl, rfl, rfl, rfl, rfl, rfl, rfl, rfl, rfl, rfl, rfl, rfl, rfl⟩
  exact this j h
theorem nodeC_set (d d' : Nd) (v : Value) {j : Nat} (h : j < 13) (hd : ∀ j', j' < 13 → fld d' j' = if j' = j then v else fld d j') : (nodeC d).setIfInBounds j v = nodeC d' := by
  apply Array.ext_getElem?
  intro k
  by_cases hk : k < 13
  · rw [nodeC_get d' hk, hd k hk]
    by_cases e : k = j
    · subst e
      rw [if_pos rfl, Array.getElem?_setIfInBounds, if_pos rfl, if_pos (by simpa [nodeC] using h)]
    · rw [if_neg e, Array.getElem?_setIfInBounds, if_neg (fun h => e h.symm), nodeC_get d hk]
  · rw [Array.getElem?_eq_none (by simp [nodeC]; omega), Array.getElem?_eq_none (by simp [nodeC]; omega)]
theorem nb_st {w : World} {b : Nat} {d : Nd} {t : TypeId} (h : HB w b (nodeC d) t) {j : Nat} (hj : j < 13) {v : Value} (d' : Nd) (hd : ∀ j', j' < 13 → fld d' j' = if j' = j then v else fld d j') {K : World → Prop} (hk : ∀ w', HB w' b (nodeC d') t → Keeps (fun k => k = b) w w' → K w') : stW w ((⟨b, 0, none⟩ : Addr).add j) v K :=
  hb_st h (by simpa [nodeC] using hj) fun w' h' k' => hk w' (by rw [nodeC_set d d' v hj hd] at h'; exact h') k'
theorem nb_same {w : World} {b : Nat} {d : Nd} {t : TypeId} (h : HB w b (nodeC d) t) {j : Nat} (hj : j < 13) {v : Value} (hv : fld d j = v) {K : World → Prop} (hk : ∀ w', HB w' b (nodeC d) t → Keeps (fun k => k = b) w w' → K w') : stW w ((⟨b, 0, none⟩ : Addr).add j) v K :=
  nb_st h hj d (fun j' _ => by split; rename_i e; rw [e, hv]; rfl) hk
theorem set_oid (d : Nd) (v : Int) : ∀ j', j' < 13 → fld { d with o := { d.o with id := v } } j' = if j' = 4 then .int .i64 v else fld d j' := fld_cases ⟨rfl, rfl, rfl, rfl, rfl, rfl, rfl, rfl, rfl, rfl, rfl, rfl, rfl⟩
theorem nb_sto {w : World} {b : Nat} {d : Nd} {t : TypeId} (h : HB w b (nodeC d) t) (e : E) {K : World → Prop} (hk : ∀ w', HB w' b (nodeC { d with o := e }) t → Keeps (fun k => k = b) w w' → K w') :
    stW w ((⟨b, 0, none⟩ : Addr).add 4) (.int .i64 e.id) fun w1 => stW w1 ((⟨b, 0, none⟩ : Addr).add 5) (.int .i64 e.u) fun w2 => stW w2 ((⟨b, 0, none⟩ : Addr).add 6) (.int .i64 e.v) fun w3 => stW w3 ((⟨b, 0, none⟩ : Addr).add 7) (.int .i64 e.w) K := by
  refine nb_st h (by omega) _ (set_oid _ _) fun w1 h1 k1 => ?_
  refine nb_st h1 (by omega) { d with o := ⟨e.id, e.u, d.o.v, d.o.w⟩ } (fld_cases ⟨rfl, rfl, rfl, rfl, rfl, rfl, rfl, rfl, rfl, rfl, rfl, rfl, rfl⟩) fun w2 h2 k2 => ?_
  refine nb_st h2 (by omega) { d with o := ⟨e.id, e.u, e.v, d.o.w⟩ } (fld_cases ⟨rfl, rfl, rfl, rfl, rfl, rfl, rfl, rfl, rfl, rfl, rfl, rfl, rfl⟩) fun w3 h3 k3 => ?_
  refine nb_st h3 (by omega) { d with o := e } (fld_cases ⟨rfl, rfl, rfl, rfl, rfl, rfl, rfl, rfl, rfl, rfl, rfl, rfl, rfl⟩) fun w4 h4 k4 => ?_
  exact hk w4 h4 ((k1.trans k2).trans (k3.trans k4))
theorem nb_stm {w : World} {b : Nat} {d : Nd} {t : TypeId} (h : HB w b (nodeC d) t) (e : E) {K : World → Prop} (hk : ∀ w', HB w' b (nodeC { d with mx := e }) t → Keeps (fun k => k = b) w w' → K w') :
    stW w ((⟨b, 0, none⟩ : Addr).add 8) (.int .i64 e.id) fun w1 => stW w1 ((⟨b, 0, none⟩ : Addr).add (8 + 1)) (.int .i64 e.u) fun w2 => stW w2 ((⟨b, 0, none⟩ : Addr).add (8 + 2)) (.int .i64 e.v) fun w3 => stW w3 ((⟨b, 0, none⟩ : Addr).add (8 + 3)) (.int .i64 e.w) K := by
  refine nb_st h (by omega) _ (set_mid _ _) fun w1 h1 k1 => ?_
  refine nb_st h1 (by omega) { d with mx := ⟨e.id, e.u, d.mx.v, d.mx.w⟩ } (fld_cases ⟨rfl, rfl, rfl, rfl, rfl, rfl, rfl, rfl, rfl, rfl, rfl, rfl, rfl⟩) fun w2 h2 k2 => ?_
  refine nb_st h2 (by omega) { d with mx := ⟨e.id, e.u, e.v, d.mx.w⟩ } (fld_cases ⟨rfl, rfl, rfl, rfl, rfl, rfl, rfl, rfl, rfl, rfl, rfl, rfl, rfl⟩) fun w3 h3 k3 => ?_
  refine nb_st h3 (by omega) { d with mx := e } (fld_cases ⟨rfl, rfl, rfl, rfl, rfl, rfl, rfl, rfl, rfl, rfl, rfl, rfl, rfl⟩) fun w4 h4 k4 => ?_
  exact hk w4 h4 ((k1.trans k2).trans (k3.trans k4))
/-- what make makes -/
def mkNd (e : E) : Nd := ⟨0, 0, 0, false, e, if 0 < e.id then e else zE, if 0 < e.id then e.w else 0, if 0 < e.id then 1 else 0⟩
theorem own_prefix {w : World} {B e sz n g c : Nat} {xs ys : List Value} (h : w.ownsRow B e sz (.slice (some ⟨g, 0, none⟩) (n + 1) c) (n + 1) (xs ++ ys)) (hx : xs.length = n * sz) : w.ownsRow B e sz (.slice (some ⟨g, 0, none⟩) n c) n xs := by
  refine ⟨hx, ?_⟩
  rcases h.2 with ⟨h, _⟩ | ⟨g', cap, cur, hv, hb, hg, hn, hm, hs, ht⟩
  · cases h
  · injection hv with h1 h2 h3
    injection h1 with h1; injection h1 with h1; subst h1; subst h3
    refine .inr ⟨g, c, cur, rfl, hb, hg, by omega, hm, hs, ?_⟩
    have := congrArg (List.take (n * sz)) ht
    rw [List.take_take, Nat.min_eq_left (Nat.mul_le_mul_right _ (by omega)), ← hx, List.take_left] at this
    rw [hx] at this; exact this
theorem enc_app {sz n : Nat} {F F' : Nat → Nat → Value} (l : List Value) (hl : l.length = sz) (h0 : ∀ i, i < n → ∀ j, j < sz → F' i j = F i j) (h1 : ∀ j, j < sz → l[j]? = some (F' n j)) : enc sz n F ++ l = enc sz (n + 1) F' := by
  apply List.ext_getElem?
  intro k
  by_cases hk : k < n * sz
  · have hs : 0 < sz := Nat.pos_of_ne_zero fun e => by subst e; simp at hk
    have h1 : k / sz < n := Nat.div_lt_of_lt_mul (by rw [Nat.mul_comm]; exact hk)
    have h2 : k % sz < sz := Nat.mod_lt _ hs
    have hkk : k = k / sz * sz + k % sz := by rw [Nat.mul_comm]; exact (Nat.div_add_mod _ _).symm
    rw [List.getElem?_append_left (by rw [enc_len]; exact hk)]
    rw [hkk, enc_get h1 h2, enc_get (by omega) h2, h0 _ h1 _ h2]
  · rw [List.getElem?_append_right (by rw [enc_len]; omega), enc_len]
    by_cases hk2 : k < (n + 1) * sz
    · rw [Nat.add_mul, Nat.one_mul] at hk2
      obtain ⟨j, rfl⟩ : ∃ j, k = n * sz + j := ⟨k - n * sz, by omega⟩
      rw [Nat.add_sub_cancel_left, enc_get (by omega) (by omega), h1 j (by omega)]
    · rw [List.getElem?_eq_none (by rw [hl]; rw [Nat.add_mul, Nat.one_mul] at hk2; omega), List.getElem?_eq_none (by rw [enc_len]; omega)]
end Go.Dn
namespace Go.Proofs.Ytfknppccgojhdaa.Rd
open Go.Dn Go.RowKit
set_option linter.unusedVariables false
set_option maxRecDepth 100000
/-- the same with any cells -/
structure Lq (w : World) (r : LC) (F : Nat → Nat → Value) : Prop where
  obj : w.heap[r.R]? = some (Obj.cells #[.slice (some ⟨r.g, 0, none⟩) r.n r.c, .map (some r.mv), .map (some r.me), .map (some r.mn), r.sp] 65)
  own : w.ownsRow r.B 70 13 (.slice (some ⟨r.g, 0, none⟩) r.n r.c) r.n (enc 13 r.n F)
  hB : r.B ≤ r.R
  gR : r.g ≠ r.R
theorem Lp.raw {w : World} {r : LC} {N : Nat → Nd} (h : Lp w r N) : Lq w r (fun i j => fld (N i) j) := ⟨h.obj, h.own, h.hB, h.gR⟩
theorem Lq.lp {w : World} {r : LC} {F : Nat → Nat → Value} {N : Nat → Nd} (h : Lq w r F) (he : ∀ i, i < r.n → ∀ j, j < 13 → F i j = fld (N i) j) : Lp w r N := ⟨h.obj, by rw [enc_congr (F' := F) fun i hi j hj => (he i hi j hj).symm]; exact h.own, h.hB, h.gR⟩
theorem lq_st {w : World} {r : LC} {F : Nat → Nat → Value} (h : Lq w r F) {i j : Nat} (hi : i < r.n) (hj : j < 13) {v : Value} {K : World → Prop} (hk : ∀ w', Lq w' r (fun i' j' => if i' = i ∧ j' = j then v else F i' j') → Keeps (fun k => k = r.g) w w' → K w') : stW w (((⟨r.g, 0, none⟩ : Addr).add ((i : Int).toNat * 13)).add j) v K := by
  rw [add_add, Int.toNat_natCast, add_mk, Nat.zero_add]
  obtain ⟨ho, hg⟩ := World.ownsRow.stored h.own (i * 13 + j) v
  have hkp : Keeps (fun k => k = r.g) w (w.setCell ⟨r.g, i * 13 + j, none⟩ v) := ⟨hg.os, hg.tape, hg.output, hg.size, fun k hk hn => hg.block k hk (by simpa using hn)⟩
  refine stW_intro ⟨⟨F i j, ?_⟩, World.ownsRow.frozenAt h.own _⟩ (hk _ ⟨(hkp.block _ (Array.getElem?_eq_some_iff.1 h.obj).1 (fun e => h.gR e.symm)).trans h.obj, ?_, h.hB, h.gR⟩ hkp)
  · rw [World.ownsRow.cellAt h.own _ (by omega), enc_get hi hj]
  · rw [enc_set hi hj] at ho; exact ho
/-- a whole node written -/
theorem lc_stall {w : World} {r : LC} {N : Nat → Nd} (h : Lp w r N) {i : Nat} (hi : i < r.n) (d : Nd) {K : World → Prop} (hk : ∀ w', Lp w' r (stN N i d) → Keeps (fun k => k = r.g) w w' → K w') :
    stW w ((⟨r.g, 0, none⟩ : Addr).add ((i : Int).toNat * 13)) (fld d 0) fun w => stW w (((⟨r.g, 0, none⟩ : Addr).add ((i : Int).toNat * 13)).add 1) (fld d 1) fun w => stW w (((⟨r.g, 0, none⟩ : Addr).add ((i : Int).toNat * 13)).add 2) (fld d 2) fun w =>
    stW w (((⟨r.g, 0, none⟩ : Addr).add ((i : Int).toNat * 13)).add 3) (fld d 3) fun w => stW w (((⟨r.g, 0, none⟩ : Addr).add ((i : Int).toNat * 13)).add 4) (fld d 4) fun w => stW w (((⟨r.g, 0, none⟩ : Addr).add ((i : Int).toNat * 13)).add 5) (fld d 5) fun w =>
    stW w (((⟨r.g, 0, none⟩ : Addr).add ((i : Int).toNat * 13)).add 6) (fld d 6) fun w => stW w (((⟨r.g, 0, none⟩ : Addr).add ((i : Int).toNat * 13)).add 7) (fld d 7) fun w => stW w (((⟨r.g, 0, none⟩ : Addr).add ((i : Int).toNat * 13)).add 8) (fld d 8) fun w =>
    stW w (((⟨r.g, 0, none⟩ : Addr).add ((i : Int).toNat * 13)).add 9) (fld d 9) fun w => stW w (((⟨r.g, 0, none⟩ : Addr).add ((i : Int).toNat * 13)).add 10) (fld d 10) fun w => stW w (((⟨r.g, 0, none⟩ : Addr).add ((i : Int).toNat * 13)).add 11) (fld d 11) fun w =>
    stW w (((⟨r.g, 0, none⟩ : Addr).add ((i : Int).toNat * 13)).add 12) (fld d 12) K := by
  show stW w (((⟨r.g, 0, none⟩ : Addr).add ((i : Int).toNat * 13)).add 0) _ _
  refine lq_st h.raw hi (by omega) fun w0 h0 k0 => lq_st h0 hi (by omega) fun w1 h1 k1 => lq_st h1 hi (by omega) fun w2 h2 k2 => lq_st h2 hi (by omega) fun w3 h3 k3 => lq_st h3 hi (by omega) fun w4 h4 k4 => lq_st h4 hi (by omega) fun w5 h5 k5 => lq_st h5 hi (by omega) fun w6 h6 k6 => lq_st h6 hi (by omega) fun w7 h7 k7 => lq_st h7 hi (by omega) fun w8 h8 k8 => lq_st h8 hi (by omega) fun w9 h9 k9 => lq_st h9 hi (by omega) fun wa ha ka => lq_st ha hi (by omega) fun wb hb kb => lq_st hb hi (by omega) fun wc hc kc => ?_
  refine hk wc (hc.lp fun i' _ => ?_) (((((((((((((k0.trans k1).trans k2).trans k3).trans k4).trans k5).trans k6).trans k7).trans k8).trans k9).trans ka).trans kb).trans kc))
  by_cases e : i' = i
  · subst e
    rw [stN_same]
    exact fld_cases ⟨by simp, by simp, by simp, by simp, by simp, by simp, by simp, by simp, by simp, by simp, by simp, by simp, by simp⟩
  · rw [stN_ne _ _ e]
    intro j _
    simp [e]
/-! ### the forest's own cells -/
theorem Lp.cellR {w : World} {r : LC} {N : Nat → Nd} (h : Lp w r N) (j : Nat) : w.cell? ((⟨r.R, 0, none⟩ : Addr).add j) = (#[.slice (some ⟨r.g, 0, none⟩) r.n r.c, .map (some r.mv), .map (some r.me), .map (some r.mn), r.sp] : Array Value)[j]? := by
  rw [add_mk, Nat.zero_add, cell_of_row w _ _ _ _ _ h.obj]
theorem Lp.setSp {w : World} {r : LC} {N : Nat → Nd} (h : Lp w r N) (v : Value) : Wr w ((⟨r.R, 0, none⟩ : Addr).add 4) ∧ Lp (w.setCell ((⟨r.R, 0, none⟩ : Addr).add 4) v) { r with sp := v } N ∧ Keeps (fun k => k = r.R) w (w.setCell ((⟨r.R, 0, none⟩ : Addr).add 4) v) := by
  have hk : Keeps (fun k => k = r.R) w (w.setCell ((⟨r.R, 0, none⟩ : Addr).add 4) v) := (Keeps.refl (fun k => k = r.R) w).setCell (p := (⟨r.R, 0, none⟩ : Addr).add 4) (.inl (by rw [add_block])) _
  refine ⟨⟨⟨_, h.cellR 4⟩, ?_⟩, ⟨?_, Keeps.own h.own hk (fun i hi => by injection hi with hi; subst hi; exact h.gR), h.hB, h.gR⟩, hk⟩
  · rw [add_mk, frozen_of_row _ _ _ _ _ h.obj]
  · rw [add_mk, heap_setCell_same w r.R _ _ _ _ h.obj]; rfl
theorem Lp.nb {w w' : World} {r : LC} {N : Nat → Nd} (h : Lp w r N) {b : Nat} (hb : b ≠ r.R ∧ b ≠ r.g) (k : Keeps (fun k => k = b) w w') : Lp w' r N := h.keeps k (fun e => hb.1 e.symm) (fun e => hb.2 e.symm)

theorem slA0 (A : Option Addr) (c : Nat) : slA A 0 c 1 = A := by
  unfold slA
  split
  · rfl
  · cases A with
    | none => rfl
    | some a => simp [add_zero]
theorem OwnI.pop {w : World} {B : Nat} {e : TypeId} {A : Option Addr} {c : Nat} {l : List Int} {x : Int} (h : OwnI w B e A c (l ++ [x])) : OwnI w B e A c l := by
  unfold OwnI at h ⊢
  rw [List.map_append, List.length_append] at h
  obtain ⟨g, hg⟩ : ∃ g, A = some ⟨g, 0, none⟩ := by
    rcases h.2 with ⟨_, h0⟩ | ⟨g, cap, cur, hv, _⟩
    · simp at h0
    · injection hv with h1; exact ⟨g, h1⟩
  subst hg
  exact own_prefix h (by simp)
/-- what is spare -/
structure Spr (w : World) (r : LC) (A : Option Addr) (c : Nat) (sp : List Nat) : Prop where
  v : r.sp = .slice A sp.length c
  own : OwnI w r.B 3 A c (zs sp)
  ap : ∀ a, A = some a → a.block ≠ r.R ∧ a.block ≠ r.g
  lt : ∀ i ∈ sp, i < r.n
def z13 : Value := .agg (nodeC zNd)
theorem TNd : Try.prog.underlying 62 = some (.slice 70) := by kernel_rfl
theorem TNdI : (Try.prog.info? 70).map (fun i => (i.zero, i.size, i.bytes)) = some (some (.agg #[.int .i64 0, .int .i64 0, .int .i64 0, .bool false, .int .i64 0, .int .i64 0, .int .i64 0, .int .i64 0, .int .i64 0, .int .i64 0, .int .i64 0, .int .i64 0, .complex .f64 0 0]), 13, 112) := by kernel_rfl
end Go.Proofs.Ytfknppccgojhdaa.Rd
