/- Maps from whole numbers to whole numbers, as keys and a function: reading, writing, deleting, counting · make, walked: a node comes, at the place of one that is spare or behind all others · make, walked · Walks along edges and ways in a rooted forest, in plain words: a walk that never turns back is the way, and the only one · A forest of linkcut by its vertices and edges: what holds, and the calls that change nothing of it · Along, walked: what is told of a path · Forests of trees: a node comes, or goes; what stands for vertices and edges then · AddV and DelV, walked · Link and Cut, walked · Cut and New, walked · Whole numbers as floats compared; what Along tells, compared · New, walked; a forest within a law -/
import Derived.Test.YtklnlnjgaadjbaaZ3D
import Derived.Test.YtklnlnjgaadjbaaZ3A
import Derived.Maps.OwnSet
import Derived.WalkArith
set_option linter.unusedSimpArgs false
set_option linter.unusedVariables false
namespace Go.Dn
open Go.RowKit
def W64 (n : Int) : Prop := -9223372036854775808 ≤ n ∧ n ≤ 9223372036854775807
theorem W64.wf {n : Int} (h : W64 n) : (Lit.int .i64 n).wf = true := WalkArith.wf_i64 h
abbrev MD := DataW Unit
structure OM (P : Program) (w : World) (k : TypeId) (b : Nat) (ks : List Int) (f : Int → Int) : Prop where
 nd : ks.Nodup
 kw : ∀ i ∈ ks, W64 i
 z : ∀ i, i ∉ ks → f i = 0
 dat : ∃ D : MD, w.ownsMap P k (plainElem P k) b ks.length D ∧ Maps.size D = ks.length ∧ (∀ i, W64 i → D.atKey (.int .i64 i) (.lit (.int .i64 0)) = .lit (.int .i64 (f i))) ∧ (∀ i, W64 i → (Maps.has D (.int .i64 i) = true ↔ i ∈ ks))
structure MapTy (P : Program) (t k : TypeId) : Prop where
 und : P.underlying t = some (.map k k)
 key : P.underlying k = some (.int .i64)
 zero : ∀ w, (zeroValue k).run P w = .ok (.int .i64 0) w
theorem OM.size {P : Program} {w : World} {k : TypeId} {b : Nat} {D : MD} {n : Nat} (h : w.ownsMap P k (plainElem P k) b n D) : w.ownsMap P k (plainElem P k) b (Maps.size D) D := by
 obtain ⟨es, clock, hb, F, hs, rfl⟩ := h
 refine ⟨es, clock, hb, F, ?_, rfl⟩
 simp [Maps.size, length_sorted]
theorem OM.lt {P : Program} {w : World} {k : TypeId} {b : Nat} {ks : List Int} {f : Int → Int} (h : OM P w k b ks f) : b < w.heap.size := by
 obtain ⟨D, h, _⟩ := h.dat
 exact h.lt
theorem OM.keeps {P : Program} {S : Nat → Prop} {w w' : World} {k : TypeId} {b : Nat} {ks : List Int} {f : Int → Int} (h : OM P w k b ks f) (hk : Keeps S w w') (hb : ¬ S b) : OM P w' k b ks f := by
 have hlt := h.lt
 obtain ⟨D, ⟨es, clock, hh, r⟩, h2⟩ := h.dat
 exact ⟨h.nd, h.kw, h.z, D, ⟨es, clock, (hk.block b hlt hb).trans hh, r⟩, h2⟩
theorem OM.below {P : Program} {w w' : World} {k : TypeId} {b : Nat} {ks : List Int} {f : Int → Int} (h : OM P w k b ks f) (hb : Below w.heap.size w w') : OM P w' k b ks f := h.keeps (S := fun _ => False) (.of_below hb) id
theorem OM.new (P : Program) (w : World) (k : TypeId) : OM P (w.alloc (.map #[] 0)) k w.heap.size [] (fun _ => 0) :=
 ⟨by simp, by simp, fun _ _ => rfl, .map [], World.ownsMap_made w P k _, rfl, fun i _ => rfl, fun i _ => by simp [Maps.has]⟩
theorem lit_ne {i j : Int} (h : i ≠ j) : (Lit.int .i64 i : Lit) ≠ Lit.int .i64 j := fun e => h (by injection e)
theorem OM.look {P : Program} {t k : TypeId} (T : MapTy P t k) {w : World} {b : Nat} {ks : List Int} {f : Int → Int} (h : OM P w k b ks f) {i : Int} (hi : W64 i) {K : Value → World → Prop} (hk : K (.int .i64 (f i)) w) :
  Runs P (Instr.lookup t (.map (some b)) (.int .i64 i) false) w K := by
 obtain ⟨D, ho, _, ha, hh⟩ := h.dat
 obtain ⟨c, hrun, hat, hwc⟩ := ho.lookup_int (Maps.int_keyed T.key) T.und T.key (T.zero w) (Maps.keyOf_int_mk T.key hi.wf)
 have e := (ha i hi).symm.trans hat
 have : f i = c := by injection e with e; injection e
 rw [this] at hk
 exact runs_of hrun hk
theorem OM.len {P : Program} {t k : TypeId} (T : MapTy P t k) {w : World} {b : Nat} {ks : List Int} {f : Int → Int} (h : OM P w k b ks f) {ty : TypeId} {K : Value → World → Prop} (hk : K (.int .i64 (ks.length : Int)) w) :
  Runs P (Builtin.len_ #[t] ty #[.map (some b)]) w K := by
 obtain ⟨D, ho, hs, _⟩ := h.dat
 have := ho.len T.und ty
 rw [hs] at this
 exact runs_of this hk
theorem OM.upd {P : Program} {t k : TypeId} (T : MapTy P t k) {w : World} {b : Nat} {ks : List Int} {f : Int → Int} (h : OM P w k b ks f) {i v : Int} (hi : W64 i) (hv : W64 v) (hn : ks.length ≤ 1000000) {K : Unit → World → Prop}
  (hk : ∀ w', OM P w' k b (if i ∈ ks then ks else i :: ks) (fun j => if j = i then v else f j) → Keeps (fun k => k = b) w w' → K () w') :
  Runs P (Instr.mapUpdate t (.map (some b)) (.int .i64 i) (.int .i64 v)) w K := by
 obtain ⟨D, ho, hs, ha, hh⟩ := h.dat
 have Kd : Maps.Keyed P k := Maps.int_keyed T.key
 obtain ⟨w', hrun, ho', hg⟩ := ho.update Kd T.und (by unfold maxLen; omega) (Maps.keyOf_int_mk T.key hi.wf) (plainElem_int T.key hv.wf)
 have tD := ho.tidy Kd
 have hsz := Maps.size_put (k := .int .i64 i) tD (.lit (.int .i64 v))
 have hput : Maps.size (D.put (.int .i64 i) (.lit (.int .i64 v))) = (if i ∈ ks then ks else i :: ks).length := by
  rw [hsz]
  by_cases hm : i ∈ ks
  ·rw [if_pos ((hh i hi).2 hm), if_pos hm, hs]
  ·rw [if_neg (fun e => hm ((hh i hi).1 e)), if_neg hm, hs]; rfl
 have ho2 := OM.size ho'
 rw [hput] at ho2
 refine runs_of hrun (hk w' ⟨?_, ?_, ?_, _, ho2, hput, ?_, ?_⟩ ⟨hg.os, hg.tape, hg.output, hg.size, fun j hj hn => hg.block j hj (by simpa using hn)⟩)
 ·by_cases hm : i ∈ ks
  ·rw [if_pos hm]; exact h.nd
  ·rw [if_neg hm]; exact List.nodup_cons.2 ⟨hm, h.nd⟩
 ·intro j hj
  by_cases hm : i ∈ ks
  ·rw [if_pos hm] at hj; exact h.kw j hj
  ·rw [if_neg hm] at hj
   rcases List.mem_cons.1 hj with rfl | hj
   ·exact hi
   ·exact h.kw j hj
 ·intro j hj
  by_cases hm : i ∈ ks
  ·rw [if_pos hm] at hj
   rw [if_neg (fun e : j = i => hj (e ▸ hm))]; exact h.z j hj
  ·rw [if_neg hm, List.mem_cons, not_or] at hj
   rw [if_neg hj.1]; exact h.z j hj.2
 ·intro j hj
  by_cases e : j = i
  ·subst e
   rw [if_pos rfl]
   exact Maps.atKey_put_same tD.isMap (show WideAt.IsKeyLit (.int .i64 j) from trivial) _ _
  ·rw [if_neg e, Maps.atKey_put_other (lit_ne e)]
   exact ha j hj
 ·intro j hj
  by_cases e : j = i
  ·subst e
   rw [Maps.has_put_same tD.isMap (show WideAt.IsKeyLit (.int .i64 j) from trivial)]
   by_cases hm : j ∈ ks <;> simp [hm]
  ·rw [Maps.has_put_other (lit_ne e), hh j hj]
   by_cases hm : i ∈ ks <;> simp [hm, e]
theorem OM.del {P : Program} {t k : TypeId} (T : MapTy P t k) {w : World} {b : Nat} {ks : List Int} {f : Int → Int} (h : OM P w k b ks f) {i : Int} (hi : W64 i) {ty : TypeId} {K : Value → World → Prop}
  (hk : ∀ w', OM P w' k b (ks.erase i) (fun j => if j = i then 0 else f j) → Keeps (fun k => k = b) w w' → K (.tuple #[]) w') :
  Runs P (Builtin.delete_ #[t, k] ty #[.map (some b), .int .i64 i]) w K := by
 obtain ⟨D, ho, hs, ha, hh⟩ := h.dat
 have Kd : Maps.Keyed P k := Maps.int_keyed T.key
 obtain ⟨w', hrun, ho', ht⟩ := ho.drop Kd T.und (Maps.keyOf_int_mk T.key hi.wf) ty
 have hg := ht.grown
 have tD := ho.tidy Kd
 have hsz := Maps.size_del (k := .int .i64 i) tD
 have hput : Maps.size (D.del (.int .i64 i)) = (ks.erase i).length := by
  by_cases hm : i ∈ ks
  ·rw [if_pos ((hh i hi).2 hm)] at hsz
   rw [List.length_erase_of_mem hm]; omega
  ·rw [if_neg (fun e => hm ((hh i hi).1 e))] at hsz
   rw [List.erase_of_not_mem hm]; omega
 have ho2 := OM.size ho'
 rw [hput] at ho2
 refine runs_of hrun (hk w' ⟨h.nd.erase i, fun j hj => h.kw j (List.mem_of_mem_erase hj), ?_, _, ho2, hput, ?_, ?_⟩ ⟨hg.os, hg.tape, hg.output, hg.size, fun j hj hn => hg.block j hj (by simpa using hn)⟩)
 ·intro j hj
  by_cases e : j = i
  ·rw [if_pos e]
  ·rw [if_neg e]
   exact h.z j fun hm => hj ((List.mem_erase_of_ne e).2 hm)
 ·intro j hj
  by_cases e : j = i
  ·subst e
   rw [if_pos rfl]
   exact Maps.atKey_del_same _
  ·rw [if_neg e, Maps.atKey_del_other (lit_ne e)]
   exact ha j hj
 ·intro j hj
  by_cases e : j = i
  ·subst e
   rw [Maps.has_del_same]
   simp [List.Nodup.not_mem_erase h.nd]
  ·rw [Maps.has_del_other (lit_ne e), hh j hj, List.mem_erase_of_ne e]
end Go.Dn
namespace Go.Proofs.Ytklnlnjgaadjbaa.Rd
open Go.Dn
theorem MTi : MapTy Try.prog 63 3 := ⟨by kernel_rfl, by kernel_rfl, fun w => by kernel_rfl⟩
end Go.Proofs.Ytklnlnjgaadjbaa.Rd
namespace Go.Dn
open Go.RowKit Go.Proofs.Ytklnlnjgaadjbaa.Rd
def zNd : Nd := ⟨0, 0, 0, false, zE, zE, 0, 0⟩
def nodeC (d : Nd) : Array Value := #[fld d 0, fld d 1, fld d 2, fld d 3, fld d 4, fld d 5, fld d 6, fld d 7, fld d 8, fld d 9, fld d 10, fld d 11, fld d 12]
theorem nodeC_get (d : Nd) {j : Nat} (h : j < 13) : (nodeC d)[j]? = some (fld d j) := by
 have : ∀ j, j < 13 → (nodeC d)[j]? = some (fld d j) := fld_cases ⟨rfl, rfl, rfl, rfl, rfl, rfl, rfl, rfl, rfl, rfl, rfl, rfl, rfl⟩
 exact this j h
theorem nodeC_set (d d' : Nd) (v : Value) {j : Nat} (h : j < 13) (hd : ∀ j', j' < 13 → fld d' j' = if j' = j then v else fld d j') : (nodeC d).setIfInBounds j v = nodeC d' := by
 apply Array.ext_getElem?
 intro k
 by_cases hk : k < 13
 ·rw [nodeC_get d' hk, hd k hk]
  by_cases e : k = j
  ·subst e
   rw [if_pos rfl, Array.getElem?_setIfInBounds, if_pos rfl, if_pos (by simpa [nodeC] using h)]
  ·rw [if_neg e, Array.getElem?_setIfInBounds, if_neg (fun h => e h.symm), nodeC_get d hk]
 ·rw [Array.getElem?_eq_none (by simp [nodeC]; omega), Array.getElem?_eq_none (by simp [nodeC]; omega)]
theorem nb_st {w : World} {b : Nat} {d : Nd} {t : TypeId} (h : HB w b (nodeC d) t) {j : Nat} (hj : j < 13) {v : Value} (d' : Nd) (hd : ∀ j', j' < 13 → fld d' j' = if j' = j then v else fld d j') {K : World → Prop} (hk : ∀ w', HB w' b (nodeC d') t → Keeps (fun k => k = b) w w' → K w') : stW w ((⟨b, 0, none⟩ : Addr).add j) v K :=
 hb_st h (by simpa [nodeC] using hj) fun w' h' k' => hk w' (by rw [nodeC_set d d' v hj hd] at h'; exact h') k'
theorem nb_same {w : World} {b : Nat} {d : Nd} {t : TypeId} (h : HB w b (nodeC d) t) {j : Nat} (hj : j < 13) {v : Value} (hv : fld d j = v) {K : World → Prop} (hk : ∀ w', HB w' b (nodeC d) t → Keeps (fun k => k = b) w w' → K w') : stW w ((⟨b, 0, none⟩ : Addr).add j) v K :=
 nb_st h hj d (fun j' _ => by split; rename_i e; rw [e, hv]; rfl) hk
theorem set_oid (d : Nd) (v : Int) : ∀ j', j' < 13 → fld { d with o := { d.o with id := v } } j' = if j' = 4 then .int .i64 v else fld d j' := fld_cases ⟨rfl, rfl, rfl, rfl, rfl, rfl, rfl, rfl, rfl, rfl, rfl, rfl, rfl⟩
theorem nb_sto {w : World} {b : Nat} {d : Nd} {t : TypeId} (h : HB w b (nodeC d) t) (e : E) {K : World → Prop} (hk : ∀ w', HB w' b (nodeC { d with o := e }) t → Keeps (fun k => k = b) w w' → K w') :
  stW w ((⟨b, 0, none⟩ : Addr).add 4) (.int .i64 e.id) fun w1 => stW w1 ((⟨b, 0, none⟩ : Addr).add 5) (.int .i64 e.u) fun w2 => stW w2 ((⟨b, 0, none⟩ : Addr).add 6) (.int .i64 e.v) fun w3 => stW w3 ((⟨b, 0, none⟩ : Addr).add 7) (.int .i64 e.w) K := by
 refine nb_st h (by omega) _ (set_oid _ _) fun w1 h1 k1 => ?_
 refine nb_st h1 (by omega) { d with o := ⟨e.id, e.u, d.o.v, d.o.w⟩ } (fld_cases ⟨rfl, rfl, rfl, rfl, rfl, rfl, rfl, rfl, rfl, rfl, rfl, rfl, rfl⟩) fun w2 h2 k2 => ?_
 refine nb_st h2 (by omega) { d with o := ⟨e.id, e.u, e.v, d.o.w⟩ } (fld_cases ⟨rfl, rfl, rfl, rfl, rfl, rfl, rfl, rfl, rfl, rfl, rfl, rfl, rfl⟩) fun w3 h3 k3 => ?_
 refine nb_st h3 (by omega) { d with o := e } (fld_cases ⟨rfl, rfl, rfl, rfl, rfl, rfl, rfl, rfl, rfl, rfl, rfl, rfl, rfl⟩) fun w4 h4 k4 => ?_
 exact hk w4 h4 ((k1.trans k2).trans (k3.trans k4))
theorem nb_stm {w : World} {b : Nat} {d : Nd} {t : TypeId} (h : HB w b (nodeC d) t) (e : E) {K : World → Prop} (hk : ∀ w', HB w' b (nodeC { d with mx := e }) t → Keeps (fun k => k = b) w w' → K w') :
  stW w ((⟨b, 0, none⟩ : Addr).add 8) (.int .i64 e.id) fun w1 => stW w1 ((⟨b, 0, none⟩ : Addr).add (8 + 1)) (.int .i64 e.u) fun w2 => stW w2 ((⟨b, 0, none⟩ : Addr).add (8 + 2)) (.int .i64 e.v) fun w3 => stW w3 ((⟨b, 0, none⟩ : Addr).add (8 + 3)) (.int .i64 e.w) K := by
 refine nb_st h (by omega) _ (set_mid _ _) fun w1 h1 k1 => ?_
 refine nb_st h1 (by omega) { d with mx := ⟨e.id, e.u, d.mx.v, d.mx.w⟩ } (fld_cases ⟨rfl, rfl, rfl, rfl, rfl, rfl, rfl, rfl, rfl, rfl, rfl, rfl, rfl⟩) fun w2 h2 k2 => ?_
 refine nb_st h2 (by omega) { d with mx := ⟨e.id, e.u, e.v, d.mx.w⟩ } (fld_cases ⟨rfl, rfl, rfl, rfl, rfl, rfl, rfl, rfl, rfl, rfl, rfl, rfl, rfl⟩) fun w3 h3 k3 => ?_
 refine nb_st h3 (by omega) { d with mx := e } (fld_cases ⟨rfl, rfl, rfl, rfl, rfl, rfl, rfl, rfl, rfl, rfl, rfl, rfl, rfl⟩) fun w4 h4 k4 => ?_
 exact hk w4 h4 ((k1.trans k2).trans (k3.trans k4))
def mkNd (e : E) : Nd := ⟨0, 0, 0, false, e, if 0 < e.id then e else zE, if 0 < e.id then e.w else 0, if 0 < e.id then 1 else 0⟩
theorem own_prefix {w : World} {B e sz n g c : Nat} {xs ys : List Value} (h : w.ownsRow B e sz (.slice (some ⟨g, 0, none⟩) (n + 1) c) (n + 1) (xs ++ ys)) (hx : xs.length = n * sz) : w.ownsRow B e sz (.slice (some ⟨g, 0, none⟩) n c) n xs := by
 refine ⟨hx, ?_⟩
 rcases h.2 with ⟨h, _⟩ | ⟨g', cap, cur, hv, hb, hg, hn, hm, hs, ht⟩
 ·cases h
 ·injection hv with h1 h2 h3
  injection h1 with h1; injection h1 with h1; subst h1; subst h3
  refine .inr ⟨g, c, cur, rfl, hb, hg, by omega, hm, hs, ?_⟩
  have := congrArg (List.take (n * sz)) ht
  rw [List.take_take, Nat.min_eq_left (Nat.mul_le_mul_right _ (by omega)), ← hx, List.take_left] at this
  rw [hx] at this; exact this
theorem enc_app {sz n : Nat} {F F' : Nat → Nat → Value} (l : List Value) (hl : l.length = sz) (h0 : ∀ i, i < n → ∀ j, j < sz → F' i j = F i j) (h1 : ∀ j, j < sz → l[j]? = some (F' n j)) : enc sz n F ++ l = enc sz (n + 1) F' := by
 apply List.ext_getElem?
 intro k
 by_cases hk : k < n * sz
 ·have hs : 0 < sz := Nat.pos_of_ne_zero fun e => by subst e; simp at hk
  have h1 : k / sz < n := Nat.div_lt_of_lt_mul (by rw [Nat.mul_comm]; exact hk)
  have h2 : k % sz < sz := Nat.mod_lt _ hs
  have hkk : k = k / sz * sz + k % sz := by rw [Nat.mul_comm]; exact (Nat.div_add_mod _ _).symm
  rw [List.getElem?_append_left (by rw [enc_len]; exact hk)]
  rw [hkk, enc_get h1 h2, enc_get (by omega) h2, h0 _ h1 _ h2]
 ·rw [List.getElem?_append_right (by rw [enc_len]; omega), enc_len]
  by_cases hk2 : k < (n + 1) * sz
  ·rw [Nat.add_mul, Nat.one_mul] at hk2
   obtain ⟨j, rfl⟩ : ∃ j, k = n * sz + j := ⟨k - n * sz, by omega⟩
   rw [Nat.add_sub_cancel_left, enc_get (by omega) (by omega), h1 j (by omega)]
  ·rw [List.getElem?_eq_none (by rw [hl]; rw [Nat.add_mul, Nat.one_mul] at hk2; omega), List.getElem?_eq_none (by rw [enc_len]; omega)]
end Go.Dn
namespace Go.Proofs.Ytklnlnjgaadjbaa.Rd
open Go.Dn Go.RowKit
set_option maxRecDepth 100000
structure Lq (w : World) (r : LC) (F : Nat → Nat → Value) : Prop where
 obj : w.heap[r.R]? = some (Obj.cells #[.slice (some ⟨r.g, 0, none⟩) r.n r.c, .map (some r.mv), .map (some r.me), .map (some r.mn), r.sp] 98)
 own : w.ownsRow r.B 109 13 (.slice (some ⟨r.g, 0, none⟩) r.n r.c) r.n (enc 13 r.n F)
 hB : r.B ≤ r.R
 gR : r.g ≠ r.R
theorem Lp.raw {w : World} {r : LC} {N : Nat → Nd} (h : Lp w r N) : Lq w r (fun i j => fld (N i) j) := ⟨h.obj, h.own, h.hB, h.gR⟩
theorem Lq.lp {w : World} {r : LC} {F : Nat → Nat → Value} {N : Nat → Nd} (h : Lq w r F) (he : ∀ i, i < r.n → ∀ j, j < 13 → F i j = fld (N i) j) : Lp w r N := ⟨h.obj, by rw [enc_congr (F' := F) fun i hi j hj => (he i hi j hj).symm]; exact h.own, h.hB, h.gR⟩
theorem lq_st {w : World} {r : LC} {F : Nat → Nat → Value} (h : Lq w r F) {i j : Nat} (hi : i < r.n) (hj : j < 13) {v : Value} {K : World → Prop} (hk : ∀ w', Lq w' r (fun i' j' => if i' = i ∧ j' = j then v else F i' j') → Keeps (fun k => k = r.g) w w' → K w') : stW w (((⟨r.g, 0, none⟩ : Addr).add ((i : Int).toNat * 13)).add j) v K := by
 rw [add_add, Int.toNat_natCast, add_mk, Nat.zero_add]
 obtain ⟨ho, hg⟩ := World.ownsRow.stored h.own (i * 13 + j) v
 have hkp : Keeps (fun k => k = r.g) w (w.setCell ⟨r.g, i * 13 + j, none⟩ v) := ⟨hg.os, hg.tape, hg.output, hg.size, fun k hk hn => hg.block k hk (by simpa using hn)⟩
 refine stW_intro ⟨⟨F i j, ?_⟩, World.ownsRow.frozenAt h.own _⟩ (hk _ ⟨(hkp.block _ (Array.getElem?_eq_some_iff.1 h.obj).1 (fun e => h.gR e.symm)).trans h.obj, ?_, h.hB, h.gR⟩ hkp)
 ·rw [World.ownsRow.cellAt h.own _ (by omega), enc_get hi hj]
 ·rw [enc_set hi hj] at ho; exact ho
theorem lc_stall {w : World} {r : LC} {N : Nat → Nd} (h : Lp w r N) {i : Nat} (hi : i < r.n) (d : Nd) {K : World → Prop} (hk : ∀ w', Lp w' r (stN N i d) → Keeps (fun k => k = r.g) w w' → K w') :
  stW w ((⟨r.g, 0, none⟩ : Addr).add ((i : Int).toNat * 13)) (fld d 0) fun w => stW w (((⟨r.g, 0, none⟩ : Addr).add ((i : Int).toNat * 13)).add 1) (fld d 1) fun w => stW w (((⟨r.g, 0, none⟩ : Addr).add ((i : Int).toNat * 13)).add 2) (fld d 2) fun w =>
  stW w (((⟨r.g, 0, none⟩ : Addr).add ((i : Int).toNat * 13)).add 3) (fld d 3) fun w => stW w (((⟨r.g, 0, none⟩ : Addr).add ((i : Int).toNat * 13)).add 4) (fld d 4) fun w => stW w (((⟨r.g, 0, none⟩ : Addr).add ((i : Int).toNat * 13)).add 5) (fld d 5) fun w =>
  stW w (((⟨r.g, 0, none⟩ : Addr).add ((i : Int).toNat * 13)).add 6) (fld d 6) fun w => stW w (((⟨r.g, 0, none⟩ : Addr).add ((i : Int).toNat * 13)).add 7) (fld d 7) fun w => stW w (((⟨r.g, 0, none⟩ : Addr).add ((i : Int).toNat * 13)).add 8) (fld d 8) fun w =>
  stW w (((⟨r.g, 0, none⟩ : Addr).add ((i : Int).toNat * 13)).add 9) (fld d 9) fun w => stW w (((⟨r.g, 0, none⟩ : Addr).add ((i : Int).toNat * 13)).add 10) (fld d 10) fun w => stW w (((⟨r.g, 0, none⟩ : Addr).add ((i : Int).toNat * 13)).add 11) (fld d 11) fun w =>
  stW w (((⟨r.g, 0, none⟩ : Addr).add ((i : Int).toNat * 13)).add 12) (fld d 12) K := by
 show stW w (((⟨r.g, 0, none⟩ : Addr).add ((i : Int).toNat * 13)).add 0) _ _
 refine lq_st h.raw hi (by omega) fun w0 h0 k0 => lq_st h0 hi (by omega) fun w1 h1 k1 => lq_st h1 hi (by omega) fun w2 h2 k2 => lq_st h2 hi (by omega) fun w3 h3 k3 => lq_st h3 hi (by omega) fun w4 h4 k4 => lq_st h4 hi (by omega) fun w5 h5 k5 => lq_st h5 hi (by omega) fun w6 h6 k6 => lq_st h6 hi (by omega) fun w7 h7 k7 => lq_st h7 hi (by omega) fun w8 h8 k8 => lq_st h8 hi (by omega) fun w9 h9 k9 => lq_st h9 hi (by omega) fun wa ha ka => lq_st ha hi (by omega) fun wb hb kb => lq_st hb hi (by omega) fun wc hc kc => ?_
 refine hk wc (hc.lp fun i' _ => ?_) (((((((((((((k0.trans k1).trans k2).trans k3).trans k4).trans k5).trans k6).trans k7).trans k8).trans k9).trans ka).trans kb).trans kc))
 by_cases e : i' = i
 ·subst e
  rw [stN_same]
  exact fld_cases ⟨by simp, by simp, by simp, by simp, by simp, by simp, by simp, by simp, by simp, by simp, by simp, by simp, by simp⟩
 ·rw [stN_ne _ _ e]
  intro j _
  simp [e]
theorem Lp.cellR {w : World} {r : LC} {N : Nat → Nd} (h : Lp w r N) (j : Nat) : w.cell? ((⟨r.R, 0, none⟩ : Addr).add j) = (#[.slice (some ⟨r.g, 0, none⟩) r.n r.c, .map (some r.mv), .map (some r.me), .map (some r.mn), r.sp] : Array Value)[j]? := by
 rw [add_mk, Nat.zero_add, cell_of_row w _ _ _ _ _ h.obj]
theorem Lp.setSp {w : World} {r : LC} {N : Nat → Nd} (h : Lp w r N) (v : Value) : Wr w ((⟨r.R, 0, none⟩ : Addr).add 4) ∧ Lp (w.setCell ((⟨r.R, 0, none⟩ : Addr).add 4) v) { r with sp := v } N ∧ Keeps (fun k => k = r.R) w (w.setCell ((⟨r.R, 0, none⟩ : Addr).add 4) v) := by
 have hk : Keeps (fun k => k = r.R) w (w.setCell ((⟨r.R, 0, none⟩ : Addr).add 4) v) := (Keeps.refl (fun k => k = r.R) w).setCell (p := (⟨r.R, 0, none⟩ : Addr).add 4) (.inl (by rw [add_block])) _
 refine ⟨⟨⟨_, h.cellR 4⟩, ?_⟩, ⟨?_, Keeps.own h.own hk (fun i hi => by injection hi with hi; subst hi; exact h.gR), h.hB, h.gR⟩, hk⟩
 ·rw [add_mk, frozen_of_row _ _ _ _ _ h.obj]
 ·rw [add_mk, heap_setCell_same w r.R _ _ _ _ h.obj]; rfl
theorem Lp.nb {w w' : World} {r : LC} {N : Nat → Nd} (h : Lp w r N) {b : Nat} (hb : b ≠ r.R ∧ b ≠ r.g) (k : Keeps (fun k => k = b) w w') : Lp w' r N := h.keeps k (fun e => hb.1 e.symm) (fun e => hb.2 e.symm)
theorem slA0 (A : Option Addr) (c : Nat) : slA A 0 c 1 = A := by
 unfold slA
 split
 ·rfl
 ·cases A with
  | none => rfl
  | some a => simp [add_zero]
theorem OwnI.pop {w : World} {B : Nat} {e : TypeId} {A : Option Addr} {c : Nat} {l : List Int} {x : Int} (h : OwnI w B e A c (l ++ [x])) : OwnI w B e A c l := by
 unfold OwnI at h ⊢
 rw [List.map_append, List.length_append] at h
 obtain ⟨g, hg⟩ : ∃ g, A = some ⟨g, 0, none⟩ := by
  rcases h.2 with ⟨_, h0⟩ | ⟨g, cap, cur, hv, _⟩
  ·simp at h0
  ·injection hv with h1; exact ⟨g, h1⟩
 subst hg
 exact own_prefix h (by simp)
structure Spr (w : World) (r : LC) (A : Option Addr) (c : Nat) (sp : List Nat) : Prop where
 v : r.sp = .slice A sp.length c
 own : OwnI w r.B 3 A c (zs sp)
 ap : ∀ a, A = some a → a.block ≠ r.R ∧ a.block ≠ r.g
 lt : ∀ i ∈ sp, i < r.n
theorem TNd : Try.prog.underlying 96 = some (.slice 109) := by kernel_rfl
theorem TNdI : (Try.prog.info? 109).map (fun i => (i.zero, i.size, i.bytes)) = some (some (.agg #[.int .i64 0, .int .i64 0, .int .i64 0, .bool false, .int .i64 0, .int .i64 0, .int .i64 0, .int .i64 0, .int .i64 0, .int .i64 0, .int .i64 0, .int .i64 0, .complex .f64 0 0]), 13, 112) := by kernel_rfl
theorem TNd_info : ∃ i, Try.prog.info? 109 = some i ∧ (∃ z, i.zero = some z ∧ z.cells.size = 13) ∧ i.size = 13 ∧ i.bytes = 112 := by
 have := TNdI
 cases hi : Try.prog.info? 109 with
 | none => rw [hi] at this; cases this
 | some i =>
  rw [hi] at this
  simp only [Option.map_some, Option.some.injEq, Prod.mk.injEq] at this
  exact ⟨i, rfl, ⟨_, this.1, rfl⟩, this.2.1, this.2.2⟩
theorem nodeC_one (d : Nd) : ∀ u ∈ (nodeC d).toList, u.oneCell' = true := by
 intro u hu
 obtain ⟨j, hj, rfl⟩ := List.getElem_of_mem hu
 have hj' : j < 13 := by simpa [nodeC] using hj
 have h1 := nodeC_get d hj'
 rw [← Array.getElem?_toList] at h1
 have h2 := (List.getElem?_eq_some_iff.1 h1).2
 rw [h2]
 clear h1 h2 hu hj
 revert j
 have : ∀ j, j < 13 → (fld d j).oneCell' = true := fld_cases ⟨rfl, rfl, rfl, rfl, rfl, rfl, rfl, rfl, rfl, rfl, rfl, rfl, rfl⟩
 intro j hj'
 exact this j hj'
theorem app_node {w : World} {r : LC} {N : Nat → Nd} (h : Lp w r N) (hn : r.n ≤ 1000000) (n0 : 0 < r.n) {b : Nat} {d : Nd} {t : TypeId} (hb : HB w b (nodeC d) t) {K : Value → World → Prop}
  (hK : ∀ w' g' c', Lp w' r N → w'.ownsRow r.B 109 13 (.slice (some ⟨g', 0, none⟩) (r.n + 1) c') (r.n + 1) (enc 13 (r.n + 1) fun i j => fld (stN N r.n d i) j) → (g' = r.g ∨ w.heap.size ≤ g') → Keeps (fun k => k = r.g) w w' → K (.slice (some ⟨g', 0, none⟩) (r.n + 1) c') w') :
  Runs Try.prog (Builtin.append_ #[96, 96] 96 #[.slice (some ⟨r.g, 0, none⟩) r.n r.c, .slice (some (⟨b, 0, none⟩ : Addr)) 1 1]) w K := by
 obtain ⟨i, hi, ⟨z, hz, hz1⟩, hs, hby⟩ := TNd_info
 have hnews : ∀ j u, (nodeC d).toList[j]? = some u → w.cell? ((⟨b, 0, none⟩ : Addr).add j) = some u := fun j u hj => by
  rw [hb.cell, ← Array.getElem?_toList]; exact hj
 have hl : (nodeC d).toList.length = 1 * 13 := by simp [nodeC]
 have hB : r.B ≤ w.heap.size := by have := h.hB; have := h.R_lt; omega
 have henc : (enc 13 r.n fun i j => fld (N i) j) ++ (nodeC d).toList = enc 13 (r.n + 1) fun i j => fld (stN N r.n d i) j :=
  enc_app _ (by simp [nodeC]) (fun i hi j _ => by rw [stN_ne _ _ (by omega)]) (fun j hj => by rw [stN_same, Array.getElem?_toList]; exact nodeC_get d hj)
 by_cases hroom : r.n + 1 ≤ r.c
 ·obtain ⟨w', hrun, ho', hg⟩ := run_append_fits (P := Try.prog) w r.B _ 96 _ i 13 TNd hi hs r.g r.n r.c _ h.own ⟨b, 0, none⟩ 1 1 (nodeC d).toList hl hnews (nodeC_one d) hroom
  have hk : Keeps (fun k => k = r.g) w w' := ⟨hg.os, hg.tape, hg.output, hg.size, fun k hk hn => hg.block k hk (by simpa using hn)⟩
  have hp := own_prefix ho' (by rw [enc_len])
  rw [henc] at ho'
  exact runs_of hrun (hK w' r.g r.c ⟨(hk.block _ h.R_lt (fun e => h.gR e.symm)).trans h.obj, hp, h.hB, h.gR⟩ ho' (.inl rfl) hk)
 ·have hr2 := run_append_grow (P := Try.prog) w _ 96 _ i z TNd hi hz ⟨r.g, 0, none⟩ r.n r.c (enc 13 r.n fun i j => fld (N i) j) (by rw [enc_len, hs]) (h.own.cells (g := r.g) rfl) ⟨b, 0, none⟩ 1 1 (nodeC d).toList (by rw [hs]; exact hl) hnews (by omega) (by omega)
   (by rw [hby]; exact growslice_fits (by omega) (by omega))
  obtain ⟨v', w', hrun, ho', hg, _⟩ := run_append_own (P := Try.prog) w r.B _ 96 _ i z 13 112 TNd hi hz hs hby hz1 (by decide) _ _ _ h.own ⟨b, 0, none⟩ 1 1 (nodeC d).toList hl hnews (nodeC_one d) (by unfold maxLen; omega) (by omega) hB
  rw [hr2] at hrun
  injection hrun with hv hw
  refine runs_of hr2 ?_
  have hbel : Below w.heap.size w w' := by rw [← hw]; exact (Below.refl w.heap.size w).drew.alloc (Nat.le_refl _) _
  rw [hw]
  rw [← hv] at ho'
  rw [henc] at ho'
  exact hK w' _ _ (h.below hbel) ho' (.inr (Nat.le_refl _)) (.of_below hbel)
structure MkP (w w' : World) (r r' : LC) (N : Nat → Nd) (A : Option Addr) (c : Nat) (sp sp' : List Nat) (i : Nat) (e : E) : Prop where
 lp : Lp w' r' (stN N i (mkNd e))
 spr : Spr w' r' A c sp'
 R : r'.R = r.R
 B : r'.B = r.B
 mv : r'.mv = r.mv
 me : r'.me = r.me
 mn : r'.mn = r.mn
 g : r'.g = r.g ∨ w.heap.size ≤ r'.g
 kp : Keeps (fun k => k = r.R ∨ k = r.g) w w'
 it : (sp = sp' ++ [i] ∧ r'.n = r.n) ∨ (sp = [] ∧ sp' = [] ∧ i = r.n ∧ r'.n = r.n + 1)
theorem make_j0 {w : World} {r : LC} {N : Nat → Nd} (h : Lp w r N) (hn : r.n ≤ 100000) (n0 : 0 < r.n) {A : Option Addr} {c : Nat} {sp : List Nat} (hs : Spr w r A c sp) {b : Nat} {e : E} {t : TypeId} (hb : HB w b (nodeC (mkNd e)) t) (hbn : b ≠ r.R ∧ b ≠ r.g) (hbA : ∀ a, A = some a → b ≠ a.block) {Kr : Int → World → Prop}
  (hK : ∀ w' r' sp' i, MkP w w' r r' N A c sp sp' i e → Kr (i : Int) w') : f_linkcut_Forest_make.j0 ⟨r.R, 0, none⟩ (⟨b, 0, none⟩ : Addr) w Kr := by
 unfold f_linkcut_Forest_make.j0
 have c4 : w.cell? ((⟨r.R, 0, none⟩ : Addr).add 4) = some (.slice A sp.length c) := by rw [h.cellR]; show some r.sp = _; rw [hs.v]
 refine ldS_intro c4 ?_
 rcases List.eq_nil_or_concat sp with rfl | ⟨sp0, i, rfl⟩
 ·refine sel_f (by simp) (drW_intro ?_)
  have hd := h.drew
  have hbd : HB w.drew b (nodeC (mkNd e)) t := hb
  refine ⟨fun w' => Lp w' r N ∧ HB w' b (nodeC (mkNd e)) t, ⟨hd, hbd⟩, _, _, _, fun w' h' => h'.1.sl0, ?_⟩
  have cellb : ∀ (w' : World), (Lp w' r N ∧ HB w' b (nodeC (mkNd e)) t) → ∀ j, j < 13 → w'.cell? ((⟨b, 0, none⟩ : Addr).add j) = some (fld (mkNd e) j) := fun w' h' j hj => by rw [h'.2.cell, nodeC_get _ hj]
  refine ⟨_, fun w' h' => cellb w' h' 0 (by omega), _, fun w' h' => cellb w' h' 1 (by omega), _, fun w' h' => cellb w' h' 2 (by omega), _, fun w' h' => cellb w' h' 3 (by omega), _, fun w' h' => cellb w' h' 4 (by omega), _, fun w' h' => cellb w' h' 5 (by omega), _, fun w' h' => cellb w' h' 6 (by omega), _, fun w' h' => cellb w' h' 7 (by omega), _, fun w' h' => cellb w' h' 8 (by omega), _, fun w' h' => cellb w' h' 9 (by omega), _, fun w' h' => cellb w' h' 10 (by omega), _, fun w' h' => cellb w' h' 11 (by omega), _, _, fun w' h' => cellb w' h' 12 (by omega), ?_⟩
  refine al_new fun w2 b2 e2 s2 h2 g2 => ?_
  have l2 := hd.below g2
  have hb2 := hbd.below g2
  have h2 : HB w2 b2 (nodeC (mkNd e)) 109 := h2
  refine ⟨⟨l2, hb2⟩, app_node l2 (by omega) n0 h2 fun w3 g' c' l3 o3 hg3 k3 => ?_⟩
  have hb3 : HB w3 b (nodeC (mkNd e)) t := hb2.keeps k3 hbn.2
  refine ⟨_, _, _, rfl, ⟨l3, hb3⟩, ?_⟩
  have kR : Keeps (fun k => k = r.R) w3 (w3.setCell (⟨r.R, 0, none⟩ : Addr) (.slice (some ⟨g', 0, none⟩) (r.n + 1) c')) := (Keeps.refl (fun k => k = r.R) w3).setCell (p := (⟨r.R, 0, none⟩ : Addr)) (.inl rfl) _
  have hs2 : w.heap.size ≤ w2.heap.size := g2.size
  have hg' : g' = r.g ∨ w.heap.size ≤ g' := hg3.imp id fun h => by omega
  have gR' : g' ≠ r.R := by
   rcases hg' with e | e
   ·rw [e]; exact h.gR
   ·have := h.R_lt; omega
  have hobj : (w3.setCell (⟨r.R, 0, none⟩ : Addr) (.slice (some ⟨g', 0, none⟩) (r.n + 1) c')).heap[r.R]? = some (Obj.cells #[.slice (some ⟨g', 0, none⟩) (r.n + 1) c', .map (some r.mv), .map (some r.me), .map (some r.mn), r.sp] 98) := by
   rw [heap_setCell_same w3 r.R _ _ _ _ l3.obj]; rfl
  have own' : (w3.setCell (⟨r.R, 0, none⟩ : Addr) (.slice (some ⟨g', 0, none⟩) (r.n + 1) c')).ownsRow r.B 109 13 (.slice (some ⟨g', 0, none⟩) (r.n + 1) c') (r.n + 1) (enc 13 (r.n + 1) fun i j => fld (stN N r.n (mkNd e) i) j) := Keeps.own o3 kR (fun k hk => by injection hk with hk; subst hk; exact gR')
  refine stW_intro ⟨⟨_, l3.sl0⟩, frozen_of_row _ _ _ _ _ l3.obj⟩ ?_
  have kall : Keeps (fun k => k = r.R ∨ k = r.g) w (w3.setCell (⟨r.R, 0, none⟩ : Addr) (.slice (some ⟨g', 0, none⟩) (r.n + 1) c')) :=
   (((Keeps.refl _ _).drew.trans (.of_below g2)).trans (k3.mono fun k _ hk => .inr hk)).trans (kR.mono fun k _ hk => .inl hk)
  refine ldS_intro (by rw [cell_of_row _ _ _ _ _ _ hobj]; rfl) ?_
  have hi : IntKind.i64.wrap (((r.n + 1 : Nat) : Int) - 1) = (r.n : Int) := by rw [w64_in (by omega)]; omega
  rw [hi]
  refine hK _ { r with g := g', c := c', n := r.n + 1 } [] r.n ⟨⟨hobj, own', h.hB, gR'⟩, ⟨hs.v, ?_, fun a ha => ⟨(hs.ap a ha).1, ?_⟩, by simp⟩, rfl, rfl, rfl, rfl, rfl, hg', kall, .inr ⟨rfl, rfl, rfl, rfl⟩⟩
  ·exact hs.own.keeps kall fun a ha hh => by
    rcases hh with hh | hh
    ·exact (hs.ap a ha).1 hh
    ·exact (hs.ap a ha).2 hh
  ·rcases hg' with e | e
   ·show a.block ≠ g'; rw [e]; exact (hs.ap a ha).2
   ·show a.block ≠ g'; have := (hs.own.block a ha).2; omega
 ·have e0 : sp0.concat i = sp0 ++ [i] := List.concat_eq_append
  rw [e0] at hs c4 hK ⊢
  have hlen : (sp0 ++ [i]).length = sp0.length + 1 := by simp
  rw [hlen] at c4 ⊢
  have hsl : sp0.length + 1 ≤ 9223372036854775807 := by
   have h1 := hs.own.le
   rw [zs_len, hlen] at h1
   rcases hs.own.2 with ⟨hv, _⟩ | ⟨g, cap, cur, hv, _, _, _, hm, _⟩
   ·injection hv with _ _ h3; omega
   ·injection hv with _ _ h3
    unfold maxLen at hm; omega
  refine sel_t (by simp) (ldS_intro c4 ?_)
  have hw : IntKind.i64.wrap (((sp0.length + 1 : Nat) : Int) - 1) = (sp0.length : Int) := by rw [w64_in (by omega)]; omega
  rw [hw]
  obtain ⟨a, ha, hc⟩ := hs.own.reads sp0.length (by rw [zs_len, hlen]; omega)
  have hget : (zs (sp0 ++ [i]))[sp0.length]'(by rw [zs_len, hlen]; omega) = (i : Int) := by simp [zs]
  rw [hget] at hc
  refine optB_some ha (req_intro (by simp; omega) (ldI_intro (by rw [Int.toNat_natCast, Nat.mul_one]; exact hc) ?_))
  have hcap : sp0.length + 1 ≤ c := by have := hs.own.le; rw [zs_len, hlen] at this; exact this
  refine ldS_intro c4 (req_intro (by simp; omega) ?_)
  rw [slA0, Nat.sub_zero, Nat.sub_zero, Int.toNat_natCast]
  obtain ⟨wr4, l4, k4⟩ := h.setSp (.slice A sp0.length c)
  refine stW_intro wr4 (drW_intro ?_)
  generalize w.setCell _ _ = w4 at l4 k4 ⊢
  have ilt : i < r.n := hs.lt i (by simp)
  have l5 := l4.drew
  have hb4 : HB w4 b (nodeC (mkNd e)) t := hb.keeps k4 hbn.1
  have hb5 : HB w4.drew b (nodeC (mkNd e)) t := hb4
  have cellb : ∀ j, j < 13 → w4.drew.cell? ((⟨b, 0, none⟩ : Addr).add j) = some (fld (mkNd e) j) := fun j hj => by rw [hb5.cell, nodeC_get _ hj]
  refine ldS_intro l5.sl0 ⟨_, cellb 0 (by omega), _, cellb 1 (by omega), _, cellb 2 (by omega), _, cellb 3 (by omega), _, cellb 4 (by omega), _, cellb 5 (by omega), _, cellb 6 (by omega), _, cellb 7 (by omega), _, cellb 8 (by omega), _, cellb 9 (by omega), _, cellb 10 (by omega), _, cellb 11 (by omega), _, _, cellb 12 (by omega), optB_some rfl (req_intro (by simp; omega) ?_)⟩
  refine lc_stall l5 ilt (mkNd e) fun w6 l6 k6 => ?_
  have kall : Keeps (fun k => k = r.R ∨ k = r.g) w w6 := ((k4.mono fun k _ hk => .inl hk).drew).trans (k6.mono fun k _ hk => .inr hk)
  refine hK w6 { r with sp := .slice A sp0.length c } sp0 i ⟨l6, ⟨rfl, ?_, hs.ap, fun j hj => hs.lt j (by simp [hj])⟩, rfl, rfl, rfl, rfl, rfl, .inl rfl, kall, .inl ⟨rfl, rfl⟩⟩
  have := hs.own
  rw [zs_app] at this
  exact (OwnI.pop (x := (i : Int)) this).keeps kall fun a ha hh => by
   rcases hh with hh | hh
   ·exact (hs.ap a ha).1 hh
   ·exact (hs.ap a ha).2 hh
theorem make_ok {w : World} {r : LC} {N : Nat → Nd} (h : Lp w r N) (hn : r.n ≤ 100000) (n0 : 0 < r.n) {A : Option Addr} {c : Nat} {sp : List Nat} (hs : Spr w r A c sp) (e : E) :
  Calls Try.prog 58 #[.pointer (some ⟨r.R, 0, none⟩), .agg (eC e)] w fun en w' => ∃ r' sp' i, en = .returned (.int .i64 ((i : Nat) : Int)) ∧ MkP w w' r r' N A c sp sp' i e := by
 apply f_linkcut_Forest_make.ok
 unfold f_linkcut_Forest_make.wp
 refine al_new fun w1 b1 e1 s1 h1 g1 => ?_
 have h1 : HB w1 b1 (eC e) 33 := h1
 refine hb_ldI0 h1 rfl (hb_ldI h1 (j := 1) rfl (hb_ldI h1 (j := 2) rfl (hb_ldI h1 (j := 3) rfl ?_)))
 refine al_new fun w2 b2 e2 s2 h2 g2 => ?_
 have h2 : HB w2 b2 (nodeC zNd) 109 := by
  have : nodeC zNd = #[.int .i64 (0 : Int), .int .i64 (0 : Int), .int .i64 (0 : Int), .bool false, .int .i64 (0 : Int), .int .i64 (0 : Int), .int .i64 (0 : Int), .int .i64 (0 : Int), .int .i64 (0 : Int), .int .i64 (0 : Int), .int .i64 (0 : Int), .int .i64 (0 : Int), .complex .f64 0 0] := by
   simp only [nodeC, fld, zNd, zE, fb_zero]; rfl
  rw [this]; exact h2
 have hz : ∀ (d : Nd), d.sr = 0 → d.si = 0 → fld d 12 = .complex .f64 0 0 := fun d h h' => by show Value.complex .f64 (fb d.sr) (fb d.si) = _; rw [h, h', fb_zero]
 show stW w2 ((⟨b2, 0, none⟩ : Addr).add 0) _ _
 refine nb_same h2 (by omega) rfl fun w3 h3 k3 => nb_same h3 (by omega) rfl fun w4 h4 k4 => nb_same h4 (by omega) rfl fun w5 h5 k5 => nb_same h5 (by omega) rfl fun w6 h6 k6 => ?_
 refine nb_sto h6 e fun w7 h7 k7 => ?_
 refine nb_same h7 (by omega) rfl fun w8 h8 k8 => nb_same h8 (by omega) rfl fun w9 h9 k9 => nb_same h9 (by omega) rfl fun w10 h10 k10 => nb_same h10 (by omega) rfl fun w11 h11 k11 => nb_same h11 (by omega) (hz _ rfl rfl) fun w12 h12 k12 => ?_
 have kb : Keeps (fun k => k = b2) w2 w12 := ((((((((k3.trans k4).trans k5).trans k6).trans k7).trans k8).trans k9).trans k10).trans k11).trans k12
 have l2 := (h.below g1).below g2
 have b2g : w.heap.size ≤ b2 := by have := g1.size; omega
 have b1n : w.heap.size ≤ b1 := by omega
 have nb2 : b2 ≠ r.R ∧ b2 ≠ r.g := by have := h.R_lt; have := h.g_lt.2; omega
 have hb12 : b1 ≠ b2 := by omega
 have h1' : HB w12 b1 (eC e) 33 := (h1.below g2).keeps kb hb12
 have fin : ∀ w13, HB w13 b2 (nodeC (mkNd e)) 109 → Keeps (fun k => k = b2) w2 w13 → f_linkcut_Forest_make.j0 ⟨r.R, 0, none⟩ (⟨b2, 0, none⟩ : Addr) w13 (fun (x95 : Int) (w96 : World) => ∀ _ : Fr, (fun (en : Ending) (w' : World) => ∃ r' sp' i, en = .returned (.int .i64 ((i : Nat) : Int)) ∧ MkP w w' r r' N A c sp sp' i e) (.returned (.int .i64 x95)) w96) := by
  intro w13 h13 k13
  have l13 := l2.nb nb2 k13
  have kw : Keeps (fun _ => False) w w13 := ((Keeps.of_below g1).trans (.of_below g2)).trans' k13 (fun k hk e => by omega)
  have hs13 : Spr w13 r A c sp := ⟨hs.v, hs.own.keeps kw (fun _ _ => id), hs.ap, hs.lt⟩
  refine make_j0 l13 hn n0 hs13 h13 nb2 (fun a ha e => by have := (hs.own.block a ha).2; omega) fun w' r' sp' i m => ?_
  exact fun _ => ⟨r', sp', i, rfl, ⟨m.lp, m.spr, m.R, m.B, m.mv, m.me, m.mn, m.g.imp id fun h => Nat.le_trans kw.size h, (kw.mono fun _ _ h => h.elim).trans m.kp, m.it⟩⟩
 refine hb_ldI0 h1' rfl ?_
 by_cases i0 : 0 < e.id
 ·refine sel_t (by simpa using i0) (hb_ldI0 h1' rfl (hb_ldI h1' (j := 1) rfl (hb_ldI h1' (j := 2) rfl (hb_ldI h1' (j := 3) rfl (hb_ldI h1' (j := 3) rfl ?_)))))
  refine runs_of (run_convert_int_float _ _ _ .i64 .f64 _ (by rfl) (by rfl)) ⟨_, rfl, ?_⟩
  rw [add_add _ 8 1, add_add _ 8 2, add_add _ 8 3, add_add _ 8 4]
  refine nb_stm h12 e fun w13 h13 k13 => ?_
  have f1 : fb 1 = 4607182418800017408 := by decide
  refine nb_st h13 (by omega) (mkNd e) ?_ fun w14 h14 k14 => fin w14 h14 ((kb.trans k13).trans k14)
  rw [← f1]
  unfold mkNd
  simp only [if_pos i0]
  exact fld_cases ⟨rfl, rfl, rfl, rfl, rfl, rfl, rfl, rfl, rfl, rfl, rfl, rfl, rfl⟩
 ·refine sel_f (by simpa using i0) (fin w12 ?_ kb)
  have : mkNd e = { zNd with o := e } := by unfold mkNd; simp only [if_neg i0]; rfl
  rw [this]; exact h12
end Go.Proofs.Ytklnlnjgaadjbaa.Rd
namespace Go.Dn
open Go.RowKit
def oth (e : E) (m : Int) : Int := if e.u = m then e.v else e.u
inductive Wk (es : List E) : Int → List E → Int → Prop
 | nil (u : Int) : Wk es u [] u
 | cons {e : E} {m v : Int} {p : List E} (he : e ∈ es) (hm : e.u = m ∨ e.v = m) (h : Wk es (oth e m) p v) : Wk es m (e :: p) v
def NB : List E → Prop
 | [] => True
 | [_] => True
 | a :: b :: l => a.id ≠ b.id ∧ NB (b :: l)
theorem NB.tail {a : E} {l : List E} (h : NB (a :: l)) : NB l := by
 cases l with
 | nil => trivial
 | cons b l => exact h.2
def nds (vn en : Int → Nat) : Int → List E → List Nat
 | _, [] => []
 | m, e :: p => en e.id :: vn (oth e m) :: nds vn en (oth e m) p
structure Gr (vs : List Int) (es : List E) (vn en : Int → Nat) (own : Nat → E) (S : Nat → Prop) : Prop where
 vnd : vs.Nodup
 vr : ∀ v ∈ vs, 1 ≤ v ∧ v ≤ 2147483647
 vl : vs.length ≤ 2048
 eid : (es.map E.id).Nodup
 er : ∀ e ∈ es, 1 ≤ e.id ∧ e.id ≤ 2147483647 ∧ e.u ∈ vs ∧ e.v ∈ vs ∧ e.u ≠ e.v ∧ 0 ≤ e.w ∧ e.w ≤ 1099511627776
 vz : ∀ v, v ∉ vs → vn v = 0
 ez : ∀ i, i ∉ es.map E.id → en i = 0
 vS : ∀ v ∈ vs, S (vn v) ∧ own (vn v) = zE
 eS : ∀ e ∈ es, S (en e.id) ∧ own (en e.id) = e
 vi : ∀ u ∈ vs, ∀ v ∈ vs, vn u = vn v → u = v
 Sx : ∀ y, S y → (∃ v ∈ vs, y = vn v) ∨ (∃ e ∈ es, y = en e.id)
def Gn (es : List E) (vn en : Int → Nat) (y z : Nat) : Prop := ∃ e ∈ es, (y = en e.id ∧ (z = vn e.u ∨ z = vn e.v)) ∨ (z = en e.id ∧ (y = vn e.u ∨ y = vn e.v))
theorem Gr.ven {vs : List Int} {es : List E} {vn en : Int → Nat} {own : Nat → E} {S : Nat → Prop} (g : Gr vs es vn en own S) {v : Int} {e : E} (hv : v ∈ vs) (he : e ∈ es) : vn v ≠ en e.id := fun h => by
 have h1 := (g.vS v hv).2
 rw [h, (g.eS e he).2] at h1
 have := (g.er e he).1
 rw [h1] at this; simp [zE] at this
theorem Gr.ei {vs : List Int} {es : List E} {vn en : Int → Nat} {own : Nat → E} {S : Nat → Prop} (g : Gr vs es vn en own S) {e e' : E} (he : e ∈ es) (he' : e' ∈ es) (h : en e.id = en e'.id) : e = e' := by
 rw [← (g.eS e he).2, ← (g.eS e' he').2, h]
theorem oth_mem {vs : List Int} {es : List E} {vn en : Int → Nat} {own : Nat → E} {S : Nat → Prop} (g : Gr vs es vn en own S) {e : E} (he : e ∈ es) (m : Int) : oth e m ∈ vs := by
 unfold oth
 have := g.er e he
 split
 ·exact this.2.2.2.1
 ·exact this.2.2.1
theorem oth_ne {vs : List Int} {es : List E} {vn en : Int → Nat} {own : Nat → E} {S : Nat → Prop} (g : Gr vs es vn en own S) {e : E} (he : e ∈ es) {m : Int} (hm : e.u = m ∨ e.v = m) : oth e m ≠ m := by
 have := (g.er e he).2.2.2.2.1
 unfold oth
 split
 ·rename_i h; rw [← h]; exact fun e => this e.symm
 ·rename_i h; exact h
theorem oth_end (e : E) (m : Int) : e.u = oth e m ∨ e.v = oth e m := by unfold oth; split <;> simp
theorem oth_only {e : E} {m n : Int} (hm : e.u = m ∨ e.v = m) (hn : e.u = n ∨ e.v = n) (h : n ≠ m) : n = oth e m := by
 unfold oth
 split
 ·rename_i h1
  rcases hn with h2 | h2
  ·exact absurd (h2.symm.trans h1) h
  ·exact h2.symm
 ·rename_i h1
  rcases hn with h2 | h2
  ·exact h2.symm
  ·rcases hm with h3 | h3
   ·exact absurd h3 h1
   ·exact absurd (h2.symm.trans h3) h
theorem gn_ev {es : List E} {vn en : Int → Nat} {e : E} (he : e ∈ es) {m : Int} (hm : e.u = m ∨ e.v = m) : Gn es vn en (en e.id) (vn m) := ⟨e, he, .inl ⟨rfl, hm.imp (fun h => by rw [h]) (fun h => by rw [h])⟩⟩
theorem gn_of_e {vs : List Int} {es : List E} {vn en : Int → Nat} {own : Nat → E} {S : Nat → Prop} (g : Gr vs es vn en own S) {e : E} (he : e ∈ es) {z : Nat} (h : Gn es vn en (en e.id) z) : ∃ n, (e.u = n ∨ e.v = n) ∧ z = vn n := by
 obtain ⟨e', he', h | h⟩ := h
 ·have := g.ei he he' h.1
  subst this
  rcases h.2 with h2 | h2
  ·exact ⟨_, .inl rfl, h2⟩
  ·exact ⟨_, .inr rfl, h2⟩
 ·exfalso
  rcases h.2 with h2 | h2
  ·exact g.ven (g.er e' he').2.2.1 he h2.symm
  ·exact g.ven (g.er e' he').2.2.2.1 he h2.symm
theorem gn_of_v {vs : List Int} {es : List E} {vn en : Int → Nat} {own : Nat → E} {S : Nat → Prop} (g : Gr vs es vn en own S) {v : Int} (hv : v ∈ vs) {z : Nat} (h : Gn es vn en (vn v) z) : ∃ e ∈ es, (e.u = v ∨ e.v = v) ∧ z = en e.id := by
 obtain ⟨e', he', h | h⟩ := h
 ·exact absurd h.1 (g.ven hv he')
 ·refine ⟨e', he', ?_, h.1⟩
  rcases h.2 with h2 | h2
  ·exact .inl (g.vi _ hv _ (g.er e' he').2.2.1 h2).symm
  ·exact .inr (g.vi _ hv _ (g.er e' he').2.2.2.1 h2).symm
structure Tr (S : Nat → Prop) (par : Nat → Nat) : Prop where
 up : ∀ y, S y → ∃ c, Up par y c
 ps : ∀ y, S y → par y = 0 ∨ S (par y)
 nz : ∀ y, S y → y ≠ 0
theorem Up.inS {S : Nat → Prop} {par : Nat → Nat} (t : Tr S par) {x : Nat} {c : List Nat} (h : Up par x c) : S x → ∀ y ∈ c, S y := by
 induction h with
 | zero => intro hx; exact absurd rfl (t.nz 0 hx)
 | step h0 h ih =>
  intro hx y hy
  simp only [List.mem_append, List.mem_singleton] at hy
  rcases hy with hy | rfl
  ·rcases t.ps _ hx with h1 | h1
   ·rw [h1] at h
    cases h with
    | zero => simp at hy
    | step h2 _ => exact absurd rfl h2
   ·exact ih h1 y hy
  ·exact hx
theorem Tr.reroot {S : Nat → Prop} {par : Nat → Nat} (t : Tr S par) {a : Nat} (ha : S a) : ∃ par', par' a = 0 ∧ Tr S par' ∧ ∀ y z, AdjS S par' y z ↔ AdjS S par y z := by
 obtain ⟨c, hc⟩ := t.up a ha
 have hS := hc.inS t ha
 have nd := hc.nodup
 have hch := hc.chn.1
 have hl := hc.chn.2
 have c0 := hc.nz
 have hne : c ≠ [] := fun e => by rw [e] at hl; exact t.nz a ha hl.symm
 have hac : a ∈ c := by rw [← hl]; exact lst_mem hne
 have hrev : Chn (turnP par c) 0 c.reverse := (chn_rev nd).congr fun y hy => by unfold turnP; rw [if_pos (by simpa using hy)]
 have upc : ∀ y ∈ c, ∃ d, Up (turnP par c) y d := by
  intro y hy
  obtain ⟨l1, l2, e⟩ := List.append_of_mem (List.mem_reverse.2 hy)
  have h1 := hrev
  rw [e, show l1 ++ y :: l2 = (l1 ++ [y]) ++ l2 by simp] at h1
  have := Up.down (par := turnP par c) (q := 0) (c := []) .zero (chn_app.1 h1).1 (fun z hz => c0 z (List.mem_reverse.1 (by rw [e]; simp at hz ⊢; rcases hz with hz | hz <;> simp [hz])))
  rw [lst_app] at this
  exact ⟨_, this⟩
 refine ⟨turnP par c, ?_, ⟨?_, ?_, t.nz⟩, turn_adj hch nd t.nz c0⟩
 ·-- the last of the way has none behind it
  unfold turnP
  rw [if_pos hac]
  have : ∀ {l : List Nat} {q : Nat}, l.Nodup → l ≠ [] → nxt l (lst q l) = 0 := by
   intro l
   induction l with
   | nil => intro q _ h; exact absurd rfl h
   | cons x l ih =>
    intro q hn _
    cases l with
    | nil => rfl
    | cons y l =>
     have hn2 := List.nodup_cons.1 hn
     show nxt (x :: y :: l) (lst x (y :: l)) = 0
     rw [nxt_ne (fun e => hn2.1 (by rw [← e]; exact lst_mem (by simp)))]
     exact ih hn2.2 (by simp)
  have := this (l := c) (q := 0) nd hne
  rw [hl] at this; exact this
 ·intro y hy
  obtain ⟨d, hd⟩ := t.up y hy
  clear hy
  induction hd with
  | zero => exact ⟨[], .zero⟩
  | step k0 k ih =>
   rename_i x d
   by_cases e : x ∈ c
   ·exact upc x e
   ·obtain ⟨d', hd'⟩ := ih
    exact ⟨_, .step k0 (by unfold turnP at hd' ⊢; rw [if_neg e]; exact hd')⟩
 ·intro y hy
  unfold turnP
  by_cases e : y ∈ c
  ·rw [if_pos e]
   by_cases e2 : nxt c y = 0
   ·exact .inl e2
   ·exact .inr (hS _ (nxt_mem e2))
  ·rw [if_neg e]; exact t.ps y hy
theorem adj_same {S : Nat → Prop} {par : Nat → Nat} (t : Tr S par) {y z : Nat} (h : AdjS S par y z) : SameC par y z := by
 have key : ∀ {y z}, S y → S z → par y = z → SameC par y z := by
  intro y z hy hz e
  obtain ⟨c, hc⟩ := t.up z hz
  refine ⟨c ++ [y], c, .step (t.nz y hy) (by rw [e]; exact hc), hc, ?_⟩
  cases c with
  | nil => have := hc.chn.2; exact absurd this.symm (t.nz z hz)
  | cons a c => rfl
 rcases h.2.2 with e | e
 ·exact key h.1 h.2.1 e
 ·obtain ⟨a, b, h1, h2, h3⟩ := key h.2.1 h.1 e
  exact ⟨b, a, h2, h1, h3.symm⟩
theorem SameC.trans {par : Nat → Nat} {x y z : Nat} (h : SameC par x y) (k : SameC par y z) : SameC par x z := by
 obtain ⟨a, b, h1, h2, h3⟩ := h
 obtain ⟨c, d, k1, k2, k3⟩ := k
 have := h2.unique k1
 subst this
 exact ⟨a, d, h1, k2, h3.trans k3⟩
theorem SameC.symm {par : Nat → Nat} {x y : Nat} (h : SameC par x y) : SameC par y x := by
 obtain ⟨a, b, h1, h2, h3⟩ := h
 exact ⟨b, a, h2, h1, h3.symm⟩
theorem SameC.closed {S : Nat → Prop} {par : Nat → Nat} (t : Tr S par) {Q : Nat → Prop} (hQ : ∀ y z, AdjS S par y z → Q y → Q z) {a b : Nat} (ha : S a) (hb : S b) (h : SameC par a b) : Q a → Q b := by
 obtain ⟨ca, cb, h1, h2, h3⟩ := h
 have head : ∀ {x c ρ}, Up par x c → S x → c.head? = some ρ → (Q ρ ↔ Q x) := by
  intro x c ρ hu
  induction hu with
  | zero => intro _ h; simp at h
  | step k0 k ih =>
   rename_i x c
   intro hx hρ
   cases c with
   | nil => simp at hρ; subst hρ; exact Iff.rfl
   | cons y c =>
    have hρ' : (y :: c).head? = some ρ := by simpa using hρ
    have hp : S (par x) := by
     rcases t.ps x hx with e | e
     ·rw [e] at k; have := k.chn.2
      have h0 := k.nz y (by simp)
      exfalso
      have h9 := k.unique .zero
      simp at h9
     ·exact e
    rw [ih hp hρ']
    exact ⟨hQ _ _ ⟨hp, hx, .inr rfl⟩, hQ _ _ ⟨hx, hp, .inl rfl⟩⟩
 obtain ⟨ρ, hρ⟩ : ∃ ρ, ca.head? = some ρ := by
  cases ca with
  | nil => have := h1.chn.2; exact absurd this.symm (t.nz a ha)
  | cons y c => exact ⟨y, rfl⟩
 intro hq
 exact (head h2 hb (h3 ▸ hρ)).1 ((head h1 ha hρ).2 hq)
theorem SameC.congr {S : Nat → Prop} {par par' : Nat → Nat} (t : Tr S par) (t' : Tr S par') (hadj : ∀ y z, AdjS S par' y z ↔ AdjS S par y z) {a b : Nat} (ha : S a) (hb : S b) (h : SameC par a b) : SameC par' a b := by
 refine SameC.closed t (Q := fun y => SameC par' a y) (fun y z hyz hy => hy.trans (adj_same t' ((hadj y z).2 hyz))) ha hb h ?_
 obtain ⟨c, hc⟩ := t'.up a ha
 exact ⟨c, c, hc, hc, rfl⟩
section
variable {vs : List Int} {es : List E} {vn en : Int → Nat} {own : Nat → E} {S : Nat → Prop} {par : Nat → Nat}
theorem wk_up (g : Gr vs es vn en own S) (t : Tr S par) (ha : ∀ y z, AdjS S par y z ↔ Gn es vn en y z) : ∀ {p : List E} {m v : Int} {c : List Nat}, m ∈ vs → Up par (vn m) c → (∀ e l, p = e :: l → par (vn m) ≠ en e.id) → Wk es m p v → NB p → Up par (vn v) (c ++ nds vn en m p)
 | [], m, v, c, hm, hu, _, hw, _ => by
  cases hw
  simpa [nds] using hu
 | e :: p, m, v, c, hm, hu, hp, hw, hn => by
  cases hw with
  | cons he hem hw =>
   have h1 : par (en e.id) = vn m := by
    rcases ((ha _ _).2 (gn_ev (vn := vn) he hem)).2.2 with h | h
    ·exact h
    ·exact absurd h (hp e p rfl)
   have eS := (g.eS e he).1
   have h2 : Up par (en e.id) (c ++ [en e.id]) := .step (t.nz _ eS) (by rw [h1]; exact hu)
   have hom := oth_mem g he m
   have h3 : par (vn (oth e m)) = en e.id := by
    rcases ((ha _ _).2 (gn_ev (vn := vn) he (oth_end e m))).2.2 with h | h
    ·exact absurd (g.vi _ hom _ hm (h.symm.trans h1)) (oth_ne g he hem)
    ·exact h
   have h4 : Up par (vn (oth e m)) ((c ++ [en e.id]) ++ [vn (oth e m)]) := .step (t.nz _ (g.vS _ hom).1) (by rw [h3]; exact h2)
   have := wk_up g t ha hom h4 (fun e' l hl => by
    rw [h3]
    intro h
    subst hl
    cases hw with
    | cons he' _ _ => exact hn.1 (by rw [g.ei he he' h])) hw hn.tail
   simpa [nds] using this
theorem nds_inj (g : Gr vs es vn en own S) : ∀ {p q : List E} {m : Int}, (∀ e ∈ p, e ∈ es) → (∀ e ∈ q, e ∈ es) → nds vn en m p = nds vn en m q → p = q
 | [], [], _, _, _, _ => rfl
 | [], _ :: _, _, _, _, h => by simp [nds] at h
 | _ :: _, [], _, _, _, h => by simp [nds] at h
 | e :: p, e' :: q, m, hp, hq, h => by
  simp only [nds, List.cons.injEq] at h
  have := g.ei (hp e (by simp)) (hq e' (by simp)) h.1
  subst this
  rw [nds_inj g (fun x hx => hp x (by simp [hx])) (fun x hx => hq x (by simp [hx])) h.2.2]
theorem Wk.mem {p : List E} {m v : Int} (h : Wk es m p v) : ∀ e ∈ p, e ∈ es := by
 induction h with
 | nil => simp
 | cons he _ _ ih => intro x hx; rcases List.mem_cons.1 hx with rfl | hx; exact he; exact ih x hx
theorem wk_uniq (g : Gr vs es vn en own S) (t : Tr S par) (ha : ∀ y z, AdjS S par y z ↔ Gn es vn en y z) {p q : List E} {u v : Int} (hu : u ∈ vs) (hp : Wk es u p v) (np : NB p) (hq : Wk es u q v) (nq : NB q) : p = q := by
 obtain ⟨par', h0, t', hadj⟩ := t.reroot (g.vS u hu).1
 have ha' : ∀ y z, AdjS S par' y z ↔ Gn es vn en y z := fun y z => (hadj y z).trans (ha y z)
 have up : Up par' (vn u) ([] ++ [vn u]) := .step (t.nz _ (g.vS u hu).1) (by rw [h0]; exact .zero)
 have ne : ∀ {p : List E}, (∀ e ∈ p, e ∈ es) → ∀ e l, p = e :: l → par' (vn u) ≠ en e.id := fun hm e l hl => by
  rw [h0]; exact fun h => t.nz _ (g.eS e (hm e (by rw [hl]; simp))).1 h.symm
 have h1 := wk_up g t' ha' hu up (ne hp.mem) hp np
 have h2 := wk_up g t' ha' hu up (ne hq.mem) hq nq
 have := h1.unique h2
 exact nds_inj g hp.mem hq.mem (List.append_cancel_left this)
theorem chn_wk (g : Gr vs es vn en own S) (t : Tr S par) (ha : ∀ y z, AdjS S par y z ↔ Gn es vn en y z) : ∀ (n : Nat) {l : List Nat} {m v : Int}, l.length ≤ n → m ∈ vs → v ∈ vs → Chn par (vn m) l → (∀ y ∈ l, S y) → (vn m :: l).Nodup → lst (vn m) l = vn v → ∃ p, Wk es m p v ∧ NB p ∧ l = nds vn en m p
 | n, [], m, v, _, hm, hv, _, _, _, hl => by
  have := g.vi m hm v hv hl
  subst this
  exact ⟨[], .nil m, trivial, rfl⟩
 | n, [x], m, v, _, hm, hv, hc, hS, _, hl => by
  exfalso
  have hadj : AdjS S par (vn m) x := ⟨(g.vS m hm).1, hS x (by simp), .inr hc.1⟩
  obtain ⟨e, he, _, hx⟩ := gn_of_v g hm ((ha _ _).1 hadj)
  have : x = vn v := hl
  exact g.ven hv he (this.symm.trans hx)
 | 0, x :: y :: l, m, v, hle, _, _, _, _, _, _ => by simp at hle
 | n + 1, x :: y :: l, m, v, hle, hm, hv, hc, hS, hn, hl => by
  have hadj : AdjS S par (vn m) x := ⟨(g.vS m hm).1, hS x (by simp), .inr hc.1⟩
  obtain ⟨e, he, hem, hx⟩ := gn_of_v g hm ((ha _ _).1 hadj)
  have hadj2 : AdjS S par x y := ⟨hS x (by simp), hS y (by simp), .inr hc.2.1⟩
  rw [hx] at hadj2
  obtain ⟨n', hn', hy⟩ := gn_of_e g he ((ha _ _).1 hadj2)
  have hne : n' ≠ m := by
   intro e; rw [e] at hy
   simp only [List.nodup_cons, List.mem_cons, not_or] at hn
   exact hn.1.2.1 hy.symm
  have hn2 := oth_only hem hn' hne
  subst hn2
  have hc2 := hc.2.2
  rw [hy] at hc2
  have hnd : (vn (oth e m) :: l).Nodup := by rw [← hy]; exact (List.nodup_cons.1 (List.nodup_cons.1 hn).2).2
  obtain ⟨p, h1, h2, h3⟩ := chn_wk g t ha n (by simp at hle; omega) (oth_mem g he m) hv hc2 (fun z hz => hS z (by simp [hz])) hnd (by rw [← hy]; exact hl)
  refine ⟨e :: p, .cons he hem h1, ?_, by rw [hx, hy, h3]; rfl⟩
  cases p with
  | nil => trivial
  | cons e' p =>
   refine ⟨fun hid => ?_, h2⟩
   have hn2' := (List.nodup_cons.1 hn).2
   have hxl : x ∈ l := by rw [hx, hid, h3]; simp [nds]
   exact (List.nodup_cons.1 hn2').1 (List.mem_cons_of_mem _ hxl)
theorem wk_same (g : Gr vs es vn en own S) (t : Tr S par) (ha : ∀ y z, AdjS S par y z ↔ Gn es vn en y z) {p : List E} {u v : Int} (h : Wk es u p v) : u ∈ vs → SameC par (vn u) (vn v) := by
 induction h with
 | nil u =>
  intro hu
  obtain ⟨c, hc⟩ := t.up _ (g.vS u hu).1
  exact ⟨c, c, hc, hc, rfl⟩
 | cons he hm h ih =>
  rename_i e m v p
  intro hu
  exact (adj_same t ((ha _ _).2 (gn_ev (vn := vn) he hm))).symm.trans ((adj_same t ((ha _ _).2 (gn_ev (vn := vn) he (oth_end e m)))).trans (ih (oth_mem g he m)))
theorem same_wk (g : Gr vs es vn en own S) (t : Tr S par) (ha : ∀ y z, AdjS S par y z ↔ Gn es vn en y z) {u v : Int} (hu : u ∈ vs) (hv : v ∈ vs) : SameC par (vn u) (vn v) ↔ ∃ p, Wk es u p v ∧ NB p := by
 constructor
 ·intro h
  obtain ⟨par', h0, t', hadj⟩ := t.reroot (g.vS u hu).1
  have ha' : ∀ y z, AdjS S par' y z ↔ Gn es vn en y z := fun y z => (hadj y z).trans (ha y z)
  obtain ⟨ca, cb, h1, h2, h3⟩ := h.congr t t' hadj (g.vS u hu).1 (g.vS v hv).1
  have up : Up par' (vn u) ([] ++ [vn u]) := .step (t.nz _ (g.vS u hu).1) (by rw [h0]; exact .zero)
  have := h1.unique up
  subst this
  cases cb with
  | nil => simp at h3
  | cons x l =>
   have : x = vn u := by simpa using h3.symm
   subst this
   have hc := h2.chn
   obtain ⟨p, q1, q2, q3⟩ := chn_wk g t' ha' l.length (Nat.le_refl _) hu hv hc.1.2 (fun y hy => h2.inS t' (g.vS v hv).1 y (by simp [hy])) h2.nodup hc.2
   exact ⟨p, q1, q2⟩
 ·rintro ⟨p, hp, _⟩
  exact wk_same g t ha hp hu
end
theorem nodup_subI : ∀ {l m : List Int}, l.Nodup → (∀ x ∈ l, x ∈ m) → l.length ≤ m.length
 | [], _, _, _ => by simp
 | a :: l, m, nd, h => by
  rw [List.nodup_cons] at nd
  have ha : a ∈ m := h a (by simp)
  have := nodup_subI (l := l) (m := m.erase a) nd.2 fun x hx => (List.mem_erase_of_ne (fun (e : x = a) => nd.1 (by rw [← e]; exact hx))).2 (h x (by simp [hx]))
  rw [List.length_erase_of_mem ha] at this
  have := List.length_pos_of_mem ha
  simp only [List.length_cons]; omega
theorem nodup_map_of {α : Type} {f : α → Int} {g : α → Nat} : ∀ {l : List α}, (l.map f).Nodup → (∀ a ∈ l, ∀ b ∈ l, g a = g b → f a = f b) → (l.map g).Nodup
 | [], _, _ => by simp
 | a :: l, h, k => by
  rw [List.map_cons, List.nodup_cons] at h ⊢
  refine ⟨fun hm => ?_, nodup_map_of h.2 fun x hx y hy => k x (by simp [hx]) y (by simp [hy])⟩
  obtain ⟨b, hb, e⟩ := List.mem_map.1 hm
  have := k a (by simp) b (by simp [hb]) e.symm
  exact h.1 (this ▸ List.mem_map_of_mem hb)
section
variable {vs : List Int} {es : List E} {vn en : Int → Nat} {own : Nat → E} {S : Nat → Prop} {par : Nat → Nat}
theorem Gr.el (g : Gr vs es vn en own S) (t : Tr S par) (ha : ∀ y z, AdjS S par y z ↔ Gn es vn en y z) : es.length ≤ vs.length := by
 let k : E → Nat := fun e => if par (en e.id) = vn e.u then vn e.v else vn e.u
 have hk : ∀ e ∈ es, par (k e) = en e.id ∧ k e ∈ vs.map vn := by
  intro e he
  have r := g.er e he
  have hne : vn e.u ≠ vn e.v := fun h => r.2.2.2.2.1 (g.vi _ r.2.2.1 _ r.2.2.2.1 h)
  have hu := ((ha _ _).2 (gn_ev (vn := vn) he (.inl rfl))).2.2
  have hv := ((ha _ _).2 (gn_ev (vn := vn) he (.inr rfl))).2.2
  show par (if _ then _ else _) = _ ∧ (if _ then _ else _) ∈ _
  by_cases h : par (en e.id) = vn e.u
  ·rw [if_pos h]
   refine ⟨?_, List.mem_map_of_mem r.2.2.2.1⟩
   rcases hv with hv | hv
   ·exact absurd (h.symm.trans hv) hne
   ·exact hv
  ·rw [if_neg h]
   refine ⟨?_, List.mem_map_of_mem r.2.2.1⟩
   rcases hu with hu | hu
   ·exact absurd hu h
   ·exact hu
 have nd : (es.map k).Nodup := nodup_map_of g.eid fun a hA b hB e => by
  have := (hk a hA).1.symm.trans ((congrArg par e).trans (hk b hB).1)
  rw [g.ei hA hB this]
 have := nodup_sub nd (m := vs.map vn) fun x hx => by
  obtain ⟨e, he, rfl⟩ := List.mem_map.1 hx
  exact (hk e he).2
 simpa using this
end
theorem kw_bound {own : Nat → E} : ∀ {l : List Nat}, (∀ x ∈ l, own x = zE ∨ 0 < (own x).id ∧ 0 ≤ (own x).w ∧ (own x).w ≤ 1099511627776) → 0 ≤ wOf own l ∧ wOf own l ≤ 1099511627776 * kOf own l ∧ kOf own l = ((l.filter fun x => decide (0 < (own x).id)).length : Int)
 | [], _ => by simp [wOf, kOf]
 | x :: l, h => by
  obtain ⟨h1, h2, h3⟩ := kw_bound (l := l) fun y hy => h y (by simp [hy])
  rcases h x (by simp) with e | ⟨e1, e2, e3⟩
  ·simp only [wOf, kOf, k1, e, zE]
   have : ¬ (0 : Int) < 0 := by omega
   rw [if_neg this, List.filter_cons_of_neg (by simp [e, zE])]
   omega
  ·simp only [wOf, kOf, k1, if_pos e1]
   rw [List.filter_cons_of_pos (by simpa using e1), List.length_cons]
   omega
theorem sm_of {own : Nat → E} {S : Nat → Prop} {ids : List Int} (h1 : ∀ x, S x → own x = zE ∨ (own x).id ∈ ids ∧ 0 < (own x).id ∧ 0 ≤ (own x).w ∧ (own x).w ≤ 1099511627776) (h2 : ∀ x y, S x → S y → 0 < (own x).id → (own x).id = (own y).id → x = y) (h3 : ids.length ≤ 4096) : Sm own S := by
 intro l nd hS
 obtain ⟨k1, k2, k3⟩ := kw_bound (own := own) (l := l) fun x hx => (h1 x (hS x hx)).imp id fun h => h.2
 have nd2 : ((l.filter fun x => decide (0 < (own x).id)).map fun x => (own x).id).Nodup := by
  have : ∀ {l : List Nat}, l.Nodup → (∀ x ∈ l, S x ∧ 0 < (own x).id) → (l.map fun x => (own x).id).Nodup := by
   intro l
   induction l with
   | nil => intro _ _; simp
   | cons x l ih =>
    intro hn hm
    rw [List.nodup_cons] at hn
    rw [List.map_cons, List.nodup_cons]
    refine ⟨fun hx => ?_, ih hn.2 fun y hy => hm y (by simp [hy])⟩
    obtain ⟨y, hy, e⟩ := List.mem_map.1 hx
    have := h2 x y (hm x (by simp)).1 (hm y (by simp [hy])).1 (hm x (by simp)).2 e.symm
    exact hn.1 (this ▸ hy)
  exact this (nd.filter _) fun x hx => by
   rw [List.mem_filter] at hx
   exact ⟨hS x hx.1, by simpa using hx.2⟩
 have := nodup_subI nd2 (m := ids) fun i hi => by
  obtain ⟨x, hx, rfl⟩ := List.mem_map.1 hi
  rw [List.mem_filter] at hx
  rcases h1 x (hS x hx.1) with e | e
  ·have h5 := hx.2; rw [e] at h5; simp [zE] at h5
  ·exact e.1
 rw [List.length_map] at this
 unfold In53
 omega
def deg : List E → Int → Int
 | [], _ => 0
 | e :: es, v => (if e.u = v then 1 else 0) + (if e.v = v then 1 else 0) + deg es v
def sumW (p : List E) : Int := (p.map E.w).sum
structure MxP (p : List E) (e : E) : Prop where
 z : p = [] → e = zE
 s : p ≠ [] → e ∈ p ∧ ∀ a ∈ p, leE a e
end Go.Dn
namespace Go.Proofs.Ytklnlnjgaadjbaa.Rd
open Go.Dn Go.RowKit
set_option maxRecDepth 100000
abbrev TI : TypeId := 3
structure Rep' (w : World) (r : LC) (vs : List Int) (es : List E) (N : Nat → Nd) (own : Nat → E) (S : Nat → Prop) (par : Nat → Nat) (Fo : Fst) (vn en : Int → Nat) (nf : Int → Int) (nk : List Int) (A : Option Addr) (c : Nat) (sp : List Nat) : Prop where
 env : En own S r w N par Fo
 gr : Gr vs es vn en own S
 adj : ∀ y z, AdjS S par y z ↔ Gn es vn en y z
 own0 : own 0 = zE
 ov : OM Try.prog w TI r.mv vs (fun i => (vn i : Int))
 oe : OM Try.prog w TI r.me (es.map E.id) (fun i => (en i : Int))
 on : OM Try.prog w TI r.mn nk nf
 nfd : ∀ v ∈ vs, nf v = deg es v
 nkv : ∀ v ∈ nk, v ∈ vs
 spr : Spr w r A c sp
 spd : ∀ i ∈ sp, ¬ S i ∧ i ≠ 0
 spn : sp.Nodup
 cnt : r.n = 1 + vs.length + es.length + sp.length
 nb : r.n ≤ 10000
 dv : r.mv ≠ r.R ∧ r.mv ≠ r.g ∧ r.mv ≠ r.me ∧ r.mv ≠ r.mn
 de : r.me ≠ r.R ∧ r.me ≠ r.g ∧ r.me ≠ r.mn
 dn : r.mn ≠ r.R ∧ r.mn ≠ r.g
 da : ∀ a, A = some a → a.block ≠ r.mv ∧ a.block ≠ r.me ∧ a.block ≠ r.mn
def Fp (r : LC) (A : Option Addr) (k : Nat) : Prop := k = r.R ∨ k = r.g ∨ k = r.mv ∨ k = r.me ∨ k = r.mn ∨ ∃ a, A = some a ∧ a.block = k
def Rep (w : World) (F : Nat → Prop) (R : Nat) (vs : List Int) (es : List E) : Prop := ∃ r N own S par Fo vn en nf nk A c sp, r.R = R ∧ (∀ k, F k ↔ Fp r A k) ∧ Rep' w r vs es N own S par Fo vn en nf nk A c sp
structure Upd (F : Nat → Prop) (w w' : World) (F' : Nat → Prop) : Prop where
 kp : Keeps F w w'
 fr : ∀ k, F' k → F k ∨ w.heap.size ≤ k
theorem Upd.trans {F F' F2 : Nat → Prop} {w w' w2 : World} (h : Upd F w w' F') (k : Upd F' w' w2 F2) : Upd F w w2 F2 :=
 ⟨h.kp.trans' k.kp fun i hi h1 => (h.fr i h1).resolve_right (by omega), fun i hi => (k.fr i hi).elim (fun h1 => h.fr i h1) fun h1 => .inr (Nat.le_trans h.kp.size h1)⟩
section
variable {w : World} {r : LC} {vs : List Int} {es : List E} {N : Nat → Nd} {own : Nat → E} {S : Nat → Prop} {par : Nat → Nat} {Fo : Fst} {vn en : Int → Nat} {nf : Int → Int} {nk : List Int} {A : Option Addr} {c : Nat} {sp : List Nat}
theorem Rep'.tr (h : Rep' w r vs es N own S par Fo vn en nf nk A c sp) : Tr S par := ⟨h.env.fo.up, h.env.fo.ps, fun y hy => h.env.fo.nz hy⟩
theorem Rep'.turned (h : Rep' w r vs es N own S par Fo vn en nf nk A c sp) {w' : World} {N' : Nat → Nd} {par' : Nat → Nat} {Fo' : Fst} (e : En own S r w' N' par' Fo') (k : Keeps (fun k => k = r.g) w w') (ha : ∀ y z, AdjS S par' y z ↔ AdjS S par y z) : Rep' w' r vs es N' own S par' Fo' vn en nf nk A c sp :=
 ⟨e, h.gr, fun y z => (ha y z).trans (h.adj y z), h.own0, h.ov.keeps k h.dv.2.1, h.oe.keeps k h.de.2.1, h.on.keeps k h.dn.2, h.nfd, h.nkv, ⟨h.spr.v, h.spr.own.keeps k fun a ha => (h.spr.ap a ha).2, h.spr.ap, h.spr.lt⟩, h.spd, h.spn, h.cnt, h.nb, h.dv, h.de, h.dn, h.da⟩
theorem Rep'.other (h : Rep' w r vs es N own S par Fo vn en nf nk A c sp) {w' : World} {Q : Nat → Prop} (k : Keeps Q w w') (hQ : ∀ k, Q k → ¬ Fp r A k) : Rep' w' r vs es N own S par Fo vn en nf nk A c sp := by
 have n : ∀ k, Fp r A k → ¬ Q k := fun k hk hq => hQ k hq hk
 exact ⟨⟨h.env.lp.keeps k (n _ (.inl rfl)) (n _ (.inr (.inl rfl))), h.env.rm, h.env.fo, h.env.n0, h.env.nl⟩, h.gr, h.adj, h.own0, h.ov.keeps k (n _ (.inr (.inr (.inl rfl)))), h.oe.keeps k (n _ (.inr (.inr (.inr (.inl rfl))))), h.on.keeps k (n _ (.inr (.inr (.inr (.inr (.inl rfl)))))), h.nfd, h.nkv,
  ⟨h.spr.v, h.spr.own.keeps k fun a ha => n _ (.inr (.inr (.inr (.inr (.inr ⟨a, ha, rfl⟩))))), h.spr.ap, h.spr.lt⟩, h.spd, h.spn, h.cnt, h.nb, h.dv, h.de, h.dn, h.da⟩
theorem Rep'.lt (h : Rep' w r vs es N own S par Fo vn en nf nk A c sp) : ∀ k, Fp r A k → k < w.heap.size := by
 rintro k (rfl | rfl | rfl | rfl | rfl | ⟨a, ha, rfl⟩)
 ·exact h.env.lp.R_lt
 ·exact h.env.lp.g_lt.2
 ·exact h.ov.lt
 ·exact h.oe.lt
 ·exact h.on.lt
 ·exact (h.spr.own.block a ha).2
theorem Rep'.below (h : Rep' w r vs es N own S par Fo vn en nf nk A c sp) {w' : World} (hb : Below w.heap.size w w') : Rep' w' r vs es N own S par Fo vn en nf nk A c sp := h.other (Q := fun _ => False) (.of_below hb) (fun _ h => h.elim)
theorem Rep'.cm (h : Rep' w r vs es N own S par Fo vn en nf nk A c sp) : w.cell? ((⟨r.R, 0, none⟩ : Addr).add 1) = some (.map (some r.mv)) ∧ w.cell? ((⟨r.R, 0, none⟩ : Addr).add 2) = some (.map (some r.me)) ∧ w.cell? ((⟨r.R, 0, none⟩ : Addr).add 3) = some (.map (some r.mn)) :=
 ⟨by rw [h.env.lp.cellR]; rfl, by rw [h.env.lp.cellR]; rfl, by rw [h.env.lp.cellR]; rfl⟩
end
theorem Rep.other {w w' : World} {F Q : Nat → Prop} {R : Nat} {vs : List Int} {es : List E} (h : Rep w F R vs es) (k : Keeps Q w w') (hQ : ∀ k, Q k → ¬ F k) : Rep w' F R vs es := by
 obtain ⟨r, N, own, S, par, Fo, vn, en, nf, nk, A, c, sp, h1, h2, h3⟩ := h
 exact ⟨r, N, own, S, par, Fo, vn, en, nf, nk, A, c, sp, h1, h2, h3.other k fun k hk hf => hQ k hk ((h2 k).2 hf)⟩
theorem Rep.below {w w' : World} {F : Nat → Prop} {R : Nat} {vs : List Int} {es : List E} (h : Rep w F R vs es) (hb : Below w.heap.size w w') : Rep w' F R vs es := h.other (Q := fun _ => False) (.of_below hb) (fun _ h => h.elim)
theorem Rep.lt {w : World} {F : Nat → Prop} {R : Nat} {vs : List Int} {es : List E} (h : Rep w F R vs es) : ∀ k, F k → k < w.heap.size := by
 obtain ⟨r, N, own, S, par, Fo, vn, en, nf, nk, A, c, sp, h1, h2, h3⟩ := h
 exact fun k hk => h3.lt k ((h2 k).1 hk)
def badI (i : Int) : Prop := i < 1 ∨ i > 2147483647
theorem badId_ok (i : Int) (w : World) : Calls Try.prog 56 #[.int .i64 i] w fun e w' => (∃ b, e = .returned (.bool b) ∧ (b = true ↔ badI i)) ∧ w' = w := by
 apply f_linkcut_badId.ok
 unfold f_linkcut_badId.wp
 unfold badI
 by_cases h : i < 1
 ·exact sel_t (by simpa using h) ⟨⟨true, rfl, by simp [h]⟩, rfl⟩
 ·exact sel_f (by simpa using h) ⟨⟨_, rfl, by simp [h]⟩, rfl⟩
theorem W64.nat {n : Nat} (h : n ≤ 1000000) : W64 (n : Int) := by unfold W64; omega
theorem _root_.Go.Dn.Gr.en_pos {vs : List Int} {es : List E} {vn en : Int → Nat} {own : Nat → E} {S : Nat → Prop} (g : Gr vs es vn en own S) (hz : ∀ y, S y → y ≠ 0) (i : Int) : en i ≠ 0 ↔ ∃ e ∈ es, e.id = i := by
 constructor
 ·intro h
  by_cases hm : i ∈ es.map E.id
  ·obtain ⟨e, he, e2⟩ := List.mem_map.1 hm; exact ⟨e, he, e2⟩
  ·exact absurd (g.ez i hm) h
 ·rintro ⟨e, he, rfl⟩
  exact hz _ (g.eS e he).1
theorem _root_.Go.Dn.Gr.vn_pos {vs : List Int} {es : List E} {vn en : Int → Nat} {own : Nat → E} {S : Nat → Prop} (g : Gr vs es vn en own S) (hz : ∀ y, S y → y ≠ 0) (v : Int) : vn v ≠ 0 ↔ v ∈ vs := by
 constructor
 ·intro h
  by_cases hm : v ∈ vs
  ·exact hm
  ·exact absurd (g.vz v hm) h
 ·intro hv; exact hz _ (g.vS v hv).1
def edgeE (es : List E) (i : Int) : E := (es.find? fun e => e.id == i).getD zE
def edgeB (es : List E) (i : Int) : Bool := es.any fun e => e.id == i
theorem Joined_ok {w : World} {F : Nat → Prop} {R : Nat} {vs : List Int} {es : List E} (h : Rep w F R vs es) {u v : Int} (hu : W64 u) (hv : W64 v) :
  Calls Try.prog 53 #[.pointer (some ⟨R, 0, none⟩), .int .i64 u, .int .i64 v] w fun e w' => (∃ b, e = .returned (.tuple #[.bool b, .int .i64 (if u ∈ vs ∧ v ∈ vs then 0 else 51)]) ∧ (b = true ↔ u ∈ vs ∧ v ∈ vs ∧ ∃ p, Wk es u p v ∧ NB p)) ∧ Rep w' F R vs es ∧ Upd F w w' F := by
 have h0 := h
 obtain ⟨r, N, own, S, par, Fo, vn, en, nf, nk, A, c, sp, rfl, h2, h3⟩ := h
 apply f_linkcut_Forest_Joined.ok
 unfold f_linkcut_Forest_Joined.wp
 have hd : Rep' w.drew r vs es N own S par Fo vn en nf nk A c sp := h3.below (Below.refl _ _).drew
 refine drW_intro ⟨f_linkcut_Forest_Joined.h1_ok .., fun a b => a = b, fun i x _ => (i = 3 → x = .map (some r.mv)) ∧ (i = 5 → x = .int .i64 (vn u : Int)) ∧ (i = 9 → x = .map (some r.mv)) ∧ (i = 11 → x = .int .i64 (vn v : Int)), fun _ => rfl, fun _ _ _ h k => h.trans k, fun _ _ _ _ _ _ h => h, ⟨?_, ?_, ?_, ?_, trivial⟩, ?_⟩
 ·rintro _ w1 rfl
  exact ⟨_, hd.cm.1, rfl, by simp⟩
 ·rintro _ w1 rfl me hme
  rw [show me = some r.mv by have := hme.1 rfl; injection this]
  exact hd.ov.look MTi hu ⟨_, rfl, rfl, by simp⟩
 ·rintro _ w1 rfl
  exact ⟨_, hd.cm.1, rfl, by simp⟩
 ·rintro _ w1 rfl me hme
  rw [show me = some r.mv by have := hme.2.2.1 rfl; injection this]
  exact hd.ov.look MTi hv ⟨_, rfl, rfl, by simp⟩
 ·rintro w1 rfl me3 _ x5 h5 me9 _ x11 h11
  have e5 : x5 = (vn u : Int) := by have := h5.2.1 rfl; injection this
  have e11 : x11 = (vn v : Int) := by have := h11.2.2.2 rfl; injection this
  subst e5; subst e11
  have pu := h3.gr.vn_pos h3.tr.nz u
  have pv := h3.gr.vn_pos h3.tr.nz v
  by_cases u0 : vn u = 0
  ·have hn : ¬ u ∈ vs := fun h => pu.2 h u0
   refine sel_t (by simp [u0]) ⟨⟨false, by rw [if_neg (fun h => hn h.1)], by simp [hn]⟩, h0.below (Below.refl _ _).drew, (Keeps.refl _ _).drew, fun k hk => .inl hk⟩
  refine sel_f (by simp; omega) ?_
  by_cases v0 : vn v = 0
  ·have hn : ¬ v ∈ vs := fun h => pv.2 h v0
   refine sel_t (by simp [v0]) ⟨⟨false, by rw [if_neg (fun h => hn h.2)], by simp [hn]⟩, h0.below (Below.refl _ _).drew, (Keeps.refl _ _).drew, fun k hk => .inl hk⟩
  refine sel_f (by simp; omega) ?_
  have hu' := pu.1 u0
  have hv' := pv.1 v0
  refine (joined_ok hd.env (h3.gr.vS u hu').1 (h3.gr.vS v hv').1).mono ?_
  rintro e w2 ⟨⟨b, rfl, hb⟩, N', Fo', en2, k2⟩
  refine ⟨_, rfl, ⟨b, by rw [if_pos ⟨hu', hv'⟩], ?_⟩, ⟨r, N', own, S, par, Fo', vn, en, nf, nk, A, c, sp, rfl, h2, hd.turned en2 k2 (fun _ _ => Iff.rfl)⟩, (Keeps.refl _ _).drew.trans (k2.mono fun k _ hk => (h2 k).2 (.inr (.inl hk))), fun k hk => .inl hk⟩
  rw [hb, same_wk h3.gr h3.tr h3.adj hu' hv']
  simp [hu', hv']
end Go.Proofs.Ytklnlnjgaadjbaa.Rd
namespace Go.Dn
open Go.RowKit
section
variable {vs : List Int} {es : List E} {vn en : Int → Nat} {own : Nat → E} {S : Nat → Prop} {par : Nat → Nat}
theorem nds_sum (g : Gr vs es vn en own S) : ∀ {p : List E} {m : Int}, (∀ e ∈ p, e ∈ es) → wOf own (nds vn en m p) = sumW p ∧ kOf own (nds vn en m p) = (p.length : Int)
 | [], _, _ => by simp [nds, wOf, kOf, sumW]
 | e :: p, m, h => by
  have he := h e (by simp)
  obtain ⟨h1, h2⟩ := nds_sum g (m := oth e m) fun x hx => h x (List.mem_cons_of_mem e hx)
  have ov := (g.vS _ (oth_mem g he m)).2
  have oe := (g.eS e he).2
  have := (g.er e he).1
  simp only [nds, wOf, kOf, k1, ov, oe, h1, h2, sumW, List.map_cons, List.sum_cons, List.length_cons, zE]
  rw [if_pos (by omega), if_neg (by omega)]
  constructor
  ·show e.w + (0 + sumW p) = e.w + sumW p
   omega
  ·omega
theorem nds_mem : ∀ {p : List E} {m : Int} {x : Nat}, x ∈ nds vn en m p → (∃ e ∈ p, x = en e.id) ∨ ∃ e ∈ p, ∃ n, x = vn (oth e n)
 | [], _, _, h => by simp [nds] at h
 | e :: p, m, x, h => by
  simp only [nds, List.mem_cons] at h
  rcases h with rfl | rfl | h
  ·exact .inl ⟨e, by simp, rfl⟩
  ·exact .inr ⟨e, by simp, m, rfl⟩
  ·rcases nds_mem h with ⟨e', h1, h2⟩ | ⟨e', h1, h2⟩
   ·exact .inl ⟨e', by simp [h1], h2⟩
   ·exact .inr ⟨e', by simp [h1], h2⟩
theorem mem_nds : ∀ {p : List E} {m : Int} {e : E}, e ∈ p → en e.id ∈ nds vn en m p
 | [], _, _, h => by simp at h
 | a :: p, m, e, h => by
  rcases List.mem_cons.1 h with rfl | h
  ·simp [nds]
  ·simp [nds, mem_nds h]
theorem nds_max (g : Gr vs es vn en own S) {p : List E} {m : Int} (hm : m ∈ vs) (h : ∀ e ∈ p, e ∈ es) {x : E} (hx : IsMx own (vn m :: nds vn en m p) x) : MxP p x := by
 have ovm := (g.vS m hm).2
 have key : ∀ y ∈ vn m :: nds vn en m p, (own y).id ≠ 0 → own y ∈ p := by
  intro y hy h0
  rcases List.mem_cons.1 hy with rfl | hy
  ·rw [ovm] at h0; exact absurd rfl h0
  ·rcases nds_mem hy with ⟨e, h1, rfl⟩ | ⟨e, h1, n, rfl⟩
   ·rw [(g.eS e (h e h1)).2]; exact h1
   ·rw [(g.vS _ (oth_mem g (h e h1) n)).2] at h0; exact absurd rfl h0
 refine ⟨fun hp => ?_, fun hp => ?_⟩
 ·by_cases h0 : x.id = 0
  ·exact (hx.z h0).1
  ·obtain ⟨_, ⟨y, hy, e⟩, _⟩ := hx.s h0
   have := key y hy (by rw [e]; exact h0)
   rw [hp] at this; simp at this
 ·by_cases h0 : x.id = 0
  ·exfalso
   obtain ⟨e, he⟩ := List.exists_mem_of_ne_nil p hp
   have := (hx.z h0).2 (en e.id) (List.mem_cons_of_mem _ (mem_nds he))
   rw [(g.eS e (h e he)).2] at this
   have := (g.er e (h e he)).1
   omega
  ·obtain ⟨_, ⟨y, hy, e⟩, h3⟩ := hx.s h0
   refine ⟨e ▸ key y hy (by rw [e]; exact h0), fun a ha => ?_⟩
   have := h3 (en a.id) (List.mem_cons_of_mem _ (mem_nds ha))
   rw [(g.eS a (h a ha)).2] at this
   exact this (by have := (g.er a (h a ha)).1; omega)
end
def AlongR (vs : List Int) (es : List E) (u v : Int) (mx : E) (W K code : Int) : Prop :=
 (¬ (u ∈ vs ∧ v ∈ vs) ∧ mx = zE ∧ W = 0 ∧ K = 0 ∧ code = 51) ∨ (u ∈ vs ∧ v ∈ vs ∧ (¬ ∃ p, Wk es u p v ∧ NB p) ∧ mx = zE ∧ W = 0 ∧ K = 0 ∧ code = 61) ∨
 (u ∈ vs ∧ v ∈ vs ∧ ∃ p, Wk es u p v ∧ NB p ∧ MxP p mx ∧ W = sumW p ∧ K = (p.length : Int) ∧ code = 0)
def aC (mx : E) (W K : Int) : Array Value := #[.int .i64 mx.id, .int .i64 mx.u, .int .i64 mx.v, .int .i64 mx.w, .complex .f64 (fb W) (fb K)]
theorem aC_zero : aC zE 0 0 = #[.int .i64 0, .int .i64 0, .int .i64 0, .int .i64 0, .complex .f64 0 0] := by simp only [aC, zE, fb_zero]
end Go.Dn
namespace Go.Proofs.Ytklnlnjgaadjbaa.Rd
open Go.Dn Go.RowKit
set_option maxRecDepth 100000
theorem put5 {w : World} {b : Nat} {m0 m : E} {W0 K0 : Int} {p q : Nat} {t : TypeId} (h : HB w b (aC m0 W0 K0) t) {K : Int → Int → Int → Int → Nat → Nat → World → Prop} (hk : ∀ w', HB w' b #[.int .i64 m.id, .int .i64 m.u, .int .i64 m.v, .int .i64 m.w, .complex .f64 p q] t → Keeps (fun k => k = b) w w' → K m.id m.u m.v m.w p q w') :
  stW w (⟨b, 0, none⟩ : Addr) (.int .i64 m.id) fun w6 => stW w6 ((⟨b, 0, none⟩ : Addr).add 1) (.int .i64 m.u) fun w7 => stW w7 ((⟨b, 0, none⟩ : Addr).add 2) (.int .i64 m.v) fun w8 => stW w8 ((⟨b, 0, none⟩ : Addr).add 3) (.int .i64 m.w) fun w9 => stW w9 ((⟨b, 0, none⟩ : Addr).add 4) (.complex .f64 p q) fun w10 =>
  ldI w10 (⟨b, 0, none⟩ : Addr) .i64 fun x11 => ldI w10 ((⟨b, 0, none⟩ : Addr).add 1) .i64 fun x12 => ldI w10 ((⟨b, 0, none⟩ : Addr).add 2) .i64 fun x13 => ldI w10 ((⟨b, 0, none⟩ : Addr).add 3) .i64 fun x14 => ldC w10 ((⟨b, 0, none⟩ : Addr).add 4) .f64 fun r15 i15 => K x11 x12 x13 x14 r15 i15 w10 := by
 refine hb_st0 h (by simp [aC]) fun w1 h1 k1 => hb_st h1 (j := 1) (by simp [aC]) fun w2 h2 k2 => hb_st h2 (j := 2) (by simp [aC]) fun w3 h3 k3 => hb_st h3 (j := 3) (by simp [aC]) fun w4 h4 k4 => hb_st h4 (j := 4) (by simp [aC]) fun w5 h5 k5 => ?_
 have h5 : HB w5 b #[.int .i64 m.id, .int .i64 m.u, .int .i64 m.v, .int .i64 m.w, .complex .f64 p q] t := h5
 refine hb_ldI0 h5 rfl (hb_ldI h5 (j := 1) rfl (hb_ldI h5 (j := 2) rfl (hb_ldI h5 (j := 3) rfl ⟨_, _, (h5.cell 4).trans rfl, hk _ h5 ?_⟩)))
 exact ((k1.trans k2).trans (k3.trans k4)).trans k5
theorem Along_ok {w : World} {F : Nat → Prop} {R : Nat} {vs : List Int} {es : List E} (h : Rep w F R vs es) {u v : Int} (hu : W64 u) (hv : W64 v) :
  Calls Try.prog 32 #[.pointer (some ⟨R, 0, none⟩), .int .i64 u, .int .i64 v] w fun e w' => (∃ mx W K code, e = .returned (.tuple #[.agg (aC mx W K), .int .i64 code]) ∧ AlongR vs es u v mx W K code) ∧ Rep w' F R vs es ∧ Upd F w w' F := by
 apply f_linkcut_Forest_Along.ok
 unfold f_linkcut_Forest_Along.wp
 refine al_new fun w1 b1 e1 s1 hb1 g1 => ?_
 have hb1 : HB w1 b1 (aC zE 0 0) 69 := by rw [aC_zero]; exact hb1
 have h1 := h.below g1
 have nF : ¬ F b1 := fun hf => by have := h.lt b1 hf; omega
 refine (Joined_ok h1 hu hv).mono ?_
 rintro e w4 ⟨⟨b, rfl, hb⟩, h4, u4⟩
 refine ⟨_, _, rfl, ?_⟩
 have hb4 : HB w4 b1 (aC zE 0 0) 69 := hb1.keeps u4.kp nF
 have U4 : Upd F w w4 F := ⟨(Keeps.of_below g1).trans u4.kp, fun k hk => .inl hk⟩
 have U5 : ∀ {w5 w6 : World} {F'}, Upd F w w5 F' → Keeps (fun k => k = b1) w5 w6 → Upd F w w6 F' := fun hU hk => ⟨hU.kp.trans' hk fun k hk e => by omega, hU.fr⟩
 by_cases huv : u ∈ vs ∧ v ∈ vs
 ·rw [if_pos huv]
  refine sel_f (by simp) ?_
  cases b with
  | false =>
   refine sel_t rfl ?_
   refine put5 (m := zE) hb4 fun w6 h6 k6 => ⟨⟨zE, 0, 0, 61, ?_, .inr (.inl ⟨huv.1, huv.2, fun hp => ?_, rfl, rfl, rfl, rfl⟩)⟩, h4.other k6 (fun k e hf => nF (e ▸ hf)), U5 U4 k6⟩
   ·rw [aC_zero]; rfl
   ·have := hb.2 ⟨huv.1, huv.2, hp⟩; cases this
  | true =>
   refine sel_f rfl ?_
   have hw := (hb.1 rfl).2.2
   obtain ⟨r, N, own, S, par, Fo, vn, en, nf, nk, A, c, sp, rfl, hF, h4'⟩ := h4
   have uS := (h4'.gr.vS u huv.1).1
   have vS := (h4'.gr.vS v huv.2).1
   refine ⟨_, h4'.cm.1, h4'.ov.look MTi hu ⟨_, rfl, ?_⟩⟩
   refine (root_ok h4'.env uS).mono ?_
   rintro e w5 ⟨rfl, par1, N1, F1, ta, p1⟩
   have r5 := h4'.turned p1.en p1.kp p1.adj
   refine ⟨rfl, _, r5.cm.1, r5.ov.look MTi hv ⟨_, rfl, (access_ok p1.en vS).mono ?_⟩⟩
   rintro e w6 ⟨rfl, N2, F2, tb, p2⟩
   have r6 := r5.turned p2.en p2.kp (fun _ _ => Iff.rfl)
   have kg : Keeps (fun k => k = r.g) w4 w6 := p1.kp.trans p2.kp
   have hd : Rep' w6.drew r vs es N2 own S par1 F2 vn en nf nk A c sp := r6.below (Below.refl _ _).drew
   refine ⟨rfl, drW_intro ⟨fun w' => w' = w6.drew, rfl, _, _, _, fun w' e => by rw [e]; exact hd.env.lp.sl0, _, fun w' e => by rw [e]; exact hd.cm.1, hd.ov.look MTi hv ⟨_, rfl, rfl, optB_some rfl (req_intro (by have := hd.env.rm.sl _ vS; simp; omega) ?_)⟩⟩⟩
   have vlt := hd.env.rm.sl _ vS
   rw [add_add _ 8 1, add_add _ 8 2, add_add _ 8 3, add_add _ 8 4]
   refine ⟨_, fun w' e => by rw [e]; exact hd.env.lp.cell vlt rfl (j := 8) (by omega), _, fun w' e => by rw [e]; exact hd.env.lp.cell vlt rfl (j := 9) (by omega), _, fun w' e => by rw [e]; exact hd.env.lp.cell vlt rfl (j := 10) (by omega), _, fun w' e => by rw [e]; exact hd.env.lp.cell vlt rfl (j := 11) (by omega), _, _, fun w' e => by rw [e]; exact hd.env.lp.cell vlt rfl (j := 12) (by omega), ?_⟩
   have nb1 : b1 ≠ r.g := fun e => nF ((hF b1).2 (.inr (.inl e)))
   have hb6 : HB w6 b1 (aC zE 0 0) 69 := hb4.keeps kg nb1
   have hb6' : HB w6.drew b1 (aC zE 0 0) 69 := hb6
   have ok2 := (p2.en.fo.ok _ _ p2.top).1
   have ag : Ag own (tb.ids ++ [vn v]) (N2 (vn v)) := ok2.2.2.2.2.2.1
   have ag2 : Ag own (tb.flat ++ [vn v]) (N2 (vn v)) := ag.perm ((ST.flat_perm tb).symm.append_right _)
   have t1 : Tr S par1 := ⟨p1.en.fo.up, p1.en.fo.ps, fun y hy => p1.en.fo.nz hy⟩
   have same : SameC par1 (vn u) (vn v) := ((same_wk r5.gr t1 r5.adj huv.1 huv.2).2 hw)
   obtain ⟨ca, cb, c1, c2, c3⟩ := same
   have up : Up par1 (vn u) ([] ++ [vn u]) := .step (t1.nz _ uS) (by rw [p1.par0]; exact .zero)
   have e1 := c1.unique up
   have e2 := c2.unique p2.way
   subst e1
   have hhead : (tb.flat ++ [vn v]).head? = some (vn u) := by rw [← e2, ← c3]; rfl
   obtain ⟨l, hl⟩ : ∃ l, tb.flat ++ [vn v] = vn u :: l := by
    cases hh : tb.flat ++ [vn v] with
    | nil => rw [hh] at hhead; simp at hhead
    | cons x l => rw [hh] at hhead; simp at hhead; exact ⟨l, by rw [hhead]⟩
   have hway := p2.way
   rw [hl] at hway
   have hch := hway.chn
   obtain ⟨p, q1, q2, q3⟩ := chn_wk r5.gr t1 r5.adj l.length (Nat.le_refl _) huv.1 huv.2 hch.1.2 (fun y hy => hway.inS t1 vS y (by simp [hy])) hway.nodup hch.2
   rw [hl, q3] at ag2
   have hsum := nds_sum r5.gr (m := u) q1.mem
   have ovu := (r5.gr.vS u huv.1).2
   have hW : (N2 (vn v)).sr = sumW p := by rw [ag2.sr]; simp only [wOf, ovu, zE, hsum.1]; omega
   have hK : (N2 (vn v)).si = (p.length : Int) := by
    rw [ag2.si]; simp only [kOf, k1, ovu, zE, hsum.2]
    rw [if_neg (by omega)]; omega
   refine put5 (m := (N2 (vn v)).mx) hb6' fun w7 h7 k7 => ⟨⟨(N2 (vn v)).mx, sumW p, p.length, 0, ?_, .inr (.inr ⟨huv.1, huv.2, p, q1, q2, nds_max r5.gr huv.1 q1.mem ag2.mx, rfl, rfl, rfl⟩)⟩, ?_, ?_⟩
   ·rw [hW, hK]; rfl
   ·exact ⟨r, N2, own, S, par1, F2, vn, en, nf, nk, A, c, sp, rfl, hF, hd.other k7 fun k e hf => nF ((hF k).2 hf |> (e ▸ ·))⟩
   ·refine ⟨(U4.kp.trans (kg.mono fun k _ e => (hF k).2 (.inr (.inl e)))).drew.trans' k7 fun k hk e => by omega, fun k hk => .inl hk⟩
 ·rw [if_neg huv]
  refine sel_t (by decide) ?_
  refine put5 (m := zE) hb4 fun w6 h6 k6 => ⟨⟨zE, 0, 0, 51, ?_, .inl ⟨huv, rfl, rfl, rfl, rfl⟩⟩, h4.other k6 (fun k e hf => nF (e ▸ hf)), U5 U4 k6⟩
  rw [aC_zero]; rfl
theorem Rep.uniq {w : World} {F : Nat → Prop} {R : Nat} {vs : List Int} {es : List E} (h : Rep w F R vs es) {u v : Int} {p q : List E} (hu : u ∈ vs) (hp : Wk es u p v) (np : NB p) (hq : Wk es u q v) (nq : NB q) : p = q := by
 obtain ⟨r, N, own, S, par, Fo, vn, en, nf, nk, A, c, sp, rfl, hF, h3⟩ := h
 exact wk_uniq h3.gr h3.tr h3.adj hu hp np hq nq
end Go.Proofs.Ytklnlnjgaadjbaa.Rd
namespace Go.Dn
open Go.RowKit
theorem wOf_congr {own own' : Nat → E} : ∀ {l : List Nat}, (∀ y ∈ l, own' y = own y) → wOf own' l = wOf own l ∧ kOf own' l = kOf own l
 | [], _ => ⟨rfl, rfl⟩
 | x :: l, h => by
  obtain ⟨h1, h2⟩ := wOf_congr (l := l) fun y hy => h y (by simp [hy])
  simp only [wOf, kOf, h1, h2, h x (by simp)]; exact ⟨trivial, trivial⟩
theorem IsMx.own {own own' : Nat → E} {l : List Nat} {e : E} (h : IsMx own l e) (ho : ∀ y ∈ l, own' y = own y) : IsMx own' l e where
 z := fun h0 => ⟨(h.z h0).1, fun x hx => by rw [ho x hx]; exact (h.z h0).2 x hx⟩
 s := fun h0 => by
  obtain ⟨h1, ⟨x, hx, he⟩, h3⟩ := h.s h0
  exact ⟨h1, ⟨x, hx, (ho x hx).trans he⟩, fun y hy hn => by rw [ho y hy] at hn ⊢; exact h3 y hy hn⟩
theorem Ag.own {own own' : Nat → E} {l : List Nat} {d : Nd} (h : Ag own l d) (ho : ∀ y ∈ l, own' y = own y) : Ag own' l d :=
 ⟨h.mx.own ho, h.sr.trans (wOf_congr ho).1.symm, h.si.trans (wOf_congr ho).2.symm⟩
theorem OkS.own {N : Nat → Nd} {own own' : Nat → E} : ∀ {t : ST} {up : Nat}, OkS N own t up → (∀ y ∈ t.ids, own' y = own y) → OkS N own' t up
 | .nil, _, _, _ => trivial
 | .node x t l r, up, ⟨h1, h2, h3, h4, h5, h6, h7, h8⟩, hN =>
  ⟨h1, h2, h3, h4, h5, h6.own fun y hy => hN y hy, OkS.own h7 fun y hy => hN y (by simp [ST.ids, hy]), OkS.own h8 fun y hy => hN y (by simp [ST.ids, hy])⟩
def setO {α : Type} (f : Nat → α) (i : Nat) (a : α) (y : Nat) : α := if y = i then a else f y
theorem setO_same {α : Type} (f : Nat → α) (i : Nat) (a : α) : setO f i a i = a := by simp [setO]
theorem setO_ne {α : Type} (f : Nat → α) {i y : Nat} (a : α) (h : y ≠ i) : setO f i a y = f y := by simp [setO, h]
theorem FoOk.add {own own' : Nat → E} {S : Nat → Prop} {N N' : Nat → Nd} {par : Nat → Nat} {Fo : Fst} (h : FoOk own S N par Fo) {i : Nat} (hi : ¬ S i) (ho : ∀ y, y ≠ i → own' y = own y) (hN : ∀ y, y ≠ i → N' y = N y) (hok : OkS N' own' (.node i false .nil .nil) 0) :
  FoOk own' (fun y => S y ∨ y = i) N' (setP par i 0) (fun p => p = (.node i false .nil .nil, 0) ∨ Fo p) := by
 have old : ∀ p, Fo p → ∀ z ∈ p.1.ids, z ≠ i := fun p hp z hz e => hi (e ▸ (h.mem z).2 ⟨p, hp, hz⟩)
 have m1 : ∀ z, z ∈ (ST.node i false .nil .nil).ids → z = i := fun z hz => by simpa [ST.ids] using hz
 refine ⟨?_, ?_, ?_, ?_, ?_⟩
 ·rintro T q (e | h1)
  ·injection e with e1 e2
   subst e1; subst e2
   exact ⟨hok, hok.1, ⟨setP_same _ _ _, trivial⟩, by simp [ST.ids]⟩
  ·obtain ⟨o1, o2, o3, o4⟩ := h.ok T q h1
   exact ⟨(o1.congr fun z hz => hN z (old _ h1 z hz)).own fun z hz => ho z (old _ h1 z hz), o2, o3.congr fun z hz => setP_ne _ _ (old _ h1 z (flat_mem.1 hz)), o4⟩
 ·rintro p p' z (rfl | h1) (rfl | k1) hz hz2
  ·rfl
  ·exact absurd (m1 z hz) (old _ k1 z hz2)
  ·exact absurd (m1 z hz2) (old _ h1 z hz)
  ·exact h.uq p p' z h1 k1 hz hz2
 ·intro z
  rw [h.mem z]
  constructor
  ·rintro (⟨p, hp, hz⟩ | rfl)
   ·exact ⟨p, .inr hp, hz⟩
   ·exact ⟨_, .inl rfl, by simp [ST.ids]⟩
  ·rintro ⟨p, rfl | h1, hz⟩
   ·exact .inr (m1 z hz)
   ·exact .inl ⟨p, h1, hz⟩
 ·rintro y (hy | rfl)
  ·obtain ⟨c, hc⟩ := h.up y hy
   exact up_zero (setP_same _ _ _) (fun y hy => setP_ne _ _ hy) hc
  ·exact ⟨_, .step hok.1 (by rw [setP_same]; exact .zero)⟩
 ·rintro y (hy | rfl)
  ·rw [setP_ne _ _ (fun e => hi (by rw [← e]; exact hy))]
   exact (h.ps y hy).imp id .inl
  ·exact .inl (setP_same _ _ _)
theorem adj_add {S : Nat → Prop} {par : Nat → Nat} {i : Nat} (hi : ¬ S i) (i0 : i ≠ 0) (ps : ∀ y, S y → par y = 0 ∨ S (par y)) (hz : ∀ y, S y → y ≠ 0) (y z : Nat) : AdjS (fun y => S y ∨ y = i) (setP par i 0) y z ↔ AdjS S par y z := by
 have key : ∀ y z, (S y ∨ y = i) → (S z ∨ z = i) → setP par i 0 y = z → S y ∧ S z ∧ par y = z := by
  intro y z hy hzz e
  by_cases e1 : y = i
  ·subst e1; rw [setP_same] at e
   rcases hzz with h | h
   ·exact absurd e.symm (hz z h)
   ·exact absurd (h.symm.trans e.symm) i0
  ·have hy := hy.resolve_right e1
   rw [setP_ne _ _ e1] at e
   rcases hzz with h | h
   ·exact ⟨hy, h, e⟩
   ·rcases ps y hy with h2 | h2
    ·exact absurd (h.symm.trans (e.symm.trans h2)) i0
    ·exact absurd (h ▸ e ▸ h2) hi
 constructor
 ·rintro ⟨h1, h2, h3 | h3⟩
  ·obtain ⟨a, b, c⟩ := key y z h1 h2 h3; exact ⟨a, b, .inl c⟩
  ·obtain ⟨a, b, c⟩ := key z y h2 h1 h3; exact ⟨b, a, .inr c⟩
 ·rintro ⟨h1, h2, h3⟩
  refine ⟨.inl h1, .inl h2, ?_⟩
  rw [setP_ne _ _ (fun e => hi (by rw [← e]; exact h1)), setP_ne _ _ (fun e => hi (by rw [← e]; exact h2))]
  exact h3
theorem FoOk.drop {own : Nat → E} {S : Nat → Prop} {N : Nat → Nd} {par : Nat → Nat} {Fo : Fst} (h : FoOk own S N par Fo) {i : Nat} (hi : ∀ z, ¬ AdjS S par i z) (iS : S i) :
  FoOk own (fun y => S y ∧ y ≠ i) N par (fun p => Fo p ∧ i ∉ p.1.ids) := by
 refine ⟨fun T q h1 => h.ok T q h1.1, fun p p' z h1 h2 => h.uq p p' z h1.1 h2.1, ?_, fun y hy => h.up y hy.1, ?_⟩
 ·intro z
  constructor
  ·rintro ⟨h1, h2⟩
   obtain ⟨⟨T, q⟩, h3, h4⟩ := (h.mem z).1 h1
   refine ⟨_, ⟨h3, fun hm => ?_⟩, h4⟩
   obtain ⟨o1, o2, o3, o4⟩ := h.ok T q h3
   obtain ⟨a, b, e⟩ := List.append_of_mem (flat_mem.2 hm)
   rw [e] at o3
   have hS : ∀ y ∈ a ++ i :: b, S y := fun y hy => h.inS h3 y (flat_mem.1 (by rw [e]; exact hy))
   cases b with
   | cons y b => exact hi y ⟨iS, hS y (by simp), .inr (chn_app.1 o3).2.2.1⟩
   | nil =>
    cases a with
    | nil =>
     have := flat_mem.2 h4
     rw [e] at this
     exact h2 (by simpa using this)
    | cons y a =>
     have h5 : par i = lst q (y :: a) := (chn_app.1 o3).2.1
     exact hi (lst q (y :: a)) ⟨iS, hS _ (List.mem_append_left _ (lst_mem (by simp))), .inl h5⟩
  ·rintro ⟨p, ⟨h1, h2⟩, hz⟩
   exact ⟨(h.mem z).2 ⟨p, h1, hz⟩, fun e => h2 (e ▸ hz)⟩
 ·rintro y ⟨h1, h2⟩
  rcases h.ps y h1 with h3 | h3
  ·exact .inl h3
  ·exact .inr ⟨h3, fun e => hi y ⟨iS, h1, .inr e⟩⟩
theorem adj_drop {S : Nat → Prop} {par : Nat → Nat} {i : Nat} (hi : ∀ z, ¬ AdjS S par i z) (y z : Nat) : AdjS (fun y => S y ∧ y ≠ i) par y z ↔ AdjS S par y z := by
 constructor
 ·rintro ⟨h1, h2, h3⟩; exact ⟨h1.1, h2.1, h3⟩
 ·rintro ⟨h1, h2, h3⟩
  exact ⟨⟨h1, fun e => hi z (e ▸ ⟨h1, h2, h3⟩)⟩, ⟨h2, fun e => hi y (e ▸ AdjS.symm ⟨h1, h2, h3⟩)⟩, h3⟩
theorem Sm.mono {own own' : Nat → E} {S S' : Nat → Prop} (h : Sm own S) (hS : ∀ y, S' y → S y ∧ own' y = own y) : Sm own' S' := fun l nd hl => by
 rw [(wOf_congr fun y hy => (hS y (hl y hy)).2).1, (wOf_congr fun y hy => (hS y (hl y hy)).2).2]
 exact h l nd fun x hx => (hS x (hl x hx)).1
def setI {α : Type} (f : Int → α) (i : Int) (a : α) (y : Int) : α := if y = i then a else f y
theorem setI_same {α : Type} (f : Int → α) (i : Int) (a : α) : setI f i a i = a := by simp [setI]
theorem setI_ne {α : Type} (f : Int → α) {i y : Int} (a : α) (h : y ≠ i) : setI f i a y = f y := by simp [setI, h]
section
variable {vs : List Int} {es : List E} {vn en : Int → Nat} {own : Nat → E} {S : Nat → Prop}
theorem Gr.vne (g : Gr vs es vn en own S) {i : Nat} (hi : ¬ S i) {v : Int} (hv : v ∈ vs) : vn v ≠ i := fun e => hi (e ▸ (g.vS v hv).1)
theorem Gr.ene (g : Gr vs es vn en own S) {i : Nat} (hi : ¬ S i) {e : E} (he : e ∈ es) : en e.id ≠ i := fun h => hi (h ▸ (g.eS e he).1)
theorem Gr.sm (g : Gr vs es vn en own S) (h : es.length ≤ 4096) : Sm own S := by
 refine sm_of (ids := es.map E.id) (fun x hx => ?_) (fun x y hx hy h1 h2 => ?_) (by simpa using h)
 ·rcases g.Sx x hx with ⟨v, hv, rfl⟩ | ⟨e, he, rfl⟩
  ·exact .inl (g.vS v hv).2
  ·rw [(g.eS e he).2]
   have := g.er e he
   exact .inr ⟨List.mem_map_of_mem he, by omega, this.2.2.2.2.2.1, this.2.2.2.2.2.2⟩
 ·rcases g.Sx x hx with ⟨v, hv, rfl⟩ | ⟨e, he, rfl⟩
  ·rw [(g.vS v hv).2] at h1; exact absurd h1 (by decide)
  ·rcases g.Sx y hy with ⟨v, hv, rfl⟩ | ⟨e', he', rfl⟩
   ·rw [(g.vS v hv).2, (g.eS e he).2] at h2
    have := (g.er e he).1
    rw [h2] at this; exact absurd this (by decide)
   ·rw [(g.eS e he).2, (g.eS e' he').2] at h2; rw [h2]
theorem Gr.addV (g : Gr vs es vn en own S) {i : Nat} (hi : ¬ S i) {v : Int} (hv : v ∉ vs) (hr : 1 ≤ v ∧ v ≤ 2147483647) (hl : vs.length < 2048) : Gr (v :: vs) es (setI vn v i) en (setO own i zE) (fun y => S y ∨ y = i) where
 vnd := List.nodup_cons.2 ⟨hv, g.vnd⟩
 vr := fun u hu => by rcases List.mem_cons.1 hu with rfl | hu; exact hr; exact g.vr u hu
 vl := by simp; omega
 eid := g.eid
 er := fun e he => by obtain ⟨h1, h2, h3, h4, h5⟩ := g.er e he; exact ⟨h1, h2, .tail _ h3, .tail _ h4, h5⟩
 vz := fun u hu => by simp only [List.mem_cons, not_or] at hu; rw [setI_ne _ _ hu.1]; exact g.vz u hu.2
 ez := g.ez
 vS := fun u hu => by
  by_cases e : u = v
  ·subst e; rw [setI_same, setO_same]; exact ⟨.inr rfl, rfl⟩
  ·have hu := (List.mem_cons.1 hu).resolve_left e
   rw [setI_ne _ _ e, setO_ne _ _ (g.vne hi hu)]
   exact ⟨.inl (g.vS u hu).1, (g.vS u hu).2⟩
 eS := fun e he => by rw [setO_ne _ _ (g.ene hi he)]; exact ⟨.inl (g.eS e he).1, (g.eS e he).2⟩
 vi := fun u hu u' hu' e => by
  by_cases e1 : u = v
  ·by_cases e2 : u' = v
   ·rw [e1, e2]
   ·have hu' := (List.mem_cons.1 hu').resolve_left e2
    rw [e1, setI_same, setI_ne _ _ e2] at e; exact absurd e.symm (g.vne hi hu')
  ·have hu := (List.mem_cons.1 hu).resolve_left e1
   by_cases e2 : u' = v
   ·rw [e2, setI_same, setI_ne _ _ e1] at e; exact absurd e (g.vne hi hu)
   ·have hu' := (List.mem_cons.1 hu').resolve_left e2
    rw [setI_ne _ _ e1, setI_ne _ _ e2] at e; exact g.vi u hu u' hu' e
 Sx := fun y hy => by
  rcases hy with hy | rfl
  ·rcases g.Sx y hy with ⟨u, hu, e⟩ | h
   ·exact .inl ⟨u, .tail _ hu, by rw [setI_ne _ _ (fun e => hv (by rw [← e]; exact hu))]; exact e⟩
   ·exact .inr h
  ·exact .inl ⟨v, .head _, (setI_same _ _ _).symm⟩
theorem Gr.addE (g : Gr vs es vn en own S) {i : Nat} (hi : ¬ S i) {e : E} (hid : e.id ∉ es.map E.id) (hr : 1 ≤ e.id ∧ e.id ≤ 2147483647 ∧ e.u ∈ vs ∧ e.v ∈ vs ∧ e.u ≠ e.v ∧ 0 ≤ e.w ∧ e.w ≤ 1099511627776) : Gr vs (e :: es) vn (setI en e.id i) (setO own i e) (fun y => S y ∨ y = i) where
 vnd := g.vnd
 vr := g.vr
 vl := g.vl
 eid := List.nodup_cons.2 ⟨hid, g.eid⟩
 er := fun a ha => by rcases List.mem_cons.1 ha with rfl | ha; exact hr; exact g.er a ha
 vz := g.vz
 ez := fun j hj => by simp only [List.map_cons, List.mem_cons, not_or] at hj; rw [setI_ne _ _ hj.1]; exact g.ez j hj.2
 vS := fun u hu => by rw [setO_ne _ _ (g.vne hi hu)]; exact ⟨.inl (g.vS u hu).1, (g.vS u hu).2⟩
 eS := fun a ha => by
  rcases List.mem_cons.1 ha with rfl | ha
  ·rw [setI_same, setO_same]; exact ⟨.inr rfl, rfl⟩
  ·rw [setI_ne _ _ (fun h => hid (by rw [← h]; exact List.mem_map_of_mem ha)), setO_ne _ _ (g.ene hi ha)]
   exact ⟨.inl (g.eS a ha).1, (g.eS a ha).2⟩
 vi := g.vi
 Sx := fun y hy => by
  rcases hy with hy | rfl
  ·rcases g.Sx y hy with h | ⟨a, ha, h⟩
   ·exact .inl h
   ·exact .inr ⟨a, .tail _ ha, by rw [setI_ne _ _ (fun h => hid (by rw [← h]; exact List.mem_map_of_mem ha))]; exact h⟩
  ·exact .inr ⟨e, .head _, (setI_same _ _ _).symm⟩
theorem gn_addE (g : Gr vs es vn en own S) {i : Nat} {e : E} (hid : e.id ∉ es.map E.id) (y z : Nat) : Gn (e :: es) vn (setI en e.id i) y z ↔ Gn es vn en y z ∨ ((y = i ∧ (z = vn e.u ∨ z = vn e.v)) ∨ (z = i ∧ (y = vn e.u ∨ y = vn e.v))) := by
 constructor
 ·rintro ⟨a, ha, h⟩
  rcases List.mem_cons.1 ha with rfl | ha
  ·rw [setI_same] at h; exact .inr h
  ·rw [setI_ne _ _ (fun h => hid (by rw [← h]; exact List.mem_map_of_mem ha))] at h
   exact .inl ⟨a, ha, h⟩
 ·rintro (⟨a, ha, h⟩ | h)
  ·refine ⟨a, .tail _ ha, ?_⟩
   rw [setI_ne _ _ (fun h => hid (by rw [← h]; exact List.mem_map_of_mem ha))]; exact h
  ·exact ⟨e, .head _, by rw [setI_same]; exact h⟩
theorem gn_addV (g : Gr vs es vn en own S) {i : Nat} {v : Int} (hv : v ∉ vs) (y z : Nat) : Gn es (setI vn v i) en y z ↔ Gn es vn en y z := by
 have : ∀ e ∈ es, setI vn v i e.u = vn e.u ∧ setI vn v i e.v = vn e.v := fun e he =>
  ⟨setI_ne _ _ fun h => hv (h ▸ (g.er e he).2.2.1), setI_ne _ _ fun h => hv (h ▸ (g.er e he).2.2.2.1)⟩
 constructor
 ·rintro ⟨a, ha, h⟩
  rw [(this a ha).1, (this a ha).2] at h; exact ⟨a, ha, h⟩
 ·rintro ⟨a, ha, h⟩
  refine ⟨a, ha, ?_⟩
  rw [(this a ha).1, (this a ha).2]; exact h
theorem Gr.delV (g : Gr vs es vn en own S) {v : Int} (hv : v ∈ vs) (hd : ∀ e ∈ es, e.u ≠ v ∧ e.v ≠ v) : Gr (vs.erase v) es (setI vn v 0) en own (fun y => S y ∧ y ≠ vn v) where
 vnd := g.vnd.erase v
 vr := fun u hu => g.vr u (List.mem_of_mem_erase hu)
 vl := Nat.le_trans (List.length_erase_le ..) g.vl
 eid := g.eid
 er := fun e he => by
  obtain ⟨h1, h2, h3, h4, h5⟩ := g.er e he
  exact ⟨h1, h2, (List.mem_erase_of_ne (hd e he).1).2 h3, (List.mem_erase_of_ne (hd e he).2).2 h4, h5⟩
 vz := fun u hu => by
  by_cases e : u = v
  ·subst e; exact setI_same _ _ _
  ·rw [setI_ne _ _ e]; exact g.vz u fun h => hu ((List.mem_erase_of_ne e).2 h)
 ez := g.ez
 vS := fun u hu => by
  have e : u ≠ v := fun e => by subst e; exact List.Nodup.not_mem_erase g.vnd hu
  have hu := List.mem_of_mem_erase hu
  rw [setI_ne _ _ e]
  exact ⟨⟨(g.vS u hu).1, fun h => e (g.vi u hu v hv h)⟩, (g.vS u hu).2⟩
 eS := fun e he => ⟨⟨(g.eS e he).1, fun h => g.ven hv he h.symm⟩, (g.eS e he).2⟩
 vi := fun u hu u' hu' e => by
  have e1 : u ≠ v := fun e => by subst e; exact List.Nodup.not_mem_erase g.vnd hu
  have e2 : u' ≠ v := fun e => by subst e; exact List.Nodup.not_mem_erase g.vnd hu'
  rw [setI_ne _ _ e1, setI_ne _ _ e2] at e
  exact g.vi u (List.mem_of_mem_erase hu) u' (List.mem_of_mem_erase hu') e
 Sx := fun y hy => by
  rcases g.Sx y hy.1 with ⟨u, hu, rfl⟩ | h
  ·have : u ≠ v := fun e => hy.2 (by rw [e])
   exact .inl ⟨u, (List.mem_erase_of_ne this).2 hu, (setI_ne _ _ this).symm⟩
  ·exact .inr h
theorem gn_delV {v : Int} (hd : ∀ e ∈ es, e.u ≠ v ∧ e.v ≠ v) (y z : Nat) : Gn es (setI vn v 0) en y z ↔ Gn es vn en y z := by
 have : ∀ e ∈ es, setI vn v 0 e.u = vn e.u ∧ setI vn v 0 e.v = vn e.v := fun e he => ⟨setI_ne _ _ (hd e he).1, setI_ne _ _ (hd e he).2⟩
 constructor
 ·rintro ⟨a, ha, h⟩
  rw [(this a ha).1, (this a ha).2] at h; exact ⟨a, ha, h⟩
 ·rintro ⟨a, ha, h⟩
  refine ⟨a, ha, ?_⟩
  rw [(this a ha).1, (this a ha).2]; exact h
def noE (es : List E) (i : Int) : List E := es.filter fun e => !(e.id == i)
theorem noE_mem {es : List E} {i : Int} {e : E} : e ∈ noE es i ↔ e ∈ es ∧ e.id ≠ i := by simp [noE]
theorem noE_ids (es : List E) (i : Int) (h : (es.map E.id).Nodup) : (noE es i).map E.id = (es.map E.id).erase i := by
 induction es with
 | nil => rfl
 | cons e es ih =>
  rw [List.map_cons, List.nodup_cons] at h
  have h2 := ih h.2
  unfold noE at h2 ⊢
  by_cases he : e.id = i
  ·rw [List.filter_cons_of_neg (by simp [he]), h2, List.map_cons, he, List.erase_cons_head, List.erase_of_not_mem (he ▸ h.1)]
  ·rw [List.filter_cons_of_pos (by simp [he]), List.map_cons, List.map_cons, h2, List.erase_cons_tail (by simpa using he)]
theorem Gr.delE (g : Gr vs es vn en own S) {e : E} (he : e ∈ es) : Gr vs (noE es e.id) vn (setI en e.id 0) own (fun y => S y ∧ y ≠ en e.id) where
 vnd := g.vnd
 vr := g.vr
 vl := g.vl
 eid := by rw [noE_ids _ _ g.eid]; exact g.eid.erase _
 er := fun a ha => g.er a (noE_mem.1 ha).1
 vz := g.vz
 ez := fun j hj => by
  by_cases h : j = e.id
  ·rw [h]; exact setI_same _ _ _
  ·rw [setI_ne _ _ h]; exact g.ez j fun hm => hj (by rw [noE_ids _ _ g.eid]; exact (List.mem_erase_of_ne h).2 hm)
 vS := fun u hu => ⟨⟨(g.vS u hu).1, g.ven hu he⟩, (g.vS u hu).2⟩
 eS := fun a ha => by
  obtain ⟨h1, h2⟩ := noE_mem.1 ha
  rw [setI_ne _ _ h2]
  exact ⟨⟨(g.eS a h1).1, fun h => h2 (by rw [g.ei h1 he h])⟩, (g.eS a h1).2⟩
 vi := g.vi
 Sx := fun y hy => by
  rcases g.Sx y hy.1 with h | ⟨a, ha, rfl⟩
  ·exact .inl h
  ·have : a.id ≠ e.id := fun h => hy.2 (by rw [h])
   exact .inr ⟨a, noE_mem.2 ⟨ha, this⟩, (setI_ne _ _ this).symm⟩
theorem gn_delE (g : Gr vs es vn en own S) {e : E} (he : e ∈ es) (y z : Nat) : Gn (noE es e.id) vn (setI en e.id 0) y z ↔ Gn es vn en y z ∧ y ≠ en e.id ∧ z ≠ en e.id := by
 constructor
 ·rintro ⟨a, ha, h⟩
  obtain ⟨h1, h2⟩ := noE_mem.1 ha
  rw [setI_ne _ _ h2] at h
  have n1 : en a.id ≠ en e.id := fun h => h2 (by rw [g.ei h1 he h])
  have r := g.er a h1
  have n2 := g.ven r.2.2.1 he
  have n3 := g.ven r.2.2.2.1 he
  refine ⟨⟨a, h1, h⟩, ?_, ?_⟩
  ·rcases h with ⟨rfl, _⟩ | ⟨_, rfl | rfl⟩ <;> assumption
  ·rcases h with ⟨_, rfl | rfl⟩ | ⟨rfl, _⟩ <;> assumption
 ·rintro ⟨⟨a, ha, h⟩, h1, h2⟩
  have n1 : a.id ≠ e.id := fun h3 => by
   rw [h3] at h
   rcases h with ⟨h, _⟩ | ⟨h, _⟩
   ·exact h1 h
   ·exact h2 h
  refine ⟨a, noE_mem.2 ⟨ha, n1⟩, ?_⟩
  rw [setI_ne _ _ n1]; exact h
theorem deg_nn : ∀ (es : List E) (v : Int), 0 ≤ deg es v
 | [], _ => Int.le_refl _
 | e :: es, v => by
  have := deg_nn es v
  simp only [deg]
  split <;> split <;> omega
theorem deg_zero : ∀ {es : List E} {v : Int}, deg es v = 0 ↔ ∀ e ∈ es, e.u ≠ v ∧ e.v ≠ v
 | [], _ => by simp [deg]
 | e :: es, v => by
  have h1 := deg_nn es v
  have h2 := deg_zero (es := es) (v := v)
  simp only [deg, List.mem_cons, forall_eq_or_imp, ← h2]
  split <;> split <;> simp_all <;> omega
theorem deg_noE {es : List E} {e : E} (hn : (es.map E.id).Nodup) (he : e ∈ es) (v : Int) : deg es v = (if e.u = v then 1 else 0) + (if e.v = v then 1 else 0) + deg (noE es e.id) v := by
 induction es with
 | nil => cases he
 | cons a es ih =>
  rw [List.map_cons, List.nodup_cons] at hn
  rcases List.mem_cons.1 he with rfl | he
  ·have : noE (e :: es) e.id = es := by
    unfold noE
    rw [List.filter_cons_of_neg (by simp), List.filter_eq_self]
    intro b hb
    have : b.id ≠ e.id := fun h => hn.1 (h ▸ List.mem_map_of_mem hb)
    simpa using this
   rw [this]; rfl
  ·have hne : a.id ≠ e.id := fun h => hn.1 (h ▸ List.mem_map_of_mem he)
   have h2 := ih hn.2 he
   have : noE (a :: es) e.id = a :: noE es e.id := by unfold noE; rw [List.filter_cons_of_pos (by simpa using hne)]
   rw [this]
   simp only [deg, h2]; omega
end
theorem OM.cf {P : Program} {w : World} {k : TypeId} {b : Nat} {ks : List Int} {f g : Int → Int} (h : OM P w k b ks f) (hf : ∀ i, g i = f i) : OM P w k b ks g := by
 rw [show g = f from funext hf]; exact h
end Go.Dn
namespace Go.Proofs.Ytklnlnjgaadjbaa.Rd
open Go.Dn Go.RowKit
set_option maxRecDepth 100000
theorem TIn' : ElTy Try.prog 22 3 (.int .i64 0) 8 := ⟨by kernel_rfl, by kernel_rfl⟩
theorem W64.id {i : Int} (h : ¬ badI i) : W64 i ∧ 1 ≤ i ∧ i ≤ 2147483647 := by unfold badI at h; unfold W64; omega
theorem En.keeps {own : Nat → E} {S : Nat → Prop} {r : LC} {w w' : World} {N : Nat → Nd} {par : Nat → Nat} {Fo : Fst} {Q : Nat → Prop} (h : En own S r w N par Fo) (k : Keeps Q w w') (h1 : ¬ Q r.R) (h2 : ¬ Q r.g) : En own S r w' N par Fo := ⟨h.lp.keeps k h1 h2, h.rm, h.fo, h.n0, h.nl⟩
theorem Spr.keeps {w w' : World} {r : LC} {A : Option Addr} {c : Nat} {sp : List Nat} {Q : Nat → Prop} (h : Spr w r A c sp) (k : Keeps Q w w') (hA : ∀ a, A = some a → ¬ Q a.block) : Spr w' r A c sp := ⟨h.v, h.own.keeps k hA, h.ap, h.lt⟩
section
variable {w w' : World} {r r' : LC} {vs : List Int} {es : List E} {N : Nat → Nd} {own : Nat → E} {S : Nat → Prop} {par : Nat → Nat} {Fo : Fst} {vn en : Int → Nat} {nf : Int → Int} {nk : List Int} {A : Option Addr} {c : Nat} {sp sp' : List Nat} {i : Nat} {e : E}
structure MadeP (w w' : World) (r r' : LC) (vs : List Int) (es : List E) (own : Nat → E) (S : Nat → Prop) (par : Nat → Nat) (N : Nat → Nd) (Fo : Fst) (vn en : Int → Nat) (nf : Int → Int) (nk : List Int) (A : Option Addr) (c : Nat) (sp' : List Nat) (i : Nat) (e : E) : Prop where
 iS : ¬ S i
 i0 : i ≠ 0
 il : i < r'.n
 env : En (setO own i e) (fun y => S y ∨ y = i) r' w' (stN N i (mkNd e)) (setP par i 0) (fun p => p = (.node i false .nil .nil, 0) ∨ Fo p)
 adj : ∀ y z, AdjS (fun y => S y ∨ y = i) (setP par i 0) y z ↔ Gn es vn en y z
 own0 : setO own i e 0 = zE
 ov : OM Try.prog w' TI r'.mv vs (fun i => (vn i : Int))
 oe : OM Try.prog w' TI r'.me (es.map E.id) (fun i => (en i : Int))
 on : OM Try.prog w' TI r'.mn nk nf
 spr : Spr w' r' A c sp'
 spd : ∀ j ∈ sp', ¬ (S j ∨ j = i) ∧ j ≠ 0
 spn : sp'.Nodup
 cnt : r'.n = 2 + vs.length + es.length + sp'.length
 nb : r'.n ≤ 10000
 dv : r'.mv ≠ r'.R ∧ r'.mv ≠ r'.g ∧ r'.mv ≠ r'.me ∧ r'.mv ≠ r'.mn
 de : r'.me ≠ r'.R ∧ r'.me ≠ r'.g ∧ r'.me ≠ r'.mn
 dn : r'.mn ≠ r'.R ∧ r'.mn ≠ r'.g
 da : ∀ a, A = some a → a.block ≠ r'.mv ∧ a.block ≠ r'.me ∧ a.block ≠ r'.mn
 kp : Keeps (Fp r A) w w'
 fr : ∀ k, Fp r' A k → Fp r A k ∨ w.heap.size ≤ k
 R : r'.R = r.R
 mv : r'.mv = r.mv
 me : r'.me = r.me
 mn : r'.mn = r.mn
theorem Rep'.made (h : Rep' w r vs es N own S par Fo vn en nf nk A c sp) (hl : es.length ≤ 2048) (m : MkP w w' r r' N A c sp sp' i e) (he : e = zE ∨ 0 < e.id) (hsm : Sm (setO own i e) (fun y => S y ∨ y = i)) : MadeP w w' r r' vs es own S par N Fo vn en nf nk A c sp' i e := by
 have iS : ¬ S i ∧ i ≠ 0 := by
  rcases m.it with ⟨e1, _⟩ | ⟨_, _, e1, _⟩
  ·exact h.spd i (by rw [e1]; simp)
  ·rw [e1]
   exact ⟨fun hs => Nat.lt_irrefl _ (h.env.rm.sl _ hs), by have := h.env.n0; omega⟩
 have hvl := h.gr.vl
 have hcnt : r'.n = 2 + vs.length + es.length + sp'.length ∧ r'.n ≤ 10000 := by
  have hh := h.cnt; have := h.nb
  rcases m.it with ⟨e1, e2⟩ | ⟨e1, e2, _, e3⟩
  ·have h5 : sp.length = sp'.length + 1 := by rw [e1]; simp
   omega
  ·have h5 : sp.length = 0 := by rw [e1]; rfl
   have h6 : sp'.length = 0 := by rw [e2]; rfl
   omega
 have il : i < r'.n := by
  rcases m.it with ⟨e1, e2⟩ | ⟨e1, e2, e3, e4⟩
  ·rw [e2]; exact h.spr.lt i (by rw [e1]; simp)
  ·omega
 have nle : r.n ≤ r'.n := by rcases m.it with ⟨e1, e2⟩ | ⟨e1, e2, e3, e4⟩ <;> omega
 have hmo : ∀ x, (stN N i (mkNd e) x).o = setO own i e x := fun x => by
  by_cases hx : x = i
  ·rw [hx, stN_same, setO_same]; rfl
  ·rw [stN_ne _ _ hx, setO_ne _ _ hx]; exact h.env.rm.no x
 have ho : OwnOk (setO own i e) := fun x => by
  by_cases hx : x = i
  ·rw [hx, setO_same]; exact he
  ·rw [setO_ne _ _ hx]; exact h.env.rm.oo x
 have hag : Ag (setO own i e) [i] (mkNd e) := by
  have hone := IsMx.one ho i
  rw [setO_same] at hone
  rcases he with h0 | h0
  ·refine ⟨?_, ?_, ?_⟩
   ·show IsMx _ _ (if 0 < e.id then e else zE); rw [if_neg (by rw [h0]; decide), ← h0]; exact hone
   ·show (if 0 < e.id then e.w else 0) = _; rw [if_neg (by rw [h0]; decide)]; simp [wOf, setO_same, h0, zE]
   ·show (if 0 < e.id then (1 : Int) else 0) = _; rw [if_neg (by rw [h0]; decide)]; simp [kOf, setO_same, h0, zE, k1]
  ·refine ⟨?_, ?_, ?_⟩
   ·show IsMx _ _ (if 0 < e.id then e else zE); rw [if_pos h0]; exact hone
   ·show (if 0 < e.id then e.w else 0) = _; rw [if_pos h0]; simp [wOf, setO_same]
   ·show (if 0 < e.id then (1 : Int) else 0) = _; rw [if_pos h0]; simp [kOf, setO_same, k1, h0]
 have hok : OkS (stN N i (mkNd e)) (setO own i e) (.node i false .nil .nil) 0 := by
  refine ⟨iS.2, by rw [stN_same]; rfl, by rw [stN_same]; rfl, by rw [stN_same]; rfl, by rw [stN_same]; rfl, by rw [stN_same]; exact hag, trivial, trivial⟩
 have hsz := m.kp.size
 have g' : ∀ k, k < w.heap.size → k ≠ r.g → k ≠ r'.g := fun k hk hne e => by rcases m.g with h | h <;> omega
 have mvl := h.ov.lt
 have mel := h.oe.lt
 have mnl := h.on.lt
 have al : ∀ a, A = some a → a.block < w.heap.size := fun a ha => (h.spr.own.block a ha).2
 have dv := h.dv; have de := h.de; have dn := h.dn
 refine ⟨iS.1, iS.2, il, ⟨m.lp, ⟨ho, hsm, hmo, ?_⟩, h.env.fo.add iS.1 (fun y hy => setO_ne _ _ hy) (fun y hy => stN_ne _ _ hy) hok, by omega, by omega⟩, ?_, ?_, ?_, ?_, ?_, m.spr, ?_, ?_, hcnt.1, hcnt.2, ?_, ?_, ?_, ?_, ?_, ?_, m.R, m.mv, m.me, m.mn⟩
 ·rintro x (hx | rfl)
  ·exact Nat.lt_of_lt_of_le (h.env.rm.sl x hx) nle
  ·exact il
 ·intro y z
  rw [adj_add iS.1 iS.2 h.env.fo.ps (fun y hy => h.env.fo.nz hy)]
  exact h.adj y z
 ·rw [setO_ne _ _ (fun h => iS.2 h.symm)]; exact h.own0
 ·rw [m.mv]; exact h.ov.keeps m.kp (by rintro (e | e); exact dv.1 e; exact dv.2.1 e)
 ·rw [m.me]; exact h.oe.keeps m.kp (by rintro (e | e); exact de.1 e; exact de.2.1 e)
 ·rw [m.mn]; exact h.on.keeps m.kp (by rintro (e | e); exact dn.1 e; exact dn.2 e)
 ·intro j hj
  have : j ∈ sp ∧ j ≠ i := by
   rcases m.it with ⟨e1, e2⟩ | ⟨e1, e2, e3, e4⟩
   ·have hn := h.spn
    rw [e1] at hn ⊢
    rw [List.nodup_append] at hn
    exact ⟨by simp [hj], fun e => hn.2.2 j hj i (by simp) e⟩
   ·rw [e2] at hj; cases hj
  exact ⟨fun hh => hh.elim (h.spd j this.1).1 this.2, (h.spd j this.1).2⟩
 ·rcases m.it with ⟨e1, e2⟩ | ⟨e1, e2, e3, e4⟩
  ·have hn := h.spn
   rw [e1, List.nodup_append] at hn; exact hn.1
  ·rw [e2]; exact .nil
 ·rw [m.mv, m.R, m.me, m.mn]; exact ⟨dv.1, g' _ mvl dv.2.1, dv.2.2⟩
 ·rw [m.R, m.me, m.mn]; exact ⟨de.1, g' _ mel de.2.1, de.2.2⟩
 ·rw [m.R, m.mn]; exact ⟨dn.1, g' _ mnl dn.2⟩
 ·rw [m.mv, m.me, m.mn]; exact h.da
 ·exact m.kp.mono fun k _ hk => hk.elim .inl fun h => .inr (.inl h)
 ·rintro k (rfl | rfl | rfl | rfl | rfl | ⟨a, ha, rfl⟩)
  ·rw [m.R]; exact .inl (.inl rfl)
  ·exact m.g.imp (fun h => .inr (.inl h)) id
  ·rw [m.mv]; exact .inl (.inr (.inr (.inl rfl)))
  ·rw [m.me]; exact .inl (.inr (.inr (.inr (.inl rfl))))
  ·rw [m.mn]; exact .inl (.inr (.inr (.inr (.inr (.inl rfl)))))
  ·exact .inl (.inr (.inr (.inr (.inr (.inr ⟨a, ha, rfl⟩)))))
theorem spare_app (h : Lp w r N) (hs : Spr w r A c sp) {b : Nat} {t : TypeId} (hb : HB w b #[.int .i64 (i : Int)] t) (hl : sp.length ≤ 100000) {K : Value → World → Prop}
  (hK : ∀ A' c' w', OwnI w' r.B TI (some A') c' (zs (sp ++ [i])) → Keeps (fun k => ∃ a, A = some a ∧ a.block = k) w w' → (A = some A' ∨ w.heap.size ≤ A'.block) → K (.slice (some A') (sp ++ [i]).length c') w') :
  Runs Try.prog (Builtin.append_ #[22, 22] 22 #[.slice A sp.length c, .slice (some (⟨b, 0, none⟩ : Addr)) 1 1]) w K := by
 have ho : OwnW w r.B TI A c ((zs sp).map (.int .i64)) := by
  have := hs.own
  unfold OwnI at this
  unfold OwnW
  rw [List.length_map]; exact this
 have hB : r.B ≤ w.heap.size := by have := h.hB; have := h.R_lt; omega
 have hlz : ((zs sp).map (Value.int .i64)).length = sp.length := by simp [zs]
 refine appW_runs TIn' rfl ho (by simp [zs]) hb rfl hB (by rw [hlz]; omega) (by rw [hlz]; omega) fun A' c' w' o' k' f' => ?_
 have e : ((zs sp).map (Value.int .i64) ++ [.int .i64 (i : Int)]) = (zs (sp ++ [i])).map (Value.int .i64) := by simp [zs]
 rw [e] at o' ⊢
 rw [show ((zs (sp ++ [i])).map (Value.int .i64)).length = (sp ++ [i]).length by simp [zs]]
 refine hK A' c' w' ?_ (k'.mono fun k _ hk => ?_) f'
 ·unfold OwnW at o'
  unfold OwnI
  rw [List.length_map] at o'; exact o'
 ·cases A with
  | none => simp [Value.ownBlock] at hk
  | some a => exact ⟨a, rfl, by simpa [Value.ownBlock] using hk.symm⟩
theorem spare_put (h : Lp w r N) {A' : Addr} {c' : Nat} {sp' : List Nat} (ho : OwnI w r.B TI (some A') c' (zs sp')) (hne : A'.block ≠ r.R ∧ A'.block ≠ r.g) (hlt : ∀ i ∈ sp', i < r.n) {K : World → Prop}
  (hK : ∀ w', Lp w' { r with sp := .slice (some A') sp'.length c' } N → Spr w' { r with sp := .slice (some A') sp'.length c' } (some A') c' sp' → Keeps (fun k => k = r.R) w w' → K w') : stW w ((⟨r.R, 0, none⟩ : Addr).add 4) (.slice (some A') sp'.length c') K := by
 obtain ⟨wr, l, k⟩ := h.setSp (.slice (some A') sp'.length c')
 refine stW_intro wr (hK _ l ⟨rfl, ho.keeps k fun a ha => by injection ha with ha; subst ha; exact hne.1, fun a ha => by injection ha with ha; subst ha; exact hne, hlt⟩ k)
end
instance (i : Int) : Decidable (badI i) := inferInstanceAs (Decidable (_ ∨ _))
def addVC (vs : List Int) (v : Int) : Int := if badI v then 1 else if v ∈ vs then 50 else if 2048 ≤ vs.length then 55 else 0
def addVs (vs : List Int) (v : Int) : List Int := if addVC vs v = 0 then v :: vs else vs
theorem AddV_ok {w : World} {F : Nat → Prop} {R : Nat} {vs : List Int} {es : List E} (h : Rep w F R vs es) {v : Int} :
  Calls Try.prog 45 #[.pointer (some ⟨R, 0, none⟩), .int .i64 v] w fun e w' => e = .returned (.int .i64 (addVC vs v)) ∧ ∃ F', Rep w' F' R (addVs vs v) es ∧ Upd F w w' F' := by
 have h0 := h
 apply f_linkcut_Forest_AddV.ok
 unfold f_linkcut_Forest_AddV.wp
 refine (badId_ok v w).mono ?_
 rintro e w1 ⟨⟨b, rfl, hb⟩, rfl⟩
 refine ⟨b, rfl, ?_⟩
 have same : ∀ {w'}, Below w1.heap.size w1 w' → addVC vs v ≠ 0 → ∃ F', Rep w' F' R (addVs vs v) es ∧ Upd F w1 w' F' := fun hb hc => ⟨F, by unfold addVs; rw [if_neg hc]; exact h0.below hb, Keeps.of_below hb, fun k hk => .inl hk⟩
 by_cases hbad : badI v
 ·have e1 : addVC vs v = 1 := by unfold addVC; rw [if_pos hbad]
  exact sel_t (hb.2 hbad) ⟨by rw [e1], same (Below.refl _ _) (by rw [e1]; decide)⟩
 refine sel_f (Bool.eq_false_iff.2 fun hh => hbad (hb.1 hh)) ?_
 obtain ⟨wv, v1, v2⟩ := W64.id hbad
 obtain ⟨r, N, own, S, par, Fo, vn, en, nf, nk, A, c, sp, rfl, h2, h3⟩ := h
 have pv := h3.gr.vn_pos h3.tr.nz v
 refine ⟨_, h3.cm.1, h3.ov.look MTi wv ⟨_, rfl, ?_⟩⟩
 by_cases hv : v ∈ vs
 ·have e1 : addVC vs v = 50 := by unfold addVC; rw [if_neg hbad, if_pos hv]
  have := pv.2 hv
  exact sel_t (by simp; omega) ⟨by rw [e1], same (Below.refl _ _) (by rw [e1]; decide)⟩
 have vz := h3.gr.vz v hv
 refine sel_f (by simp [vz]) ⟨_, h3.cm.1, h3.ov.len MTi ⟨_, rfl, ?_⟩⟩
 by_cases hl : 2048 ≤ vs.length
 ·have e1 : addVC vs v = 55 := by unfold addVC; rw [if_neg hbad, if_neg hv, if_pos hl]
  exact sel_t (by simp; omega) ⟨by rw [e1], same (Below.refl _ _) (by rw [e1]; decide)⟩
 have e1 : addVC vs v = 0 := by unfold addVC; rw [if_neg hbad, if_neg hv, if_neg hl]
 refine sel_f (by simp; omega) (drW_intro ?_)
 have hd : Rep' w1.drew r vs es N own S par Fo vn en nf nk A c sp := h3.below (Below.refl _ _).drew
 have hel := h3.gr.el h3.tr h3.adj
 have hvl := h3.gr.vl
 refine ⟨fun w' => w'.cell? ((⟨r.R, 0, none⟩ : Addr).add 1) = some (.map (some r.mv)), hd.cm.1, _, fun w' h => h, ?_⟩
 refine (make_ok (e := zE) hd.env.lp (by have := hd.nb; omega) hd.env.n0 hd.spr).mono ?_
 rintro e w2 ⟨r', sp', i, rfl, m⟩
 have iS : ¬ S i := by
  rcases m.it with ⟨e1, _⟩ | ⟨_, _, e1, _⟩
  ·exact (h3.spd i (by rw [e1]; simp)).1
  ·rw [e1]; exact fun hs => Nat.lt_irrefl _ (h3.env.rm.sl _ hs)
 have g2 := h3.gr.addV iS hv ⟨v1, v2⟩ (by omega)
 have M := hd.made (by omega) m (.inl rfl) (g2.sm (by omega))
 have c2 : w2.cell? ((⟨r.R, 0, none⟩ : Addr).add 1) = some (.map (some r.mv)) := by
  rw [← M.R, M.env.lp.cellR, ← M.mv]; rfl
 refine ⟨_, rfl, c2, ?_⟩
 rw [← M.mv]
 refine M.ov.upd MTi wv (W64.nat (by have := M.il; have := M.nb; omega)) (by omega) fun w3 o3 k3 => ?_
 rw [if_neg hv] at o3
 refine ⟨by rw [e1], Fp r' A, ⟨r', stN N i (mkNd zE), setO own i zE, fun y => S y ∨ y = i, setP par i 0, fun p => p = (.node i false .nil .nil, 0) ∨ Fo p, setI vn v i, en, nf, nk, A, c, sp', M.R, fun _ => Iff.rfl, ?_⟩, ?_⟩
 ·unfold addVs; rw [if_pos e1]
  refine ⟨M.env.keeps k3 (fun e => M.dv.1 e.symm) (fun e => M.dv.2.1 e.symm), g2, fun y z => (M.adj y z).trans (gn_addV h3.gr hv y z).symm, M.own0, ?_, M.oe.keeps k3 (fun e => M.dv.2.2.1 e.symm), M.on.keeps k3 (fun e => M.dv.2.2.2 e.symm), ?_, ?_, M.spr.keeps k3 fun a ha => (M.da a ha).1, M.spd, M.spn, ?_, M.nb, M.dv, M.de, M.dn, M.da⟩
  ·exact o3.cf fun j => by unfold setI; split <;> simp_all
  ·intro u hu
   rcases List.mem_cons.1 hu with rfl | hu
   ·rw [h3.on.z _ (fun hm => hv (h3.nkv _ hm))]
    exact (deg_zero.2 fun e he => ⟨fun h => hv (by rw [← h]; exact (h3.gr.er e he).2.2.1), fun h => hv (by rw [← h]; exact (h3.gr.er e he).2.2.2.1)⟩).symm
   ·exact h3.nfd u hu
  ·exact fun u hu => .tail _ (h3.nkv u hu)
  ·have := M.cnt; simp; omega
 ·have kall : Keeps (Fp r A) w1 w3 := (((Keeps.refl _ _).drew).trans M.kp).trans (k3.mono fun k _ hk => .inr (.inr (.inl (by rw [hk, M.mv]))))
  exact ⟨kall.mono fun k _ hk => (h2 k).2 hk, fun k hk => (M.fr k hk).imp (h2 k).2 id⟩
def delVC (vs : List Int) (es : List E) (v : Int) : Int := if badI v then 1 else if v ∉ vs then 51 else if 0 < deg es v then 52 else 0
def delVs (vs : List Int) (es : List E) (v : Int) : List Int := if delVC vs es v = 0 then vs.erase v else vs
theorem DelV_ok {w : World} {F : Nat → Prop} {R : Nat} {vs : List Int} {es : List E} (h : Rep w F R vs es) {v : Int} :
  Calls Try.prog 46 #[.pointer (some ⟨R, 0, none⟩), .int .i64 v] w fun e w' => e = .returned (.int .i64 (delVC vs es v)) ∧ ∃ F', Rep w' F' R (delVs vs es v) es ∧ Upd F w w' F' := by
 have h0 := h
 apply f_linkcut_Forest_DelV.ok
 unfold f_linkcut_Forest_DelV.wp
 refine (badId_ok v w).mono ?_
 rintro e w1 ⟨⟨b, rfl, hb⟩, rfl⟩
 refine ⟨b, rfl, ?_⟩
 have same : delVC vs es v ≠ 0 → ∃ F', Rep w1 F' R (delVs vs es v) es ∧ Upd F w1 w1 F' := fun hc => ⟨F, by unfold delVs; rw [if_neg hc]; exact h0, Keeps.refl _ _, fun k hk => .inl hk⟩
 by_cases hbad : badI v
 ·have e1 : delVC vs es v = 1 := by unfold delVC; rw [if_pos hbad]
  exact sel_t (hb.2 hbad) ⟨by rw [e1], same (by rw [e1]; decide)⟩
 refine sel_f (Bool.eq_false_iff.2 fun hh => hbad (hb.1 hh)) ?_
 obtain ⟨wv, v1, v2⟩ := W64.id hbad
 obtain ⟨r, N, own, S, par, Fo, vn, en, nf, nk, A, c, sp, rfl, h2, h3⟩ := h
 have pv := h3.gr.vn_pos h3.tr.nz v
 refine ⟨_, h3.cm.1, h3.ov.look MTi wv ⟨_, rfl, ?_⟩⟩
 by_cases hv : ¬ v ∈ vs
 ·have e1 : delVC vs es v = 51 := by unfold delVC; rw [if_neg hbad, if_pos hv]
  exact sel_t (by simp [h3.gr.vz v hv]) ⟨by rw [e1], same (by rw [e1]; decide)⟩
 have hv : v ∈ vs := Classical.not_not.1 hv
 have vnz := pv.2 hv
 refine sel_f (by simp; omega) ⟨_, h3.cm.2.2, h3.on.look MTi wv ⟨_, rfl, ?_⟩⟩
 rw [h3.nfd v hv]
 by_cases hdg : 0 < deg es v
 ·have e1 : delVC vs es v = 52 := by unfold delVC; rw [if_neg hbad, if_neg (fun h => h hv), if_pos hdg]
  exact sel_t (by simpa using hdg) ⟨by rw [e1], same (by rw [e1]; decide)⟩
 have e1 : delVC vs es v = 0 := by unfold delVC; rw [if_neg hbad, if_neg (fun h => h hv), if_neg hdg]
 refine sel_f (by simpa using hdg) (drW_intro ?_)
 have d0 := deg_zero.1 (show deg es v = 0 by have := deg_nn es v; omega)
 have hd : Rep' w1.drew r vs es N own S par Fo vn en nf nk A c sp := h3.below (Below.refl _ _).drew
 have vS := (h3.gr.vS v hv).1
 refine ⟨fun w' => Lp w' r N, hd.env.lp, A, sp.length, c, fun w' h => by rw [h.cellR]; show some r.sp = _; rw [hd.spr.v], _, fun w' h => by rw [h.cellR]; rfl, hd.ov.look MTi wv ⟨_, rfl, hd.env.lp, ?_⟩⟩
 refine al_new fun w2 b2 eb sb hb2 g2 => ?_
 have r2 := hd.below g2
 have hb2 : HB w2 b2 #[.int .i64 (vn v : Int)] TI := hb2
 refine ⟨r2.env.lp, spare_app r2.env.lp r2.spr hb2 (by have := r2.cnt; have := r2.nb; omega) fun A' c' w3 o3 k3 f3 => ?_⟩
 have nR : ∀ a, A = some a → ¬ Fp r none a.block := by
  rintro a ha (h | h | h | h | h | ⟨_, h, _⟩)
  ·exact (r2.spr.ap a ha).1 h
  ·exact (r2.spr.ap a ha).2 h
  ·exact (r2.da a ha).1 h
  ·exact (r2.da a ha).2.1 h
  ·exact (r2.da a ha).2.2 h
  ·cases h
 have nA : ∀ k, Fp r none k → ¬ ∃ a, A = some a ∧ a.block = k := by rintro k hk ⟨a, ha, rfl⟩; exact nR a ha hk
 have nA' : ¬ Fp r none A'.block := fun hk => by
  rcases f3 with h | h
  ·exact nA _ hk ⟨A', h, rfl⟩
  ·have : A'.block < w2.heap.size := r2.lt _ (by rcases hk with h | h | h | h | h | ⟨_, h, _⟩; exact .inl h; exact .inr (.inl h); exact .inr (.inr (.inl h)); exact .inr (.inr (.inr (.inl h))); exact .inr (.inr (.inr (.inr (.inl h)))); cases h)
   omega
 have l3 : Lp w3 r N := r2.env.lp.keeps k3 (nA _ (.inl rfl)) (nA _ (.inr (.inl rfl)))
 refine ⟨_, _, _, rfl, l3, ?_⟩
 refine spare_put l3 o3 ⟨fun e => nA' (.inl e), fun e => nA' (.inr (.inl e))⟩ (fun i hi => ?_) fun w4 l4 s4 k4 => ?_
 ·rcases List.mem_append.1 hi with hi | hi
  ·exact hd.spr.lt i hi
  ·rw [List.mem_singleton.1 hi]; exact hd.env.rm.sl _ vS
 have ov4 : OM Try.prog w4 TI r.mv vs (fun i => (vn i : Int)) := (r2.ov.keeps k3 (nA _ (.inr (.inr (.inl rfl))))).keeps k4 r2.dv.1
 have oe4 : OM Try.prog w4 TI r.me (es.map E.id) (fun i => (en i : Int)) := (r2.oe.keeps k3 (nA _ (.inr (.inr (.inr (.inl rfl)))))).keeps k4 r2.de.1
 have on4 : OM Try.prog w4 TI r.mn nk nf := (r2.on.keeps k3 (nA _ (.inr (.inr (.inr (.inr (.inl rfl))))))).keeps k4 r2.dn.1
 refine ⟨_, (l4.cellR 1).trans rfl, ov4.del MTi wv fun w5 o5 k5 => ⟨rfl, ?_⟩⟩
 have l5 := l4.keeps k5 (fun e => r2.dv.1 e.symm) (fun e => r2.dv.2.1 e.symm)
 have on5 := on4.keeps k5 (fun e => r2.dv.2.2.2 e.symm)
 refine ⟨_, (l5.cellR 3).trans rfl, on5.del MTi wv fun w6 o6 k6 => ⟨rfl, by rw [e1], ?_⟩⟩
 have l6 := l5.keeps k6 (fun e => r2.dn.1 e.symm) (fun e => r2.dn.2 e.symm)
 have iso : ∀ z, ¬ AdjS S par (vn v) z := fun z hz => by
  obtain ⟨e, he, hh, _⟩ := gn_of_v h3.gr hv ((h3.adj _ _).1 hz)
  rcases hh with hh | hh
  ·exact (d0 e he).1 hh
  ·exact (d0 e he).2 hh
 have vsp : vn v ∉ sp := fun hm => (h3.spd _ hm).1 vS
 refine ⟨Fp { r with sp := .slice (some A') (sp ++ [vn v]).length c' } (some A'), ⟨{ r with sp := .slice (some A') (sp ++ [vn v]).length c' }, N, own, fun y => S y ∧ y ≠ vn v, par, fun p => Fo p ∧ vn v ∉ p.1.ids, setI vn v 0, en, fun j => if j = v then 0 else nf j, nk.erase v, some A', c', sp ++ [vn v], rfl, fun _ => Iff.rfl, ?_⟩, ?_⟩
 ·unfold delVs; rw [if_pos e1]
  refine ⟨⟨l6, ⟨h3.env.rm.oo, h3.env.rm.sm.mono fun y hy => ⟨hy.1, rfl⟩, h3.env.rm.no, fun y hy => h3.env.rm.sl y hy.1⟩, h3.env.fo.drop iso vS, h3.env.n0, h3.env.nl⟩, h3.gr.delV hv d0, fun y z => ((adj_drop iso y z).trans (h3.adj y z)).trans (gn_delV d0 y z).symm, h3.own0, ?_, (oe4.keeps k5 (fun e => r2.dv.2.2.1 e.symm)).keeps k6 (fun e => r2.de.2.2 e), o6, ?_, ?_, (s4.keeps k5 ?_).keeps k6 ?_, ?_, ?_, ?_, h3.nb, r2.dv, r2.de, r2.dn, ?_⟩
  ·exact (o5.keeps k6 (fun e => r2.dv.2.2.2 e)).cf fun j => by unfold setI; split <;> simp_all
  ·intro u hu
   have : u ≠ v := fun e => by subst e; exact List.Nodup.not_mem_erase h3.gr.vnd hu
   show (if u = v then 0 else nf u) = _
   rw [if_neg this]; exact h3.nfd u (List.mem_of_mem_erase hu)
  ·intro u hu
   have : u ≠ v := fun e => by subst e; exact List.Nodup.not_mem_erase h3.on.nd hu
   exact (List.mem_erase_of_ne this).2 (h3.nkv u (List.mem_of_mem_erase hu))
  ·rintro a ha h; injection ha with ha; subst ha; exact nA' (.inr (.inr (.inl h)))
  ·rintro a ha h; injection ha with ha; subst ha; exact nA' (.inr (.inr (.inr (.inr (.inl h)))))
  ·intro j hj
   rcases List.mem_append.1 hj with hj | hj
   ·exact ⟨fun h => (h3.spd j hj).1 h.1, (h3.spd j hj).2⟩
   ·rw [List.mem_singleton.1 hj]; exact ⟨fun h => h.2 rfl, vnz⟩
  ·rw [List.nodup_append]
   exact ⟨h3.spn, by simp, fun a ha b hb e => by rw [List.mem_singleton.1 hb] at e; exact vsp (e ▸ ha)⟩
  ·have := h3.cnt; have := List.length_pos_of_mem hv
   show r.n = _
   rw [List.length_erase_of_mem hv, List.length_append]; simp; omega
  ·rintro a ha; injection ha with ha; subst ha
   exact ⟨fun h => nA' (.inr (.inr (.inl h))), fun h => nA' (.inr (.inr (.inr (.inl h)))), fun h => nA' (.inr (.inr (.inr (.inr (.inl h)))))⟩
 ·have kall : Keeps (Fp r A) w1 w6 := by
   refine (((((Keeps.refl _ _).drew.trans (.of_below g2)).trans (k3.mono fun k _ hk => .inr (.inr (.inr (.inr (.inr hk)))))).trans (k4.mono fun k _ hk => .inl hk)).trans (k5.mono fun k _ hk => .inr (.inr (.inl hk)))).trans (k6.mono fun k _ hk => .inr (.inr (.inr (.inr (.inl hk)))))
  refine ⟨kall.mono fun k _ hk => (h2 k).2 hk, ?_⟩
  rintro k (h | h | h | h | h | ⟨a, ha, rfl⟩)
  ·exact .inl ((h2 k).2 (.inl h))
  ·exact .inl ((h2 k).2 (.inr (.inl h)))
  ·exact .inl ((h2 k).2 (.inr (.inr (.inl h))))
  ·exact .inl ((h2 k).2 (.inr (.inr (.inr (.inl h)))))
  ·exact .inl ((h2 k).2 (.inr (.inr (.inr (.inr (.inl h))))))
  ·injection ha with ha; subst ha
   rcases f3 with h | h
   ·exact .inl ((h2 _).2 (.inr (.inr (.inr (.inr (.inr ⟨_, h, rfl⟩))))))
   ·exact .inr (by have h1 := g2.size; have h2 : w1.drew.heap.size = w1.heap.size := rfl; omega)
end Go.Proofs.Ytklnlnjgaadjbaa.Rd
namespace Go.Dn
open Go.RowKit
theorem deg_le : ∀ (es : List E) (v : Int), deg es v ≤ 2 * es.length
 | [], _ => by simp [deg]
 | e :: es, v => by
  have := deg_le es v
  simp only [deg, List.length_cons]
  split <;> split <;> omega
theorem mem_ins {x a : Int} {l : List Int} (h : x ∈ (if a ∈ l then l else a :: l)) : x = a ∨ x ∈ l := by
 split at h
 ·exact .inr h
 ·exact List.mem_cons.1 h
theorem SameC.refl {S : Nat → Prop} {par : Nat → Nat} (t : Tr S par) {a : Nat} (ha : S a) : SameC par a a := by
 obtain ⟨c, hc⟩ := t.up a ha
 exact ⟨c, c, hc, hc, rfl⟩
end Go.Dn
namespace Go.Proofs.Ytklnlnjgaadjbaa.Rd
open Go.Dn Go.RowKit
set_option maxRecDepth 100000
structure Md (w : World) (r : LC) (N : Nat → Nd) (own : Nat → E) (S : Nat → Prop) (par : Nat → Nat) (Fo : Fst) (kv ke kn : List Int) (fv fe fn : Int → Int) (A : Option Addr) (c : Nat) (sp : List Nat) : Prop where
 env : En own S r w N par Fo
 ov : OM Try.prog w TI r.mv kv fv
 oe : OM Try.prog w TI r.me ke fe
 on : OM Try.prog w TI r.mn kn fn
 spr : Spr w r A c sp
 nb : r.n ≤ 10000
 dv : r.mv ≠ r.R ∧ r.mv ≠ r.g ∧ r.mv ≠ r.me ∧ r.mv ≠ r.mn
 de : r.me ≠ r.R ∧ r.me ≠ r.g ∧ r.me ≠ r.mn
 dn : r.mn ≠ r.R ∧ r.mn ≠ r.g
 da : ∀ a, A = some a → a.block ≠ r.mv ∧ a.block ≠ r.me ∧ a.block ≠ r.mn
section
variable {w w' : World} {r r' : LC} {vs : List Int} {es : List E} {N N' : Nat → Nd} {own : Nat → E} {S : Nat → Prop} {par par' : Nat → Nat} {Fo Fo' : Fst} {vn en : Int → Nat} {nf : Int → Int} {nk : List Int} {A : Option Addr} {c : Nat} {sp sp' : List Nat} {i : Nat} {e : E} {kv ke kn : List Int} {fv fe fn : Int → Int}
theorem Rep'.md (h : Rep' w r vs es N own S par Fo vn en nf nk A c sp) : Md w r N own S par Fo vs (es.map E.id) nk (fun i => (vn i : Int)) (fun i => (en i : Int)) nf A c sp := ⟨h.env, h.ov, h.oe, h.on, h.spr, h.nb, h.dv, h.de, h.dn, h.da⟩
theorem MadeP.md (h : MadeP w w' r r' vs es own S par N Fo vn en nf nk A c sp' i e) : Md w' r' (stN N i (mkNd e)) (setO own i e) (fun y => S y ∨ y = i) (setP par i 0) (fun p => p = (.node i false .nil .nil, 0) ∨ Fo p) vs (es.map E.id) nk (fun i => (vn i : Int)) (fun i => (en i : Int)) nf A c sp' := ⟨h.env, h.ov, h.oe, h.on, h.spr, h.nb, h.dv, h.de, h.dn, h.da⟩
theorem Md.turned (h : Md w r N own S par Fo kv ke kn fv fe fn A c sp) (e : En own S r w' N' par' Fo') (k : Keeps (fun k => k = r.g) w w') : Md w' r N' own S par' Fo' kv ke kn fv fe fn A c sp :=
 ⟨e, h.ov.keeps k h.dv.2.1, h.oe.keeps k h.de.2.1, h.on.keeps k h.dn.2, h.spr.keeps k fun a ha => (h.spr.ap a ha).2, h.nb, h.dv, h.de, h.dn, h.da⟩
theorem Md.other (h : Md w r N own S par Fo kv ke kn fv fe fn A c sp) {Q : Nat → Prop} (k : Keeps Q w w') (hQ : ∀ k, Q k → ¬ Fp r A k) : Md w' r N own S par Fo kv ke kn fv fe fn A c sp := by
 have n : ∀ k, Fp r A k → ¬ Q k := fun k hk hq => hQ k hq hk
 exact ⟨h.env.keeps k (n _ (.inl rfl)) (n _ (.inr (.inl rfl))), h.ov.keeps k (n _ (.inr (.inr (.inl rfl)))), h.oe.keeps k (n _ (.inr (.inr (.inr (.inl rfl))))), h.on.keeps k (n _ (.inr (.inr (.inr (.inr (.inl rfl)))))), h.spr.keeps k fun a ha => n _ (.inr (.inr (.inr (.inr (.inr ⟨a, ha, rfl⟩))))), h.nb, h.dv, h.de, h.dn, h.da⟩
theorem Md.below (h : Md w r N own S par Fo kv ke kn fv fe fn A c sp) (hb : Below w.heap.size w w') : Md w' r N own S par Fo kv ke kn fv fe fn A c sp := h.other (Q := fun _ => False) (.of_below hb) (fun _ h => h.elim)
theorem Md.lt (h : Md w r N own S par Fo kv ke kn fv fe fn A c sp) : ∀ k, Fp r A k → k < w.heap.size := by
 rintro k (rfl | rfl | rfl | rfl | rfl | ⟨a, ha, rfl⟩)
 ·exact h.env.lp.R_lt
 ·exact h.env.lp.g_lt.2
 ·exact h.ov.lt
 ·exact h.oe.lt
 ·exact h.on.lt
 ·exact (h.spr.own.block a ha).2
theorem Md.cm (h : Md w r N own S par Fo kv ke kn fv fe fn A c sp) : w.cell? ((⟨r.R, 0, none⟩ : Addr).add 1) = some (.map (some r.mv)) ∧ w.cell? ((⟨r.R, 0, none⟩ : Addr).add 2) = some (.map (some r.me)) ∧ w.cell? ((⟨r.R, 0, none⟩ : Addr).add 3) = some (.map (some r.mn)) :=
 ⟨by rw [h.env.lp.cellR]; rfl, by rw [h.env.lp.cellR]; rfl, by rw [h.env.lp.cellR]; rfl⟩
theorem Md.onK (h : Md w r N own S par Fo kv ke kn fv fe fn A c sp) (k : Keeps (fun k => k = r.mn) w w') {kn' : List Int} {fn' : Int → Int} (o : OM Try.prog w' TI r.mn kn' fn') : Md w' r N own S par Fo kv ke kn' fv fe fn' A c sp :=
 ⟨h.env.keeps k (fun e => h.dn.1 e.symm) (fun e => h.dn.2 e.symm), h.ov.keeps k (fun e => h.dv.2.2.2 e), h.oe.keeps k (fun e => h.de.2.2 e), o, h.spr.keeps k fun a ha => (h.da a ha).2.2, h.nb, h.dv, h.de, h.dn, h.da⟩
theorem Md.oeK (h : Md w r N own S par Fo kv ke kn fv fe fn A c sp) (k : Keeps (fun k => k = r.me) w w') {ke' : List Int} {fe' : Int → Int} (o : OM Try.prog w' TI r.me ke' fe') : Md w' r N own S par Fo kv ke' kn fv fe' fn A c sp :=
 ⟨h.env.keeps k (fun e => h.de.1 e.symm) (fun e => h.de.2.1 e.symm), h.ov.keeps k (fun e => h.dv.2.2.1 e), o, h.on.keeps k (fun e => h.de.2.2 e.symm), h.spr.keeps k fun a ha => (h.da a ha).2.1, h.nb, h.dv, h.de, h.dn, h.da⟩
theorem up_step (h : En own S r w N par Fo) {a x : Nat} {R : ST} (hT : Fo (.node a false .nil R, 0)) (xS : S x) (hns : ¬ SameC par a x) {K : World → Prop}
  (hK : ∀ w' N' Fo', En own S r w' N' (setP par a x) Fo' → Keeps (fun k => k = r.g) w w' → (∀ y z, AdjS S (setP par a x) y z ↔ AdjS S par y z ∨ (y = a ∧ z = x) ∨ (y = x ∧ z = a)) → K w') :
  ldS w ⟨r.R, 0, none⟩ fun A n c => optB A fun a' => req (decide (0 ≤ (a : Int) ∧ (a : Int) < (n : Int))) <| stW w ((a'.add ((a : Int).toNat * 13)).add 2) (.int .i64 ((x : Nat) : Int)) K := by
 have aS := h.fo.inS hT a (by simp [ST.ids])
 have alt := h.rm.sl a aS
 refine lc_at (K := fun A => stW w ((A.add _).add 2) _ _) h.lp alt rfl ?_
 refine lc_st h.lp alt rfl 2 (by omega) _ (set_up _ _) fun w4 l4 k4 => ?_
 have t4 := (h.fo.ok _ _ hT)
 have aR : a ∉ R.ids := by have := t4.2.2.2; simp [ST.ids] at this; exact this.1
 have hok : OkS (stN N a { N a with up := x }) own (.node a false .nil R) x := by
  refine t4.1.reup t4.2.2.2 (fun _ => ?_) (fun y hy hne => ?_)
  ·show stN _ _ _ a = _; rw [stN_same]; rfl
  ·exact stN_ne _ _ hne
 refine hK w4 _ _ ⟨l4, ⟨h.rm.oo, h.rm.sm, fun z => ?_, h.rm.sl⟩, h.fo.hang hT xS hns hok (fun z hz => stN_ne _ _ hz), h.n0, h.nl⟩ k4 (adj_hang aS xS t4.2.2.1.1 (fun y hy => h.fo.nz hy))
 by_cases hz : z = a
 ·subst hz; rw [stN_same]; exact h.rm.no z
 ·rw [stN_ne _ _ hz]; exact h.rm.no z
end
def linkC (vs : List Int) (es : List E) (e : E) (j : Bool) : Int := if badI e.id ∨ badI e.u ∨ badI e.v then 1 else if e.w < 0 ∨ 1099511627776 < e.w then 53 else if e.id ∈ es.map E.id then 50 else if ¬ (e.u ∈ vs ∧ e.v ∈ vs) then 51 else if j = true then 151 else 0
def linkE (vs : List Int) (es : List E) (e : E) (j : Bool) : List E := if linkC vs es e j = 0 then e :: es else es
def Jn (es : List E) (u v : Int) : Prop := ∃ p, Wk es u p v ∧ NB p
theorem Link_ok {w : World} {F : Nat → Prop} {R : Nat} {vs : List Int} {es : List E} (h : Rep w F R vs es) {e : E} (hu : W64 e.u) (hv : W64 e.v) :
  Calls Try.prog 33 #[.pointer (some ⟨R, 0, none⟩), .agg (eC e)] w fun en w' => ∃ j : Bool, (e.u ∈ vs → e.v ∈ vs → (j = true ↔ Jn es e.u e.v)) ∧ en = .returned (.int .i64 (linkC vs es e j)) ∧ ∃ F', Rep w' F' R vs (linkE vs es e j) ∧ Upd F w w' F' := by
 have h0 := h
 apply f_linkcut_Forest_Link.ok
 unfold f_linkcut_Forest_Link.wp
 refine al_new fun w1 b1 e1 s1 hb1 g1 => ?_
 have hb1 : HB w1 b1 (eC e) 33 := hb1
 obtain ⟨r, N, own, S, par, Fo, vn, en, nf, nk, A, c, sp, rfl, h2, h3⟩ := h
 have h3 := h3.below g1
 have hd : Rep' w1.drew r vs es N own S par Fo vn en nf nk A c sp := h3.below (Below.refl _ _).drew
 have hbd : HB w1.drew b1 (eC e) 33 := hb1
 have nF : ¬ Fp r A b1 := fun hf => by have h1 := h0.lt b1 ((h2 _).2 hf); omega
 have same : ∀ {w' vs' es'}, Below w1.heap.size w1 w' → Rep' w' r vs' es' N own S par Fo vn en nf nk A c sp → ∃ F', Rep w' F' r.R vs' es' ∧ Upd F w w' F' := fun hb hr => ⟨F, ⟨_, _, _, _, _, _, _, _, _, _, _, _, _, rfl, h2, hr⟩, (Keeps.of_below g1).trans' (.of_below (S := F) hb) (fun _ _ h => h), fun k hk => .inl hk⟩
 have bd : Below w1.heap.size w1 w1.drew := (Below.refl _ _).drew
 obtain ⟨jn, hjn⟩ : ∃ j : Bool, j = true ↔ Jn es e.u e.v := ⟨@decide (Jn es e.u e.v) (Classical.propDecidable _), by simp⟩
 refine drW_intro ⟨f_linkcut_Forest_Link.h1_ok .., fun a b => a = b, fun i x _ => (i = 3 → x = .map (some r.mv)) ∧ (i = 5 → x = .int .i64 e.u) ∧ (i = 6 → x = .int .i64 (vn e.u : Int)) ∧ (i = 10 → x = .map (some r.mv)) ∧ (i = 12 → x = .int .i64 e.v) ∧ (i = 13 → x = .int .i64 (vn e.v : Int)), fun _ => rfl, fun _ _ _ h k => h.trans k, fun _ _ _ _ _ _ h => h, ⟨?_, ?_, ?_, ?_, ?_, ?_, trivial⟩, ?_⟩
 ·rintro _ w1 rfl
  exact ⟨_, hd.cm.1, rfl, by simp⟩
 ·rintro _ w1 rfl
  exact hb_ldI hbd (j := 1) rfl ⟨rfl, by simp⟩
 ·rintro _ w1 rfl me hme xe hxe
  rw [show me = some r.mv by have := hme.1 rfl; injection this, show xe = e.u by have := hxe.2.1 rfl; injection this]
  exact hd.ov.look MTi hu ⟨_, rfl, rfl, by simp⟩
 ·rintro _ w1 rfl
  exact ⟨_, hd.cm.1, rfl, by simp⟩
 ·rintro _ w1 rfl
  exact hb_ldI hbd (j := 2) rfl ⟨rfl, by simp⟩
 ·rintro _ w1 rfl me hme xe hxe
  rw [show me = some r.mv by have := hme.2.2.2.1 rfl; injection this, show xe = e.v by have := hxe.2.2.2.2.1 rfl; injection this]
  exact hd.ov.look MTi hv ⟨_, rfl, rfl, by simp⟩
 rintro w2 rfl me3 _ x5 _ x6 h6 me10 _ x12 _ x13 h13
 have e6 : x6 = (vn e.u : Int) := by have := h6.2.2.1 rfl; injection this
 have e13 : x13 = (vn e.v : Int) := by have := h13.2.2.2.2.2 rfl; injection this
 subst e6; subst e13
 refine hb_ldI0 hbd rfl ?_
 refine (badId_ok _ _).mono ?_
 rintro e w2 ⟨⟨b, rfl, hb⟩, rfl⟩
 refine ⟨b, rfl, ?_⟩
 by_cases hbad1 : badI e.id
 ·have ec : linkC vs es e jn = 1 := by unfold linkC; rw [if_pos (.inl hbad1)]
  exact sel_t (hb.2 hbad1) ⟨jn, fun _ _ => hjn, by rw [ec], same bd (by unfold linkE; rw [if_neg (by rw [ec]; decide)]; exact hd)⟩
 refine sel_f (Bool.eq_false_iff.2 fun hh => hbad1 (hb.1 hh)) (hb_ldI hbd (j := 1) rfl ?_)
 refine (badId_ok _ _).mono ?_
 rintro _ w2 ⟨⟨b, rfl, hb⟩, rfl⟩
 refine ⟨b, rfl, ?_⟩
 by_cases hbad2 : badI e.u
 ·have ec : linkC vs es e jn = 1 := by unfold linkC; rw [if_pos (.inr (.inl hbad2))]
  exact sel_t (hb.2 hbad2) ⟨jn, fun _ _ => hjn, by rw [ec], same bd (by unfold linkE; rw [if_neg (by rw [ec]; decide)]; exact hd)⟩
 refine sel_f (Bool.eq_false_iff.2 fun hh => hbad2 (hb.1 hh)) (hb_ldI hbd (j := 2) rfl ?_)
 refine (badId_ok _ _).mono ?_
 rintro _ w2 ⟨⟨b, rfl, hb⟩, rfl⟩
 refine ⟨b, rfl, ?_⟩
 by_cases hbad3 : badI e.v
 ·have ec : linkC vs es e jn = 1 := by unfold linkC; rw [if_pos (.inr (.inr hbad3))]
  exact sel_t (hb.2 hbad3) ⟨jn, fun _ _ => hjn, by rw [ec], same bd (by unfold linkE; rw [if_neg (by rw [ec]; decide)]; exact hd)⟩
 refine sel_f (Bool.eq_false_iff.2 fun hh => hbad3 (hb.1 hh)) (hb_ldI hbd (j := 3) rfl ?_)
 have nb3 : ¬ (badI e.id ∨ badI e.u ∨ badI e.v) := by simp [hbad1, hbad2, hbad3]
 by_cases hw1 : e.w < 0
 ·have ec : linkC vs es e jn = 53 := by unfold linkC; rw [if_neg nb3, if_pos (.inl hw1)]
  exact sel_t (by simpa using hw1) ⟨jn, fun _ _ => hjn, by rw [ec], same bd (by unfold linkE; rw [if_neg (by rw [ec]; decide)]; exact hd)⟩
 refine sel_f (by simpa using hw1) (hb_ldI hbd (j := 3) rfl ?_)
 by_cases hw2 : 1099511627776 < e.w
 ·have ec : linkC vs es e jn = 53 := by unfold linkC; rw [if_neg nb3, if_pos (.inr hw2)]
  exact sel_t (by simpa using hw2) ⟨jn, fun _ _ => hjn, by rw [ec], same bd (by unfold linkE; rw [if_neg (by rw [ec]; decide)]; exact hd)⟩
 refine sel_f (by simpa using hw2) (drW_intro ?_)
 have nw : ¬ (e.w < 0 ∨ 1099511627776 < e.w) := by simp [hw1, hw2]
 have hdd : Rep' w1.drew.drew r vs es N own S par Fo vn en nf nk A c sp := hd.below (Below.refl _ _).drew
 have hbdd : HB w1.drew.drew b1 (eC e) 33 := hb1
 have bdd : Below w1.heap.size w1 w1.drew.drew := bd.drew
 obtain ⟨wi, i1, i2⟩ := W64.id hbad1
 refine ⟨_, hdd.cm.2.1, hb_ldI0 hbdd rfl (hdd.oe.look MTi wi ⟨_, rfl, ?_⟩)⟩
 have pe := h3.gr.en_pos h3.tr.nz e.id
 by_cases hid : e.id ∈ es.map E.id
 ·have ec : linkC vs es e jn = 50 := by unfold linkC; rw [if_neg nb3, if_neg nw, if_pos hid]
  obtain ⟨a, ha, ea⟩ := List.mem_map.1 hid
  have := pe.2 ⟨a, ha, ea⟩
  exact sel_t (by simp; omega) ⟨jn, fun _ _ => hjn, by rw [ec], same bdd (by unfold linkE; rw [if_neg (by rw [ec]; decide)]; exact hdd)⟩
 refine sel_f (by simp [h3.gr.ez _ hid]) ?_
 have pu := h3.gr.vn_pos h3.tr.nz e.u
 have pv := h3.gr.vn_pos h3.tr.nz e.v
 by_cases u0 : vn e.u = 0
 ·have ec : linkC vs es e jn = 51 := by unfold linkC; rw [if_neg nb3, if_neg nw, if_neg hid, if_pos (fun hh => pu.2 hh.1 u0)]
  exact sel_t (by simp [u0]) ⟨jn, fun _ _ => hjn, by rw [ec], same bdd (by unfold linkE; rw [if_neg (by rw [ec]; decide)]; exact hdd)⟩
 refine sel_f (by simp; omega) ?_
 by_cases v0 : vn e.v = 0
 ·have ec : linkC vs es e jn = 51 := by unfold linkC; rw [if_neg nb3, if_neg nw, if_neg hid, if_pos (fun hh => pv.2 hh.2 v0)]
  exact sel_t (by simp [v0]) ⟨jn, fun _ _ => hjn, by rw [ec], same bdd (by unfold linkE; rw [if_neg (by rw [ec]; decide)]; exact hdd)⟩
 refine sel_f (by simp; omega) ?_
 have hu' := pu.1 u0
 have hv' := pv.1 v0
 have uS := (h3.gr.vS _ hu').1
 have vS := (h3.gr.vS _ hv').1
 refine (joined_ok hdd.env uS vS).mono ?_
 rintro _ w2 ⟨⟨b, rfl, hb⟩, N1, F1, en1, k1⟩
 have r1 := hdd.turned en1 k1 (fun _ _ => Iff.rfl)
 have hjb : b = true ↔ Jn es e.u e.v := hb.trans (same_wk h3.gr h3.tr h3.adj hu' hv')
 have K1 : Keeps (Fp r A) w w2 := ((Keeps.of_below g1).trans (.of_below (by have := bdd; exact this))).trans (k1.mono fun k _ hk => .inr (.inl hk))
 have hbE : HB w2 b1 (eC e) 33 := hbdd.keeps k1 fun e => nF (.inr (.inl e))
 refine ⟨b, rfl, ?_⟩
 cases b with
 | true =>
  have ec : linkC vs es e true = 151 := by unfold linkC; rw [if_neg nb3, if_neg nw, if_neg hid, if_neg (fun h => h ⟨hu', hv'⟩), if_pos rfl]
  refine sel_t rfl ⟨true, fun _ _ => hjb, by rw [ec], F, ?_, K1.mono (fun k _ hk => (h2 k).2 hk), fun k hk => .inl hk⟩
  unfold linkE; rw [if_neg (by rw [ec]; decide)]
  exact ⟨_, _, _, _, _, _, _, _, _, _, _, _, _, rfl, h2, r1⟩
 | false =>
 have ec : linkC vs es e false = 0 := by unfold linkC; rw [if_neg nb3, if_neg nw, if_neg hid, if_neg (fun h => h ⟨hu', hv'⟩), if_neg (by decide)]
 have ns : ¬ SameC par (vn e.u) (vn e.v) := fun h => by have := hb.2 h; cases this
 have huv : e.u ≠ e.v := fun h => by rw [h] at ns; exact ns (SameC.refl h3.tr vS)
 refine sel_f rfl ?_
 unfold f_linkcut_Forest_Link.j0
 refine hb_ldI0 hbE rfl (hb_ldI hbE (j := 1) rfl (hb_ldI hbE (j := 2) rfl (hb_ldI hbE (j := 3) rfl ?_)))
 have hel := h3.gr.el h3.tr h3.adj
 have hvl := h3.gr.vl
 show Calls Try.prog _ #[_, .agg (eC e)] w2 _
 refine (make_ok (e := e) r1.env.lp (by have := r1.nb; omega) r1.env.n0 r1.spr).mono ?_
 rintro _ w3 ⟨r', sp', i, rfl, m⟩
 have iS : ¬ S i := by
  rcases m.it with ⟨e1, _⟩ | ⟨_, _, e1, _⟩
  ·exact (h3.spd i (by rw [e1]; simp)).1
  ·rw [e1]; exact fun hs => Nat.lt_irrefl _ (h3.env.rm.sl _ hs)
 have g3 := h3.gr.addE iS hid ⟨i1, i2, hu', hv', huv, by omega, by omega⟩
 have M := r1.made (by omega) m (.inr (by omega)) (g3.sm (by simp; omega))
 have MD := M.md
 refine ⟨_, rfl, drW_intro ?_⟩
 have MD := MD.below (Below.refl _ _).drew
 have nF' : ¬ Fp r' A b1 := fun hf => by
  rcases M.fr _ hf with h | h
  ·exact nF h
  ·have := hbE.lt; omega
 have hb3 : HB w3.drew b1 (eC e) 33 := hbE.keeps M.kp.drew nF
 rw [← M.R]
 have wI : W64 (i : Int) := W64.nat (by have := M.il; have := M.nb; omega)
 refine ⟨_, MD.cm.2.1, hb_ldI0 hb3 rfl (MD.oe.upd MTi wi wI (by simp; omega) fun w4 o4 k4 => ?_)⟩
 rw [if_neg hid] at o4
 have MD4 := MD.oeK k4 o4
 have hb4 := hb3.keeps k4 fun e => nF' (.inr (.inr (.inr (.inl e))))
 refine (root_ok MD4.env (.inl uS)).mono ?_
 rintro _ w5 ⟨rfl, par5, N5, F5, R5, p5⟩
 have MD5 := MD4.turned p5.en p5.kp
 have t5 : Tr (fun y => S y ∨ y = i) par5 := ⟨p5.en.fo.up, p5.en.fo.ps, fun y hy => p5.en.fo.nz hy⟩
 have a5 : ∀ y z, AdjS (fun y => S y ∨ y = i) par5 y z ↔ AdjS S par y z := fun y z => (p5.adj y z).trans ((M.adj y z).trans (h3.adj y z).symm)
 have uni : vn e.u ≠ i := fun h => iS (h ▸ uS)
 have vni : vn e.v ≠ i := fun h => iS (h ▸ vS)
 have ns5 : ¬ SameC par5 (vn e.u) i := fun h =>
  SameC.closed t5 (Q := fun y => y ≠ i) (fun y z hyz _ hz => iS (hz ▸ ((a5 y z).1 hyz).2.1)) (.inl uS) (.inr rfl) h uni rfl
 refine ⟨rfl, up_step p5.en p5.top (.inr rfl) ns5 fun w6 N6 F6 en6 k6 a6 => ?_⟩
 have MD6 := MD5.turned en6 k6
 refine (root_ok en6 (.inr rfl)).mono ?_
 rintro _ w7 ⟨rfl, par7, N7, F7, R7, p7⟩
 have MD7 := MD6.turned p7.en p7.kp
 have t7 : Tr (fun y => S y ∨ y = i) par7 := ⟨p7.en.fo.up, p7.en.fo.ps, fun y hy => p7.en.fo.nz hy⟩
 have a7 : ∀ y z, AdjS (fun y => S y ∨ y = i) par7 y z ↔ AdjS S par y z ∨ (y = vn e.u ∧ z = i) ∨ (y = i ∧ z = vn e.u) := fun y z => (p7.adj y z).trans ((a6 y z).trans (by rw [a5]))
 have ns7 : ¬ SameC par7 i (vn e.v) := fun h => by
  have := SameC.closed t7 (Q := fun y => y = i ∨ (S y ∧ SameC par (vn e.u) y)) (fun y z hyz hy => ?_) (.inr rfl) (.inl vS) h (.inl rfl)
  ·exact this.elim vni fun hh => ns hh.2
  ·rcases (a7 y z).1 hyz with h1 | ⟨h1, h2⟩ | ⟨h1, h2⟩
   ·rcases hy with hy | hy
    ·exact absurd (hy ▸ h1.1) iS
    ·exact .inr ⟨h1.2.1, hy.2.trans (adj_same h3.tr h1)⟩
   ·exact .inl h2
   ·rw [h2]; exact .inr ⟨uS, SameC.refl h3.tr uS⟩
 refine ⟨rfl, up_step p7.en p7.top (.inl vS) ns7 fun w8 N8 F8 en8 k8 a8 => drW_intro ?_⟩
 have MD8 := (MD7.turned en8 k8).below (Below.refl _ _).drew
 have a8' : ∀ y z, AdjS (fun y => S y ∨ y = i) (setP par7 i (vn e.v)) y z ↔ Gn (e :: es) vn (setI en e.id i) y z := fun y z => by
  rw [a8, a7, h3.adj, gn_addE h3.gr hid]
  constructor
  ·rintro ((h | ⟨h1, h2⟩ | ⟨h1, h2⟩) | ⟨h1, h2⟩ | ⟨h1, h2⟩)
   ·exact .inl h
   ·exact .inr (.inr ⟨h2, .inl h1⟩)
   ·exact .inr (.inl ⟨h1, .inl h2⟩)
   ·exact .inr (.inl ⟨h1, .inr h2⟩)
   ·exact .inr (.inr ⟨h2, .inr h1⟩)
  ·rintro (h | ⟨h1, h2 | h2⟩ | ⟨h1, h2 | h2⟩)
   ·exact .inl (.inl h)
   ·exact .inl (.inr (.inr ⟨h1, h2⟩))
   ·exact .inr (.inl ⟨h1, h2⟩)
   ·exact .inl (.inr (.inl ⟨h2, h1⟩))
   ·exact .inr (.inr ⟨h2, h1⟩)
 have kg : Keeps (fun k => k = r'.g) w4 w8.drew := (((p5.kp.trans k6).trans p7.kp).trans k8).drew
 have hb8 : HB w8.drew b1 (eC e) 33 := hb4.keeps kg fun e => nF' (.inr (.inl e))
 have du := h3.nfd _ hu'
 have dv := h3.nfd _ hv'
 have dl := deg_le es e.u
 have dl2 := deg_le es e.v
 have dn := deg_nn es e.u
 have dn2 := deg_nn es e.v
 have nkl : nk.length ≤ vs.length := nodup_subI h3.on.nd h3.nkv
 refine ⟨_, MD8.cm.2.2, hb_ldI hb8 (j := 1) rfl (MD8.on.look MTi hu ⟨_, rfl, ?_⟩)⟩
 have w1' : IntKind.i64.wrap (nf e.u + 1) = nf e.u + 1 := w64_in (by omega)
 rw [w1']
 refine MD8.on.upd MTi hu (by unfold W64; omega) (by omega) fun w9 o9 k9 => drW_intro ?_
 have MD9 := (MD8.onK k9 o9).below (Below.refl _ _).drew
 have hb9 : HB w9.drew b1 (eC e) 33 := hb8.keeps k9.drew fun e => nF' (.inr (.inr (.inr (.inr (.inl e)))))
 refine ⟨_, MD9.cm.2.2, hb_ldI hb9 (j := 2) rfl (MD9.on.look MTi hv ⟨_, rfl, ?_⟩)⟩
 rw [if_neg (fun h : e.v = e.u => huv h.symm)]
 have w2' : IntKind.i64.wrap (nf e.v + 1) = nf e.v + 1 := w64_in (by omega)
 rw [w2']
 have hkv : ∀ x ∈ (if e.u ∈ nk then nk else e.u :: nk), x ∈ vs := fun x hx => by
  rcases mem_ins hx with rfl | hx
  ·exact hu'
  ·exact h3.nkv x hx
 refine MD9.on.upd MTi hv (by unfold W64; omega) (by have := nodup_subI MD9.on.nd hkv; omega) fun w10 o10 k10 => ?_
 have MDA := MD9.onK k10 o10
 intro _
 refine ⟨false, fun _ _ => hjb, by rw [ec], Fp r' A, ⟨r', _, _, _, _, _, vn, setI en e.id i, _, _, A, c, sp', rfl, fun _ => Iff.rfl, ⟨MDA.env, ?_, ?_, M.own0, MDA.ov, ?_, MDA.on, ?_, ?_, MDA.spr, M.spd, M.spn, ?_, MDA.nb, MDA.dv, MDA.de, MDA.dn, MDA.da⟩⟩, ?_, ?_⟩
 ·unfold linkE; rw [if_pos ec]; exact g3
 ·unfold linkE; rw [if_pos ec]; exact a8'
 ·unfold linkE; rw [if_pos ec]; exact MDA.oe.cf fun j => by unfold setI; split <;> simp_all
 ·intro y hy
  unfold linkE; rw [if_pos ec]
  have := h3.nfd y hy
  simp only [deg]
  by_cases y1 : y = e.v
  ·have : ¬ e.u = y := fun h => huv (h.trans y1)
   rw [if_pos y1, if_neg this, if_pos y1.symm, ← y1, h3.nfd y hy]; omega
  ·by_cases y2 : y = e.u
   ·rw [if_neg y1, if_pos y2, if_pos y2.symm, if_neg (fun h => y1 h.symm), ← y2, h3.nfd y hy]; omega
   ·rw [if_neg y1, if_neg y2, if_neg (fun h => y2 h.symm), if_neg (fun h => y1 h.symm), h3.nfd y hy]; omega
 ·intro x hx
  rcases mem_ins hx with rfl | hx
  ·exact hv'
  ·exact hkv x hx
 ·unfold linkE; rw [if_pos ec]
  have := M.cnt; simp; omega
 ·have kE : Keeps (Fp r A) w2 w3.drew := M.kp.drew
  have K2 : Keeps (Fp r' A) w3.drew w10 := (((k4.mono fun k _ hk => .inr (.inr (.inr (.inl hk)))).trans (kg.mono fun k _ hk => .inr (.inl hk))).trans (k9.mono fun k _ hk => .inr (.inr (.inr (.inr (.inl hk)))))).drew.trans (k10.mono fun k _ hk => .inr (.inr (.inr (.inr (.inl hk)))))
  have hsz := K1.size
  refine ((K1.trans kE).trans' K2 fun k hk hf => ?_).mono fun k _ hk => (h2 k).2 hk
  rcases M.fr k hf with h | h
  ·exact h
  ·omega
 ·intro k hk
  rcases M.fr k hk with h | h
  ·exact .inl ((h2 k).2 h)
  ·exact .inr (by have := K1.size; omega)
def cutC (es : List E) (i : Int) : Int := if badI i then 1 else if i ∉ es.map E.id then 152 else 0
def cutE (es : List E) (i : Int) : List E := if cutC es i = 0 then noE es i else es
theorem Cut_ok {w : World} {F : Nat → Prop} {R : Nat} {vs : List Int} {es : List E} (h : Rep w F R vs es) {j : Int} (hj : W64 j) :
  Calls Try.prog 37 #[.pointer (some ⟨R, 0, none⟩), .int .i64 j] w fun en w' => en = .returned (.int .i64 (cutC es j)) ∧ ∃ F', Rep w' F' R vs (cutE es j) ∧ Upd F w w' F' := by
 have h0 := h
 apply f_linkcut_Forest_Cut.ok
 unfold f_linkcut_Forest_Cut.wp
 obtain ⟨r, N, own, S, par, Fo, vn, en, nf, nk, A, c, sp, rfl, h2, h3⟩ := h
 refine ⟨_, h3.cm.2.1, h3.oe.look MTi hj ⟨_, rfl, (badId_ok _ _).mono ?_⟩⟩
 rintro _ w1 ⟨⟨b, rfl, hb⟩, rfl⟩
 refine ⟨b, rfl, ?_⟩
 have same : cutC es j ≠ 0 → ∃ F', Rep w1 F' r.R vs (cutE es j) ∧ Upd F w1 w1 F' := fun hc => ⟨F, by unfold cutE; rw [if_neg hc]; exact h0, Keeps.refl _ _, fun k hk => .inl hk⟩
 by_cases hbad : badI j
 ·have ec : cutC es j = 1 := by unfold cutC; rw [if_pos hbad]
  exact sel_t (hb.2 hbad) ⟨by rw [ec], same (by rw [ec]; decide)⟩
 refine sel_f (Bool.eq_false_iff.2 fun hh => hbad (hb.1 hh)) ?_
 by_cases hid : j ∉ es.map E.id
 ·have ec : cutC es j = 152 := by unfold cutC; rw [if_neg hbad, if_pos hid]
  exact sel_t (by simp [h3.gr.ez _ hid]) ⟨by rw [ec], same (by rw [ec]; decide)⟩
 have ec : cutC es j = 0 := by unfold cutC; rw [if_neg hbad, if_neg hid]
 have ecE : cutE es j = noE es j := by unfold cutE; rw [if_pos ec]
 rw [ec, ecE]
 obtain ⟨e, he, rfl⟩ := List.mem_map.1 (Classical.not_not.1 hid)
 clear same
 obtain ⟨er1, er2, eu, ev, euv, ew1, ew2⟩ := h3.gr.er e he
 have xS := (h3.gr.eS e he).1
 have x0 := h3.tr.nz _ xS
 have uS := (h3.gr.vS _ eu).1
 have vS := (h3.gr.vS _ ev).1
 have vr := h3.gr.vr
 have wu : W64 e.u := by have := vr _ eu; unfold W64; omega
 have wv : W64 e.v := by have := vr _ ev; unfold W64; omega
 have xlt := h3.env.rm.sl _ xS
 refine sel_f (by simp; omega) ?_
 have ho : (N (en e.id)).o = e := by rw [h3.env.rm.no]; exact (h3.gr.eS e he).2
 refine lc_at (K := fun a8 => ldI w1 ((a8.add _).add 4) .i64 _) h3.env.lp xlt rfl ?_
 rw [add_add _ 4 1, add_add _ 4 2, add_add _ 4 3]
 refine lc_ld h3.env.lp xlt rfl 4 (by omega) rfl (lc_ld h3.env.lp xlt rfl 5 (by omega) rfl (lc_ld h3.env.lp xlt rfl 6 (by omega) rfl (lc_ld h3.env.lp xlt rfl 7 (by omega) rfl ?_)))
 rw [ho]
 refine al_new fun w2 b1 e1 s1 hb1 g1 => ?_
 have hb1 : HB w2 b1 (eC zE) 33 := hb1
 refine hb_st0 hb1 (by simp [eC]) fun w3 q3 k3 => hb_st q3 (j := 1) (by simp [eC]) fun w4 q4 k4 => hb_st q4 (j := 2) (by simp [eC]) fun w5 q5 k5 => hb_st q5 (j := 3) (by simp [eC]) fun w6 q6 k6 => ?_
 have q6 : HB w6 b1 (eC e) 33 := q6
 have kb : Keeps (fun k => k = b1) w2 w6 := ((k3.trans k4).trans (k5.trans k6))
 have nF : ¬ Fp r A b1 := fun hf => by have h1 := h0.lt b1 ((h2 _).2 hf); omega
 have M6 : Md w6 r N own S par Fo vs (es.map E.id) nk (fun i => (vn i : Int)) (fun i => (en i : Int)) nf A c sp := (h3.md.below g1).other kb (fun k hk hf => nF (hk ▸ hf))
 have K6 : Keeps (Fp r A) w1 w6 := (Keeps.of_below g1).trans' kb fun k hk e => by omega
 refine drW_intro ?_
 have M7 := M6.below (Below.refl _ _).drew
 have q7 : HB w6.drew b1 (eC e) 33 := q6
 refine ⟨fun w' => w' = w6.drew, rfl, _, fun w' e => by rw [e]; exact M7.cm.1, _, fun w' e => by rw [e, q7.cell]; rfl, M7.ov.look MTi wu ⟨_, rfl, rfl, ?_⟩⟩
 have ux : AdjS S par (vn e.u) (en e.id) := (h3.adj _ _).2 ⟨e, he, .inr ⟨rfl, .inl rfl⟩⟩
 have vx : AdjS S par (vn e.v) (en e.id) := (h3.adj _ _).2 ⟨e, he, .inr ⟨rfl, .inr rfl⟩⟩
 have uvn : vn e.u ≠ vn e.v := fun h => euv (h3.gr.vi _ eu _ ev h)
 have unx := h3.gr.ven eu he
 have vnx := h3.gr.ven ev he
 refine (part_ok M7.env ux).mono ?_
 rintro _ w8 ⟨rfl, par8, N8, F8, en8, k8, a8⟩
 have M8 := M7.turned en8 k8
 have q8 : HB w8 b1 (eC e) 33 := q7.keeps k8 fun e => nF (.inr (.inl e))
 refine ⟨rfl, drW_intro ?_⟩
 have M9 := M8.below (Below.refl _ _).drew
 have q9 : HB w8.drew b1 (eC e) 33 := q8
 refine ⟨fun w' => w' = w8.drew, rfl, _, fun w' e => by rw [e]; exact M9.cm.1, _, fun w' e => by rw [e, q9.cell]; rfl, M9.ov.look MTi wv ⟨_, rfl, rfl, ?_⟩⟩
 refine (part_ok M9.env ((a8 _ _).2 ⟨vx, fun h => uvn h.1.symm, fun h => vnx h.1⟩)).mono ?_
 rintro _ w10 ⟨rfl, par10, N10, F10, en10, k10, a10⟩
 have M10 := M9.turned en10 k10
 have q10 : HB w10 b1 (eC e) 33 := q9.keeps k10 fun e => nF (.inr (.inl e))
 have K10 : Keeps (Fp r A) w1 w10 := ((K6.drew.trans (k8.mono fun k _ hk => .inr (.inl hk))).drew).trans (k10.mono fun k _ hk => .inr (.inl hk))
 refine ⟨rfl, ?_⟩
 have adjN : ∀ y z, AdjS S par10 y z ↔ Gn es vn en y z ∧ y ≠ en e.id ∧ z ≠ en e.id := by
  intro y z
  rw [a10, a8, h3.adj]
  constructor
  ·rintro ⟨⟨h, h4, h5⟩, h6, h7⟩
   refine ⟨h, fun hy => ?_, fun hz => ?_⟩
   ·rw [hy] at h
    obtain ⟨n, hn, hzn⟩ := gn_of_e h3.gr he h
    rcases hn with hn | hn
    ·exact h5 ⟨hy, by rw [hzn, hn]⟩
    ·exact h7 ⟨hy, by rw [hzn, hn]⟩
   ·have h' : Gn es vn en (en e.id) y := by
     obtain ⟨a, ha, hh⟩ := h
     rw [hz] at hh
     exact ⟨a, ha, hh.symm.imp (fun x => x) (fun x => x)⟩
    obtain ⟨n, hn, hyn⟩ := gn_of_e h3.gr he h'
    rcases hn with hn | hn
    ·exact h4 ⟨by rw [hyn, hn], hz⟩
    ·exact h6 ⟨by rw [hyn, hn], hz⟩
  ·rintro ⟨h, h4, h5⟩
   exact ⟨⟨h, fun h => h5 h.2, fun h => h4 h.1⟩, fun h => h5 h.2, fun h => h4 h.1⟩
 have iso : ∀ z, ¬ AdjS S par10 (en e.id) z := fun z hz => ((adjN _ _).1 hz).2.1 rfl
 have xsp : en e.id ∉ sp := fun hm => (h3.spd _ hm).1 xS
 have spn : sp.length ≤ 100000 := by have := h3.cnt; have := h3.nb; omega
 refine ⟨_, _, _, by rw [M10.env.lp.cellR]; show some r.sp = _; rw [h3.spr.v], ?_⟩
 refine al_new fun w11 b11 e11 s11 hb11 g11 => ?_
 have M11 := M10.below g11
 have q11 := q10.below g11
 have hb11 : HB w11 b11 #[.int .i64 (en e.id : Int)] TI := hb11
 refine spare_app M11.env.lp M11.spr hb11 spn fun A' c' w12 o12 k12 f12 => ?_
 have nR : ∀ a, A = some a → ¬ Fp r none a.block := by
  rintro a ha (h | h | h | h | h | ⟨_, h, _⟩)
  ·exact (M11.spr.ap a ha).1 h
  ·exact (M11.spr.ap a ha).2 h
  ·exact (M11.da a ha).1 h
  ·exact (M11.da a ha).2.1 h
  ·exact (M11.da a ha).2.2 h
  ·cases h
 have nA : ∀ k, Fp r none k → ¬ ∃ a, A = some a ∧ a.block = k := by rintro k hk ⟨a, ha, rfl⟩; exact nR a ha hk
 have fp : ∀ {k}, Fp r none k → Fp r A k := by
  rintro k (h | h | h | h | h | ⟨_, h, _⟩); exact .inl h; exact .inr (.inl h); exact .inr (.inr (.inl h)); exact .inr (.inr (.inr (.inl h))); exact .inr (.inr (.inr (.inr (.inl h)))); cases h
 have nA' : ¬ Fp r none A'.block := fun hk => by
  rcases f12 with h | h
  ·exact nA _ hk ⟨A', h, rfl⟩
  ·have : A'.block < w11.heap.size := M11.lt _ (fp hk)
   omega
 have nb1 : ¬ ∃ a, A = some a ∧ a.block = b1 := fun ⟨a, ha, hh⟩ => nF (.inr (.inr (.inr (.inr (.inr ⟨a, ha, hh⟩)))))
 have nAb : A'.block ≠ b1 := fun hk => by
  rcases f12 with h | h
  ·exact nb1 ⟨A', h, hk⟩
  ·have := q11.lt; omega
 have q12 : HB w12 b1 (eC e) 33 := q11.keeps k12 nb1
 have l12 : Lp w12 r N10 := M11.env.lp.keeps k12 (nA _ (.inl rfl)) (nA _ (.inr (.inl rfl)))
 refine ⟨_, _, _, rfl, ?_⟩
 refine spare_put l12 o12 ⟨fun e => nA' (.inl e), fun e => nA' (.inr (.inl e))⟩ (fun i hi => ?_) fun w13 l13 s13 k13 => ?_
 ·rcases List.mem_append.1 hi with hi | hi
  ·exact h3.spr.lt i hi
  ·rw [List.mem_singleton.1 hi]; exact xlt
 have q13 : HB w13 b1 (eC e) 33 := q12.keeps k13 fun e => nF (.inl e)
 have M13 : Md w13 { r with sp := .slice (some A') (sp ++ [en e.id]).length c' } N10 own (fun y => S y ∧ y ≠ en e.id) par10 (fun p => F10 p ∧ en e.id ∉ p.1.ids) vs (es.map E.id) nk (fun i => (vn i : Int)) (fun i => (en i : Int)) nf (some A') c' (sp ++ [en e.id]) := by
  refine ⟨⟨l13, ⟨M10.env.rm.oo, M10.env.rm.sm.mono fun y hy => ⟨hy.1, rfl⟩, M10.env.rm.no, fun y hy => M10.env.rm.sl y hy.1⟩, M10.env.fo.drop iso xS, M10.env.n0, M10.env.nl⟩, (M11.ov.keeps k12 (nA _ (.inr (.inr (.inl rfl))))).keeps k13 M11.dv.1, (M11.oe.keeps k12 (nA _ (.inr (.inr (.inr (.inl rfl)))))).keeps k13 M11.de.1, (M11.on.keeps k12 (nA _ (.inr (.inr (.inr (.inr (.inl rfl))))))).keeps k13 M11.dn.1, s13, M11.nb, M11.dv, M11.de, M11.dn, ?_⟩
  rintro a ha; injection ha with ha; subst ha
  exact ⟨fun h => nA' (.inr (.inr (.inl h))), fun h => nA' (.inr (.inr (.inr (.inl h)))), fun h => nA' (.inr (.inr (.inr (.inr (.inl h)))))⟩
 have K13 : Keeps (Fp r A) w1 w13 := ((K10.trans (.of_below g11)).trans (k12.mono fun k _ hk => .inr (.inr (.inr (.inr (.inr hk)))))).trans (k13.mono fun k _ hk => .inl hk)
 have wx : W64 e.id := by unfold W64; omega
 refine ⟨_, M13.cm.2.1, M13.oe.del MTi wx fun w14 o14 k14 => ⟨rfl, ?_⟩⟩
 have M14 := M13.oeK k14 o14
 have q14 : HB w14 b1 (eC e) 33 := q13.keeps k14 fun e => nF (.inr (.inr (.inr (.inl e))))
 unfold f_linkcut_Forest_Cut.j0
 refine drW_intro ?_
 have M15 := M14.below (Below.refl _ _).drew
 have q15 : HB w14.drew b1 (eC e) 33 := q14
 have du := h3.nfd _ eu
 have dv := h3.nfd _ ev
 have dl := deg_le es e.u
 have dl2 := deg_le es e.v
 have dn := deg_nn es e.u
 have dn2 := deg_nn es e.v
 have hel := h3.gr.el h3.tr h3.adj
 have hvl := h3.gr.vl
 have nkl : nk.length ≤ vs.length := nodup_subI h3.on.nd h3.nkv
 refine ⟨_, M15.cm.2.2, hb_ldI q15 (j := 1) rfl (M15.on.look MTi wu ⟨_, rfl, ?_⟩)⟩
 have w1' : IntKind.i64.wrap (nf e.u - 1) = nf e.u - 1 := w64_in (by omega)
 show Runs Try.prog (Instr.mapUpdate _ _ (.int .i64 e.u) (.int .i64 (IntKind.i64.wrap (nf e.u - 1)))) _ _
 rw [w1']
 refine M15.on.upd MTi wu (by unfold W64; omega) (by omega) fun w16 o16 k16 => drW_intro ?_
 have M16 := (M15.onK k16 o16).below (Below.refl _ _).drew
 have q16 : HB w16.drew b1 (eC e) 33 := q15.keeps k16.drew fun e => nF (.inr (.inr (.inr (.inr (.inl e)))))
 refine ⟨_, M16.cm.2.2, hb_ldI q16 (j := 2) rfl (M16.on.look MTi wv ⟨_, rfl, ?_⟩)⟩
 show Runs Try.prog (Instr.mapUpdate _ _ (.int .i64 e.v) (.int .i64 (IntKind.i64.wrap ((if e.v = e.u then _ else nf e.v) - 1)))) _ _
 rw [if_neg (fun h : e.v = e.u => euv h.symm)]
 have w2' : IntKind.i64.wrap (nf e.v - 1) = nf e.v - 1 := w64_in (by omega)
 rw [w2']
 have hkv : ∀ x ∈ (if e.u ∈ nk then nk else e.u :: nk), x ∈ vs := fun x hx => by
  rcases mem_ins hx with rfl | hx
  ·exact eu
  ·exact h3.nkv x hx
 refine M16.on.upd MTi wv (by unfold W64; omega) (by have := nodup_subI M16.on.nd hkv; omega) fun w17 o17 k17 => ?_
 have M17 := M16.onK k17 o17
 intro _
 refine ⟨rfl, Fp { r with sp := .slice (some A') (sp ++ [en e.id]).length c' } (some A'), ⟨{ r with sp := .slice (some A') (sp ++ [en e.id]).length c' }, _, _, _, _, _, vn, setI en e.id 0, _, _, some A', c', sp ++ [en e.id], rfl, fun _ => Iff.rfl, ⟨M17.env, h3.gr.delE he, ?_, h3.own0, M17.ov, ?_, M17.on, ?_, ?_, M17.spr, ?_, ?_, ?_, M17.nb, M17.dv, M17.de, M17.dn, M17.da⟩⟩, ?_, ?_⟩
 ·intro y z
  rw [adj_drop iso, adjN, gn_delE h3.gr he]
 ·rw [noE_ids _ _ h3.gr.eid]
  exact M17.oe.cf fun j => by unfold setI; split <;> simp_all
 ·intro y hy
  have hdeg := deg_noE h3.gr.eid he y
  have h9 := h3.nfd y hy
  show (if y = e.v then nf e.v - 1 else if y = e.u then nf e.u - 1 else nf y) = _
  by_cases y1 : y = e.v
  ·have : ¬ e.u = y := fun h => euv (h.trans y1)
   rw [if_neg this, if_pos y1.symm] at hdeg
   rw [if_pos y1, ← y1]; omega
  ·by_cases y2 : y = e.u
   ·rw [if_pos y2.symm, if_neg (fun h => y1 h.symm)] at hdeg
    rw [if_neg y1, if_pos y2, ← y2]; omega
   ·rw [if_neg (fun h => y2 h.symm), if_neg (fun h => y1 h.symm)] at hdeg
    rw [if_neg y1, if_neg y2]; omega
 ·intro x hx
  rcases mem_ins hx with rfl | hx
  ·exact ev
  ·exact hkv x hx
 ·intro i hi
  rcases List.mem_append.1 hi with hi | hi
  ·exact ⟨fun h => (h3.spd i hi).1 h.1, (h3.spd i hi).2⟩
  ·rw [List.mem_singleton.1 hi]; exact ⟨fun h => h.2 rfl, x0⟩
 ·rw [List.nodup_append]
  exact ⟨h3.spn, by simp, fun a ha b hb e => by rw [List.mem_singleton.1 hb] at e; exact xsp (e ▸ ha)⟩
 ·have := h3.cnt
  have h8 := congrArg List.length (noE_ids es e.id h3.gr.eid)
  rw [List.length_map, List.length_erase_of_mem (List.mem_map_of_mem he), List.length_map] at h8
  have := List.length_pos_of_mem he
  show r.n = _
  rw [h8, List.length_append]; simp; omega
 ·have K2 : Keeps (Fp r A) w13 w17 := ((((k14.mono fun k _ hk => .inr (.inr (.inr (.inl hk)))).drew.trans (k16.mono fun k _ hk => .inr (.inr (.inr (.inr (.inl hk)))))).drew).trans (k17.mono fun k _ hk => .inr (.inr (.inr (.inr (.inl hk))))))
  exact (K13.trans K2).mono fun k _ hk => (h2 k).2 hk
 ·rintro k (h | h | h | h | h | ⟨a, ha, rfl⟩)
  ·exact .inl ((h2 k).2 (.inl h))
  ·exact .inl ((h2 k).2 (.inr (.inl h)))
  ·exact .inl ((h2 k).2 (.inr (.inr (.inl h))))
  ·exact .inl ((h2 k).2 (.inr (.inr (.inr (.inl h)))))
  ·exact .inl ((h2 k).2 (.inr (.inr (.inr (.inr (.inl h))))))
  ·injection ha with ha; subst ha
   rcases f12 with h | h
   ·exact .inl ((h2 _).2 (.inr (.inr (.inr (.inr (.inr ⟨_, h, rfl⟩))))))
   ·exact .inr (by have h1 := g11.size; have h2 := K10.size; omega)
end Go.Proofs.Ytklnlnjgaadjbaa.Rd
namespace Go.Dn
open Go.RowKit Ieee
end Go.Dn
namespace Go.Proofs.Ytklnlnjgaadjbaa.Rd
open Go.Dn Go.RowKit
set_option maxRecDepth 100000
end Go.Proofs.Ytklnlnjgaadjbaa.Rd
namespace Go.Dn
open Go.RowKit
section
variable {vs : List Int} {es : List E} {vn en : Int → Nat} {own : Nat → E} {S : Nat → Prop} {par : Nat → Nat}
theorem nodup_of_map {f : Int → Nat} : ∀ {l : List Int}, (l.map f).Nodup → l.Nodup
 | [], _ => .nil
 | a :: l, h => by
  rw [List.map_cons, List.nodup_cons] at h
  exact List.nodup_cons.2 ⟨fun hm => h.1 (List.mem_map_of_mem hm), nodup_of_map h.2⟩
theorem nds_sub : ∀ (p : List E) (m : Int), (p.map fun e => en e.id).Sublist (nds vn en m p)
 | [], _ => by simp [nds]
 | e :: p, m => by
  simp only [List.map_cons, nds]
  exact ((nds_sub p (oth e m)).cons _).cons_cons _
theorem wk_small (g : Gr vs es vn en own S) (t : Tr S par) (ha : ∀ y z, AdjS S par y z ↔ Gn es vn en y z) {p : List E} {u v : Int} (hu : u ∈ vs) (hp : Wk es u p v) (np : NB p) : (p.map E.id).Nodup ∧ p.length ≤ 2048 ∧ 0 ≤ sumW p ∧ sumW p ≤ 2251799813685248 := by
 obtain ⟨par', h0, t', hadj⟩ := t.reroot (g.vS u hu).1
 have ha' : ∀ y z, AdjS S par' y z ↔ Gn es vn en y z := fun y z => (hadj y z).trans (ha y z)
 have up : Up par' (vn u) ([] ++ [vn u]) := .step (t.nz _ (g.vS u hu).1) (by rw [h0]; exact .zero)
 have h1 := wk_up g t' ha' hu up (fun e l hl => by
  rw [h0]; exact fun h => t.nz _ (g.eS e (hp.mem e (by rw [hl]; simp))).1 h.symm) hp np
 have nd := h1.nodup
 rw [List.nodup_append] at nd
 have nd2 : (p.map fun e => en e.id).Nodup := nd.2.1.sublist (nds_sub p u)
 have nd3 : (p.map E.id).Nodup := by
  have : p.map (fun e => en e.id) = (p.map E.id).map en := by simp
  rw [this] at nd2
  exact nodup_of_map nd2
 have hlen : p.length ≤ es.length := by
  have := nodup_subI nd3 (m := es.map E.id) fun i hi => by
   obtain ⟨e, he, rfl⟩ := List.mem_map.1 hi
   exact List.mem_map_of_mem (hp.mem e he)
  simpa using this
 have hel := g.el t ha
 have hvl := g.vl
 have hs : ∀ q : List E, (∀ e ∈ q, e ∈ es) → 0 ≤ sumW q ∧ sumW q ≤ 1099511627776 * q.length := by
  intro q
  induction q with
  | nil => intro _; simp [sumW]
  | cons a q ih =>
   intro hq
   have h2 := ih fun e he => hq e (by simp [he])
   have h3 := g.er a (hq a (by simp))
   simp only [sumW, List.map_cons, List.sum_cons, List.length_cons] at h2 ⊢
   omega
 have := hs p hp.mem
 exact ⟨nd3, by omega, this.1, by omega⟩
end
theorem MxP.uniq {p : List E} {a b : E} (nd : (p.map E.id).Nodup) (ha : MxP p a) (hb : MxP p b) : a = b := by
 by_cases h : p = []
 ·rw [ha.z h, hb.z h]
 ·obtain ⟨a1, a2⟩ := ha.s h
  obtain ⟨b1, b2⟩ := hb.s h
  have h1 := a2 b b1
  have h2 := b2 a a1
  have hid : a.id = b.id := by unfold leE at *; omega
  have key : ∀ {p : List E}, (p.map E.id).Nodup → a ∈ p → b ∈ p → a = b := by
   intro p
   induction p with
   | nil => intro _ h; cases h
   | cons c p ih =>
    intro nd h1 h2
    rw [List.map_cons, List.nodup_cons] at nd
    rcases List.mem_cons.1 h1 with e1 | h1 <;> rcases List.mem_cons.1 h2 with e2 | h2
    ·rw [e1, e2]
    ·exact absurd (by rw [← e1, hid]; exact List.mem_map_of_mem h2) nd.1
    ·exact absurd (by rw [← e2, ← hid]; exact List.mem_map_of_mem h1) nd.1
    ·exact ih nd.2 h1 h2
  exact key nd a1 b1
end Go.Dn
namespace Go.Proofs.Ytklnlnjgaadjbaa.Rd
open Go.Dn Go.RowKit
set_option maxRecDepth 100000
theorem nodes0 : (enc 13 1 fun i j => fld ((fun _ => zNd : Nat → Nd) i) j) = [.int .i64 0, .int .i64 0, .int .i64 0, .bool false, .int .i64 0, .int .i64 0, .int .i64 0, .int .i64 0, .int .i64 0, .int .i64 0, .int .i64 0, .int .i64 0, .complex .f64 0 0] := by
 have h : nodeC zNd = #[.int .i64 0, .int .i64 0, .int .i64 0, .bool false, .int .i64 0, .int .i64 0, .int .i64 0, .int .i64 0, .int .i64 0, .int .i64 0, .int .i64 0, .int .i64 0, .complex .f64 0 0] := by
  simp only [nodeC, fld, zNd, zE, fb_zero]; rfl
 have : (enc 13 1 fun i j => fld ((fun _ => zNd : Nat → Nd) i) j) = (nodeC zNd).toList := rfl
 rw [this, h]
theorem made13 : (madeCells (Value.agg #[.int .i64 0, .int .i64 0, .int .i64 0, .bool false, .int .i64 0, .int .i64 0, .int .i64 0, .int .i64 0, .int .i64 0, .int .i64 0, .int .i64 0, .int .i64 0, .complex .f64 0 0]).cells (1 * 13)).toList = [.int .i64 0, .int .i64 0, .int .i64 0, .bool false, .int .i64 0, .int .i64 0, .int .i64 0, .int .i64 0, .int .i64 0, .int .i64 0, .int .i64 0, .int .i64 0, .complex .f64 0 0] := by kernel_rfl
theorem New_ok (w : World) : Calls Try.prog 24 #[] w fun e w' => ∃ F R, e = .returned (.pointer (some ⟨R, 0, none⟩)) ∧ Rep w' F R [] [] ∧ Below w.heap.size w w' ∧ ∀ k, F k → w.heap.size ≤ k := by
 apply f_linkcut_New.ok
 unfold f_linkcut_New.wp
 obtain ⟨i, hi, ⟨z, hz, hz1⟩, hs, hby⟩ := TNd_info
 obtain ⟨w1, hrun, ho, hg⟩ := run_makeSlice_full (P := Try.prog) w w.heap.size 96 109 i z 13 TNd hi hz hs .i64 .i64 1 (by decide) (by rw [hby]; decide) (by unfold maxLen; decide) (Nat.le_refl _)
 have hcells : (madeCells z.cells (1 * 13)).toList = enc 13 1 fun i j => fld ((fun _ => zNd : Nat → Nd) i) j := by
  have := TNdI
  rw [hi] at this
  simp only [Option.map_some, Option.some.injEq, Prod.mk.injEq] at this
  rw [hz] at this
  have hz2 := this.1
  injection hz2 with hz2
  rw [hz2, nodes0]; exact made13
 rw [hcells] at ho
 refine runs_of hrun ⟨_, _, _, rfl, ?_⟩
 have s1 : w.heap.size ≤ w1.heap.size := hg.size
 have g1 : w.heap.size < w1.heap.size := (World.ownsRow.lt ho w.heap.size rfl).2
 have b1 : Below w.heap.size w w1 := ⟨hg.os, hg.tape, hg.output, hg.size, fun k hk => hg.block k hk (by simp)⟩
 refine alW_intro (alW_intro (alW_intro (al_new fun w5 b5 e5 s5 h5 g5 => ?_)))
 have o1 := OM.new Try.prog w1 TI
 generalize hw2 : w1.alloc (.map #[] 0) = w2 at *
 have k2 : Below w1.heap.size w1 w2 := by rw [← hw2]; exact (Below.refl _ _).alloc (Nat.le_refl _) _
 have s2 : w2.heap.size = w1.heap.size + 1 := by rw [← hw2]; simp
 have o2 := OM.new Try.prog w2 TI
 generalize hw3 : w2.alloc (.map #[] 0) = w3 at *
 have k3 : Below w2.heap.size w2 w3 := by rw [← hw3]; exact (Below.refl _ _).alloc (Nat.le_refl _) _
 have s3 : w3.heap.size = w2.heap.size + 1 := by rw [← hw3]; simp
 have o3 := OM.new Try.prog w3 TI
 generalize hw4 : w3.alloc (.map #[] 0) = w4 at *
 have k4 : Below w3.heap.size w3 w4 := by rw [← hw4]; exact (Below.refl _ _).alloc (Nat.le_refl _) _
 have s4 : w4.heap.size = w3.heap.size + 1 := by rw [← hw4]; simp
 have h5 : HB w5 b5 #[.slice (some ⟨w.heap.size, 0, none⟩) 1 1, .map (some w1.heap.size), .map (some w2.heap.size), .map (some w3.heap.size), .slice none 0 0] 98 := h5
 refine ⟨Fp ⟨w.heap.size, b5, w.heap.size, 1, 1, w1.heap.size, w2.heap.size, w3.heap.size, .slice none 0 0⟩ none, b5, rfl, ⟨⟨w.heap.size, b5, w.heap.size, 1, 1, w1.heap.size, w2.heap.size, w3.heap.size, .slice none 0 0⟩, fun _ => zNd, fun _ => zE, fun _ => False, fun _ => 0, fun _ => False, fun _ => 0, fun _ => 0, fun _ => 0, [], none, 0, [], rfl, fun _ => Iff.rfl, ?_⟩, ?_, ?_⟩
 ·have kk : Below w1.heap.size w1 w5 := ((k2.trans (k3.mono (by omega))).trans (k4.mono (by omega))).trans (g5.mono (by omega))
  refine ⟨⟨⟨h5, Keeps.own ho (.of_below kk (S := fun _ => False)) (fun _ _ => id), by simp; omega, by simp; omega⟩, ⟨fun _ => .inl rfl, fun l _ hl => ?_, fun _ => rfl, fun _ h => h.elim⟩, ⟨fun _ _ h => h.elim, fun _ _ _ h => h.elim, fun y => ⟨fun h => h.elim, fun ⟨_, h, _⟩ => h.elim⟩, fun _ h => h.elim, fun _ h => h.elim⟩, by simp, by simp⟩, ?_, ?_, rfl, ?_, ?_, ?_, by simp, by simp, ⟨rfl, OwnI.none _ _ _, by simp, by simp⟩, by simp, by simp, by simp, by simp, ?_, ?_, ?_, by simp⟩
  ·have : l = [] := by cases l with | nil => rfl | cons x l => exact (hl x (by simp)).elim
   subst this; simp [wOf, kOf, In53]
  ·refine ⟨.nil, by simp, by simp, .nil, by simp, fun _ _ => rfl, fun _ _ => rfl, by simp, by simp, by simp, fun _ h => h.elim⟩
  ·intro y z
   exact ⟨fun h => h.1.elim, fun ⟨e, he, _⟩ => by cases he⟩
  ·exact (((o1.below (k3.mono (by omega))).below (k4.mono (by omega))).below (g5.mono (by omega)))
  ·exact ((o2.below (k4.mono (by omega))).below (g5.mono (by omega)))
  ·exact o3.below g5
  ·simp; omega
  ·simp; omega
  ·simp; omega
 ·exact ((((b1.trans (k2.mono (by omega))).trans (k3.mono (by omega))).trans (k4.mono (by omega))).trans (g5.mono (by omega)))
 ·rintro k (h | h | h | h | h | ⟨_, h, _⟩)
  ·rw [h]; simp; omega
  ·rw [h]; simp
  ·rw [h]; simp; omega
  ·rw [h]; simp; omega
  ·rw [h]; simp; omega
  ·cases h
theorem Rep.small {w : World} {F : Nat → Prop} {R : Nat} {vs : List Int} {es : List E} (h : Rep w F R vs es) {u v : Int} {p : List E} (hu : u ∈ vs) (hp : Wk es u p v) (np : NB p) : (p.map E.id).Nodup ∧ p.length ≤ 2048 ∧ 0 ≤ sumW p ∧ sumW p ≤ 2251799813685248 := by
 obtain ⟨r, N, own, S, par, Fo, vn, en, nf, nk, A, c, sp, rfl, hF, h3⟩ := h
 exact wk_small h3.gr h3.tr h3.adj hu hp np
structure VE (vs : List Int) (es : List E) : Prop where
 vnd : vs.Nodup
 vr : ∀ v ∈ vs, 1 ≤ v ∧ v ≤ 2147483647
 vl : vs.length ≤ 2048
 el : es.length ≤ 2048
 eid : (es.map E.id).Nodup
 er : ∀ e ∈ es, 1 ≤ e.id ∧ e.id ≤ 2147483647 ∧ e.u ∈ vs ∧ e.v ∈ vs ∧ e.u ≠ e.v ∧ 0 ≤ e.w ∧ e.w ≤ 1099511627776
 sm : ∀ u v p, u ∈ vs → Wk es u p v → NB p → (p.map E.id).Nodup ∧ p.length ≤ 2048 ∧ 0 ≤ sumW p ∧ sumW p ≤ 2251799813685248
 uq : ∀ u v p q, u ∈ vs → Wk es u p v → NB p → Wk es u q v → NB q → p = q
theorem Rep.ve {w : World} {F : Nat → Prop} {R : Nat} {vs : List Int} {es : List E} (h : Rep w F R vs es) : VE vs es := by
 have h0 := h
 obtain ⟨r, N, own, S, par, Fo, vn, en, nf, nk, A, c, sp, rfl, hF, h3⟩ := h
 exact ⟨h3.gr.vnd, h3.gr.vr, h3.gr.vl, Nat.le_trans (h3.gr.el h3.tr h3.adj) h3.gr.vl, h3.gr.eid, h3.gr.er, fun u v p hu hp np => h0.small hu hp np, fun u v p q hu hp np hq nq => h0.uniq hu hp np hq nq⟩
theorem _root_.Go.Dn.AlongR.bd {vs : List Int} {es : List E} {u v : Int} {mx : E} {W K code : Int} (h : AlongR vs es u v mx W K code) (g : VE vs es) : 0 ≤ W ∧ W ≤ 2251799813685248 ∧ 0 ≤ K ∧ K ≤ 2048 := by
 rcases h with ⟨_, _, rfl, rfl, _⟩ | ⟨_, _, _, _, rfl, rfl, _⟩ | ⟨hu, _, p, hp, np, _, rfl, rfl, _⟩
 ·decide
 ·decide
 ·have := g.sm u v p hu hp np
  omega
theorem _root_.Go.Dn.AlongR.in53 {vs : List Int} {es : List E} {u v : Int} {mx : E} {W K code : Int} (h : AlongR vs es u v mx W K code) (g : VE vs es) : In53 W ∧ In53 K := by
 have := h.bd g
 unfold In53; omega
theorem _root_.Go.Dn.AlongR.of {vs : List Int} {es : List E} {u v : Int} {mx : E} {W K code : Int} (h : AlongR vs es u v mx W K code) (g : VE vs es) (hu : u ∈ vs) (hv : v ∈ vs) {p : List E} (hp : Wk es u p v) (np : NB p) : code = 0 ∧ MxP p mx ∧ W = sumW p ∧ K = (p.length : Int) := by
 rcases h with ⟨h, _⟩ | ⟨_, _, h, _⟩ | ⟨_, _, q, hq, nq, hm, rfl, rfl, rfl⟩
 ·exact absurd ⟨hu, hv⟩ h
 ·exact absurd ⟨p, hp, np⟩ h
 ·have := g.uq u v q p hu hq nq hp np
  subst this
  exact ⟨rfl, hm, rfl, rfl⟩
theorem _root_.Go.Dn.AlongR.det {vs : List Int} {es : List E} {u v : Int} {mx mx' : E} {W K code W' K' code' : Int} (g : VE vs es) (h : AlongR vs es u v mx W K code) (k : AlongR vs es u v mx' W' K' code') : mx = mx' ∧ W = W' ∧ K = K' ∧ code = code' := by
 rcases h with ⟨h, rfl, rfl, rfl, rfl⟩ | ⟨hu, hv, h, rfl, rfl, rfl, rfl⟩ | ⟨hu, hv, p, hp, np, hm, rfl, rfl, rfl⟩
 ·rcases k with ⟨_, rfl, rfl, rfl, rfl⟩ | ⟨hu, hv, _⟩ | ⟨hu, hv, _⟩
  ·exact ⟨rfl, rfl, rfl, rfl⟩
  ·exact absurd ⟨hu, hv⟩ h
  ·exact absurd ⟨hu, hv⟩ h
 ·rcases k with ⟨k, _⟩ | ⟨_, _, _, rfl, rfl, rfl, rfl⟩ | ⟨_, _, q, hq, nq, _⟩
  ·exact absurd ⟨hu, hv⟩ k
  ·exact ⟨rfl, rfl, rfl, rfl⟩
  ·exact absurd ⟨q, hq, nq⟩ h
 ·obtain ⟨rfl, h2, rfl, rfl⟩ := k.of g hu hv hp np
  exact ⟨hm.uniq (g.sm u v p hu hp np).1 h2, rfl, rfl, rfl⟩
structure LF (w0 w : World) (F : Nat → Prop) (R : Nat) (vs : List Int) (es : List E) : Prop where
 rep : Rep w F R vs es
 lo : ∀ k, F k → w0.heap.size ≤ k
 bel : Below w0.heap.size w0 w
structure Lo (w0 w : World) (F : Nat → Prop) (b : Nat) (cs : Array Value) (t : TypeId) : Prop where
 hb : HB w b cs t
 nF : ¬ F b
 lo : w0.heap.size ≤ b
section
variable {w0 w w' : World} {F F' : Nat → Prop} {R b : Nat} {vs vs' : List Int} {es es' : List E} {cs : Array Value} {t : TypeId}
theorem LF.call (h : LF w0 w F R vs es) (r : Rep w' F' R vs' es') (u : Upd F w w' F') : LF w0 w' F' R vs' es' :=
 ⟨r, fun k hk => by
  rcases u.fr k hk with h1 | h1
  ·exact h.lo k h1
  ·exact Nat.le_trans h.bel.size h1, h.bel.trans (u.kp.below h.bel.size fun k hk hf => by have := h.lo k hf; omega)⟩
theorem Lo.call (h : Lo w0 w F b cs t) (u : Upd F w w' F') : Lo w0 w' F' b cs t :=
 ⟨h.hb.keeps u.kp h.nF, fun hf => by
  rcases u.fr b hf with h1 | h1
  ·exact h.nF h1
  ·have := h.hb.lt; omega, h.lo⟩
theorem LF.below (h : LF w0 w F R vs es) (hb : Below w.heap.size w w') : LF w0 w' F R vs es := ⟨h.rep.below hb, h.lo, h.bel.trans (hb.mono h.bel.size)⟩
theorem Lo.below (h : Lo w0 w F b cs t) (hb : Below w.heap.size w w') : Lo w0 w' F b cs t := ⟨h.hb.below hb, h.nF, h.lo⟩
theorem LF.new (h : LF w0 w F R vs es) (hb : Below w.heap.size w w') {b : Nat} (e : w.heap.size ≤ b) (hh : HB w' b cs t) : Lo w0 w' F b cs t := ⟨hh, fun hf => by have := h.rep.lt b hf; omega, Nat.le_trans h.bel.size e⟩
end
theorem agg5 {w : World} {mx : E} {W K : Int} {Q : Nat → World → Prop} (hQ : ∀ w' b, w.heap.size ≤ b → HB w' b (aC mx W K) 69 → Below w.heap.size w w' → Q b w') :
  alW w (.cells #[.int .i64 (0 : Int), .int .i64 (0 : Int), .int .i64 (0 : Int), .int .i64 (0 : Int), .complex .f64 0 0] 69) fun B w1 =>
   stW w1 (⟨B, 0, none⟩ : Addr) (.int .i64 mx.id) fun w2 => stW w2 ((⟨B, 0, none⟩ : Addr).add 1) (.int .i64 mx.u) fun w3 => stW w3 ((⟨B, 0, none⟩ : Addr).add 2) (.int .i64 mx.v) fun w4 => stW w4 ((⟨B, 0, none⟩ : Addr).add 3) (.int .i64 mx.w) fun w5 => stW w5 ((⟨B, 0, none⟩ : Addr).add 4) (.complex .f64 (fb W) (fb K)) fun w6 => Q B w6 := by
 refine al_new fun w1 b1 e1 s1 h1 g1 => ?_
 refine hb_st0 h1 (by simp) fun w2 h2 k2 => hb_st h2 (j := 1) (by simp) fun w3 h3 k3 => hb_st h3 (j := 2) (by simp) fun w4 h4 k4 => hb_st h4 (j := 3) (by simp) fun w5 h5 k5 => hb_st h5 (j := 4) (by simp) fun w6 h6 k6 => ?_
 have k := ((k2.trans k3).trans (k4.trans k5)).trans k6
 exact hQ w6 b1 (by omega) h6 (g1.trans ((k.below (B := w.heap.size) (by omega) fun i hi e => by omega)))
theorem edge4 {w : World} {e : E} {Q : Nat → World → Prop} (hQ : ∀ w' b, w.heap.size ≤ b → HB w' b (eC e) 33 → Below w.heap.size w w' → Q b w') :
  alW w (.cells #[.int .i64 (0 : Int), .int .i64 (0 : Int), .int .i64 (0 : Int), .int .i64 (0 : Int)] 33) fun B w1 =>
   stW w1 (⟨B, 0, none⟩ : Addr) (.int .i64 e.id) fun w2 => stW w2 ((⟨B, 0, none⟩ : Addr).add 1) (.int .i64 e.u) fun w3 => stW w3 ((⟨B, 0, none⟩ : Addr).add 2) (.int .i64 e.v) fun w4 => stW w4 ((⟨B, 0, none⟩ : Addr).add 3) (.int .i64 e.w) fun w5 => Q B w5 := by
 refine al_new fun w1 b1 e1 s1 h1 g1 => ?_
 refine hb_st0 h1 (by simp) fun w2 h2 k2 => hb_st h2 (j := 1) (by simp) fun w3 h3 k3 => hb_st h3 (j := 2) (by simp) fun w4 h4 k4 => hb_st h4 (j := 3) (by simp) fun w5 h5 k5 => ?_
 have k := (k2.trans k3).trans (k4.trans k5)
 exact hQ w5 b1 (by omega) h5 (g1.trans ((k.below (B := w.heap.size) (by omega) fun i hi e => by omega)))
theorem hb_ldC {w : World} {b : Nat} {cs : Array Value} {t : TypeId} (h : HB w b cs t) {j : Nat} {r i : Nat} (hj : cs[j]? = some (.complex .f64 r i)) {K : Nat → Nat → Prop} (hk : K r i) : ldC w ((⟨b, 0, none⟩ : Addr).add j) .f64 K := ⟨_, _, (h.cell j).trans hj, hk⟩
section
variable {w0 w : World} {F : Nat → Prop} {R : Nat} {vs : List Int} {es : List E}
end
end Go.Proofs.Ytklnlnjgaadjbaa.Rd
