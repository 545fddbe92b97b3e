/- Maps from whole numbers to whole numbers, as keys and a function: reading, writing, deleting, counting. Conditions: none. -/
import Derived.Test.YtfknppccgojhdaaHBw
import Derived.Test.YtfknppccgojhdaaRdA
import Derived.Maps.OwnSet
import Derived.WalkArith
namespace Go.Dn
open Go.RowKit
set_option linter.unusedVariables false
def W64 (n : Int) : Prop := -9223372036854775808 ≤ n ∧ n ≤ 9223372036854775807
theorem W64.wf {n : Int} (h : W64 n) : (Lit.int .i64 n).wf = true := WalkArith.wf_i64 h
abbrev MD := DataW Unit
/-- block b is a map with these keys (each once); what it tells of a number (0 where there is none) -/
structure OM (P : Program) (w : World) (k : TypeId) (b : Nat) (ks : List Int) (f : Int → Int) : Prop where
  nd : ks.Nodup
  kw : ∀ i ∈ ks, W64 i
  z : ∀ i, i ∉ ks → f i = 0
  dat : ∃ D : MD, w.ownsMap P k (plainElem P k) b ks.length D ∧ Maps.size D = ks.length ∧ (∀ i, W64 i → D.atKey (.int .i64 i) (.lit (.int .i64 0)) = .lit (.int .i64 (f i))) ∧ (∀ i, W64 i → (Maps.has D (.int .i64 i) = true ↔ i ∈ ks))
structure MapTy (P : Program) (t k : TypeId) : Prop where
  und : P.underlying t = some (.map k k)
  key : P.underlying k = some (.int .i64)
  zero : ∀ w, (zeroValue k).run P w = .ok (.int .i64 0) w
theorem OM.size {P : Program} {w : World} {k : TypeId} {b : Nat} {D : MD} {n : Nat} (h : w.ownsMap P k (plainElem P k) b n D) : w.ownsMap P k (plainElem P k) b (Maps.size D) D := by
  obtain ⟨es, clock, hb, F, hs, rfl⟩ := h
  refine ⟨es, clock, hb, F, ?_, rfl⟩
  simp [Maps.size, length_sorted]
theorem OM.lt {P : Program} {w : World} {k : TypeId} {b : Nat} {ks : List Int} {f : Int → Int} (h : OM P w k b ks f) : b < w.heap.size := by
  obtain ⟨D, h, _⟩ := h.dat
  exact h.lt
theorem OM.keeps {P : Program} {S : Nat → Prop} {w w' : World} {k : TypeId} {b : Nat} {ks : List Int} {f : Int → Int} (h : OM P w k b ks f) (hk : Keeps S w w') (hb : ¬ S b) : OM P w' k b ks f := by
  have hlt := h.lt
  obtain ⟨D, ⟨es, clock, hh, r⟩, h2⟩ := h.dat
  exact ⟨h.nd, h.kw, h.z, D, ⟨es, clock, (hk.block b hlt hb).trans hh, r⟩, h2⟩
theorem OM.below {P : Program} {w w' : World} {k : TypeId} {b : Nat} {ks : List Int} {f : Int → Int} (h : OM P w k b ks f) (hb : Below w.heap.size w w') : OM P w' k b ks f := h.keeps (S := fun _ => False) (.of_below hb) id
theorem OM.new (P : Program) (w : World) (k : TypeId) : OM P (w.alloc (.map #[] 0)) k w.heap.size [] (fun _ => 0) :=
  ⟨by simp, by simp, fun _ _ => rfl, .map [], World.ownsMap_made w P k _, rfl, fun i _ => rfl, fun i _ => by simp [Maps.has]⟩
theorem lit_ne {i j : Int} (h : i ≠ j) : (Lit.int .i64 i : Lit) ≠ Lit.int .i64 j := fun e => h (by injection e)
theorem OM.look {P : Program} {t k : TypeId} (T : MapTy P t k) {w : World} {b : Nat} {ks : List Int} {f : Int → Int} (h : OM P w k b ks f) {i : Int} (hi : W64 i) {K : Value → World → Prop} (hk : K (.int .i64 (f i)) w) :
    Runs P (Instr.lookup t (.map (some b)) (.int .i64 i) false) w K := by
  obtain ⟨D, ho, _, ha, hh⟩ := h.dat
  obtain ⟨c, hrun, hat, hwc⟩ := ho.lookup_int (Maps.int_keyed T.key) T.und T.key (T.zero w) (Maps.keyOf_int_mk T.key hi.wf)
  have e := (ha i hi).symm.trans hat
  have : f i = c := by injection e with e; injection e
  rw [this] at hk
  exact runs_of hrun hk
theorem OM.len {P : Program} {t k : TypeId} (T : MapTy P t k) {w : World} {b : Nat} {ks : List Int} {f : Int → Int} (h : OM P w k b ks f) {ty : TypeId} {K : Value → World → Prop} (hk : K (.int .i64 (ks.length : Int)) w) :
    Runs P (Builtin.len_ #[t] ty #[.map (some b)]) w K := by
  obtain ⟨D, ho, hs, _⟩ := h.dat
  have := ho.len T.und ty
  rw [hs] at this
  exact runs_of this hk
theorem OM.upd {P : Program} {t k : TypeId} (T : MapTy P t k) {w : World} {b : Nat} {ks : List Int} {f : Int → Int} (h : OM P w k b ks f) {i v : Int} (hi : W64 i) (hv : W64 v) (hn : ks.length ≤ 1000000) {K : Unit → World → Prop}
    (hk : ∀ w', OM P w' k b (if i ∈ ks then ks else i :: ks) (fun j => if j = i then v else f j) → Keeps (fun k => k = b) w w' → K () w') :
    Runs P (Instr.mapUpdate t (.map (some b)) (.int .i64 i) (.int .i64 v)) w K := by
  obtain ⟨D, ho, hs, ha, hh⟩ := h.dat
  have Kd : Maps.Keyed P k := Maps.int_keyed T.key
  obtain ⟨w', hrun, ho', hg⟩ := ho.update Kd T.und (by unfold maxLen; omega) (Maps.keyOf_int_mk T.key hi.wf) (plainElem_int T.key hv.wf)
  have tD := ho.tidy Kd
  have hsz := Maps.size_put (k := .int .i64 i) tD (.lit (.int .i64 v))
  have hput : Maps.size (D.put (.int .i64 i) (.lit (.int .i64 v))) = (if i ∈ ks then ks else i :: ks).length := by
    rw [hsz]
    by_cases hm : i ∈ ks
    · rw [if_pos ((hh i hi).2 hm), if_pos hm, hs]
    · rw [if_neg (fun e => hm ((hh i hi).1 e)), if_neg hm, hs]; rfl
  have ho2 := OM.size ho'
  rw [hput] at ho2
  refine runs_of hrun (hk w' ⟨?_, ?_, ?_, _, ho2, hput, ?_, ?_⟩ ⟨hg.os, hg.tape, hg.output, hg.size, fun j hj hn => hg.block j hj (by simpa using hn)⟩)
  · by_cases hm : i ∈ ks
    · rw [if_pos hm]; exact h.nd
    · rw [if_neg hm]; exact List.nodup_cons.2 ⟨hm, h.nd⟩
  · intro j hj
    by_cases hm : i ∈ ks
    · rw [if_pos hm] at hj; exact h.kw j hj
    · rw [if_neg hm] at hj
      rcases List.mem_cons.1 hj with rfl | hj
      · exact hi
      · exact h.kw j hj
  · intro j hj
    by_cases hm : i ∈ ks
    · rw [if_pos hm] at hj
      rw [if_neg (fun e : j = i => hj (e ▸ hm))]; exact h.z j hj
    · rw [if_neg hm, List.mem_cons, not_or] at hj
      rw [if_neg hj.1]; exact h.z j hj.2
  · intro j hj
    by_cases e : j = i
    · subst e
      rw [if_pos rfl]
      exact Maps.atKey_put_same tD.isMap (show WideAt.IsKeyLit (.int .i64 j) from trivial) _ _
    · rw [if_neg e, Maps.atKey_put_other (lit_ne e)]
      exact ha j hj
  · intro j hj
    by_cases e : j = i
    · subst e
      rw [Maps.has_put_same tD.isMap (show WideAt.IsKeyLit (.int .i64 j) from trivial)]
      by_cases hm : j ∈ ks <;> simp [hm]
    · rw [Maps.has_put_other (lit_ne e), hh j hj]
      by_cases hm : i ∈ ks <;> simp [hm, e]
theorem OM.del {P : Program} {t k : TypeId} (T : MapTy P t k) {w : World} {b : Nat} {ks : List Int} {f : Int → Int} (h : OM P w k b ks f) {i : Int} (hi : W64 i) {ty : TypeId} {K : Value → World → Prop}
    (hk : ∀ w', OM P w' k b (ks.erase i) (fun j => if j = i then 0 else f j) → Keeps (fun k => k = b) w w' → K (.tuple #[]) w') :
    Runs P (Builtin.delete_ #[t, k] ty #[.map (some b), .int .i64 i]) w K := by
  obtain ⟨D, ho, hs, ha, hh⟩ := h.dat
  have Kd : Maps.Keyed P k := Maps.int_keyed T.key
  obtain ⟨w', hrun, ho', ht⟩ := ho.drop Kd T.und (Maps.keyOf_int_mk T.key hi.wf) ty
  have hg := ht.grown
  have tD := ho.tidy Kd
  have hsz := Maps.size_del (k := .int .i64 i) tD
  have hput : Maps.size (D.del (.int .i64 i)) = (ks.erase i).length := by
    by_cases hm : i ∈ ks
    · rw [if_pos ((hh i hi).2 hm)] at hsz
      rw [List.length_erase_of_mem hm]; omega
    · rw [if_neg (fun e => hm ((hh i hi).1 e))] at hsz
      rw [List.erase_of_not_mem hm]; omega
  have ho2 := OM.size ho'
  rw [hput] at ho2
  refine runs_of hrun (hk w' ⟨h.nd.erase i, fun j hj => h.kw j (List.mem_of_mem_erase hj), ?_, _, ho2, hput, ?_, ?_⟩ ⟨hg.os, hg.tape, hg.output, hg.size, fun j hj hn => hg.block j hj (by simpa using hn)⟩)
  · intro j hj
    by_cases e : j = i
    · rw [if_pos e]
    · rw [if_neg e]
      exact h.z j fun hm => hj ((List.mem_erase_of_ne e).2 hm)
  · intro j hj
    by_cases e : j = i
    · subst e
      rw [if_pos rfl]
      exact Maps.atKey_del_same _
    · rw [if_neg e, Maps.atKey_del_other (lit_ne e)]
      exact ha j hj
  · intro j hj
    by_cases e : j = i
    · subst e
      rw [Maps.has_del_same]
      simp [List.Nodup.not_mem_erase h.nd]
    · rw [Maps.has_del_other (lit_ne e), hh j hj, List.mem_erase_of_ne e]
end Go.Dn
namespace Go.Proofs.Ytfknppccgojhdaa.Rd
open Go.Dn
theorem MTi : MapTy Try.prog 63 3 := ⟨by kernel_rfl, by kernel_rfl, fun w => by kernel_rfl⟩
end Go.Proofs.Ytfknppccgojhdaa.Rd
