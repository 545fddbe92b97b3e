/- One element behind a slice that is full: a new row. Conditions: none. -/
import Derived.Test.YtifambgaekjilaaDoorAppR
namespace Go.Dn
open Go.RowKit
set_option linter.unusedVariables false
theorem app_new {α : Type} {P : Program} {t te : TypeId} {k by_ : Nat} (T : RecTy P t te k by_) {enc : α → List Value} (E : Enc enc k) (hby : 0 < by_) {w : World} {a : Addr} {n c : Nat} {l : List α} (hr : RowE enc k w (some a) l) (hn : n = l.length) (hc : c ≤ l.length) {b : Nat} {x : α} {cs : Array Value} {tb : TypeId} (hb : HB w b cs tb) (hcs : cs.toList = enc x)
    (hlen : (l.length + 1) * by_ ≤ 140737488355328) {ty : TypeId} {K : Value → World → Prop}
    (hK : ∀ A' c' w', OwnE enc k w' w.heap.size te A' c' (l ++ [x]) → Below w.heap.size w w' → K (.slice A' (l ++ [x]).length c') w') :
    Runs P (Builtin.append_ #[t, t] ty #[.slice (some a) n c, .slice (some (⟨b, 0, none⟩ : Addr)) 1 1]) w K := by
  subst hn
  obtain ⟨i, z, hi, hz, hz1, hs, hbyt⟩ := T.info
  have hlen2 : l.length + 1 ≤ 140737488355328 := Nat.le_trans (Nat.le_mul_of_pos_right _ hby) hlen
  have holds : ∀ j v, (encs enc l)[j]? = some v → w.cell? (a.add j) = some v := fun j v hj => by
    have hjl : j < l.length * k := by rw [← encs_len E l]; exact (List.getElem?_eq_some_iff.1 hj).1
    have hk := E.pos
    have h1 : j / k < l.length := Nat.div_lt_of_lt_mul (by rw [Nat.mul_comm]; exact hjl)
    have h2 : j % k < k := Nat.mod_lt _ hk
    have hc := hr.cj h1 h2
    have e : j / k * k + j % k = j := by rw [Nat.mul_comm]; exact Nat.div_add_mod j k
    have hg := encs_get E h1 h2
    rw [e] at hg
    rw [add_add, e] at hc
    rw [hc, ← hg, hj]
  have hnews : ∀ j v, (enc x)[j]? = some v → w.cell? ((⟨b, 0, none⟩ : Addr).add j) = some v := fun j v hj => by
    rw [hb.cell, ← Array.getElem?_toList, hcs]; exact hj
  have hrun := run_append_grow (P := P) w t ty te i z T.und hi hz a l.length c (encs enc l) (by rw [hs, encs_len E]) holds ⟨b, 0, none⟩ 1 1 (enc x) (by rw [hs, E.len, Nat.one_mul]) hnews (by omega) (by omega) (by rw [hbyt]; exact growslice_fits (by omega) hlen)
  have hll : (l ++ [x]).length = l.length + 1 := by simp
  refine runs_of hrun ?_
  have hge := grownCap_ge w (l.length + 1) c te
  have hcm : grownCap w (l.length + 1) c te ≤ maxLen := grownCap_le_maxLen w (l.length + 1) c te (by unfold maxLen; omega)
  have := hK (some ⟨w.heap.size, 0, none⟩) (grownCap w (l.length + 1) c te) (w.drew.alloc (.cells ((encs enc l).toArray ++ (enc x).toArray ++ Builtin.zeroCells z.cells (grownCap w (l.length + 1) c te - (l.length + 1))) te)) ?_ ((Below.refl w.heap.size w).drew.alloc (Nat.le_refl _) _)
  · rw [hll] at this; exact this
  have hev : encs enc (l ++ [x]) = encs enc l ++ enc x := by rw [encs_app]; simp [encs]
  unfold OwnE
  rw [hll]
  refine ⟨by rw [encs_len E, hll], .inr ⟨w.heap.size, _, _, rfl, Nat.le_refl _, heap_alloc_new w.drew _, hge, hcm, ?_, ?_⟩⟩
  · simp only [Array.size_append, List.size_toArray, size_zeroCells, hz1, encs_len E, E.len]
    have : l.length * k + k + (grownCap w (l.length + 1) c te - (l.length + 1)) * k = (l.length + 1 + (grownCap w (l.length + 1) c te - (l.length + 1))) * k := by rw [Nat.add_mul, Nat.add_mul, Nat.one_mul]
    rw [this]
    congr 1
    omega
  · rw [hev]
    simp only [Array.toList_append, List.append_assoc]
    rw [← List.append_assoc]
    have e : (l.length + 1) * k = (encs enc l ++ enc x).length := by rw [List.length_append, encs_len E, E.len, Nat.add_mul, Nat.one_mul]
    rw [e]
    exact List.take_left
end Go.Dn
