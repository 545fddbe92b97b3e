/- A disk in memory: sectors, rows of sectors, whole arrays loaded and stored. Conditions: none. -/
import Derived.Deep.MidRow
import Derived.Deep.WholeRow
import Derived.Laws.CopyRow
import Derived.Test.YtpokaafedpnbdaaDoorDkB
import Derived.Test.YtpokaafedpnbdaaDoorRecR
import Derived.Test.YtpokaafedpnbdaaDoorMapG
namespace Go.Dn
open Go.RowKit
open Go.ChangeMaps (setBlock)
set_option linter.unusedVariables false
theorem setRow_keeps (w : World) (g : Nat) (cs : Array Value) : Keeps (fun k => k = g) w (w.setRow g cs) :=
  ⟨rfl, rfl, rfl, by simp [World.setRow], fun k hk hn => by
    have hn : ¬ g = k := fun e => hn e.symm
    simp [World.setRow, Array.getElem?_modify, hn]⟩
theorem HB.setRow {w : World} {b : Nat} {cs : Array Value} {t : TypeId} (h : HB w b cs t) (cs' : Array Value) : HB (w.setRow b cs') b cs' t := by
  unfold HB at *
  simp [World.setRow, Array.getElem?_modify, h]
/-- a map emptied -/
theorem GM.clear {κ β : Type} [DecidableEq κ] {P : Program} {t k e : TypeId} {eK : κ → Value} {eV : β → Value} {okK : κ → Prop} {w : World} {b : Nat} {m : List (κ × β)} (T : KT P t k e eK okK) (h : GM w eK eV okK b m) {ty : TypeId} {K : Value → World → Prop}
    (hk : ∀ w', GM w' eK eV okK b [] → Keeps (fun k => k = b) w w' → K (.tuple #[]) w') : Runs P (Builtin.clear_ #[t] ty #[.map (some b)]) w K := by
  obtain ⟨es, clock, hb, hst, he⟩ := h.dat
  have hset : (setObj b (.map #[] clock) : Sem Unit).run P w = .ok () (setBlock w b (.map #[] clock)) := by
    simp [setObj, Sem.run, hb, setBlock]
  refine runs_of (w' := setBlock w b (.map #[] clock)) (a := .tuple #[]) ?_ (hk _ ⟨by simp, by simp [NdK], #[], clock, sb_same hb, MapKept.stamped_empty clock, rfl⟩ (keeps_setBlock hb))
  simp [Builtin.clear_, run_underlying T.und, MapKept.run_getObj_map hb, hset, Result.andThen]
end Go.Dn
namespace Go.Proofs.YtpokaafedpnbdaaDoor.Rd
open Go.Dn Go.RowKit
set_option linter.unusedVariables false
set_option maxRecDepth 100000
/-- a sector's bytes -/
abbrev Sec := { l : List Int // l.length = 512 }
def bV (x : Int) : Value := .int .u8 x
def secL (s : Sec) : List Value := s.1.map bV
def secV (s : Sec) : Array Value := (secL s).toArray
theorem secV_size (s : Sec) : (secV s).size = 512 := by simp [secV, secL, s.2]
theorem secL_len (s : Sec) : (secL s).length = 512 := by simp [secL, s.2]
theorem secL_one (s : Sec) : ∀ u ∈ secL s, u.oneCell' = true := fun u hu => by
  obtain ⟨x, _, rfl⟩ := List.mem_map.1 hu
  rfl
theorem secV_one (s : Sec) : (secV s).all (·.oneCell') = true := by
  rw [Array.all_eq_true_iff_forall_mem]
  intro v hv
  exact secL_one s v (by simpa [secV] using hv)
theorem ES : Enc secL 512 := ⟨secL_len, secL_one, by decide⟩
abbrev TS : TypeId := 97
theorem TSu : Tryd.prog.underlying TS = some (.array 512 5) := by kernel_rfl
theorem TSi : (Tryd.prog.info? TS).map (·.size) = some 512 := by kernel_rfl
def z0 : Sec := ⟨List.replicate 512 0, by simp⟩
theorem zeroCs_sec : zeroCs Tryd.prog TS = secV z0 := by kernel_rfl
theorem zS (w : World) : (zeroValue TS).run Tryd.prog w = .ok (.agg (secV z0)) w := by kernel_rfl
section
variable {w : World} {b : Nat} {s s' : Sec}
theorem big_ld0 (h : HB w b (secV s) TS) {K : Value → World → Prop} (hk : K (.agg (secV s)) w) : Runs Tryd.prog (Instr.loadAt TS (.pointer (some ⟨b, 0, none⟩))) w K := by
  refine runs_of ?_ hk
  have := run_loadAt_mid (P := Tryd.prog) w b 0 TS (secL s) (.array 512 5) (fun j v hj => by rw [Nat.zero_add]; have := h.cell j; rw [add_mk, Nat.zero_add] at this; rw [this, ← hj]; simp [secV]) TSu rfl (by rw [TSi, secL_len])
  exact this
theorem big_ldv (h : HB w b (secV s) TS) {K : Array Value → Prop} (hk : K (secV s)) : ldBig Tryd.prog w TS (⟨b, 0, none⟩ : Addr) K := by
  refine ⟨_, ?_, hk⟩
  exact run_loadVar_mid (P := Tryd.prog) w b 0 TS (secL s) (.array 512 5) (fun j v hj => by rw [Nat.zero_add]; have := h.cell j; rw [add_mk, Nat.zero_add] at this; rw [this, ← hj]; simp [secV]) TSu rfl (by rw [TSi, secL_len])
theorem big_st0 (h : HB w b (secV s) TS) {K : Unit → World → Prop} (hk : ∀ w', HB w' b (secV s') TS → Keeps (fun k => k = b) w w' → K () w') : Runs Tryd.prog (Instr.storeAt TS (.pointer (some ⟨b, 0, none⟩)) (.agg (secV s'))) w K := by
  refine runs_of (w' := w.setRow b (secV s')) ?_ (hk _ (h.setRow _) (setRow_keeps _ _ _))
  have := run_storeVar_row (P := Tryd.prog) w b TS TS (secV s) (secV s') h (by rw [TSi, secV_size]) (by rw [secV_size, secV_size]) (secV_one s')
  simp only [Instr.storeAt, Instr.sureAddr, Sem.run_bind, Sem.run_pure, Result.andThen]
  exact this
/-- a sector out of a row -/
theorem sec_ld {g : Nat} {l : List Sec} (h : RowE secL 512 w (some ⟨g, 0, none⟩) l) {i : Nat} (hi : i < l.length) {K : Value → World → Prop} (hk : K (.agg (secV l[i])) w) : Runs Tryd.prog (Instr.loadAt TS (.pointer (some ((⟨g, 0, none⟩ : Addr).add (i * 512))))) w K := by
  refine runs_of ?_ hk
  rw [add_mk, Nat.zero_add]
  exact run_loadAt_mid (P := Tryd.prog) w g (i * 512) TS (secL l[i]) (.array 512 5) (fun j v hj => by
    have hjl : j < 512 := by rw [← secL_len l[i]]; exact (List.getElem?_eq_some_iff.1 hj).1
    have := h.cj hi hjl
    rw [add_mk, add_mk, Nat.zero_add] at this
    rw [this, hj]) TSu rfl (by rw [TSi, secL_len])
theorem encs_setS : ∀ {l : List Sec} {i : Nat} (hi : i < l.length) (x : Sec), encs secL (l.set i x) = (encs secL l).take (i * 512) ++ secL x ++ (encs secL l).drop (i * 512 + 512)
  | [], i, hi, x => by simp at hi
  | a :: l, 0, hi, x => by
    simp only [List.set_cons_zero, Nat.zero_mul, List.take_zero, List.nil_append, Nat.zero_add, encs, List.flatMap_cons]
    rw [List.drop_append, List.drop_eq_nil_of_le (by rw [secL_len]; omega), secL_len]
    simp
  | a :: l, i + 1, hi, x => by
    have ih := encs_setS (l := l) (i := i) (by simpa using hi) x
    simp only [List.set_cons_succ, encs, List.flatMap_cons] at ih ⊢
    have h1 : List.take ((i + 1) * 512) (secL a) = secL a := List.take_of_length_le (by rw [secL_len]; omega)
    have h2 : List.drop ((i + 1) * 512 + 512) (secL a) = [] := List.drop_eq_nil_of_le (by rw [secL_len]; omega)
    rw [ih, List.take_append, List.drop_append, secL_len, h1, h2]
    have e1 : (i + 1) * 512 - 512 = i * 512 := by omega
    have e2 : (i + 1) * 512 + 512 - 512 = i * 512 + 512 := by omega
    rw [e1, e2]
    simp
/-- a sector into a row of one's own -/
theorem sec_st {B c : Nat} {A : Option Addr} {l : List Sec} (h : OwnE secL 512 w B TS A c l) {i : Nat} (hi : i < l.length) {K : Unit → World → Prop} (hk : ∀ w', OwnE secL 512 w' B TS A c (l.set i s) → Keeps (Ob A) w w' → K () w') :
    ∃ g, A = some ⟨g, 0, none⟩ ∧ Runs Tryd.prog (Instr.storeAt TS (.pointer (some ((⟨g, 0, none⟩ : Addr).add (i * 512)))) (.agg (secV s))) w K := by
  obtain ⟨hl, h⟩ := h
  rcases h with ⟨_, h0⟩ | ⟨g, cap, cur, hv', hg, hh, hn, hm, hs, ht⟩
  · omega
  · injection hv' with hA hn' hc
    subst hA; subst hc
    refine ⟨g, rfl, ?_⟩
    have hcs : l.length * 512 ≤ cur.size := by rw [hs]; exact Nat.mul_le_mul_right _ hn
    have hil : i * 512 + 512 ≤ l.length * 512 := by omega
    have hst := run_storeCells_at (P := Tryd.prog) g (i * 512) TS (secL s) 0 cur w hh (by rw [secL_len]; omega) (secL_one s)
    rw [secL_len, Nat.add_zero] at hst
    refine runs_of (w' := w.setRow g (cur.toList.take (i * 512) ++ secL s ++ cur.toList.drop (i * 512 + 512)).toArray) ?_ (hk _ ⟨?_, .inr ⟨g, c, (cur.toList.take (i * 512) ++ secL s ++ cur.toList.drop (i * 512 + 512)).toArray, ?_, hg, HB.setRow (show HB w g cur TS from hh) _, ?_, hm, ?_, ?_⟩⟩ ((setRow_keeps _ _ _).mono fun k _ e => ⟨_, rfl, e.symm⟩))
    · rw [add_mk, Nat.zero_add]
      simp only [Instr.storeAt, Instr.sureAddr, Sem.run_bind, Sem.run_pure, Result.andThen]
      obtain ⟨io, hio⟩ : ∃ io, Tryd.prog.info? TS = some io := by
        cases hq : Tryd.prog.info? TS with
        | none => have := TSi; rw [hq] at this; cases this
        | some io => exact ⟨io, rfl⟩
      have hsz : io.size = 512 := by have := TSi; rw [hio] at this; simpa using this
      have e : (secV s).toList = secL s := by simp [secV]
      simp [storeVar, sizeOf, typeInfo, hio, Value.cells, hsz, secV_size, e, hst]
    · rw [encs_len ES, List.length_set]
    · rw [List.length_set]
    · rw [List.length_set]; exact hn
    · simp [secL_len, hs]; omega
    · rw [List.length_set, encs_setS hi, ← ht]
      simp only [List.take_append, List.take_take, List.length_append, List.length_take, Array.length_toList, secL_len]
      have e1 : min (i * 512) cur.size = i * 512 := by omega
      have e2 : min (l.length * 512) (i * 512) = i * 512 := by omega
      have e3 : min (i * 512) (l.length * 512) = i * 512 := by omega
      rw [e1, e2, e3, List.take_of_length_le (l := secL s) (by rw [secL_len]; omega), List.drop_take]
end
end Go.Proofs.YtpokaafedpnbdaaDoor.Rd
