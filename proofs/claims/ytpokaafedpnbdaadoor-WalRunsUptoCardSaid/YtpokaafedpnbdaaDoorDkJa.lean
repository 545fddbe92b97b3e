/- A disk in memory: New. Conditions: none. -/
import Derived.Test.YtpokaafedpnbdaaDoorDkI
import Derived.Laws.OwnMore
namespace Go.Proofs.YtpokaafedpnbdaaDoor.Rd
open Go.Dn Go.RowKit Go.Shelf
set_option linter.unusedVariables false
set_option linter.unusedSimpArgs false
set_option maxRecDepth 100000
def nS (x : Int) : Nat := if 4096 < x then 4096 else x.toNat
theorem nS_le (x : Int) : nS x ≤ 4096 := by unfold nS; split <;> omega
theorem nS_eq (x : Int) : (if (4096 : Int) < (if (0 : Int) > x then (0 : Int) else x) then (4096 : Int) else (if (0 : Int) > x then (0 : Int) else x)) = (nS x : Int) := by
  unfold nS
  by_cases h : (0 : Int) > x
  · rw [if_pos h, if_neg (by omega), if_neg (by omega)]; omega
  · rw [if_neg h]
    by_cases h2 : 4096 < x
    · rw [if_pos h2, if_pos h2]; rfl
    · rw [if_neg h2, if_neg h2]; omega
theorem encs_rep : ∀ n, encs secL (List.replicate n z0) = List.replicate (n * 512) (bV 0)
  | 0 => by simp [encs]
  | n + 1 => by
    have ih := encs_rep n
    unfold encs at ih ⊢
    rw [List.replicate_succ, List.flatMap_cons, ih]
    have : secL z0 = List.replicate 512 (bV 0) := by simp only [secL, z0, List.map_replicate]
    rw [this, List.replicate_append_replicate]
    congr 1
    omega
theorem made_rep (n : Nat) : (madeCells (secV z0) (n * 512)).toList = List.replicate (n * 512) (bV 0) := by
  rw [List.eq_replicate_iff]
  refine ⟨by rw [Array.length_toList, size_madeCells], fun b hb => ?_⟩
  have hb' : b ∈ ((Array.range (n * 512)).map ((secV z0)[· % (secV z0).size]!)).toList := hb
  rw [Array.toList_map] at hb'
  obtain ⟨i, _, rfl⟩ := List.mem_map.1 hb'
  have hs : (secV z0).size = 512 := secV_size z0
  have hlt : i % (secV z0).size < (secV z0).size := Nat.mod_lt _ (by rw [hs]; decide)
  have hm : (secV z0)[i % (secV z0).size]! ∈ (secV z0).toList := by
    rw [getElem!_pos (secV z0) _ hlt]
    exact Array.getElem_mem_toList hlt
  rw [z0L] at hm
  exact (List.mem_replicate.1 hm).2
def newD (n : Nat) : Dk := ⟨List.replicate n z0, [], [], 0, false⟩
theorem TSinfo : ∃ i z, Tryd.prog.info? TS = some i ∧ i.zero = some z ∧ z.cells = secV z0 ∧ i.size = 512 ∧ i.bytes = 512 := by
  obtain ⟨i, z, h1, h2, h3, h4, h5⟩ := RTs.info
  refine ⟨i, z, h1, h2, ?_, h4, h5⟩
  have := zeroCs_sec
  unfold zeroCs at this
  rw [h1] at this
  simp only [Option.bind_some, h2] at this
  exact this
theorem New_ok (w : World) (x : Int) : Calls Tryd.prog 30 #[.int .i64 x] w fun e w' => ∃ r, e = .returned (.pointer (some ⟨r.D, 0, none⟩)) ∧ DM w' w.heap.size r (newD (nS x)) ∧ Below w.heap.size w w' := by
  apply f_disk_New.ok
  unfold f_disk_New.wp
  rw [nS_eq]
  have hn := nS_le x
  obtain ⟨i, z, hi, hz, hz1, hs, hby⟩ := TSinfo
  obtain ⟨w1, hrun, ho, hg⟩ := run_makeSlice_full (P := Tryd.prog) w w.heap.size 79 TS i z 512 RTs.und hi hz hs .i64 .i64 (nS x) (by omega) (by rw [hby]; omega) (by unfold maxLen; omega) (Nat.le_refl _)
  rw [hz1, made_rep, ← encs_rep] at ho
  have b1 : Below w.heap.size w w1 := ⟨hg.os, hg.tape, hg.output, hg.size, fun k hk => hg.block k hk (by simp)⟩
  refine runs_of hrun ⟨_, _, _, rfl, ?_⟩
  refine alW_intro (al_new fun w3 b e s h g => ?_)
  have gm := GM.new (eK := eI) (eV := eS) (okK := W64) w1
  have g2 : Below w1.heap.size w1 (w1.alloc (.map #[] 0)) := (Below.refl _ _).alloc (Nat.le_refl _) _
  have ho' : OwnE secL 512 w1 w.heap.size TS (some ⟨w.heap.size, 0, none⟩) (nS x) (List.replicate (nS x) z0) := by unfold OwnE; rw [List.length_replicate]; exact ho
  have hsz : (w1.alloc (.map #[] 0)).heap.size = w1.heap.size + 1 := by simp
  have h' : HB w3 b (dkC ⟨b, some ⟨w.heap.size, 0, none⟩, nS x, w1.heap.size, none, 0⟩ (newD (nS x))) TDk := by
    unfold dkC newD dC
    simp only [List.length_replicate, List.length_nil]
    exact h
  refine ⟨⟨b, some ⟨w.heap.size, 0, none⟩, nS x, w1.heap.size, none, 0⟩, rfl, ⟨h', (ho'.below g2).below g, gm.below g, OwnE.none _ _ _ _ _, ⟨by have := b1.size; show w.heap.size ≤ b; omega, b1.size⟩, by simpa [newD] using hn, (fun p hp => by cases hp), by simp [newD]⟩, (b1.trans (g2.mono b1.size)).trans (g.mono (by have := b1.size; omega))⟩
end Go.Proofs.YtpokaafedpnbdaaDoor.Rd
