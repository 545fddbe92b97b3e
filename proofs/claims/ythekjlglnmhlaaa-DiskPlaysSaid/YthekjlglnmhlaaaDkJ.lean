/- A disk in memory: New, All, Safe. Conditions: none. -/
import Derived.Test.YthekjlglnmhlaaaDkI
import Derived.Laws.OwnMore
namespace Go.Proofs.Ythekjlglnmhlaaa.Rd
open Go.Dn Go.RowKit Go.Shelf
set_option linter.unusedVariables false
set_option linter.unusedSimpArgs false
set_option maxRecDepth 100000
def nS (x : Int) : Nat := if 4096 < x then 4096 else x.toNat
theorem nS_le (x : Int) : nS x ≤ 4096 := by unfold nS; split <;> omega
theorem nS_eq (x : Int) : (if (4096 : Int) < (if (0 : Int) > x then (0 : Int) else x) then (4096 : Int) else (if (0 : Int) > x then (0 : Int) else x)) = (nS x : Int) := by
  unfold nS
  by_cases h : (0 : Int) > x
  · rw [if_pos h, if_neg (by omega), if_neg (by omega)]; omega
  · rw [if_neg h]
    by_cases h2 : 4096 < x
    · rw [if_pos h2, if_pos h2]; rfl
    · rw [if_neg h2, if_neg h2]; omega
theorem encs_rep : ∀ n, encs secL (List.replicate n z0) = List.replicate (n * 512) (bV 0)
  | 0 => by simp [encs]
  | n + 1 => by
    have ih := encs_rep n
    unfold encs at ih ⊢
    rw [List.replicate_succ, List.flatMap_cons, ih]
    have : secL z0 = List.replicate 512 (bV 0) := by simp only [secL, z0, List.map_replicate]
    rw [this, List.replicate_append_replicate]
    congr 1
    omega
theorem made_rep (n : Nat) : (madeCells (secV z0) (n * 512)).toList = List.replicate (n * 512) (bV 0) := by
  rw [List.eq_replicate_iff]
  refine ⟨by rw [Array.length_toList, size_madeCells], fun b hb => ?_⟩
  have hb' : b ∈ ((Array.range (n * 512)).map ((secV z0)[· % (secV z0).size]!)).toList := hb
  rw [Array.toList_map] at hb'
  obtain ⟨i, _, rfl⟩ := List.mem_map.1 hb'
  have hs : (secV z0).size = 512 := secV_size z0
  have hlt : i % (secV z0).size < (secV z0).size := Nat.mod_lt _ (by rw [hs]; decide)
  have hm : (secV z0)[i % (secV z0).size]! ∈ (secV z0).toList := by
    rw [getElem!_pos (secV z0) _ hlt]
    exact Array.getElem_mem_toList hlt
  rw [z0L] at hm
  exact (List.mem_replicate.1 hm).2
def newD (n : Nat) : Dk := ⟨List.replicate n z0, [], [], 0, false⟩
theorem TSinfo : ∃ i z, Try.prog.info? TS = some i ∧ i.zero = some z ∧ z.cells = secV z0 ∧ i.size = 512 ∧ i.bytes = 512 := by
  obtain ⟨i, z, h1, h2, h3, h4, h5⟩ := RTs.info
  refine ⟨i, z, h1, h2, ?_, h4, h5⟩
  have := zeroCs_sec
  unfold zeroCs at this
  rw [h1] at this
  simp only [Option.bind_some, h2] at this
  exact this
theorem New_ok (w : World) (x : Int) : Calls Try.prog 10 #[.int .i64 x] w fun e w' => ∃ r, e = .returned (.pointer (some ⟨r.D, 0, none⟩)) ∧ DM w' w.heap.size r (newD (nS x)) ∧ Below w.heap.size w w' := by
  apply f_disk_New.ok
  unfold f_disk_New.wp
  rw [nS_eq]
  have hn := nS_le x
  obtain ⟨i, z, hi, hz, hz1, hs, hby⟩ := TSinfo
  obtain ⟨w1, hrun, ho, hg⟩ := run_makeSlice_full (P := Try.prog) w w.heap.size 65 TS i z 512 RTs.und hi hz hs .i64 .i64 (nS x) (by omega) (by rw [hby]; omega) (by unfold maxLen; omega) (Nat.le_refl _)
  rw [hz1, made_rep, ← encs_rep] at ho
  have b1 : Below w.heap.size w w1 := ⟨hg.os, hg.tape, hg.output, hg.size, fun k hk => hg.block k hk (by simp)⟩
  refine runs_of hrun ⟨_, _, _, rfl, ?_⟩
  refine alW_intro (al_new fun w3 b e s h g => ?_)
  have gm := GM.new (eK := eI) (eV := eS) (okK := W64) w1
  have g2 : Below w1.heap.size w1 (w1.alloc (.map #[] 0)) := (Below.refl _ _).alloc (Nat.le_refl _) _
  have ho' : OwnE secL 512 w1 w.heap.size TS (some ⟨w.heap.size, 0, none⟩) (nS x) (List.replicate (nS x) z0) := by unfold OwnE; rw [List.length_replicate]; exact ho
  have hsz : (w1.alloc (.map #[] 0)).heap.size = w1.heap.size + 1 := by simp
  have h' : HB w3 b (dkC ⟨b, some ⟨w.heap.size, 0, none⟩, nS x, w1.heap.size, none, 0⟩ (newD (nS x))) TDk := by
    unfold dkC newD dC
    simp only [List.length_replicate, List.length_nil]
    exact h
  refine ⟨⟨b, some ⟨w.heap.size, 0, none⟩, nS x, w1.heap.size, none, 0⟩, rfl, ⟨h', (ho'.below g2).below g, gm.below g, OwnE.none _ _ _ _ _, ⟨by have := b1.size; show w.heap.size ≤ b; omega, b1.size⟩, by simpa [newD] using hn, (fun p hp => by cases hp), by simp [newD]⟩, (b1.trans (g2.mono b1.size)).trans (g.mono (by have := b1.size; omega))⟩
/-! ### all bytes -/
def eB (x : Int) : List Value := [bV x]
theorem EB : Enc eB 1 := ⟨fun _ => rfl, fun x u hu => by simp only [eB, List.mem_singleton] at hu; subst hu; rfl, by decide⟩
theorem RTb : RecTy Try.prog 35 5 1 1 := ⟨by kernel_rfl, by kernel_rfl⟩
def bytesOf (l : List Sec) : List Int := l.flatMap (·.1)
theorem bytesOf_len : ∀ (l : List Sec), (bytesOf l).length = l.length * 512
  | [] => rfl
  | s :: l => by
    have := bytesOf_len l
    unfold bytesOf at this ⊢
    rw [List.flatMap_cons, List.length_append, this, s.2, List.length_cons]
    omega
theorem secRow {w : World} {b : Nat} {s : Sec} (h : HB w b (secV s) TS) : RowE eB 1 w (some ⟨b, 0, none⟩) s.1 := fun i hi => by
  refine ⟨_, rfl, fun j hj => ?_⟩
  obtain rfl : j = 0 := by omega
  have := h.cell i
  rw [add_mk, Nat.zero_add] at this
  rw [add_mk, add_mk, Nat.zero_add, Nat.mul_one, Nat.add_zero, this]
  simp [secV, secL, eB, hi]
def allD (d : Dk) : List Sec := (List.range d.safe.length).map fun (i : Nat) => hasS d (i : Int)
section
variable {w w' : World} {B : Nat} {r : RD} {d : Dk}
theorem all_l0 {w0 : World} (h : DM w0 B r d) {K0 : Option Addr → Nat → Nat → World → Prop}
    (k0 : ∀ w A c, OwnE eB 1 w w0.heap.size 5 A c (bytesOf (allD d)) → Below w0.heap.size w0 w → K0 A (bytesOf (allD d)).length c w) :
    ∀ (m i : Nat) (w : World) (A : Option Addr) (n c : Nat), d.safe.length - i = m → i ≤ d.safe.length → OwnE eB 1 w w0.heap.size 5 A c (bytesOf ((allD d).take i)) → n = (bytesOf ((allD d).take i)).length → Below w0.heap.size w0 w →
      f_disk_Disk_All.l0 (m + 1) (⟨r.D, 0, none⟩ : Addr) A n c (d.safe.length : Int) (i : Int) w K0 := by
  have hsl := h.sl
  have hal : (allD d).length = d.safe.length := by simp [allD]
  intro m
  induction m with
  | zero =>
    intro i w A n c hm hi o en hb
    have : i = d.safe.length := by omega
    subst this
    rw [List.take_of_length_le (by omega)] at o en
    subst en
    unfold f_disk_Disk_All.l0
    exact sel_f (by simp) (k0 w A c o hb)
  | succ m ih =>
    intro i w A n c hm hi o en hb
    have hlt : i < d.safe.length := by omega
    have hw : IntKind.i64.wrap ((i : Int) + 1) = ((i + 1 : Nat) : Int) := by rw [w64_in (by omega)]; omega
    have htk : (allD d).take (i + 1) = (allD d).take i ++ [hasS d (i : Int)] := by
      rw [List.take_succ_eq_append_getElem (by omega)]
      simp [allD]
    have hbl := bytesOf_len ((allD d).take i)
    rw [List.length_take] at hbl
    unfold f_disk_Disk_All.l0
    refine sel_t (by simpa using hlt) ((has_ok (h.below hb) (by omega) (by omega)).mono ?_)
    rintro _ w1 ⟨rfl, g1⟩
    refine ⟨_, rfl, ?_⟩
    rw [show zeroCs Try.prog 76 = secV z0 from zeroCs_sec]
    refine al_new fun w2 b e s h2 g2 => big_st0 h2 fun w3 h3 k3 => ?_
    have h13 : Below w.heap.size w w3 := by
      have g := g1.trans (g2.mono g1.size)
      exact g.trans (k3.below g.size fun k hk e => by have := g1.size; omega)
    have hb3 : Below w0.heap.size w0 w3 := hb.trans (h13.mono hb.size)
    have e512 : (hasS d (i : Int)).1.length = 512 := (hasS d (i : Int)).2
    refine app_row2 RTb EB (by decide) (o.below h13) en (secRow h3) e512.symm (fun h => by cases h) hb3.size (by rw [hbl, e512]; omega) fun A' c' w4 o4 k4 f4 => ⟨_, _, _, rfl, ?_⟩
    rw [hw]
    have eb : bytesOf ((allD d).take (i + 1)) = bytesOf ((allD d).take i) ++ (hasS d (i : Int)).1 := by rw [htk]; simp [bytesOf]
    refine ih (i + 1) w4 A' _ c' (by omega) (by omega) (by rw [eb]; exact o4) (by rw [eb]) (hb3.trans (k4.below hb3.size fun k hk ⟨a, ha, e⟩ => by have := (o.block a ha).1; omega))
theorem All_ok (h : DM w B r d) : Calls Try.prog 26 #[.pointer (some ⟨r.D, 0, none⟩)] w fun e w' => ∃ A c, e = .returned (.slice A (bytesOf (allD d)).length c) ∧ OwnE eB 1 w' w.heap.size 5 A c (bytesOf (allD d)) ∧ Below w.heap.size w w' := by
  apply f_disk_Disk_All.ok
  unfold f_disk_Disk_All.wp
  refine hb_ldS0 h.hb (A := r.A) (n := d.safe.length) (c := r.c) rfl ⟨d.safe.length + 1, all_l0 h (fun w1 A c o g => ?_) d.safe.length 0 w none 0 0 rfl (by omega) (OwnE.none _ _ _ _ _) rfl (Below.refl _ _)⟩
  exact fun _ => ⟨A, c, rfl, o, g⟩
end
end Go.Proofs.Ythekjlglnmhlaaa.Rd
