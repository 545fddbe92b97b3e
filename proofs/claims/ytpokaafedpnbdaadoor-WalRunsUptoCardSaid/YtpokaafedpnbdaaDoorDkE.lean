/- A disk in memory: settle; what Write and Sync do. Conditions: none. -/
import Derived.Test.YtpokaafedpnbdaaDoorDkD
import Derived.Laws.IdiomCopy
namespace Go.Proofs.YtpokaafedpnbdaaDoor.Rd
open Go.Dn Go.RowKit
set_option linter.unusedVariables false
set_option linter.unusedSimpArgs false
set_option maxRecDepth 100000
def setS (d : Dk) (i : Int) : Dk := { d with safe := d.safe.set i.toNat (hasS d i) }
section
variable {w w' : World} {B : Nat} {r : RD} {d : Dk}
theorem hdS_i0 {S : World → Prop} {b : Nat} {cs : Array Value} {t : TypeId} (h : ∀ w, S w → HB w b cs t) {A : Option Addr} {n c : Nat} (hj : cs[0]? = some (.slice A n c)) {K : Option Addr → Nat → Nat → Prop} (hk : K A n c) : hdS S (⟨b, 0, none⟩ : Addr) K := ⟨_, _, _, fun w hs => ((h w hs).cell 0).trans hj, hk⟩
theorem settle_ok (h : DM w B r d) {i : Int} (h0 : 0 ≤ i) (h1 : i < d.safe.length) :
    Calls Tryd.prog 38 #[.pointer (some ⟨r.D, 0, none⟩), .int .i64 i] w fun e w' => e = .returned (.tuple #[]) ∧ DM w' B r (setS d i) ∧ Keeps (Ob r.A) w w' := by
  apply f_disk_Disk_settle.ok
  unfold f_disk_Disk_settle.wp
  have bd : Below w.heap.size w w.drew := (Below.refl _ _).drew
  have hd := h.below bd
  have hsl := h.sl
  refine drW_intro ⟨fun w' => HB w' r.D (dkC r d) TDk, hd.hb, hdS_i0 (fun _ h => h) (A := r.A) (n := d.safe.length) (c := r.c) rfl ((has_ok hd h0 h1).mono ?_)⟩
  rintro _ w2 ⟨rfl, g2⟩
  have b2 : Below w.heap.size w w2 := bd.trans g2
  have hm2 := hd.below g2
  have hi : i.toNat < d.safe.length := by omega
  obtain ⟨g, hg, hst⟩ := sec_st (s := hasS d i) hm2.sf hi (K := fun _ w' => OwnE secL 512 w' B TS r.A r.c (d.safe.set i.toNat (hasS d i)) ∧ Keeps (Ob r.A) w2 w') (fun w' o k => ⟨o, k⟩)
  obtain ⟨u, w3, hrun, o3, k3⟩ := hst
  refine ⟨_, rfl, hm2.hb, optB_some hg (req_intro (by simp; omega) ⟨u, w3, hrun, rfl, ?_, (Keeps.of_below b2).trans k3⟩)⟩
  obtain ⟨d1, d2, d3, d4, d5, d6⟩ := hm2.dd
  refine ⟨?_, o3, hm2.gm.keeps k3 d3, hm2.pl.keeps k3 fun a ha ho => d6 _ ho ⟨a, ha, rfl⟩, h.lo, ?_, ?_, h.pn⟩
  · have := hm2.hb.keeps k3 d2
    simpa [dkC, setS] using this
  · simpa [setS] using h.sl
  · intro p hp
    have := h.pk p hp
    simpa [setS] using this
/-- a row of bytes, readable -/
def RB (w : World) (A : Option Addr) (l : List Int) : Prop := ∀ i (hi : i < l.length), ∃ a, A = some a ∧ w.cell? (a.add i) = some (.int .u8 l[i])
theorem RB.keeps {S : Nat → Prop} {A : Option Addr} {l : List Int} (h : RB w A l) (k : Keeps S w w') (hA : ∀ a, A = some a → ¬ S a.block) : RB w' A l := fun i hi => by
  obtain ⟨a, ha, hc⟩ := h i hi
  exact ⟨a, ha, k.cell hc (by rw [add_block]; exact hA a ha)⟩
theorem RB.belw {A : Option Addr} {l : List Int} (h : RB w A l) (k : Below w.heap.size w w') : RB w' A l := h.keeps (S := fun _ => False) (.of_below k) fun _ _ => id
/-- bytes, and zeros behind them -/
def secOf (l : List Int) : Sec := ⟨(l ++ List.replicate (512 - l.length) 0).take 512, by rw [List.length_take, List.length_append, List.length_replicate]; omega⟩
theorem z0L : (secV z0).toList = List.replicate 512 (bV 0) := by
  simp only [secV, secL, z0, List.map_replicate]
theorem secOf_L {l : List Int} (hl : l.length ≤ 512) : secL (secOf l) = l.map bV ++ List.replicate (512 - l.length) (bV 0) := by
  unfold secL secOf
  simp only
  rw [List.take_of_length_le (by rw [List.length_append, List.length_replicate]; omega), List.map_append, List.map_replicate]
theorem copy_sec {b : Nat} (hb : HB w b (secV z0) TS) {A : Option Addr} {l : List Int} {c : Nat} (hr : RB w A l) (hl : l.length ≤ 512) {K : Value → World → Prop} (hk : ∀ w', HB w' b (secV (secOf l)) TS → Keeps (fun k => k = b) w w' → K (.int .i64 (l.length : Int)) w') :
    Runs Tryd.prog (Builtin.copy_ #[29, 29] 3 #[.slice (some (slB (⟨b, 0, none⟩ : Addr) 0 512 1)) (512 - 0) (512 - 0), .slice A l.length c]) w K := by
  have hslb : slB (⟨b, 0, none⟩ : Addr) 0 512 1 = ⟨b, 0, none⟩ := rfl
  rw [hslb]
  have hu : Tryd.prog.underlying 29 = some (.slice 5) := by kernel_rfl
  have hs : (Tryd.prog.info? 5).map (·.size) = some 1 := by kernel_rfl
  by_cases h0 : l = []
  · subst h0
    have := run_copy_none (P := Tryd.prog) w 29 29 3 5 (some ⟨b, 0, none⟩) A (512 - 0) (512 - 0) 0 c hu hs (by simp)
    refine runs_of this (hk w ?_ (.refl _ _))
    have e : secOf [] = z0 := by apply Subtype.ext; simp [secOf, z0]
    rw [e]; exact hb
  · obtain ⟨a, ha, _⟩ := hr 0 (List.length_pos_iff.2 h0)
    subst ha
    have hm : Nat.min l.length (512 - 0) = l.length := by show min l.length 512 = l.length; omega
    have := run_copy_row (P := Tryd.prog) w 29 29 3 5 b 0 (512 - 0) (512 - 0) a l.length c (secV z0) TS (l.map bV) hu hs hb (by rw [List.length_map, hm]) (fun j v hj => by
      rw [List.getElem?_map] at hj
      obtain ⟨x, hx, rfl⟩ := Option.map_eq_some_iff.1 hj
      obtain ⟨hjl, rfl⟩ := List.getElem?_eq_some_iff.1 hx
      obtain ⟨a', ha', hc⟩ := hr j hjl
      injection ha' with ha'; subst ha'
      exact hc) (by rw [List.length_map, secV_size]; omega) (fun v hv => by obtain ⟨x, _, rfl⟩ := List.mem_map.1 hv; rfl)
    have e : ((secV z0).toList.take 0 ++ l.map bV ++ (secV z0).toList.drop (0 + (l.map bV).length)).toArray = secV (secOf l) := by
      rw [z0L, secV, secOf_L hl]
      congr 1
      rw [List.take_zero, List.nil_append, List.drop_replicate, List.length_map, Nat.zero_add]
    rw [e] at this
    refine runs_of this ?_
    have := hk (w.setRow b (secV (secOf l))) (hb.setRow _) (setRow_keeps _ _ _)
    simpa [goInt] using this
/-- what Write does in its step -/
theorem write1_ok (h : DM w B r d) {ba bd bi : Nat} {ta td ti : TypeId} {A : Option Addr} {c : Nat} {l : List Int} {i : Int} (hA : HB w ba #[.slice A l.length c] ta) (hD : HB w bd #[.pointer (some ⟨r.D, 0, none⟩)] td) (hI : HB w bi #[.int .i64 i] ti) (hr : RB w A l) (hl : l.length ≤ 512) (h0 : 0 ≤ i) (h1 : i < d.safe.length) :
    Calls Tryd.prog 49 #[.pointer (some ⟨ba, 0, none⟩), .pointer (some ⟨bd, 0, none⟩), .pointer (some ⟨bi, 0, none⟩)] w fun e w' => e = .returned (.tuple #[]) ∧ DM w' B r { d with pend := putK d.pend i (secOf l) } ∧ Keeps (fun k => k = r.M) w w' := by
  apply f_disk_Disk_Write_1.ok
  unfold f_disk_Disk_Write_1.wp
  have hsl := h.sl
  rw [show zeroCs Tryd.prog 97 = secV z0 from zeroCs_sec]
  refine al_new fun w1 b1 e1 s1 h1' g1 => drW_intro ?_
  have bd1 : Below w1.heap.size w1 w1.drew := (Below.refl _ _).drew
  have g1d : Below w.heap.size w w1.drew := g1.trans (bd1.mono g1.size)
  refine hb_ldS0 (hA.below g1d) rfl (copy_sec (h1'.below bd1) (hr.belw g1d) hl fun w2 h2 k2 => ⟨_, rfl, drW_intro ?_⟩)
  have g2 : Below w.heap.size w w2.drew := (g1d.trans (k2.below g1d.size fun k hk e => by omega)).drew
  have hm2 := h.below g2
  have hD2 := hD.below g2
  have hI2 := hI.below g2
  refine ⟨fun w' => HB w' bd #[.pointer (some ⟨r.D, 0, none⟩)] td ∧ HB w' r.D (dkC r d) TDk ∧ HB w' bi #[.int .i64 i] ti, ⟨hD2, hm2.hb, hI2⟩, ⟨_, fun w' hs => (hs.1.cell 0).trans rfl, optB_some rfl ⟨_, fun w' hs => (hs.2.1.cell 1).trans rfl, ⟨_, fun w' hs => (hs.2.2.cell 0).trans rfl, ?_⟩⟩⟩⟩
  have h2d : HB w2.drew b1 (secV (secOf l)) TS := h2.below ((Below.refl _ _).drew)
  refine big_ld0 h2d ⟨_, rfl, ⟨hD2, hm2.hb, hI2⟩, ?_⟩
  refine hm2.gm.upd KTs (x := i) (v := secOf l) ⟨by omega, by omega⟩ fun w3 gm3 k3 => ⟨rfl, ?_, (Keeps.of_below g2).trans k3⟩
  obtain ⟨d1, d2, d3, d4, d5, d6⟩ := hm2.dd
  refine ⟨hm2.hb.keeps k3 d1, hm2.sf.keeps k3 fun a ha e => d3 ⟨a, ha, e⟩, gm3, hm2.pl.keeps k3 fun a ha e => d5 ⟨a, ha, e⟩, h.lo, h.sl, ?_, h.pn⟩
  intro p hp
  have hp' : p.1 ∈ (putK d.pend i (secOf l)).map (·.1) := List.mem_map_of_mem hp
  rw [keys_putK] at hp'
  have old : p.1 ∈ d.pend.map (·.1) → 0 ≤ p.1 ∧ p.1 < d.safe.length := fun hq => by
    obtain ⟨q, hq, e⟩ := List.mem_map.1 hq
    rw [← e]; exact h.pk q hq
  split at hp'
  · exact old hp'
  · rcases List.mem_append.1 hp' with hp' | hp'
    · exact old hp'
    · rw [List.mem_singleton] at hp'
      rw [hp']; exact ⟨h0, h1⟩
end
end Go.Proofs.YtpokaafedpnbdaaDoor.Rd
