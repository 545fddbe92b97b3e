/- A disk in memory: Loose, Safe. Conditions: none. -/
import Derived.Test.YthekjlglnmhlaaaDkK
import Derived.Test.YthekjlglnmhlaaaDkJ
import Derived.Test.YthekjlglnmhlaaaRdC
namespace Go.Proofs.Ythekjlglnmhlaaa.Rd
open Go.Dn Go.RowKit Go.Shelf
set_option linter.unusedVariables false
set_option linter.unusedSimpArgs false
set_option maxRecDepth 100000
/-- the pending sectors, in order -/
def looseD (d : Dk) : List Int := ((List.range d.safe.length).map fun (i : Nat) => (i : Int)).filter fun x => hasK d.pend x
theorem looseD_mem {d : Dk} {x : Int} : x ∈ looseD d ↔ (0 ≤ x ∧ x < d.safe.length) ∧ hasK d.pend x = true := by
  unfold looseD
  rw [List.mem_filter, List.mem_map]
  constructor
  · rintro ⟨⟨i, hi, rfl⟩, h⟩
    rw [List.mem_range] at hi
    exact ⟨⟨by omega, by omega⟩, h⟩
  · rintro ⟨⟨h0, h1⟩, h⟩
    exact ⟨⟨x.toNat, List.mem_range.2 (by omega), by omega⟩, h⟩
theorem looseD_sorted (d : Dk) : (looseD d).Pairwise (· < ·) := by
  unfold looseD
  refine List.Pairwise.filter _ ?_
  rw [List.pairwise_map]
  exact List.pairwise_lt_range.imp fun h => by omega
theorem looseD_len (d : Dk) : (looseD d).length ≤ d.safe.length := by
  unfold looseD
  exact Nat.le_trans (List.length_filter_le _ _) (by simp)
section
variable {w w' : World} {B : Nat} {r : RD} {d : Dk}
theorem DM.keys (h : DM w B r d) : (looseD d).Perm (d.pend.map (·.1)) := by
  refine (List.perm_ext_iff_of_nodup ((looseD_sorted d).imp fun {a b} h => by omega) h.gm.nd).2 fun x => ?_
  rw [looseD_mem, hasK_iff, List.mem_map]
  constructor
  · rintro ⟨_, v, hv⟩; exact ⟨_, hv, rfl⟩
  · rintro ⟨p, hp, rfl⟩; exact ⟨h.pk p hp, p.2, hp⟩
theorem Loose_ok (h : DM w B r d) : Calls Try.prog 13 #[.pointer (some ⟨r.D, 0, none⟩)] w fun e w' => ∃ A c, e = .returned (.slice A (looseD d).length c) ∧ OwnI w' w.heap.size 3 A c (looseD d) ∧ Below w.heap.size w w' := by
  apply f_disk_Disk_Loose.ok
  unfold f_disk_Disk_Loose.wp
  refine hb_ldM (j := 1) h.hb rfl ?_
  have hlen : d.pend.length ≤ 4096 := by
    have h1 := h.keys.length_eq
    rw [List.length_map] at h1
    have := looseD_len d; have := h.sl; omega
  have cK : Calls Try.prog 38 #[.map (some r.M)] w fun e w' => ∃ b, e = .returned (.func (.func 55) #[] #[.pointer (some ⟨b, 0, none⟩)]) ∧ HB w' b #[.map (some r.M)] 66 ∧ Below w.heap.size w w' := by
    apply f_disk_sector_Keys.ok
    exact al_new fun w1 b e s1 hb g1 => ⟨b, rfl, hb, g1⟩
  refine cK.mono ?_
  rintro _ w1 ⟨b, rfl, hB, g1⟩
  refine ⟨_, rfl, (sorted_keys (h.below g1).gm (by omega) (looseD_sorted d) h.keys hB).mono ?_⟩
  rintro _ w2 ⟨A, c, rfl, o, g2⟩
  exact ⟨_, _, _, rfl, A, c, rfl, o.mono g1.size, g1.trans (g2.mono g1.size)⟩
theorem safe_l0 {w0 : World} (h : DM w0 B r d) {c9 : Nat} {K0 : Option Addr → Nat → Nat → World → Prop}
    (k0 : ∀ w A c, OwnE eB 1 w w0.heap.size 5 A c (bytesOf d.safe) → Below w0.heap.size w0 w → K0 A (bytesOf d.safe).length c w) :
    ∀ (m i : Nat) (w : World) (A : Option Addr) (n c : Nat), d.safe.length - i = m → i ≤ d.safe.length → OwnE eB 1 w w0.heap.size 5 A c (bytesOf (d.safe.take i)) → n = (bytesOf (d.safe.take i)).length → Below w0.heap.size w0 w →
      f_disk_Disk_Safe.l0 (m + 1) A n c r.A d.safe.length c9 (d.safe.length : Int) (i : Int) w K0 := by
  have hsl := h.sl
  intro m
  induction m with
  | zero =>
    intro i w A n c hm hi o en hb
    have : i = d.safe.length := by omega
    subst this
    rw [List.take_length] at o en
    subst en
    unfold f_disk_Disk_Safe.l0
    exact sel_f (by simp) (k0 w A c o hb)
  | succ m ih =>
    intro i w A n c hm hi o en hb
    have hlt : i < d.safe.length := by omega
    have hw : IntKind.i64.wrap ((i : Int) + 1) = ((i + 1 : Nat) : Int) := by rw [w64_in (by omega)]; omega
    have htk : d.safe.take (i + 1) = d.safe.take i ++ [d.safe[i]] := by rw [List.take_succ_eq_append_getElem hlt]
    have hbl := bytesOf_len (d.safe.take i)
    rw [List.length_take] at hbl
    have hm' := h.below hb
    have hr := hm'.sf.reads ES
    obtain ⟨g, hg⟩ : ∃ g, r.A = some ⟨g, 0, none⟩ := by
      rcases hm'.sf.2 with ⟨h1, h2⟩ | ⟨g, cap, cur, hv, _⟩
      · omega
      · injection hv with hv; exact ⟨g, hv⟩
    rw [hg] at hr ⊢
    unfold f_disk_Disk_Safe.l0
    refine sel_t (by simpa using hlt) (optB_some rfl (req_intro (by simp; omega) ?_))
    rw [Int.toNat_natCast]
    refine sec_ld hr hlt ⟨_, rfl, ?_⟩
    rw [show zeroCs Try.prog 76 = secV z0 from zeroCs_sec]
    refine al_new fun w2 b e s h2 g2 => big_st0 h2 fun w3 h3 k3 => ?_
    have h13 : Below w.heap.size w w3 := g2.trans (k3.below g2.size fun k hk e => by omega)
    have hb3 : Below w0.heap.size w0 w3 := hb.trans (h13.mono hb.size)
    have e512 : (d.safe[i]).1.length = 512 := (d.safe[i]).2
    refine app_row2 RTb EB (by decide) (o.below h13) en (secRow h3) e512.symm (fun h => by cases h) hb3.size (by rw [hbl, e512]; omega) fun A' c' w4 o4 k4 f4 => ⟨_, _, _, rfl, ?_⟩
    rw [hw]
    have eb : bytesOf (d.safe.take (i + 1)) = bytesOf (d.safe.take i) ++ (d.safe[i]).1 := by rw [htk]; unfold bytesOf; rw [List.flatMap_append, List.flatMap_cons, List.flatMap_nil, List.append_nil]
    have := ih (i + 1) w4 A' _ c' (by omega) (by omega) (by rw [eb]; exact o4) (by rw [eb]) (hb3.trans (k4.below hb3.size fun k hk ⟨a, ha, e⟩ => by have := (o.block a ha).1; omega))
    rw [hg] at this
    exact this
theorem Safe_ok (h : DM w B r d) : Calls Try.prog 27 #[.pointer (some ⟨r.D, 0, none⟩)] w fun e w' => ∃ A c, e = .returned (.slice A (bytesOf d.safe).length c) ∧ OwnE eB 1 w' w.heap.size 5 A c (bytesOf d.safe) ∧ Below w.heap.size w w' := by
  apply f_disk_Disk_Safe.ok
  unfold f_disk_Disk_Safe.wp
  refine hb_ldS0 h.hb (A := r.A) (n := d.safe.length) (c := r.c) rfl ⟨d.safe.length + 1, safe_l0 h (fun w1 A c o g => ?_) d.safe.length 0 w none 0 0 rfl (by omega) (OwnE.none _ _ _ _ _) rfl (Below.refl _ _)⟩
  exact fun _ => ⟨A, c, rfl, o, g⟩
end
end Go.Proofs.Ythekjlglnmhlaaa.Rd
