/- A disk in memory: what Sync does; Write, Sync. Conditions: none. -/
import Derived.Test.YtpokaafedpnbdaaDoorDkE
namespace Go.Proofs.YtpokaafedpnbdaaDoor.Rd
open Go.Dn Go.RowKit
set_option linter.unusedVariables false
set_option linter.unusedSimpArgs false
set_option maxRecDepth 100000
/-- the safe sectors while some of the pending ones are left -/
def flushed (d : Dk) (left : List (Int × Sec)) : List Sec := (List.range d.safe.length).map fun (i : Nat) => if hasK left (i : Int) then d.safe.getD i z0 else hasS d (i : Int)
def syncD (d : Dk) : Dk := { d with safe := flushed d [], pend := [] }
theorem flushed_len (d : Dk) (left : List (Int × Sec)) : (flushed d left).length = d.safe.length := by simp [flushed]
theorem flushed_get (d : Dk) (left : List (Int × Sec)) (i : Nat) (h : i < (flushed d left).length) : (flushed d left)[i] = if hasK left (i : Int) then d.safe.getD i z0 else hasS d (i : Int) := by simp [flushed]
theorem flushed_all (d : Dk) : flushed d d.pend = d.safe := by
  apply List.ext_getElem
  · rw [flushed_len]
  · intro i h1 h2
    rw [flushed_get]
    have hg : d.safe.getD i z0 = d.safe[i] := by simp [List.getD_eq_getElem?_getD, h2]
    split
    · exact hg
    · rename_i hn
      have hl : lk d.pend (i : Int) = none := lk_none fun p hp e => hn (hasK_iff.2 ⟨p.2, by rw [← e]; exact hp⟩)
      unfold hasS
      rw [hl]
      exact hg
theorem flushed_step {d : Dk} {left : List (Int × Sec)} {x : Int} {v : Sec} (h0 : 0 ≤ x) (h1 : x < d.safe.length) : (flushed d left).set x.toNat (hasS d x) = flushed d (delK left x) := by
  apply List.ext_getElem
  · rw [List.length_set, flushed_len, flushed_len]
  · intro i a1 a2
    rw [List.getElem_set, flushed_get, flushed_get]
    split
    · rename_i e
      have ex : (i : Int) = x := by omega
      have : hasK (delK left x) (i : Int) = false := by
        cases hq : hasK (delK left x) (i : Int) with
        | false => rfl
        | true =>
          obtain ⟨u, hu⟩ := hasK_iff.1 hq
          unfold delK at hu
          rw [List.mem_filter] at hu
          simp [ex] at hu
      rw [this, ex]; rfl
    · rename_i e
      have ex : (i : Int) ≠ x := by omega
      have : hasK (delK left x) (i : Int) = hasK left (i : Int) := by
        rw [Bool.eq_iff_iff, hasK_iff, hasK_iff]
        unfold delK
        simp [ex]
      rw [this]
section
variable {w w' : World} {B : Nat} {r : RD} {d : Dk}
theorem sync1_l0 {bd : Nat} {td : TypeId} (hn : bd ≠ r.D) {w0 : World} {ri : Nat} {K0 : World → Prop}
    (k0 : ∀ w, DM w B r { d with safe := flushed d [] } → HB w bd #[.pointer (some ⟨r.D, 0, none⟩)] td → Keeps (fun k => Ob r.A k ∨ k = ri) w0 w → K0 w) (hri : w0.heap.size ≤ ri) (hbd : bd ≠ ri) (hbA : ¬ Ob r.A bd) :
    ∀ (m : Nat) (left : List (Int × Sec)) (cur : Option (Int × Sec)) (w : World), left.length ≤ m → (∀ p ∈ left, p ∈ d.pend) → DM w B r { d with safe := flushed d left } → GI w eI eS W64 r.M ri d.pend left cur → HB w bd #[.pointer (some ⟨r.D, 0, none⟩)] td → ri ≠ r.M → (∀ k, FD r k → k ≠ ri) → Keeps (fun k => Ob r.A k ∨ k = ri) w0 w →
      f_disk_Disk_Sync_1.l0 (m + 1) (⟨bd, 0, none⟩ : Addr) (some ⟨ri, 0, none⟩) w K0 := by
  intro m
  induction m with
  | zero =>
    intro left cur w hm hsub hd gi hb hrm hfr hk
    have : left = [] := List.length_eq_zero_iff.1 (by omega)
    subst this
    unfold f_disk_Disk_Sync_1.l0
    refine gi.next (fun _ => ⟨false, [], rfl, sel_f rfl (k0 w hd hb hk)⟩) (fun x v w' hx _ _ _ _ => by cases hx) eI_inj
  | succ m ih =>
    intro left cur w hm hsub hd gi hb hrm hfr hk
    unfold f_disk_Disk_Sync_1.l0
    refine gi.next (fun he => ⟨false, [], rfl, sel_f rfl (k0 w (by rw [← he]; exact hd) hb hk)⟩) (fun x v w' hx gi' hlt k' hsz => ⟨true, [eI x, eS v], rfl, sel_t rfl (gi'.entry ⟨x, secV v, rfl, ?_⟩)⟩) eI_inj
    have hm' := hd.keeps k' fun b hb => hfr b hb
    have hb' := hb.keeps k' hbd
    have hp := hd.pk (x, v) (hsub _ hx)
    simp only at hp
    refine hb_ldP0 hb' rfl ((settle_ok hm' hp.1 hp.2).mono ?_)
    rintro _ w2 ⟨rfl, hm2, k2⟩
    have hxs : x < d.safe.length := by rw [flushed_len] at hp; exact hp.2
    have e2 : setS { d with safe := flushed d left } x = { d with safe := flushed d (delK left x) } := by
      unfold setS
      have hh : hasS { d with safe := flushed d left } x = hasS d x := by
        unfold hasS
        simp only
        rw [lk_mem (m := d.pend) gi.nd (hsub _ hx)]
        rfl
      simp only [hh]
      rw [flushed_step (v := v) hp.1 hxs]
    rw [e2] at hm2
    obtain ⟨d1, d2, d3, d4, d5, d6⟩ := hm'.dd
    refine ⟨rfl, ih (delK left x) (some (x, v)) w2 (by omega) (fun p hp => hsub p (List.mem_filter.1 hp).1) hm2 (gi'.keeps k2 d3 ?_) (hb'.keeps k2 hbA) hrm hfr ((hk.trans (k'.mono fun k _ e => .inr e)).trans (k2.mono fun k _ e => .inl e))⟩
    exact fun ho => hfr ri (.inr (.inr (.inl ho))) rfl
theorem sync1_ok (h : DM w B r d) {bd : Nat} {td : TypeId} (hD : HB w bd #[.pointer (some ⟨r.D, 0, none⟩)] td) (hn : ¬ FD r bd) :
    Calls Tryd.prog 62 #[.pointer (some ⟨bd, 0, none⟩)] w fun e w' => e = .returned (.tuple #[]) ∧ DM w' B r (syncD d) ∧ Keeps (fun k => Ob r.A k ∨ k = r.M) w w' := by
  apply f_disk_Disk_Sync_1.ok
  unfold f_disk_Disk_Sync_1.wp
  refine hb_ldP0 hD rfl (optB_some rfl (hb_ldM (j := 1) h.hb rfl (h.gm.range KTs fun w1 ri eri sri gi g1 => ⟨_, rfl, ?_⟩)))
  have hm1 := h.below g1
  have hD1 := hD.below g1
  have hfr : ∀ k, FD r k → k ≠ ri := fun k hk e => by have := (h.lt k hk).1; omega
  refine ⟨d.pend.length + 1, sync1_l0 (w0 := w) (d := d) (fun e => hn (.inl e)) (fun w2 hm2 hD2 k2 => ?_) (by omega) (fun e => by have := hD.lt; omega) (fun ho => hn (.inr (.inr (.inl ho)))) d.pend.length d.pend none w1 (Nat.le_refl _) (fun p hp => hp) (by rw [flushed_all]; exact hm1) gi hD1 (fun e => hfr r.M (.inr (.inl rfl)) e.symm) hfr (.of_below g1)⟩
  intro _
  refine hb_ldP0 hD2 rfl (optB_some rfl (hb_ldM (j := 1) hm2.hb rfl (hm2.gm.clear KTs fun w3 gm3 k3 => ⟨rfl, rfl, ?_, ?_⟩)))
  · obtain ⟨d1, d2, d3, d4, d5, d6⟩ := hm2.dd
    exact ⟨hm2.hb.keeps k3 d1, hm2.sf.keeps k3 fun a ha e => d3 ⟨a, ha, e⟩, gm3, hm2.pl.keeps k3 fun a ha e => d5 ⟨a, ha, e⟩, h.lo, hm2.sl, (fun p hp => by cases hp), h.pn⟩
  · refine ⟨k3.os.trans k2.os, k3.tape.trans k2.tape, k3.output.trans k2.output, Nat.le_trans k2.size k3.size, fun k hk hn => ?_⟩
    exact (k3.block k (Nat.lt_of_lt_of_le hk k2.size) fun e => hn (.inr e)).trans (k2.block k hk fun e => e.elim (fun ho => hn (.inl ho)) fun e => by omega)
end
end Go.Proofs.YtpokaafedpnbdaaDoor.Rd
