/- The law's own words over both disks: stands, asks. Conditions: none. -/
import Derived.Test.YthekjlglnmhlaaaDlF
namespace Go.Proofs.Ythekjlglnmhlaaa.Rd
open Go.Dn Go.RowKit Go.Shelf
set_option linter.unusedVariables false
set_option linter.unusedSimpArgs false
set_option maxRecDepth 100000
section
variable {w w' : World} {B : Nat} {N : Nat → Prop} {r : RD} {d : Dk} {v : RV}
theorem hdB_i {S : World → Prop} {b j : Nat} {cs : Array Value} {t : TypeId} (h : ∀ w, S w → HB w b cs t) {x : Bool} (hj : cs[j]? = some (.bool x)) {K : Bool → Prop} (hk : K x) : hdB S ((⟨b, 0, none⟩ : Addr).add j) K := ⟨_, fun w hs => ((h w hs).cell j).trans hj, hk⟩
/-! ### stands -/
theorem stands_ok (h : DM w B r d) (hv : RM w N v d) : Calls Try.prog 34 #[.pointer (some ⟨r.D, 0, none⟩), rvE v] w fun e w' => e = .returned (.bool true) ∧ Below w.heap.size w w' := by
  apply f_law07_stands.ok
  unfold f_law07_stands.wp
  refine al_new fun w1 b1 e1 s1 hb1 g1 => drW_intro ?_
  have hb1 : HB w1 b1 (rvC v) TRd := hb1
  have gd := (Below.refl w1.heap.size w1).drew
  have hb := hb1.below gd
  have G := g1.trans (gd.mono g1.size)
  generalize w1.drew = w2 at gd hb G
  have h2 := h.below G
  have hv2 := hv.belw G
  have id' : ∀ w', HB w' b1 (rvC v) TRd → HB w' b1 (rvC v) TRd := fun _ h => h
  have lds : ∀ {K : Option Addr → Nat → Nat → Option Addr → Nat → Nat → Int → Bool → Prop}, K v.A v.n v.c v.P v.pn v.pc v.st v.off → hdS (fun w' => HB w' b1 (rvC v) TRd) (⟨b1, 0, none⟩ : Addr) fun A17 n17 c17 => hdS (fun w' => HB w' b1 (rvC v) TRd) ((⟨b1, 0, Option.none⟩ : Addr).add 1) fun A18 n18 c18 =>
      hdI (fun w' => HB w' b1 (rvC v) TRd) ((⟨b1, 0, Option.none⟩ : Addr).add 2) .i64 fun x19 => hdB (fun w' => HB w' b1 (rvC v) TRd) ((⟨b1, 0, Option.none⟩ : Addr).add 3) fun b20 => K A17 n17 c17 A18 n18 c18 x19 b20 := fun hk =>
    hdS_i0 id' (A := v.A) (n := v.n) (c := v.c) rfl (hdS_i id' (j := 1) (A := v.P) (n := v.pn) (c := v.pc) rfl (hdI_i id' (j := 2) (x := v.st) rfl (hdB_i id' (j := 3) (x := v.off) rfl hk)))
  refine ⟨fun w' => HB w' b1 (rvC v) TRd, hb, hdB_i id' (j := 3) (x := v.off) rfl ((Power_ok h2).mono ?_)⟩
  rintro _ w2 ⟨rfl, rfl⟩
  refine ⟨_, rfl, hb, sel_t (by rw [hv.off]; simp) (hdI_i id' (j := 2) (x := v.st) rfl ((Steps_ok h2).mono ?_))⟩
  rintro _ w2 ⟨rfl, rfl⟩
  refine ⟨_, rfl, hb, sel_t (by rw [hv.st]; simp) (hdS_i0 id' (A := v.A) (n := v.n) (c := v.c) rfl ((Size_ok h2).mono ?_))⟩
  rintro _ w2 ⟨rfl, rfl⟩
  have bl := bytes_le h2
  refine ⟨_, rfl, hb, sel_t (by rw [hv.n]; simp) (lds ((Loose_ok h2).mono ?_))⟩
  rintro _ w3 ⟨A3, c3, rfl, o3, g3⟩
  refine ⟨_, _, _, rfl, hb.below g3, (RLoose_ok (hv2.belw g3)).mono ?_⟩
  rintro _ w4 ⟨A4, c4, rfl, r4, g4⟩
  refine ⟨_, _, _, rfl, (hb.below g3).below g4, (SameInts_ok (RI.blw (OwnI.reads o3) g4) rfl r4 rfl bl.2.2).mono ?_⟩
  rintro _ w5 ⟨rfl, g5⟩
  have hb5 := ((hb.below g3).below g4).below g5
  have G5 := (g3.trans (g4.mono g3.size)).trans (g5.mono (by have := g3.size; have := g4.size; omega))
  have h5 := h2.below G5
  have hv5 := hv2.belw G5
  refine ⟨_, rfl, hb5, sel_t (by simp) (lds ((All_ok h5).mono ?_))⟩
  rintro _ w6 ⟨A6, c6, rfl, o6, g6⟩
  refine ⟨_, _, _, rfl, hb5.below g6, (RAll_ok (hv5.belw g6)).mono ?_⟩
  rintro _ w7 ⟨A7, c7, rfl, r7, g7⟩
  refine ⟨_, _, _, rfl, (hb5.below g6).below g7, (BSame_ok ((OwnE.rb o6).belw g7) rfl r7 rfl bl.1).mono ?_⟩
  rintro _ w8 ⟨rfl, g8⟩
  have hb8 := ((hb5.below g6).below g7).below g8
  have G8 := (g6.trans (g7.mono g6.size)).trans (g8.mono (by have := g6.size; have := g7.size; omega))
  have h8 := h5.below G8
  have hv8 := hv5.belw G8
  refine ⟨_, rfl, hb8, sel_t (by simp) (lds ((Safe_ok h8).mono ?_))⟩
  rintro _ w9 ⟨A9, c9, rfl, o9, g9⟩
  refine ⟨_, _, _, rfl, hb8.below g9, (RSafe_ok (hv8.belw g9)).mono ?_⟩
  rintro _ w10 ⟨A10, c10, rfl, r10, g10⟩
  refine ⟨_, _, _, rfl, (BSame_ok ((OwnE.rb o9).belw g10) rfl r10 rfl bl.2.1).mono ?_⟩
  rintro _ w11 ⟨rfl, g11⟩
  have s5 := G5.size
  have s8 := G8.size
  have s9 := g9.size
  have s10 := g10.size
  have s0 := G.size
  exact ⟨_, rfl, by simp, ((((G.trans (G5.mono s0)).trans (G8.mono (by omega))).trans (g9.mono (by omega))).trans (g10.mono (by omega))).trans (g11.mono (by omega))⟩
/-! ### what Read gives, on both sides -/
def rdL (d : Dk) (i : Int) : List Int := if d.off = true then [] else if i < 0 ∨ (d.safe.length : Int) ≤ i then [] else (hasS d i).1
def rdX (d : Dk) (i : Int) : Int := if d.off = true then 70 else if i < 0 ∨ (d.safe.length : Int) ≤ i then 1 else 0
theorem Read_ok2 (h : DM w B r d) (i : Int) : Calls Try.prog 17 #[.pointer (some ⟨r.D, 0, none⟩), .int .i64 i] w fun e w' =>
    ∃ A n c, e = .returned (.tuple #[.slice A n c, .int .i64 (rdX d i)]) ∧ RdSl w' A n c (rdL d i) ∧ (∀ a, A = some a → w.heap.size ≤ a.block) ∧ Below w.heap.size w w' := by
  apply f_disk_Disk_Read.ok
  unfold f_disk_Disk_Read.wp
  have nil : ∀ {x : Int} {w' : World}, rdX d i = x → rdL d i = [] → Below w.heap.size w w' → ∃ A n c, Ending.returned (.tuple #[.slice none 0 0, .int .i64 x]) = .returned (.tuple #[.slice A n c, .int .i64 (rdX d i)]) ∧ RdSl w' A n c (rdL d i) ∧ (∀ a, A = some a → w.heap.size ≤ a.block) ∧ Below w.heap.size w w' := fun ex el g =>
    ⟨none, 0, 0, by rw [ex], .inl ⟨rfl, rfl, rfl, el⟩, fun a ha => by (cases ha), g⟩
  refine hb_ldB (j := 4) h.hb rfl ?_
  by_cases ho : d.off = true
  · exact sel_t ho (nil (by unfold rdX; rw [if_pos ho]) (by unfold rdL; rw [if_pos ho]) (Below.refl _ _))
  have hof : d.off = false := by simpa using ho
  refine sel_f hof ?_
  have bad : (i < 0 ∨ (d.safe.length : Int) ≤ i) → rdX d i = 1 ∧ rdL d i = [] := fun hb => ⟨by unfold rdX; rw [if_neg ho, if_pos hb], by unfold rdL; rw [if_neg ho, if_pos hb]⟩
  by_cases c1 : i < 0
  · exact sel_t (by simpa using c1) (nil (bad (.inl c1)).1 (bad (.inl c1)).2 (Below.refl _ _))
  refine sel_f (by simpa using c1) (hb_ldS0 h.hb (A := r.A) (n := d.safe.length) (c := r.c) rfl ?_)
  by_cases c2 : (d.safe.length : Int) ≤ i
  · exact sel_t (by simpa using c2) (nil (bad (.inr c2)).1 (bad (.inr c2)).2 (Below.refl _ _))
  refine sel_f (by simpa using c2) ((has_ok h (by omega) (by omega)).mono ?_)
  rintro _ w1 ⟨rfl, g1⟩
  refine ⟨_, rfl, ?_⟩
  rw [show zeroCs Try.prog 76 = secV z0 from zeroCs_sec]
  refine al_new fun w2 b e s h2 g2 => big_st0 h2 fun w3 h3 k3 => ?_
  have g := g1.trans (g2.mono g1.size)
  have s1 := g1.size
  have nb : ¬ (i < 0 ∨ (d.safe.length : Int) ≤ i) := by omega
  refine ⟨some ⟨b, 0, none⟩, 512, 512, by rw [show rdX d i = 0 by unfold rdX; rw [if_neg ho, if_neg nb]]; rfl, .inr ⟨b, hasS d i, rfl, rfl, rfl, h3, by unfold rdL; rw [if_neg ho, if_neg nb]⟩, fun a ha => ?_, g.trans (k3.below g.size fun k hk e => by omega)⟩
  injection ha with ha; subst ha
  show w.heap.size ≤ b
  omega
theorem RRead_ok2 (h : RM w N v d) (i : Int) : Calls Try.prog 45 #[rvE v, .int .i64 i] w fun e w' =>
    ∃ A n c, e = .returned (.tuple #[.slice A n c, .int .i64 (rdX d i)]) ∧ RB w' A (rdL d i) ∧ n = (rdL d i).length ∧ (∀ a, A = some a → w.heap.size ≤ a.block) ∧ Below w.heap.size w w' := by
  refine (RRead_ok h i).mono ?_
  rintro _ w1 ⟨⟨A, n, c, x, rfl, hd⟩, g⟩
  rcases hd with ⟨ho, rfl, rfl, rfl⟩ | ⟨ho, hi, rfl, rfl, rfl⟩ | ⟨ho, h0, h1, rfl, rfl, o⟩
  · refine ⟨none, 0, c, ?_, ?_, ?_, fun a ha => by (cases ha), g⟩
    · rw [show rdX d i = 70 by unfold rdX; rw [if_pos ho]]
    · rw [show rdL d i = [] by unfold rdL; rw [if_pos ho]]; exact RB.nil _ _
    · rw [show rdL d i = [] by unfold rdL; rw [if_pos ho]]; rfl
  · have hn : ¬ d.off = true := by simp [ho]
    refine ⟨none, 0, c, ?_, ?_, ?_, fun a ha => by (cases ha), g⟩
    · rw [show rdX d i = 1 by unfold rdX; rw [if_neg hn, if_pos hi]]
    · rw [show rdL d i = [] by unfold rdL; rw [if_neg hn, if_pos hi]]; exact RB.nil _ _
    · rw [show rdL d i = [] by unfold rdL; rw [if_neg hn, if_pos hi]]; rfl
  · have hn : ¬ d.off = true := by simp [ho]
    have nb : ¬ (i < 0 ∨ (d.safe.length : Int) ≤ i) := by omega
    have e : rdL d i = (hasS d i).1 := by unfold rdL; rw [if_neg hn, if_neg nb]
    refine ⟨A, 512, c, ?_, ?_, ?_, fun a ha => (o.block a ha).1, g⟩
    · rw [show rdX d i = 0 by unfold rdX; rw [if_neg hn, if_neg nb]]
    · rw [e]; exact OwnE.rb o
    · rw [e]; exact (hasS d i).2.symm
end
end Go.Proofs.Ythekjlglnmhlaaa.Rd
