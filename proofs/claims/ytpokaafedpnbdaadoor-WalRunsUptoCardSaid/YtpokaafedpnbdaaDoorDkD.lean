/- A disk in memory: what it has; settle; the steps' doings. Conditions: none. -/
import Derived.Test.YtpokaafedpnbdaaDoorDkC
namespace Go.Proofs.YtpokaafedpnbdaaDoor.Rd
open Go.Dn Go.RowKit
set_option linter.unusedVariables false
set_option maxRecDepth 100000
theorem hb_ldM {w : World} {b : Nat} {cs : Array Value} {t : TypeId} (h : HB w b cs t) {j : Nat} {x : Option Nat} (hj : cs[j]? = some (.map x)) {K : Option Nat → Prop} (hk : K x) : ldM w ((⟨b, 0, none⟩ : Addr).add j) K := ⟨_, (h.cell j).trans hj, hk⟩
theorem hb_ldP0 {w : World} {b : Nat} {cs : Array Value} {t : TypeId} (h : HB w b cs t) {x : Option Addr} (hj : cs[0]? = some (.pointer x)) {K : Option Addr → Prop} (hk : K x) : ldP w (⟨b, 0, none⟩ : Addr) K := ⟨_, (h.cell 0).trans hj, hk⟩
theorem hb_ldB {w : World} {b : Nat} {cs : Array Value} {t : TypeId} (h : HB w b cs t) {j : Nat} {x : Bool} (hj : cs[j]? = some (.bool x)) {K : Bool → Prop} (hk : K x) : ldB w ((⟨b, 0, none⟩ : Addr).add j) K := ⟨_, (h.cell j).trans hj, hk⟩
def eI (i : Int) : Value := .int .i64 i
theorem eI_inj (x y : Int) (h : eI x = eI y) : x = y := by injection h
def eS (s : Sec) : Value := .agg (secV s)
def eF (f : Ft) : List Value := [.int .i64 f.1, .int .i64 f.2]
theorem EF : Enc eF 2 := ⟨fun _ => rfl, fun f u hu => by simp only [eF, List.mem_cons, List.not_mem_nil, or_false] at hu; rcases hu with rfl | rfl <;> rfl, by decide⟩
abbrev TFt : TypeId := 51
abbrev TDk : TypeId := 82
theorem Kint : Tryd.prog.underlying 3 = some (.int .i64) := by kernel_rfl
theorem KTs : KT Tryd.prog 80 3 TS eI W64 := ⟨by kernel_rfl, Maps.int_keyed Kint, fun x h => ⟨_, Maps.keyOf_int_mk Kint h.wf⟩, eI_inj⟩
/-- a disk's state -/
structure Dk where
  safe : List Sec
  pend : List (Int × Sec)
  plan : List Ft
  steps : Int
  off : Bool
/-- where it lies -/
structure RD where
  D : Nat
  A : Option Addr
  c : Nat
  M : Nat
  P : Option Addr
  pc : Nat
def dkC (r : RD) (d : Dk) : Array Value := dC (.slice r.A d.safe.length r.c) (.map (some r.M)) r.P d.plan.length r.pc d.steps d.off
structure DM (w : World) (B : Nat) (r : RD) (d : Dk) : Prop where
  hb : HB w r.D (dkC r d) TDk
  sf : OwnE secL 512 w B TS r.A r.c d.safe
  gm : GM w eI eS W64 r.M d.pend
  pl : OwnE eF 2 w B TFt r.P r.pc d.plan
  lo : B ≤ r.D ∧ B ≤ r.M
  sl : d.safe.length ≤ 4096
  pk : ∀ p ∈ d.pend, 0 ≤ p.1 ∧ p.1 < d.safe.length
  pn : d.plan.length * 16 ≤ 140737488355328
def FD (r : RD) (k : Nat) : Prop := k = r.D ∨ k = r.M ∨ Ob r.A k ∨ Ob r.P k
def hasS (d : Dk) (i : Int) : Sec := (lk d.pend i).getD (d.safe.getD i.toNat z0)
section
variable {w w' : World} {B : Nat} {r : RD} {d : Dk}
theorem own_hb {α : Type} {enc : α → List Value} {k : Nat} {e c : Nat} {A : Option Addr} {l : List α} (h : OwnE enc k w B e A c l) {a : Addr} (ha : A = some a) : ∃ cs, HB w a.block cs e := by
  obtain ⟨_, h⟩ := h
  rcases h with ⟨h1, _⟩ | ⟨g, cap, cur, hv, _, hh, _⟩
  · subst ha; injection h1 with h1; cases h1
  · injection hv with hv
    subst ha; injection hv with hv; subst hv
    exact ⟨cur, hh⟩
theorem HB.ty {w : World} {b : Nat} {cs cs' : Array Value} {t t' : TypeId} (h : HB w b cs t) (k : HB w b cs' t') : t = t' := by
  have := h.symm.trans k
  injection this with this; injection this
theorem DM.dd (h : DM w B r d) : r.D ≠ r.M ∧ ¬ Ob r.A r.D ∧ ¬ Ob r.A r.M ∧ ¬ Ob r.P r.D ∧ ¬ Ob r.P r.M ∧ ∀ k, Ob r.A k → ¬ Ob r.P k := by
  refine ⟨fun e => h.gm.not_cells (e ▸ h.hb), ?_, ?_, ?_, ?_, ?_⟩
  · rintro ⟨a, ha, e⟩
    obtain ⟨cs, hc⟩ := own_hb h.sf ha
    rw [e] at hc
    have := HB.ty hc h.hb
    revert this; decide
  · rintro ⟨a, ha, e⟩
    obtain ⟨cs, hc⟩ := own_hb h.sf ha
    rw [e] at hc
    exact h.gm.not_cells hc
  · rintro ⟨a, ha, e⟩
    obtain ⟨cs, hc⟩ := own_hb h.pl ha
    rw [e] at hc
    have := HB.ty hc h.hb
    revert this; decide
  · rintro ⟨a, ha, e⟩
    obtain ⟨cs, hc⟩ := own_hb h.pl ha
    rw [e] at hc
    exact h.gm.not_cells hc
  · rintro k ⟨a, ha, e⟩ ⟨a', ha', e'⟩
    obtain ⟨cs, hc⟩ := own_hb h.sf ha
    obtain ⟨cs', hc'⟩ := own_hb h.pl ha'
    rw [e] at hc
    rw [e'] at hc'
    have := HB.ty hc hc'
    revert this; decide
theorem DM.lt (h : DM w B r d) : ∀ k, FD r k → k < w.heap.size ∧ B ≤ k := by
  rintro k (rfl | rfl | ⟨a, ha, rfl⟩ | ⟨a, ha, rfl⟩)
  · exact ⟨h.hb.lt, h.lo.1⟩
  · exact ⟨h.gm.lt, h.lo.2⟩
  · exact (h.sf.block a ha).symm
  · exact (h.pl.block a ha).symm
theorem DM.keeps {S : Nat → Prop} (h : DM w B r d) (k : Keeps S w w') (hS : ∀ b, FD r b → ¬ S b) : DM w' B r d :=
  ⟨h.hb.keeps k (hS _ (.inl rfl)), h.sf.keeps k fun a ha => hS _ (.inr (.inr (.inl ⟨a, ha, rfl⟩))), h.gm.keeps k (hS _ (.inr (.inl rfl))), h.pl.keeps k fun a ha => hS _ (.inr (.inr (.inr ⟨a, ha, rfl⟩))), h.lo, h.sl, h.pk, h.pn⟩
theorem DM.below (h : DM w B r d) (k : Below w.heap.size w w') : DM w' B r d := h.keeps (S := fun _ => False) (.of_below k) fun _ _ => id
theorem has_ok (h : DM w B r d) {i : Int} (h0 : 0 ≤ i) (h1 : i < d.safe.length) :
    Calls Tryd.prog 63 #[.pointer (some ⟨r.D, 0, none⟩), .int .i64 i] w fun e w' => e = .returned (.agg (secV (hasS d i))) ∧ Below w.heap.size w w' := by
  apply f_disk_Disk_has.ok
  unfold f_disk_Disk_has.wp
  have hsl := h.sl
  have hw : W64 i := ⟨by omega, by omega⟩
  rw [show zeroCs Tryd.prog 97 = secV z0 from zeroCs_sec]
  refine al_new fun w1 b1 e1 s1 h1' g1 => hb_ldM (j := 1) (h.below g1).hb rfl ((h.below g1).gm.look2 KTs hw (zS _) ?_)
  cases hl : lk d.pend i with
  | some v =>
    have hv : hasS d i = v := by unfold hasS; rw [hl]; rfl
    refine ⟨_, _, rfl, al_new fun w2 b2 e2 s2 h2 g2 => ?_⟩
    refine big_st0 h2 fun w3 h3 k3 => sel_t rfl (big_ld0 h3 ⟨_, rfl, ?_⟩)
    have n12 : b1 ≠ b2 := by omega
    refine big_st0 ((h1'.below g2).keeps k3 n12) fun w4 h4 k4 => big_ldv h4 ?_
    rw [hv]
    exact ⟨rfl, (g1.trans (g2.mono g1.size)).trans ((k3.below (B := w.heap.size) (by omega) fun k hk e => by omega).trans (k4.below (B := w.heap.size) (by have := k3.size; omega) fun k hk e => by omega))⟩
  | none =>
    have hi : i.toNat < d.safe.length := by omega
    have hv : hasS d i = d.safe[i.toNat] := by unfold hasS; rw [hl]; simp [List.getD_eq_getElem?_getD, hi]
    refine ⟨_, _, rfl, al_new fun w2 b2 e2 s2 h2 g2 => ?_⟩
    refine big_st0 h2 fun w3 h3 k3 => sel_f rfl ?_
    have hm3 : DM w3 B r d := ((h.below g1).below g2).keeps k3 fun b hb e => by have := (h.lt b hb).1; omega
    have hr := hm3.sf.reads ES
    obtain ⟨a, ha, _⟩ := hr i.toNat hi
    have hsa : ∃ g, r.A = some ⟨g, 0, none⟩ := by
      rcases hm3.sf.2 with ⟨h1, _⟩ | ⟨g, cap, cur, hv, _⟩
      · injection h1 with h1; rw [h1] at ha; cases ha
      · injection hv with hv; exact ⟨g, hv⟩
    obtain ⟨g, hg⟩ := hsa
    rw [hg] at hr
    refine hb_ldS0 hm3.hb (A := r.A) (n := d.safe.length) (c := r.c) rfl (optB_some hg (req_intro (by simp; omega) (sec_ld hr hi ⟨_, rfl, ?_⟩)))
    have n12 : b1 ≠ b2 := by omega
    refine big_st0 ((h1'.below g2).keeps k3 n12) fun w4 h4 k4 => big_ldv h4 ?_
    rw [hv]
    exact ⟨rfl, (g1.trans (g2.mono g1.size)).trans ((k3.below (B := w.heap.size) (by omega) fun k hk e => by omega).trans (k4.below (B := w.heap.size) (by have := k3.size; omega) fun k hk e => by omega))⟩
end
end Go.Proofs.YtpokaafedpnbdaaDoor.Rd
