/- Arguments of the laws of keys, opened; KeysNames walked. Conditions: none. -/
import Derived.Test.YtakgoekfnhkgaaaDoorKeK
import Derived.Test.YtakgoekfnhkgaaaDoorOpG
import Derived.WalkKit
import Derived.ProofKit
import Derived.OpenShut
import Derived.Lib.Strings
namespace Go.Proofs.YtakgoekfnhkgaaaDoor.Rd
open Go.Dn Go.RowKit Go.ChangeShapes Go.WideShapes Go.ChangeAt
set_option linter.unusedVariables false
set_option linter.unusedSimpArgs false
set_option maxRecDepth 100000
theorem mx_of {W : World} (h : W.ShapedOpen Tryd.prog) : Mx W := Go.Proofs.cell_of_shapedOpen_int (zero := #[.int .i64 0]) (t := 3) h (of_decide_eq_true (by kernel_rfl)) (by kernel_rfl) rfl (by kernel_rfl) (by kernel_rfl) Tryd.underlying3
section
variable {H : Type} {enc : TypeId × Value → H} {w : World} {base : Nat} {held : Bool} {fuel : Nat}
theorem open_u8b {A : Option Addr} {len cap : Nat} {x : DataW H × List MemPlace} (h : DataW.trod enc Tryd.prog w base (fun _ => true) held fuel 24 [.slice A len cap] = some x) :
    ∃ l : List UInt8, l.length = len ∧ Go.Dn.RB w A l ∧ (A = none → cap = 0) ∧ l.length ≤ cap ∧ ((x.1 = .nil ∧ l = []) ∨ ∃ el rs, x.1 = .slice el rs ∧ el.length = l.length) ∧ ((∀ v ∈ x.1.weights Tryd.prog 24, v ≤ reachBytes) → l.length * 1 ≤ 140737488351232) := by
  obtain ⟨l0, h1, _, _, _, _, h5, h6⟩ := open_gen (enc' := fun z : Int => [.int .u8 z]) (k := 1) (by_ := 1) (r := 5) ⟨fun _ => rfl, fun x u hu => by simp only [List.mem_singleton] at hu; subst hu; rfl, by decide⟩ (by kernel_rfl) (by kernel_rfl) (by kernel_rfl) (Q := fun _ _ => True) (fun n cs y hl hy => by
    obtain ⟨u, rfl⟩ : ∃ u, cs = [u] := by match cs, hl with | [u], _ => exact ⟨_, rfl⟩
    obtain ⟨z, e, _⟩ := DataW.trod_int (k := .u8) (by kernel_rfl) hy
    injection e with e
    exact ⟨z, by rw [show u = _ from e], trivial⟩) h
  have hI : ∃ zs, IsRow .u8 w A len cap zs := by
    rcases open_ints (P := Tryd.prog) (t := 24) (e := 5) (by kernel_rfl) (by kernel_rfl) (by kernel_rfl) h with ⟨hcs, _⟩ | ⟨x, l, c, zs, hcs, _, hl, hm, hz, _, hcell, hwz⟩
    · simp [Value.cells] at hcs
      obtain ⟨rfl, rfl, rfl⟩ := hcs
      exact ⟨[], .inl ⟨rfl, rfl, rfl, rfl⟩⟩
    · simp [Value.cells] at hcs
      obtain ⟨rfl, rfl, rfl⟩ := hcs
      exact ⟨zs, .inr ⟨_, rfl, hl, hm, by simpa using hz, hcell, hwz⟩⟩
  obtain ⟨zs, hI⟩ := hI
  obtain ⟨l, r1, r2, r3, r4⟩ := rb_of_row hI
  have hll : l0.length = l.length := by rw [h1, r2]
  refine ⟨l, r2.symm, r1, r3, r4, ?_, fun hw => by have := h6 hw; omega⟩
  rcases h5 with ⟨e1, e2⟩ | ⟨el, rs, e1, e2, _⟩
  · refine .inl ⟨e1, ?_⟩
    rw [e2] at hll
    exact List.length_eq_zero_iff.1 hll.symm
  · exact .inr ⟨el, rs, e1, by rw [e2, hll]⟩
theorem und_ref : ∃ f0 f1, Tryd.prog.underlying TRf = some (.struct ⟨[f0, f1]⟩) ∧ (f0.offset = 0 ∧ f1.offset = 1) ∧ f0.type = 4 ∧ f1.type = 3 := by
  have h : (match Tryd.prog.underlying TRf with | some (.struct ⟨[f0, f1]⟩) => (Nat.beq f0.offset 0 && Nat.beq f1.offset 1) && (Nat.beq f0.type 4 && Nat.beq f1.type 3) | _ => false) = true := by kernel_rfl
  split at h
  · rename_i f0 f1 hu
    simp only [Bool.and_eq_true] at h
    obtain ⟨⟨a0, a1⟩, ⟨b0, b1⟩⟩ := h
    exact ⟨f0, f1, hu, ⟨Nat.eq_of_beq_eq_true a0, Nat.eq_of_beq_eq_true a1⟩, Nat.eq_of_beq_eq_true b0, Nat.eq_of_beq_eq_true b1⟩
  · cases h
theorem open_ref {b0 : Nat} {r : Reach} {v : Value} {d : DataW H} {ps : List MemPlace} (hv : Value.okWide Tryd.prog w r b0 TRf v) (h : DataW.Trod enc Tryd.prog w base (fun _ => true) held TRf v d ps) :
    ∃ (e : Bool) (x : Int), v = .agg #[.bool e, .int .i64 x] ∧ (Lit.int .i64 x).wf = true := by
  obtain ⟨f0, f1, hu, ⟨o0, o1⟩, t0, t1⟩ := und_ref
  simp only [Value.okWide, hu] at hv
  obtain ⟨cs, h1, h2, _⟩ := hv
  subst h1
  obtain ⟨fuel, hf⟩ := h
  have hc : Tryd.prog.cellsOf TRf = 2 := by kernel_rfl
  obtain ⟨xs, m, _, _, hl2, hxl, hfs⟩ := DataW.trod_struct hu hf
  have hl' : cs.toList.length = 2 := by rw [← hc]; exact hl2
  obtain ⟨l⟩ := cs
  match l, hl' with
  | [a, b], _ =>
    have hx : xs.length = 2 := hxl
    have c0 : Tryd.prog.cellsOf 4 = 1 := by kernel_rfl
    have c1 : Tryd.prog.cellsOf 3 = 1 := by kernel_rfl
    have a0 := hfs 0 f0 rfl
    have a1 := hfs 1 f1 rfl
    rw [o0, t0, c0, List.getElem?_eq_getElem (by omega)] at a0
    rw [o1, t1, c1, List.getElem?_eq_getElem (by omega)] at a1
    obtain ⟨e, e0, _⟩ := DataW.trod_bool (by kernel_rfl) a0
    obtain ⟨z, e1, _, wf⟩ := DataW.trod_int (k := .i64) (by kernel_rfl) a1
    have q0 : a = Value.bool e := by
      have h : [a] = [Value.bool e] := e0
      injection h
    have q1 : b = Value.int .i64 z := by
      have h : [b] = [Value.int .i64 z] := e1
      injection h
    subst q0; subst q1
    exact ⟨e, z, rfl, wf⟩
end
theorem wf_i64 {n : Int} (h : (Lit.int .i64 n).wf = true) : -9223372036854775808 ≤ n ∧ n ≤ 9223372036854775807 := by
  have e : (Lit.int .i64 n).wf = (decide (IntKind.i64.min ≤ n) && decide (n ≤ IntKind.i64.max)) := rfl
  rw [e, Bool.and_eq_true, decide_eq_true_eq, decide_eq_true_eq] at h
  exact h
section
variable {w : World} {A A1 A2 : Option Addr} {c c1 c2 B : Nat} {l l1 l2 : List UInt8}
theorem elemL_len (e : Bool) (x : Int) : (elemL e x).1.length ≤ 5 := by
  unfold elemL; split <;> simp [be4]
theorem propL_len (e : Bool) (x : Int) (nm : List UInt8) : (propL e x nm).1.length ≤ 22 := by
  unfold propL; split
  · simp
  · split
    · rename_i h
      unfold isName at h
      simp only [Bool.and_eq_true, decide_eq_true_eq] at h
      simp [be4]; omega
    · simp
theorem Dj_of {X Y : Option Addr} {w1 w2 : World} {e : Nat} {cx cy : Nat} {lx ly : List UInt8} (hx : OwnB w1 B e X cx lx) (hy : OwnB w2 w1.heap.size e Y cy ly) : Dj Y X := fun a1 a2 h1 h2 => by
  have q1 := hy.block a1 h1
  have q2 := hx.block a2 h2
  omega
theorem Keeps.of_grown {w w' : World} {r : Option Nat} (h : w.grownBy w' r) : Keeps (fun k => r = some k) w w' := ⟨h.os, h.tape, h.output, h.size, fun k hk hn => h.block k hk fun e => hn e.symm⟩
/-- Apart writes into the first answer's block alone -/
theorem Apart_keeps {n0 c0 n1 n2 : Nat} {A0 : Option Addr} {l0 : List UInt8} (ho : OwnB w B TU8 A0 c0 l0) (hr1 : Go.Dn.RB w A1 l1) (hr2 : Go.Dn.RB w A2 l2) (hn0 : n0 = l0.length) (hn1 : n1 = l1.length) (hn2 : n2 = l2.length) (hlen : l0.length ≤ 140737488355000) (hlen1 : l1.length ≤ 140737488355000)
    (hd1 : Dj A1 A0) (hd2 : Dj A2 A0) (hB : B ≤ w.heap.size) :
    Calls Tryd.prog 12 #[.slice A0 n0 c0, .slice A1 n1 c1, .slice A2 n2 c2] w fun e w' => e = .returned (.bool (decide (l0 = l2) && decide (l1 = l2))) ∧ Keeps (fun k => (Value.slice A0 l0.length c0).ownBlock = some k) w w' := by
  subst hn0; subst hn1; subst hn2
  apply f_ref01_Apart.ok
  unfold f_ref01_Apart.wp
  refine (Same_ok ho.reads hr2 rfl rfl (by omega)).mono ?_
  rintro e wa ⟨rfl, hba⟩
  refine ⟨_, rfl, ?_⟩
  by_cases h02 : l0 = l2
  · rw [decide_eq_true h02]
    refine sel_f rfl ?_
    refine (Same_ok (hr1.below hba (Nat.le_refl _)) (hr2.below hba (Nat.le_refl _)) rfl rfl (by omega)).mono ?_
    rintro e wb ⟨rfl, hbb⟩
    refine ⟨_, rfl, ?_⟩
    by_cases h12 : l1 = l2
    · rw [decide_eq_true h12]
      refine sel_f rfl ?_
      subst h02; subst h12
      have hab := hba.trans (hbb.mono hba.size)
      have hob := ho.keep hab
      refine (Spoil_ok hob rfl (by omega)).mono ?_
      rintro e wc ⟨rfl, hoc, hgc⟩
      refine ⟨rfl, 71, ?_⟩
      have hne1 : ∀ a, A1 = some a → some a.block ≠ (Value.slice A0 l1.length c0).ownBlock := fun a ha h => by
        obtain ⟨a0, h0, hb0⟩ := ownBlock_of.1 h.symm
        exact hd1 a a0 ha h0 hb0.symm
      have hne2 : ∀ a, A2 = some a → some a.block ≠ (Value.slice A0 l1.length c0).ownBlock := fun a ha h => by
        obtain ⟨a0, h0, hb0⟩ := ownBlock_of.1 h.symm
        exact hd2 a a0 ha h0 hb0.symm
      have hr1c := (hr1.below hab (Nat.le_refl _)).only hgc hne1
      have hr2c := (hr2.below hab (Nat.le_refl _)).only hgc hne2
      have hBc : B ≤ wc.heap.size := Nat.le_trans (Nat.le_trans hB hab.size) hgc.size
      have kc : Keeps (fun k => (Value.slice A0 l1.length c0).ownBlock = some k) w wc := (Keeps.of_below hab).trans (Keeps.of_grown hgc)
      refine Apart_l0 (w0 := wc) (B := B) (A0 := A0) (l := l1.map flip) (r := (Value.slice A0 l1.length c0).ownBlock) (by simpa using hlen) hBc hoc.block (fun a ha => by rw [ha]; rfl) ?_ 70 71 0 _ A0 c0 wc rfl (by omega) (by omega) (by simp) (by simpa [cnts] using hoc) hoc.reads ⟨rfl, rfl, rfl, Nat.le_refl _, fun _ _ _ => rfl⟩ (.inl rfl)
      intro A' c' w' hr' hg' _
      rw [List.length_map]
      refine sel_t (by rw [w64_in (by omega)]; simp) ?_
      have hr1d := hr1c.only hg' hne1
      have hr2d := hr2c.only hg' hne2
      have kd := kc.trans (Keeps.of_grown hg')
      refine (Turned_ok hr' hr2d rfl rfl (by omega)).mono ?_
      rintro e we ⟨rfl, hbe⟩
      refine ⟨_, rfl, sel_t rfl ?_⟩
      refine (Same_ok (hr1d.below hbe (Nat.le_refl _)) (hr2d.below hbe (Nat.le_refl _)) rfl rfl (by omega)).mono ?_
      rintro e wf ⟨rfl, hbf⟩
      exact ⟨_, rfl, by simp, (kd.trans (.of_below hbe)).trans (.of_below hbf)⟩
    · rw [decide_eq_false h12]
      exact sel_t rfl ⟨by simp, (Keeps.of_below hba).trans (.of_below hbb)⟩
  · rw [decide_eq_false h02]
    exact sel_t rfl ⟨by simp, Keeps.of_below hba⟩
end
end Go.Proofs.YtakgoekfnhkgaaaDoor.Rd
