/- The statement DiskSafe: the walk. Conditions: none. -/
import Derived.Test.YthekjlglnmhlaaaDkR
namespace Go.Proofs.Ythekjlglnmhlaaa.Rd
open Go.Dn Go.RowKit Go.Shelf
set_option linter.unusedVariables false
set_option linter.unusedSimpArgs false
set_option maxRecDepth 100000
theorem stepD_zero {d : Dk} {act : Dk → Dk} (h : stepC d = 0) : stepD d act = act { d with steps := wrap64 (d.steps + 1) } := by
  unfold stepC at h
  simp only at h
  unfold stepD
  simp only
  by_cases k1 : fateOf (wrap64 (d.steps + 1)) d.plan = 1
  · rw [if_pos k1] at h; omega
  rw [if_neg k1] at h ⊢
  by_cases k2 : fateOf (wrap64 (d.steps + 1)) d.plan = 2
  · rw [if_pos k2] at h; omega
  rw [if_neg k2] at h ⊢
  by_cases k3 : fateOf (wrap64 (d.steps + 1)) d.plan = 3
  · rw [if_pos k3] at h; omega
  rw [if_neg k3]
theorem stepC_cases (d : Dk) : stepC d = 0 ∨ stepC d = 70 ∨ stepC d = 71 := by
  unfold stepC
  simp only
  split
  · exact .inr (.inr rfl)
  · split
    · exact .inr (.inl rfl)
    · split
      · exact .inr (.inl rfl)
      · exact .inl rfl
theorem syC_cases (d : Dk) : syC d = 0 ∨ syC d = 70 ∨ syC d = 71 := by
  unfold syC
  split
  · exact .inr (.inl rfl)
  · exact stepC_cases d
theorem doD_len (d : Dk) (o : DOp) : (doD d o).safe.length = d.safe.length := by
  unfold doD
  split
  · unfold wrD
    split
    · rfl
    · split
      · rfl
      · exact stepD_P (P := fun x => x.safe.length = d.safe.length) (fun _ => rfl) (fun _ => rfl) (fun _ => rfl) (fun _ => rfl)
  · split
    · unfold syD
      split
      · rfl
      · exact stepD_P (P := fun x => x.safe.length = d.safe.length) (fun _ => rfl) (fun _ => rfl) (fun s => flushed_len _ _) (fun s => flushed_len _ _)
    · split
      · exact kept_len _ _
      · split <;> rfl
theorem doAll_len (ops : List DOp) : ∀ d : Dk, (doAll d ops).safe.length = d.safe.length := by
  induction ops with
  | nil => intro d; rfl
  | cons o ops ih => intro d; exact (ih (doD d o)).trans (doD_len d o)
/-- what a Write and a Sync that answer OK leave -/
theorem wrote {d : Dk} {i : Int} {l : List Int} (h : wrC d i l = 0) (h2 : syC (wrD d i l) = 0) : 0 ≤ i ∧ i < d.safe.length ∧ l.length ≤ 512 ∧ (syD (wrD d i l)).off = false ∧ Inv d.safe.length i (secOf l) (syD (wrD d i l)) := by
  unfold wrC at h
  by_cases ho : d.off = true
  · rw [if_pos ho] at h; omega
  rw [if_neg ho] at h
  by_cases hb : wrBad d i l
  · rw [if_pos hb] at h; omega
  rw [if_neg hb] at h
  have e1 : wrD d i l = putD i l { d with steps := wrap64 (d.steps + 1) } := by unfold wrD; rw [if_neg ho, if_neg hb]; exact stepD_zero h
  unfold wrBad at hb
  generalize hd1 : wrD d i l = d1 at h2 e1 ⊢
  have f1 : d1.safe = d.safe := by rw [e1]; rfl
  have f2 : lk d1.pend i = some (secOf l) := by rw [e1]; exact (lk_putK i).trans (if_pos rfl)
  have f3 : d1.off = d.off := by rw [e1]; rfl
  unfold syC at h2
  have ho1 : ¬ d1.off = true := by rw [f3]; exact ho
  rw [if_neg ho1] at h2
  have e2 : syD d1 = syncD { d1 with steps := wrap64 (d1.steps + 1) } := by unfold syD; rw [if_neg ho1]; exact stepD_zero h2
  have hi : 0 ≤ i := by omega
  have hi2 : i < d.safe.length := by omega
  refine ⟨hi, hi2, by omega, ?_, ?_, ?_, ?_⟩
  · rw [e2]; show d1.off = false; rw [f3]; simpa using ho
  · rw [e2]; exact (flushed_len _ _).trans (by show d1.safe.length = _; rw [f1])
  · rw [e2]
    show (flushed { d1 with steps := wrap64 (d1.steps + 1) } []).getD i.toNat z0 = secOf l
    rw [List.getD_eq_getElem?_getD, List.getElem?_eq_getElem (by rw [flushed_len]; show i.toNat < d1.safe.length; rw [f1]; omega), Option.getD_some, flushed_get, show ((i.toNat : Nat) : Int) = i by omega]
    simp only [hasK, List.any_nil, Bool.false_eq_true, if_false]
    unfold hasS
    rw [show lk ({ d1 with steps := wrap64 (d1.steps + 1) } : Dk).pend i = some (secOf l) from f2]
    rfl
  · rw [e2]; rfl
theorem RDo.mono {w : World} {B B' : Nat} {A : Option Addr} {ops : List DOp} (h : RDo w B A ops) (hB : B ≤ B') : RDo w B' A ops :=
  ⟨h.row, fun h0 a ha => Nat.lt_of_lt_of_le (h.lt h0 a ha) hB, fun o ho => have q := h.ok o ho; ⟨q.r1, q.r2, q.r3, fun h0 a ha => Nat.lt_of_lt_of_le (q.b1 h0 a ha) hB, fun h0 a ha => Nat.lt_of_lt_of_le (q.b2 h0 a ha) hB, fun h0 a ha => Nat.lt_of_lt_of_le (q.b3 h0 a ha) hB, q.z3, q.l1, q.l2, q.l3⟩, h.len⟩
section
variable {w w' : World} {B : Nat}
theorem Safe_l1 {A : Option Addr} {c : Nat} {ops : List DOp} {D n : Nat} {at_ : Int} {s : Sec} (h0 : 0 ≤ at_) (h1 : at_ < n) {w0 : World} (hB : B ≤ w0.heap.size) {b7 : Nat} {cs7 : Array Value} {t7 : TypeId} {K0 : World → Prop}
    (k0 : ∀ w r d, r.D = D → DM w B r d → Inv n at_ s d → Keeps (fun k => B ≤ k) w0 w → HB w b7 cs7 t7 → ¬ FD r b7 → K0 w) :
    ∀ (m i : Nat) (w : World) (r : RD) (d : Dk), ops.length - i = m → i ≤ ops.length → r.D = D → DM w B r d → Inv n at_ s d → Keeps (fun k => B ≤ k) w0 w → RDo w B A ops → HB w b7 cs7 t7 → ¬ FD r b7 →
      f_law07_DiskSafe.l1 (m + 1) at_ (some ⟨D, 0, none⟩) A ops.length c (ops.length : Int) (i : Int) w K0 := by
  intro m
  induction m with
  | zero =>
    intro i w r d hm hi eD h hI k ho hH hN
    unfold f_law07_DiskSafe.l1
    exact sel_f (by simp; omega) (k0 w r d eD h hI k hH hN)
  | succ m ih =>
    intro i w r d hm hi eD h hI k ho hH hN
    have hlt : i < ops.length := by omega
    have hmem : ops[i] ∈ ops := List.getElem_mem hlt
    unfold f_law07_DiskSafe.l1
    refine sel_t (by simpa using hlt) (op_ld ho.row hlt (op_box fun b w1 e1 hb g1 => ?_))
    have kb : Keeps (fun k => B ≤ k) w w1 := .of_below g1
    have := k.size
    have := g1.size
    subst eD
    rw [wrs hlt ho.len]
    have go := do_ok2 (h.below g1) ((ho.ok _ hmem).keep kb) (by omega)
    refine hb_ldI0 hb rfl ?_
    by_cases c2 : ops[i].kind = 2
    · refine sel_f (by simp [c2]) (hb_ldI (j := 1) hb rfl ?_)
      by_cases ci : ops[i].i = at_
      · exact sel_f (by simp [ci]) (ih (i + 1) w1 r d (by omega) (by omega) rfl (h.below g1) hI (k.trans kb) (ho.keep kb) (hH.below g1) hN)
      · refine sel_t (by simpa using ci) (hb_ldI0 hb rfl (hb_ldI (j := 1) hb rfl (hb_ldS (j := 2) hb rfl (hb_ldS (j := 3) hb rfl (hb_ldS (j := 4) hb rfl (go.mono ?_))))))
        rintro _ w2 ⟨rfl, r', e', h2, k2', f2⟩
        have k2 := k2'.mono (S' := fun k => B ≤ k) fun i hi ho => ((h.below g1).lt i ho).2
        exact ⟨rfl, ih (i + 1) w2 r' _ (by omega) (by omega) e' h2 (hI.doD h0 h1 (.inr ci)) ((k.trans kb).trans k2) (ho.keep (kb.trans k2)) ((hH.below g1).keeps k2' hN) (fun hf => (f2 _ hf).elim hN fun hh => by have := (hH.below g1).lt; omega)⟩
    · refine sel_t (by simpa using c2) (hb_ldI0 hb rfl (hb_ldI (j := 1) hb rfl (hb_ldS (j := 2) hb rfl (hb_ldS (j := 3) hb rfl (hb_ldS (j := 4) hb rfl (go.mono ?_))))))
      rintro _ w2 ⟨rfl, r', e', h2, k2', f2⟩
      have k2 := k2'.mono (S' := fun k => B ≤ k) fun i hi ho => ((h.below g1).lt i ho).2
      exact ⟨rfl, ih (i + 1) w2 r' _ (by omega) (by omega) e' h2 (hI.doD h0 h1 (.inl c2)) ((k.trans kb).trans k2) (ho.keep (kb.trans k2)) ((hH.below g1).keeps k2' hN) (fun hf => (f2 _ hf).elim hN fun hh => by have := (hH.below g1).lt; omega)⟩
end
end Go.Proofs.Ythekjlglnmhlaaa.Rd
