/- A disk in memory: Write, Sync, Plan, On, Read and the small words. Conditions: none. -/
import Derived.Test.YtpokaafedpnbdaaDoorDkG
namespace Go.Proofs.YtpokaafedpnbdaaDoor.Rd
open Go.Dn Go.RowKit Go.Shelf
set_option linter.unusedVariables false
set_option linter.unusedSimpArgs false
set_option maxRecDepth 100000
section
variable {w w' : World} {B : Nat} {r : RD} {d : Dk}
theorem rb_k {S : Nat → Prop} {A : Option Addr} {l : List Int} (h : RB w A l) (k : Keeps S w w') (hA : l ≠ [] → ∀ a, A = some a → ¬ S a.block) : RB w' A l := by
  by_cases h0 : l = []
  · subst h0; exact fun i hi => absurd hi (Nat.not_lt_zero _)
  · exact h.keeps k (hA h0)
theorem Write_ok' (h : DM w B r d) {i : Int} {A : Option Addr} {l : List Int} {n c : Nat} (hn : n = l.length) (hr : RB w A l) (hA : l ≠ [] → ∀ a, A = some a → ¬ FD r a.block) :
    Calls Tryd.prog 24 #[.pointer (some ⟨r.D, 0, none⟩), .int .i64 i, .slice A n c] w fun e w' => e = .returned (.int .i64 (wrC d i l)) ∧ DM w' B r (wrD d i l) ∧ Keeps (FD r) w w' := by
  subst hn
  apply f_disk_Disk_Write.ok
  unfold f_disk_Disk_Write.wp
  refine al_new fun w1 b1 e1 s1 h1 g1 => al_new fun w2 b3 e3 s3 h3 g2 => al_new fun w3 b5 e5 s5 h5 g3 => ?_
  have hb := (g1.trans (g2.mono (by omega))).trans (g3.mono (by omega))
  have hm := h.below hb
  have h1 := (h1.below g2).below g3
  have h3 := h3.below g3
  refine hb_ldP0 h1 rfl (optB_some rfl (hb_ldB (j := 4) hm.hb rfl ?_))
  by_cases ho : d.off = true
  · refine sel_t ho ?_
    have e1 : wrC d i l = 70 := by unfold wrC; rw [if_pos ho]
    have e2 : wrD d i l = d := by unfold wrD; rw [if_pos ho]
    rw [e1, e2]
    exact ⟨rfl, hm, .of_below hb⟩
  have hof : d.off = false := by simpa using ho
  have bd : Below w3.heap.size w3 w3.drew := (Below.refl _ _).drew
  have hbd := hb.drew
  have hmd := hm.below bd
  have bad : wrBad d i l → (fun e w' => e = Ending.returned (.int .i64 (wrC d i l)) ∧ DM w' B r (wrD d i l) ∧ Keeps (FD r) w w') (.returned (.int .i64 1)) w3.drew := fun hbad => by
    have e1 : wrC d i l = 1 := by unfold wrC; rw [if_neg ho, if_pos hbad]
    have e2 : wrD d i l = d := by unfold wrD; rw [if_neg ho, if_pos hbad]
    show _ ∧ _
    rw [e1, e2]
    exact ⟨rfl, hmd, .of_below hbd⟩
  refine sel_f hof (drW_intro (hb_ldI0 (h3.below bd) rfl ?_))
  by_cases c1 : i < 0
  · exact sel_t (by simpa using c1) (bad (.inl c1))
  refine sel_f (by simpa using c1) (hb_ldI0 (h3.below bd) rfl (hb_ldP0 (h1.below bd) rfl (optB_some rfl (hb_ldS0 hmd.hb (A := r.A) (n := d.safe.length) (c := r.c) rfl ?_))))
  by_cases c2 : (d.safe.length : Int) ≤ i
  · exact sel_t (by simpa using c2) (bad (.inr (.inl c2)))
  refine sel_f (by simpa using c2) (hb_ldS0 (h5.below bd) rfl ?_)
  by_cases c3 : 512 < l.length
  · exact sel_t (by simp; omega) (bad (.inr (.inr c3)))
  refine sel_f (by simp; omega) (hb_ldP0 (h1.below bd) rfl ?_)
  have hnb : ¬ wrBad d i l := fun hh => hh.elim c1 fun hh => hh.elim c2 c3
  have e1 : wrC d i l = stepC d := by unfold wrC; rw [if_neg ho, if_neg hnb]
  have e2 : wrD d i l = stepD d (putD i l) := by unfold wrD; rw [if_neg ho, if_neg hnb]
  rw [e1, e2]
  have nb : ∀ b, w.heap.size ≤ b → ¬ FD r b := fun b hb hf => by have := (h.lt b hf).1; omega
  refine (step_ok hmd (g := 49) (act := putD i l) (fun d => ⟨rfl, rfl, rfl, rfl⟩) (enters_of Tryd.func49 (by kernel_rfl) rfl) fun W1 hm1 k1 => ?_).mono ?_
  · have nD : ∀ b, w.heap.size ≤ b → b ≠ r.D := fun b hb e => nb b hb (.inl e)
    refine (write1_ok hm1 ((h5.below bd).keeps k1 (nD _ (by omega))) ((h1.below bd).keeps k1 (nD _ (by omega))) ((h3.below bd).keeps k1 (nD _ (by omega))) (rb_k (hr.belw hbd) k1 fun h0 a ha e => hA h0 a ha (.inl e)) (by omega) (by omega) (by show i < (d.safe.length : Int); omega)).mono ?_
    rintro _ W2 ⟨rfl, hm2, k2⟩
    exact ⟨rfl, hm2, k2.mono fun k _ e => .inr (.inl e)⟩
  · rintro _ w5 ⟨rfl, hm5, k5⟩
    exact ⟨_, rfl, rfl, hm5, (Keeps.of_below hbd).trans k5⟩
theorem Write_ok (h : DM w B r d) {i : Int} {A : Option Addr} {l : List Int} {n c : Nat} (hn : n = l.length) (hr : RB w A l) (hA : ∀ a, A = some a → ¬ FD r a.block) :
    Calls Tryd.prog 24 #[.pointer (some ⟨r.D, 0, none⟩), .int .i64 i, .slice A n c] w fun e w' => e = .returned (.int .i64 (wrC d i l)) ∧ DM w' B r (wrD d i l) ∧ Keeps (FD r) w w' := Write_ok' h hn hr fun _ => hA
theorem Sync_ok (h : DM w B r d) :
    Calls Tryd.prog 36 #[.pointer (some ⟨r.D, 0, none⟩)] w fun e w' => e = .returned (.int .i64 (syC d)) ∧ DM w' B r (syD d) ∧ Keeps (FD r) w w' := by
  apply f_disk_Disk_Sync.ok
  unfold f_disk_Disk_Sync.wp
  refine al_new fun w1 b1 e1 s1 h1 g1 => hb_ldP0 h1 rfl (optB_some rfl (hb_ldB (j := 4) (h.below g1).hb rfl ?_))
  have hm := h.below g1
  by_cases ho : d.off = true
  · have e1 : syC d = 70 := by unfold syC; rw [if_pos ho]
    have e2 : syD d = d := by unfold syD; rw [if_pos ho]
    rw [e1, e2]
    exact sel_t ho ⟨rfl, hm, .of_below g1⟩
  have e1 : syC d = stepC d := by unfold syC; rw [if_neg ho]
  have e2 : syD d = stepD d syncD := by unfold syD; rw [if_neg ho]
  rw [e1, e2]
  have nb : ¬ FD r b1 := fun hf => by have := (h.lt b1 hf).1; omega
  refine sel_f (by simpa using ho) (hb_ldP0 h1 rfl ?_)
  refine (step_ok hm (g := 62) (act := syncD) (fun d => ⟨rfl, rfl, rfl, flushed_len d []⟩) (enters_of Tryd.func62 (by kernel_rfl) rfl) fun W1 hm1 k1 => ?_).mono ?_
  · refine (sync1_ok hm1 (h1.keeps k1 fun e => nb (.inl e)) nb).mono ?_
    rintro _ W2 ⟨rfl, hm2, k2⟩
    exact ⟨rfl, hm2, k2.mono fun k _ e => e.elim (fun e => .inr (.inr (.inl e))) fun e => .inr (.inl e)⟩
  · rintro _ w5 ⟨rfl, hm5, k5⟩
    exact ⟨_, rfl, rfl, hm5, (Keeps.of_below g1).trans k5⟩
theorem Size_ok (h : DM w B r d) : Calls Tryd.prog 64 #[.pointer (some ⟨r.D, 0, none⟩)] w fun e w' => e = .returned (.int .i64 (d.safe.length : Int)) ∧ w' = w := by
  apply f_disk_Disk_Size.ok
  unfold f_disk_Disk_Size.wp
  exact hb_ldS0 h.hb (A := r.A) (n := d.safe.length) (c := r.c) rfl ⟨rfl, rfl⟩
theorem Steps_ok (h : DM w B r d) : Calls Tryd.prog 16 #[.pointer (some ⟨r.D, 0, none⟩)] w fun e w' => e = .returned (.int .i64 d.steps) ∧ w' = w := by
  apply f_disk_Disk_Steps.ok
  unfold f_disk_Disk_Steps.wp
  exact hb_ldI (j := 3) h.hb rfl ⟨rfl, rfl⟩
/-- a sector's bytes, read from its own block -/
theorem Read_ok (h : DM w B r d) (i : Int) : Calls Tryd.prog 65 #[.pointer (some ⟨r.D, 0, none⟩), .int .i64 i] w fun e w' =>
    (∃ A n c x, e = .returned (.tuple #[.slice A n c, .int .i64 x]) ∧
      ((d.off = true ∧ A = none ∧ n = 0 ∧ x = 70) ∨ (d.off = false ∧ (i < 0 ∨ (d.safe.length : Int) ≤ i) ∧ A = none ∧ n = 0 ∧ x = 1) ∨
       (d.off = false ∧ 0 ≤ i ∧ i < d.safe.length ∧ x = 0 ∧ n = 512 ∧ c = 512 ∧ ∃ b, A = some ⟨b, 0, none⟩ ∧ w.heap.size ≤ b ∧ HB w' b (secV (hasS d i)) TS))) ∧ Below w.heap.size w w' := by
  apply f_disk_Disk_Read.ok
  unfold f_disk_Disk_Read.wp
  refine hb_ldB (j := 4) h.hb rfl ?_
  by_cases ho : d.off = true
  · exact sel_t ho ⟨⟨_, _, _, _, rfl, .inl ⟨ho, rfl, rfl, rfl⟩⟩, Below.refl _ _⟩
  have hof : d.off = false := by simpa using ho
  refine sel_f hof ?_
  by_cases c1 : i < 0
  · exact sel_t (by simpa using c1) ⟨⟨_, _, _, _, rfl, .inr (.inl ⟨hof, .inl c1, rfl, rfl, rfl⟩)⟩, Below.refl _ _⟩
  refine sel_f (by simpa using c1) (hb_ldS0 h.hb (A := r.A) (n := d.safe.length) (c := r.c) rfl ?_)
  by_cases c2 : (d.safe.length : Int) ≤ i
  · exact sel_t (by simpa using c2) ⟨⟨_, _, _, _, rfl, .inr (.inl ⟨hof, .inr c2, rfl, rfl, rfl⟩)⟩, Below.refl _ _⟩
  refine sel_f (by simpa using c2) ((has_ok h (by omega) (by omega)).mono ?_)
  rintro _ w1 ⟨rfl, g1⟩
  refine ⟨_, rfl, ?_⟩
  rw [show zeroCs Tryd.prog 97 = secV z0 from zeroCs_sec]
  refine al_new fun w2 b e s h2 g2 => big_st0 h2 fun w3 h3 k3 => ?_
  have g := g1.trans (g2.mono g1.size)
  exact ⟨⟨_, _, _, _, rfl, .inr (.inr ⟨hof, by omega, by omega, rfl, rfl, rfl, b, rfl, by have := g1.size; omega, h3⟩)⟩, g.trans (k3.below g.size fun k hk e => by have := g1.size; omega)⟩
end
end Go.Proofs.YtpokaafedpnbdaaDoor.Rd
