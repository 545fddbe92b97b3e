/- A disk in memory: Plan, On, New. Conditions: none. -/
import Derived.Test.YtpokaafedpnbdaaDoorDkH
import Derived.Test.YtpokaafedpnbdaaDoorAppR
namespace Go.Proofs.YtpokaafedpnbdaaDoor.Rd
open Go.Dn Go.RowKit Go.Shelf
set_option linter.unusedVariables false
set_option linter.unusedSimpArgs false
set_option maxRecDepth 100000
theorem RTf : RecTy Tryd.prog 31 TFt 2 16 := ⟨by kernel_rfl, by kernel_rfl⟩
theorem RTs : RecTy Tryd.prog 79 TS 512 512 := ⟨by kernel_rfl, by kernel_rfl⟩
def kept (d : Dk) (ks : List Int) : List Sec := (List.range d.safe.length).map fun (i : Nat) => if (i : Int) ∈ ks then hasS d (i : Int) else d.safe.getD i z0
def onD (d : Dk) (ks : List Int) : Dk := { d with safe := kept d ks, pend := [], off := false }
theorem kept_len (d : Dk) (ks : List Int) : (kept d ks).length = d.safe.length := by simp [kept]
theorem kept_get (d : Dk) (ks : List Int) (i : Nat) (h : i < (kept d ks).length) : (kept d ks)[i] = if (i : Int) ∈ ks then hasS d (i : Int) else d.safe.getD i z0 := by simp [kept]
theorem kept_nil (d : Dk) : kept d [] = d.safe := by
  apply List.ext_getElem
  · rw [kept_len]
  · intro i h1 h2
    rw [kept_get, if_neg (by simp)]
    simp [List.getD_eq_getElem?_getD, h2]
theorem kept_has (d : Dk) (ks : List Int) {x : Int} (h0 : 0 ≤ x) (h1 : x < d.safe.length) : hasS { d with safe := kept d ks } x = hasS d x := by
  have hx : x.toNat < d.safe.length := by omega
  have hx' : x.toNat < (kept d ks).length := by rw [kept_len]; exact hx
  have ex : ((x.toNat : Nat) : Int) = x := by omega
  unfold hasS
  simp only
  cases hl : lk d.pend x with
  | some v => rfl
  | none =>
    have e : (kept d ks).getD x.toNat z0 = d.safe.getD x.toNat z0 := by
      rw [List.getD_eq_getElem?_getD, List.getElem?_eq_getElem hx', Option.getD_some, kept_get, ex]
      split
      · unfold hasS; rw [hl]; rfl
      · rfl
    simp only [Option.getD_none]
    exact e
theorem kept_snoc (d : Dk) (ks : List Int) (x : Int) : kept d (ks ++ [x]) = if 0 ≤ x ∧ x < d.safe.length then (kept d ks).set x.toNat (hasS d x) else kept d ks := by
  apply List.ext_getElem
  · split
    · rw [List.length_set, kept_len, kept_len]
    · rw [kept_len, kept_len]
  · intro i h1 h2
    have hi : i < d.safe.length := by rw [kept_len] at h1; exact h1
    have hi' : i < (kept d ks).length := by rw [kept_len]; exact hi
    rw [kept_get]
    by_cases hx : 0 ≤ x ∧ x < d.safe.length
    · simp only [if_pos hx]
      rw [List.getElem_set, kept_get]
      by_cases e : x.toNat = i
      · have ex : (i : Int) = x := by omega
        rw [if_pos e, if_pos (by simp [ex]), ex]
      · have ex : (i : Int) ≠ x := by omega
        rw [if_neg e]
        simp [ex]
    · simp only [if_neg hx]
      rw [kept_get]
      have ex : (i : Int) ≠ x := by omega
      simp [ex]
section
variable {w w' : World} {B : Nat} {r : RD} {d : Dk}
theorem Plan_ok (h : DM w B r d) {A : Option Addr} {n c : Nat} {fs : List Ft} (hr : RowE eF 2 w A fs) (hn : n = fs.length) (h0 : A = none → c = 0 ∧ n = 0) (hl : fs.length * 16 ≤ 140737488355328) (hB : B ≤ w.heap.size) :
    Calls Tryd.prog 14 #[.pointer (some ⟨r.D, 0, none⟩), .slice A n c] w fun e w' => e = .returned (.tuple #[]) ∧ ∃ P pc, DM w' B { r with P := P, pc := pc } { d with plan := fs } ∧ Keeps (fun k => k = r.D) w w' ∧ ∀ k, Ob P k → w.heap.size ≤ k := by
  apply f_disk_Disk_Plan.ok
  unfold f_disk_Disk_Plan.wp
  have cl : Calls Tryd.prog 37 #[.slice A n c] w fun e w1 => ∃ P pc, e = .returned (.slice P fs.length pc) ∧ OwnE eF 2 w1 w.heap.size TFt P pc fs ∧ Below w.heap.size w w1 := by
    apply f_api_Fate_Clone.ok
    unfold f_api_Fate_Clone.wp
    cases A with
    | none =>
      obtain ⟨_, hn0⟩ := h0 rfl
      have : fs = [] := List.length_eq_zero_iff.1 (by omega)
      subst this
      exact sel_t rfl ⟨none, 0, rfl, OwnE.none _ _ _ _ _, Below.refl _ _⟩
    | some a =>
      refine sel_f rfl (alW_intro ?_)
      have o := OwnE.empty (enc := eF) (k := 2) (w := w) (B := w.heap.size) (e := TFt) (Nat.le_refl _)
      have b1 : Below w.heap.size w (w.alloc (.cells #[] TFt)) := (Below.refl _ _).alloc (Nat.le_refl _) _
      refine app_row2 RTf EF (by decide) o rfl (hr.below EF b1) hn (fun h => by cases h) b1.size (by simpa using hl) fun P pc w2 o2 k2 f2 => ⟨_, _, _, rfl, P, pc, rfl, o2, b1.trans (k2.below b1.size fun k hk => ?_)⟩
      rintro ⟨a, ha, e⟩
      injection ha with ha; subst ha
      simp at e; omega
  refine cl.mono ?_
  rintro _ w1 ⟨P, pc, rfl, o1, g1⟩
  have hm := h.below g1
  obtain ⟨d1, d2, d3, d4, d5, d6⟩ := hm.dd
  have nD : ∀ a, P = some a → a.block ≠ r.D := fun a ha e => by have := (o1.block a ha).1; have := h.hb.lt; omega
  refine ⟨_, _, _, rfl, hb_st (j := 2) hm.hb (by simp [dkC, dC]) fun w2 h2 k2 => ⟨rfl, P, pc, ?_, (Keeps.of_below g1).trans k2, fun k ⟨a, ha, e⟩ => by rw [← e]; exact (o1.block a ha).1⟩⟩
  exact ⟨h2, hm.sf.keeps k2 fun a ha e => d2 ⟨a, ha, e⟩, hm.gm.keeps k2 (Ne.symm d1), (show OwnE eF 2 w1 B TFt P pc fs from ⟨o1.1, o1.2.imp id fun ⟨g, cap, cur, h1, h2, h3⟩ => ⟨g, cap, cur, h1, Nat.le_trans hB h2, h3⟩⟩).keeps k2 nD, h.lo, h.sl, h.pk, hl⟩
theorem on_l0 {A : Option Addr} {c : Nat} {ks : List Int} {w0 : World} (hr : RI w0 A ks) (hA : ∀ a, A = some a → ¬ Ob r.A a.block) (hle : ks.length ≤ 9223372036854775807) {K0 : World → Prop} (k0 : ∀ w, DM w B r { d with safe := kept d ks } → Keeps (Ob r.A) w0 w → K0 w) :
    ∀ (m i : Nat) (w : World), ks.length - i = m → i ≤ ks.length → DM w B r { d with safe := kept d (ks.take i) } → Keeps (Ob r.A) w0 w →
      f_disk_Disk_On.l0 (m + 1) (⟨r.D, 0, none⟩ : Addr) A ks.length c (ks.length : Int) (i : Int) w K0 := by
  intro m
  induction m with
  | zero =>
    intro i w hm hi h hk
    have : i = ks.length := by omega
    subst this
    rw [List.take_length] at h
    unfold f_disk_Disk_On.l0
    exact sel_f (by simp) (k0 w h hk)
  | succ m ih =>
    intro i w hm hi h hk
    have hlt : i < ks.length := by omega
    have hw : IntKind.i64.wrap ((i : Int) + 1) = ((i + 1 : Nat) : Int) := by rw [w64_in (by omega)]; omega
    obtain ⟨a, rfl, q⟩ := (hr.keeps hk hA) i hlt
    have htk : ks.take (i + 1) = ks.take i ++ [ks[i]] := by rw [List.take_succ_eq_append_getElem hlt]
    have hs := kept_snoc d (ks.take i) ks[i]
    generalize hx : ks[i] = x at q htk hs
    unfold f_disk_Disk_On.l0
    refine sel_t (by simpa using hlt) (optB_some rfl (req_intro (by simp; omega) ?_))
    rw [Int.toNat_natCast, Nat.mul_one]
    refine ldI_intro q ?_
    have nx : ¬ (0 ≤ x ∧ x < d.safe.length) → DM w B r { d with safe := kept d (ks.take (i + 1)) } := fun hn => by rw [htk, hs, if_neg hn]; exact h
    rw [hw]
    by_cases c1 : 0 ≤ x
    · have hsl : (kept d (ks.take i)).length = d.safe.length := kept_len _ _
      refine sel_t (by simpa using c1) (hb_ldS0 h.hb (A := r.A) (n := (kept d (ks.take i)).length) (c := r.c) rfl ?_)
      by_cases c2 : x < d.safe.length
      · refine sel_t (by rw [hsl]; simpa using c2) ((settle_ok h c1 (by show x < ((kept d (ks.take i)).length : Int); rw [hsl]; exact c2)).mono ?_)
        rintro _ w2 ⟨rfl, h2, k2⟩
        refine ⟨rfl, ih (i + 1) w2 (by omega) (by omega) ?_ (hk.trans k2)⟩
        have e2 : setS { d with safe := kept d (ks.take i) } x = { d with safe := kept d (ks.take (i + 1)) } := by
          unfold setS
          rw [kept_has d _ c1 c2, htk, hs, if_pos ⟨c1, c2⟩]
        rw [← e2]; exact h2
      · exact sel_f (by rw [hsl]; simpa using c2) (ih (i + 1) w (by omega) (by omega) (nx fun hh => c2 hh.2) hk)
    · exact sel_f (by simpa using c1) (ih (i + 1) w (by omega) (by omega) (nx fun hh => c1 hh.1) hk)
theorem On_ok (h : DM w B r d) {A : Option Addr} {n c : Nat} {ks : List Int} (hr : RI w A ks) (hn : n = ks.length) (hA : ∀ a, A = some a → ¬ Ob r.A a.block) (hle : ks.length ≤ 9223372036854775807) :
    Calls Tryd.prog 17 #[.pointer (some ⟨r.D, 0, none⟩), .slice A n c] w fun e w' => e = .returned (.tuple #[]) ∧ DM w' B r (onD d ks) ∧ Keeps (FD r) w w' := by
  subst hn
  apply f_disk_Disk_On.ok
  unfold f_disk_Disk_On.wp
  refine ⟨ks.length + 1, on_l0 (w0 := w) (d := d) hr hA hle (fun w1 h1 k1 => ?_) ks.length 0 w rfl (by omega) (by rw [List.take_zero, kept_nil]; exact h) (.refl _ _)⟩
  intro _
  refine hb_ldM (j := 1) h1.hb rfl (h1.gm.clear KTs fun w2 gm2 k2 => ⟨rfl, ?_⟩)
  obtain ⟨d1, d2, d3, d4, d5, d6⟩ := h1.dd
  have h2 : DM w2 B r { d with safe := kept d ks, pend := [] } := ⟨h1.hb.keeps k2 d1, h1.sf.keeps k2 fun a ha e => d3 ⟨a, ha, e⟩, gm2, h1.pl.keeps k2 fun a ha e => d5 ⟨a, ha, e⟩, h.lo, h1.sl, (fun p hp => by cases hp), h.pn⟩
  refine hb_st (j := 4) h2.hb (by simp [dkC, dC]) fun w3 h3 k3 => ⟨rfl, ?_, ?_⟩
  · exact h2.reD (d' := onD d ks) k3 (fun b _ hn e => hn e) h3 rfl rfl rfl
  · exact ((k1.mono fun k _ e => .inr (.inr (.inl e))).trans (k2.mono fun k _ e => .inr (.inl e))).trans (k3.mono fun k _ e => .inl e)
end
end Go.Proofs.YtpokaafedpnbdaaDoor.Rd
