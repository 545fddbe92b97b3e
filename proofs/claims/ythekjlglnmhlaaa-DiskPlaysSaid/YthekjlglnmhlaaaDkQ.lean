/- A disk in memory: a call whose answer isn't looked at. Conditions: none. -/
import Derived.Test.YthekjlglnmhlaaaDkO
import Derived.Test.YthekjlglnmhlaaaRdC
namespace Go.Proofs.Ythekjlglnmhlaaa.Rd
open Go.Dn Go.RowKit Go.Shelf
set_option linter.unusedVariables false
set_option linter.unusedSimpArgs false
set_option maxRecDepth 100000
theorem hdI_i {S : World → Prop} {b j : Nat} {cs : Array Value} {t : TypeId} (h : ∀ w, S w → HB w b cs t) {x : Int} (hj : cs[j]? = some (.int .i64 x)) {K : Int → Prop} (hk : K x) : hdI S ((⟨b, 0, none⟩ : Addr).add j) .i64 K := ⟨_, fun w hs => ((h w hs).cell j).trans hj, hk⟩
theorem hdS_i {S : World → Prop} {b j : Nat} {cs : Array Value} {t : TypeId} (h : ∀ w, S w → HB w b cs t) {A : Option Addr} {n c : Nat} (hj : cs[j]? = some (.slice A n c)) {K : Option Addr → Nat → Nat → Prop} (hk : K A n c) : hdS S ((⟨b, 0, none⟩ : Addr).add j) K := ⟨_, _, _, fun w hs => ((h w hs).cell j).trans hj, hk⟩
section
variable {w w' : World} {B : Nat} {r : RD} {d : Dk}
/-- On, where nothing at all is kept and the slice lies wherever it likes -/
theorem On0_ok (h : DM w B r d) {A : Option Addr} {c : Nat} :
    Calls Try.prog 21 #[.pointer (some ⟨r.D, 0, none⟩), .slice A 0 c] w fun e w' => e = .returned (.tuple #[]) ∧ DM w' B r (onD d []) ∧ Keeps (FD r) w w' := by
  apply f_disk_Disk_On.ok
  unfold f_disk_Disk_On.wp
  refine ⟨1, ?_⟩
  unfold f_disk_Disk_On.l0
  refine sel_f (by simp) ?_
  intro _
  refine hb_ldM (j := 1) h.hb rfl (h.gm.clear KTs fun w2 gm2 k2 => ⟨rfl, ?_⟩)
  obtain ⟨d1, d2, d3, d4, d5, d6⟩ := h.dd
  have h2 : DM w2 B r { d with pend := [] } := ⟨h.hb.keeps k2 d1, h.sf.keeps k2 fun a ha e => d3 ⟨a, ha, e⟩, gm2, h.pl.keeps k2 fun a ha e => d5 ⟨a, ha, e⟩, h.lo, h.sl, (fun p hp => by cases hp), h.pn⟩
  refine hb_st (j := 4) h2.hb (by simp [dkC, dC]) fun w3 h3 k3 => ⟨rfl, ?_, ?_⟩
  · have e : onD d [] = { d with pend := [], off := false } := by unfold onD; rw [kept_nil]
    rw [e]
    exact h2.reD (d' := { d with pend := [], off := false }) k3 (fun b _ hn e => hn e) h3 rfl rfl rfl
  · exact (k2.mono fun k _ e => .inr (.inl e)).trans (k3.mono fun k _ e => .inl e)
/-- a call -/
structure DOp where
  kind : Int
  i : Int
  A1 : Option Addr
  c1 : Nat
  data : List Int
  A2 : Option Addr
  c2 : Nat
  keeps : List Int
  A3 : Option Addr
  c3 : Nat
  fates : List Ft
def dopE (o : DOp) : List Value := [.int .i64 o.kind, .int .i64 o.i, .slice o.A1 o.data.length o.c1, .slice o.A2 o.keeps.length o.c2, .slice o.A3 o.fates.length o.c3]
theorem Edop : Enc dopE 5 := ⟨fun _ => rfl, fun x u hu => by simp only [dopE, List.mem_cons, List.not_mem_nil, or_false] at hu; rcases hu with rfl | rfl | rfl | rfl | rfl <;> rfl, by decide⟩
structure OkD (w : World) (B : Nat) (o : DOp) : Prop where
  r1 : RB w o.A1 o.data
  r2 : RI w o.A2 o.keeps
  r3 : RowE eF 2 w o.A3 o.fates
  b1 : o.data ≠ [] → ∀ a, o.A1 = some a → a.block < B
  b2 : o.keeps ≠ [] → ∀ a, o.A2 = some a → a.block < B
  b3 : o.fates ≠ [] → ∀ a, o.A3 = some a → a.block < B
  z3 : o.A3 = none → o.c3 = 0 ∧ o.fates.length = 0
  l1 : o.data.length ≤ 140737488351232
  l2 : o.keeps.length ≤ 140737488355328
  l3 : o.fates.length * 16 ≤ 140737488355328
theorem OkD.keep {o : DOp} (h : OkD w B o) (k : Keeps (fun k => B ≤ k) w w') : OkD w' B o := by
  refine ⟨?_, ?_, ?_, h.b1, h.b2, h.b3, h.z3, h.l1, h.l2, h.l3⟩
  · by_cases h0 : o.data = []
    · rw [h0]; exact RB.nil _ _
    · exact h.r1.keeps k fun a ha hb => by have := h.b1 h0 a ha; omega
  · by_cases h0 : o.keeps = []
    · rw [h0]; exact RI.nil _ _
    · exact h.r2.keeps k fun a ha hb => by have := h.b2 h0 a ha; omega
  · by_cases h0 : o.fates = []
    · rw [h0]; exact RowE.nil _ _ _ _
    · exact h.r3.keeps EF k fun a ha hb => by have := h.b3 h0 a ha; omega
def doD (d : Dk) (o : DOp) : Dk := if o.kind = 2 then wrD d o.i o.data else if o.kind = 3 then syD d else if o.kind = 4 then onD d o.keeps else if o.kind = 5 then { d with plan := o.fates } else d
theorem do_ok2 (h : DM w B r d) {o : DOp} (ho : OkD w B o) (hB : B ≤ w.heap.size) :
    Calls Try.prog 18 #[.pointer (some ⟨r.D, 0, none⟩), .agg #[.int .i64 o.kind, .int .i64 o.i, .slice o.A1 o.data.length o.c1, .slice o.A2 o.keeps.length o.c2, .slice o.A3 o.fates.length o.c3]] w
      fun e w' => e = .returned (.tuple #[]) ∧ ∃ r', r'.D = r.D ∧ DM w' B r' (doD d o) ∧ Keeps (FD r) w w' ∧ ∀ k, FD r' k → FD r k ∨ w.heap.size ≤ k := by
  apply f_law07_do.ok
  unfold f_law07_do.wp
  refine al_new fun w1 b1 e1 s1 h1 g1 => hb_ldI0 h1 rfl ?_
  have hm := h.below g1
  have ho1 := ho.keep (.of_below g1)
  have kB : Keeps (FD r) w w1 := .of_below g1
  unfold doD
  by_cases c2 : o.kind = 2
  · rw [if_pos c2]
    have gd := (Below.refl w1.heap.size w1).drew
    refine sel_t (by simpa using c2) (drW_intro ⟨fun w' => HB w' b1 _ _, h1.below gd, hdI_i (fun _ h => h) (j := 1) rfl (hdS_i (fun _ h => h) (j := 2) rfl ?_)⟩)
    refine (BCopy_ok ((ho1.keep (.of_below gd)).r1) rfl (by have := ho.l1; omega)).mono ?_
    rintro _ w2 ⟨A, c, rfl, o2, g2⟩
    have hm2 := (hm.below gd).below g2
    have s2 := gd.size
    refine ⟨_, _, _, rfl, (h1.below gd).below g2, (Write_ok hm2 rfl (OwnE.rb o2) (fun a ha hf => by have := (o2.block a ha).1; have := ((hm.below gd).lt _ hf).1; omega)).mono ?_⟩
    rintro _ w3 ⟨rfl, h3, k3⟩
    exact ⟨_, rfl, rfl, r, rfl, h3, ((kB.trans (.of_below gd)).trans (.of_below g2)).trans k3, fun k hk => .inl hk⟩
  rw [if_neg c2]
  refine sel_f (by simpa using c2) ?_
  by_cases c3 : o.kind = 3
  · rw [if_pos c3]
    refine sel_t (by simpa using c3) ((Sync_ok hm).mono ?_)
    rintro _ w3 ⟨rfl, h3, k3⟩
    exact ⟨_, rfl, rfl, r, rfl, h3, kB.trans k3, fun k hk => .inl hk⟩
  rw [if_neg c3]
  refine sel_f (by simpa using c3) ?_
  by_cases c4 : o.kind = 4
  · rw [if_pos c4]
    refine sel_t (by simpa using c4) (hb_ldS (j := 3) h1 rfl ?_)
    by_cases h0 : o.keeps = []
    · rw [h0]
      refine (On0_ok hm).mono ?_
      rintro _ w3 ⟨rfl, h3, k3⟩
      exact ⟨rfl, rfl, r, rfl, h3, kB.trans k3, fun k hk => .inl hk⟩
    · refine (On_ok hm ho1.r2 rfl (fun a ha hf => by have := ho.b2 h0 a ha; have := (hm.lt _ (.inr (.inr (.inl hf)))).2; omega) (by have := ho.l2; omega)).mono ?_
      rintro _ w3 ⟨rfl, h3, k3⟩
      exact ⟨rfl, rfl, r, rfl, h3, kB.trans k3, fun k hk => .inl hk⟩
  rw [if_neg c4]
  refine sel_f (by simpa using c4) ?_
  by_cases c5 : o.kind = 5
  · rw [if_pos c5]
    refine sel_t (by simpa using c5) (hb_ldS (j := 4) h1 rfl ?_)
    refine (Plan_ok hm ho1.r3 rfl ho.z3 ho.l3 (by have := g1.size; omega)).mono ?_
    rintro _ w3 ⟨rfl, P, pc, h3, k3, f3⟩
    exact ⟨rfl, rfl, { r with P := P, pc := pc }, rfl, h3, kB.trans (k3.mono fun i hi e => .inl e), fun k hk => by
      rcases hk with e | e | e | e
      · exact .inl (.inl e)
      · exact .inl (.inr (.inl e))
      · exact .inl (.inr (.inr (.inl e)))
      · exact .inr (by have := f3 k e; have := g1.size; omega)⟩
  rw [if_neg c5]
  exact sel_f (by simpa using c5) ⟨rfl, r, rfl, hm, kB, fun k hk => .inl hk⟩
theorem do_ok (h : DM w B r d) {o : DOp} (ho : OkD w B o) (hB : B ≤ w.heap.size) :
    Calls Try.prog 18 #[.pointer (some ⟨r.D, 0, none⟩), .agg #[.int .i64 o.kind, .int .i64 o.i, .slice o.A1 o.data.length o.c1, .slice o.A2 o.keeps.length o.c2, .slice o.A3 o.fates.length o.c3]] w
      fun e w' => e = .returned (.tuple #[]) ∧ ∃ r', r'.D = r.D ∧ DM w' B r' (doD d o) ∧ Keeps (fun k => B ≤ k) w w' :=
  (do_ok2 h ho hB).mono fun e w' ⟨e1, r', e2, m, k, _⟩ => ⟨e1, r', e2, m, k.mono fun i hi ho => (h.lt i ho).2⟩
end
end Go.Proofs.Ythekjlglnmhlaaa.Rd
