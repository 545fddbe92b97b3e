/- The statement WalDies, walked · A slice among the arguments, opened: its elements by a code of one's own · A row of rows of bytes among the arguments, opened -/
import Derived.Test.YtpokaafedpnbdaaDoorWxE
import Derived.Test.YtpokaafedpnbdaaDoorRdL4
import Derived.Test.YtpokaafedpnbdaaDoorRecR
import Derived.ChangeArms
import Derived.DataReads
import Derived.SizedLaws
import Derived.WalkKit
import Derived.ProofKit
import Derived.OpenShut
/-! The statement WalDies, walked. Conditions: rows of bytes below 2^46. -/
namespace Go.Proofs.YtpokaafedpnbdaaDoor.Rd
open Go.Dn Go.RowKit Go.Shelf
set_option linter.unusedVariables false
set_option linter.unusedSimpArgs false
set_option maxRecDepth 100000
/-! ### a disk with one fate -/
structure PL (d : Dk) (N k : Int) (s : Nat) : Prop where
  off : d.off = false
  pl : d.plan = [(N, k)]
  st : d.steps = s
  k1 : 1 ≤ k
  k3 : k ≤ 3
  sN : (s : Int) < N
  N0 : N ≤ 100000
theorem stepD_steps {d : Dk} {act : Dk → Dk} (ha : ∀ d, (act d).steps = d.steps) : (stepD d act).steps = wrap64 (d.steps + 1) := by
  unfold stepD
  simp only
  split
  · rfl
  split
  · rfl
  split
  · exact ha _
  · exact ha _
section
variable {d : Dk} {l : Lg} {xs : List (Int × List UInt8)} {N k : Int} {s : Nat}
theorem PL.step (h : PL d N k s) {act : Dk → Dk} (ha : ∀ d, (act d).off = d.off ∧ (act d).plan = d.plan ∧ (act d).steps = d.steps) :
    (stepC d = 0 → PL (stepD d act) N k (s + 1)) ∧ (stepC d ≠ 0 → (stepD d act).steps = N) := by
  have := h.sN
  have := h.N0
  have k1 := h.k1
  have k3 := h.k3
  have es : wrap64 (d.steps + 1) = ((s + 1 : Nat) : Int) := by rw [h.st, wrap64_in (by omega)]; omega
  have ef : fateOf (wrap64 (d.steps + 1)) d.plan = if N = ((s + 1 : Nat) : Int) then k else 0 := by
    rw [es, h.pl]
    show (if okF ((s + 1 : Nat) : Int) (N, k) then k else 0) = _
    by_cases e : N = ((s + 1 : Nat) : Int)
    · rw [if_pos (show okF ((s + 1 : Nat) : Int) (N, k) from ⟨e, k1, k3⟩), if_pos e]
    · rw [if_neg (fun q : okF ((s + 1 : Nat) : Int) (N, k) => e q.1), if_neg e]
  refine ⟨fun h0 => ?_, fun h0 => ?_⟩
  · rw [stepC_0 h0]
    obtain ⟨a1, a2, a3⟩ := ha { d with steps := wrap64 (d.steps + 1) }
    have hne : N ≠ ((s + 1 : Nat) : Int) := fun e => by
      rw [if_pos e] at ef
      unfold stepC at h0
      simp only [ef] at h0
      split at h0
      · cases h0
      split at h0
      · cases h0
      split at h0
      · cases h0
      · omega
    exact ⟨a1.trans h.off, a2.trans h.pl, a3.trans es, k1, k3, by omega, h.N0⟩
  · have e : N = ((s + 1 : Nat) : Int) := by
      apply Classical.byContradiction
      intro hn
      rw [if_neg hn] at ef
      exact h0 (by unfold stepC; simp only [ef]; rfl)
    rw [stepD_steps fun d => (ha d).2.2, es, e]
theorem PL.wr (h : PL d N k s) {i : Nat} {b : List UInt8} (hb : b.length = 512) (hi : i < d.safe.length) : (wcL d (i : Int) b = 0 → PL (wrL d (i : Int) b) N k (s + 1)) ∧ (wcL d (i : Int) b ≠ 0 → (wrL d (i : Int) b).steps = N) := by
  have hw : ¬ wrBad d (i : Int) (toI b) := by
    unfold wrBad
    rw [toI_len, hb]
    omega
  unfold wcL wrC wrL wrD
  rw [if_neg (by rw [h.off]; decide), if_neg hw, if_neg (by rw [h.off]; decide), if_neg hw]
  exact h.step fun d => ⟨rfl, rfl, rfl⟩
theorem PL.sy (h : PL d N k s) : (syC d = 0 → PL (syD d) N k (s + 1)) ∧ (syC d ≠ 0 → (syD d).steps = N) := by
  unfold syC syD
  rw [if_neg (by rw [h.off]; decide), if_neg (by rw [h.off]; decide)]
  exact h.step fun d => ⟨rfl, rfl, rfl⟩
theorem PL.flushGo (hfit : l.stream.length ≤ l.count * 498) : ∀ (j i : Nat) (d : Dk) (s : Nat), PL d N k s → l.first + l.count ≤ d.safe.length → ((flushGo l j i d).2 = 0 → ∃ s', PL (flushGo l j i d).1 N k s') ∧ ((flushGo l j i d).2 ≠ 0 → (flushGo l j i d).1.steps = N)
  | 0, i, d, s, h, hz => ⟨fun _ => ⟨s, h⟩, fun q => absurd rfl q⟩
  | j + 1, i, d, s, h, hz => by
    unfold Rd.flushGo
    split
    · rename_i hi
      obtain ⟨q1, q2⟩ := h.wr (i := l.first + i) (b := buildL l.run (secU l.stream i)) (buildL_len _ (secU_le _ _)) (by
        have : i < l.count := by
          apply Classical.byContradiction; intro hn
          have : l.count * 498 ≤ i * 498 := Nat.mul_le_mul_right _ (by omega)
          omega
        omega)
      split
      · rename_i hc
        exact ⟨fun q => absurd q hc, fun _ => q2 hc⟩
      · rename_i hc
        exact PL.flushGo hfit j (i + 1) _ _ (q1 (by simpa using hc)) (by rw [wr_size]; exact hz)
    · exact ⟨fun _ => ⟨s, h⟩, fun q => absurd rfl q⟩
theorem PL.flush (h : PL d N k s) (hl : l.dead = false) (hfit : l.stream.length ≤ l.count * 498) (hz : l.first + l.count ≤ d.safe.length) :
    ((flushL d l).2.2 = 0 → ∃ s', PL (flushL d l).1 N k s') ∧ ((flushL d l).2.2 ≠ 0 → (flushL d l).1.steps = N) := by
  unfold flushL
  rw [if_neg (by rw [hl]; decide)]
  split
  · exact ⟨fun _ => ⟨s, h⟩, fun q => absurd rfl q⟩
  obtain ⟨q1, q2⟩ := PL.flushGo (l := l) hfit 17 (l.safe / 498) d s h hz
  split
  · rename_i hc
    exact ⟨fun q => absurd q hc, fun _ => q2 hc⟩
  · rename_i hc
    obtain ⟨s', p'⟩ := q1 (by simpa using hc)
    obtain ⟨q3, q4⟩ := p'.sy
    split
    · rename_i hc2
      exact ⟨fun q => absurd q hc2, fun _ => q4 hc2⟩
    · rename_i hc2
      exact ⟨fun _ => ⟨_, q3 (by simpa using hc2)⟩, fun q => absurd rfl q⟩
end
theorem flushL_safe {d : Dk} {l : Lg} (h1 : l.dead = false) (h2 : l.safe = l.stream.length) : flushL d l = (d, l, 0) := by
  unfold flushL; rw [if_neg (by rw [h1]; decide), if_pos h2]
/-! ### rows of rows of bytes -/
def RPr (w : World) (A : Option Addr) (L : List (List UInt8)) : Prop :=
  ∀ i (h : i < L.length), ∃ a Ai ci, A = some a ∧ w.cell? (a.add i) = some (.slice Ai L[i].length ci) ∧ Go.Dn.RB w Ai L[i] ∧ L[i].length ≤ ci ∧ (Ai = none → ci = 0) ∧ L[i].length ≤ 140737488355000
theorem RPr.keeps {w w' : World} {A : Option Addr} {L : List (List UInt8)} (h : RPr w A L) (hb : Below w.heap.size w w') : RPr w' A L := fun i hi => by
  obtain ⟨a, Ai, ci, h1, h2, h3, h4, h5, h6⟩ := h i hi
  exact ⟨a, Ai, ci, h1, (hb.cell (World.block_lt_of_cell? _ _ h2)).trans h2, h3.below hb (Nat.le_refl _), h4, h5, h6⟩
section
variable {w w0 w' : World} {B : Nat} {r : RD} {d : Dk} {ρ : RL} {l : Lg} {xs : List (Int × List UInt8)} {N k : Int}
/-- what holds between two rounds -/
structure DieI (w : World) (B : Nat) (r : RD) (L : Nat) (N k : Int) (dead : Bool) : Prop where
  ex : ∃ ρ d l xs, ρ.L = L ∧ WS w B r ρ d l xs false ∧ l.dead = dead ∧ (dead = false → l.safe = l.stream.length ∧ ∃ s, PL d N k s)
theorem dies_j1 {A : Option Addr} {c : Nat} {u : List UInt8} {L : Nat} {step : Int} {dead : Bool} (h : DieI w B r L N k dead) (hN : N = 4 + step) (hst : 1 ≤ step ∧ step ≤ 1000) (hr : Go.Dn.RB w A u) (hu : u.length ≤ 140737488355000)
    {Kn Kr : Bool → World → Prop} (hK : ∀ dead' w', DieI w' B r L N k dead' → Below B w w' → Kn dead' w') :
    f_law09_WalDies.j1 step (some ⟨r.D, 0, none⟩) (some ⟨L, 0, none⟩) 4 dead A u.length c w Kn Kr := by
  obtain ⟨ρ, d, l, xs, eL, S, hd, hnd⟩ := h.ex
  subst eL
  have eN : IntKind.i64.wrap (4 + step) = N := by rw [w64_in (by omega)]; omega
  unfold f_law09_WalDies.j1
  rw [eN]
  refine (Steps_ok S.dm).mono ?_
  rintro _ _ ⟨rfl, rfl⟩
  refine ⟨_, rfl, (Copy_ok hr (by omega)).mono ?_⟩
  rintro _ w1 ⟨A1, c1, rfl, o1, g1⟩
  have S1 := S.below g1
  refine ⟨_, _, _, rfl, (S1.append (kind := 1) (u := u) o1.reads rfl o1.nil0 (fun a ha hN => ?_) hu).mono ?_⟩
  · have := (o1.block a ha).1; have := (S.lm.lt _ hN).1; omega
  rintro _ w2 ⟨ρ2, rfl, eL2, S2, n2, k2⟩
  have b1 : Below B _ w1 := g1.mono S.lo
  have b2 : Below B _ w2 := b1.trans (S1.bel k2)
  refine ⟨_, _, rfl, ?_⟩
  rw [← eL2]
  have fl := S2.cr.flush
  refine S2.flush.mono ?_
  rintro _ w3 ⟨rfl, S3, k3⟩
  have b3 : Below B _ w3 := b2.trans (S2.bel k3)
  refine ⟨_, rfl, ?_⟩
  have hl2 : (appendL l 1 u).1.dead = l.dead ∧ (l.dead = true → (appendL l 1 u).2.2 = 91) := by
    unfold appendL
    by_cases hdd : l.dead = true
    · rw [if_pos hdd]; exact ⟨rfl, fun _ => rfl⟩
    · rw [if_neg hdd]
      refine ⟨?_, fun q => absurd q hdd⟩
      split; · rfl
      split; · rfl
      split; · rfl
      split; · rfl
      rfl
  obtain ⟨hl2, hl91⟩ := hl2
  cases hdd : dead with
  | true =>
    have hld : l.dead = true := hd.trans hdd
    have h91 := hl91 hld
    have hf : flushL d (appendL l 1 u).1 = (d, (appendL l 1 u).1, 91) := by unfold flushL; rw [if_pos (hl2.trans hld)]
    rw [h91, hf]
    rw [hf] at S3
    refine sel_t rfl (sel_f rfl (sel_f rfl ((Steps_ok S3.dm).mono ?_)))
    rintro _ w3 ⟨rfl, rfl⟩
    refine ⟨_, rfl, sel_f (by simp) (sel_f rfl (sel_t rfl ((Steps_ok S3.dm).mono ?_)))⟩
    rintro _ w3 ⟨rfl, rfl⟩
    exact ⟨_, rfl, hK true _ ⟨_, _, _, _, eL2, S3, hl2.trans hld, fun q => by cases q⟩ b3⟩
  | false =>
    have hld : l.dead = false := hd.trans hdd
    obtain ⟨hsafe, s, P⟩ := hnd hdd
    obtain ⟨p1, p2⟩ := P.flush (l := (appendL l 1 u).1) (hl2.trans hld) S2.cr.fit S2.cr.sz
    have hsN := P.sN
    obtain ⟨_, t1, t2, t3, t4, t5, t6, t7, t8, t9⟩ := fl
    have hst4 := P.st
    refine sel_f rfl (sel_t rfl (sel_t (by rw [hst4]; simpa using hsN) ((Steps_ok S3.dm).mono ?_)))
    rintro _ w3 ⟨rfl, rfl⟩
    refine ⟨_, rfl, ?_⟩
    by_cases hc : (flushL d (appendL l 1 u).1).2.2 = 0
    · obtain ⟨s', P'⟩ := p1 hc
      have hs' := P'.sN
      obtain ⟨t10, t11, _⟩ := t8 hc
      have est : (flushL d (appendL l 1 u).1).1.steps < N := by rw [P'.st]; exact hs'
      refine sel_f (by rw [hc]; simp; omega) (sel_f rfl ((Steps_ok S3.dm).mono ?_))
      rintro _ w3 ⟨rfl, rfl⟩
      refine ⟨_, rfl, sel_t (by rw [hc]; rfl) (S3.flush.mono ?_)⟩
      have hf2 : flushL (flushL d (appendL l 1 u).1).1 (flushL d (appendL l 1 u).1).2.1 = ((flushL d (appendL l 1 u).1).1, (flushL d (appendL l 1 u).1).2.1, 0) := by
        exact flushL_safe t11 (by rw [t10, t1])
      rw [hf2]
      rintro _ w4 ⟨rfl, S4, k4⟩
      refine ⟨_, rfl, sel_f rfl ((Steps_ok S4.dm).mono ?_)⟩
      rintro _ w4 ⟨rfl, rfl⟩
      refine ⟨_, rfl, sel_f (by simp) ?_⟩
      have : ((flushL d (appendL l 1 u).1).2.2 != 0) = false := by rw [hc]; rfl
      rw [this]
      exact hK false _ ⟨_, _, _, _, eL2, S4, t11, fun _ => ⟨by rw [t10, t1], s', P'⟩⟩ (b3.trans (S3.bel k4))
    · have hcs := p2 hc
      obtain ⟨t10, _⟩ := t9 hc
      have hne : ((flushL d (appendL l 1 u).1).2.2 != 0) = true := by simpa using hc
      refine sel_f (by rw [hne, hcs]; simp) (sel_f rfl ((Steps_ok S3.dm).mono ?_))
      rintro _ w3 ⟨rfl, rfl⟩
      refine ⟨_, rfl, sel_f (by rw [hne]; rfl) ?_⟩
      rw [hne]
      exact hK true _ ⟨_, _, _, _, eL2, S3, t10, fun q => by cases q⟩ b3
theorem dies_l0 {A : Option Addr} {c : Nat} {L : List (List UInt8)} {Lb : Nat} {step : Int} (hN : N = 4 + step) (hst : 1 ≤ step ∧ step ≤ 1000) (hr : RPr w0 A L) (hL : L.length ≤ 17592186044416) (hB : w0.heap.size ≤ B) {K Kr : Bool → World → Prop}
    (hK : ∀ dead w', DieI w' B r Lb N k dead → Below w0.heap.size w0 w' → K dead w') :
    ∀ (m i : Nat) (dead : Bool) (w : World), m + i = L.length → DieI w B r Lb N k dead → Below w0.heap.size w0 w → f_law09_WalDies.l0 (m + 1) step (some ⟨r.D, 0, none⟩) (some ⟨Lb, 0, none⟩) 4 dead A L.length c (L.length : Int) (i : Int) w K Kr := by
  intro m
  induction m with
  | zero =>
    intro i dead w hi h hb
    unfold f_law09_WalDies.l0
    exact sel_f (by simp; omega) (hK dead w h hb)
  | succ m ih =>
    intro i dead w hi h hb
    have hlt : i < L.length := by omega
    obtain ⟨a, Ai, ci, rfl, hc, hrb, hle, hz, hlen⟩ := (hr.keeps hb) i hlt
    unfold f_law09_WalDies.l0
    refine sel_t (by simpa using hlt) (optB_some rfl (req_intro (by simp; omega) ?_))
    rw [Int.toNat_natCast, Nat.mul_one]
    refine ldS_intro hc ?_
    rw [show IntKind.i64.wrap ((i : Int) + 1) = ((i + 1 : Nat) : Int) by rw [w64_in (by omega)]; omega]
    by_cases h100 : 100 < L[i].length
    · refine sel_t (by simp; omega) (req_intro (by simp; omega) ?_)
      rw [slA_0, show 100 - 0 = (L[i].take 100).length by rw [List.length_take]; omega]
      exact dies_j1 h hN hst (hrb.take 100) (by rw [List.length_take]; omega) fun dead' w' h' b' _ => ih (i + 1) dead' w' (by omega) h' (hb.trans (b'.mono hB))
    · exact sel_f (by simp; omega) (dies_j1 h hN hst hrb hlen fun dead' w' h' b' _ => ih (i + 1) dead' w' (by omega) h' (hb.trans (b'.mono hB)))
theorem WalDies_walk {A : Option Addr} {c : Nat} {L : List (List UInt8)} {step kind : Int} (hr : RPr w A L) (hL : L.length ≤ 17592186044416) :
    Calls Tryd.prog 4 #[.slice A L.length c, .int .i64 step, .int .i64 kind] w fun e w' => e = .returned (.bool true) ∧ Below w.heap.size w w' := by
  apply f_law09_WalDies.ok
  unfold f_law09_WalDies.wp
  refine (alive_ok w).mono ?_
  rintro _ w1 ⟨rfl, g1⟩
  refine ⟨_, rfl, sel_f rfl ((made_ok (count := 6) (by decide) (by decide)).mono ?_)⟩
  rintro _ w2 ⟨r, ρ, d, rfl, S, np, hst, hsz, g2⟩
  have g2' : Below w.heap.size w w2 := g1.trans (g2.mono g1.size)
  refine ⟨_, _, rfl, sel_f rfl (sel_f rfl ?_)⟩
  by_cases h1 : kind < 1
  · exact sel_t (by simpa using h1) ⟨rfl, g2'⟩
  refine sel_f (by simpa using h1) ?_
  by_cases h2 : 3 < kind
  · exact sel_t (by simpa using h2) ⟨rfl, g2'⟩
  refine sel_f (by simpa using h2) ?_
  by_cases h3 : step < 1
  · exact sel_t (by simpa using h3) ⟨rfl, g2'⟩
  refine sel_f (by simpa using h3) ?_
  by_cases h4 : 1000 < step
  · exact sel_t (by simpa using h4) ⟨rfl, g2'⟩
  refine sel_f (by simpa using h4) ((Steps_ok S.dm).mono ?_)
  rintro _ w2 ⟨rfl, rfl⟩
  rw [hst]
  refine ⟨_, rfl, al_new fun w3 b e3 s3 q3 g3 => ?_⟩
  rw [w64_in (x := 4 + step) (by omega)] at q3
  have S3 := S.below g3
  have row : RowE eF 2 w3 (some ⟨b, 0, none⟩) [((4 + step, kind) : Ft)] := fun i hi => by
    have : i = 0 := by simpa using hi
    subst this
    refine ⟨_, rfl, fun j hj => ?_⟩
    rw [Nat.zero_mul, Go.Dn.add_zero, HB.cell q3]
    match j, hj with
    | 0, _ => rfl
    | 1, _ => rfl
  refine (Plan_ok S3.dm row (n := 1) rfl (fun h => by cases h) (show 1 * 16 ≤ 140737488355328 by decide) S3.lo).mono ?_
  rintro _ w4 ⟨rfl, P, pc, h4', k4, n4⟩
  have hFD : ∀ {kk}, FD { r with P := P, pc := pc } kk → kk < w3.heap.size → FD r kk := fun {kk} hk hlt => by
    rcases hk with e | e | e | e
    · exact .inl e
    · exact .inr (.inl e)
    · exact .inr (.inr (.inl e))
    · have := n4 kk e; omega
  have L4 : LM w4 w1.heap.size { r with P := P, pc := pc } ρ (mkL 6) := by
    have kF : Keeps (FD r) w3 w4 := k4.mono fun _ _ e => .inl e
    have h0 := S3.lm.disk S3.dm kF
    obtain ⟨ms, m1, m2⟩ := h0.rc
    refine ⟨h0.hb, h0.lo, h0.st, ms, m1, ?_⟩
    obtain ⟨ms3, m31, m32⟩ := S3.lm.rc
    have e0 : ms = [] := List.length_eq_zero_iff.1 m2.1
    subst e0
    exact RsM.nil
  have C4 : Cr { d with plan := [((4 + step, kind) : Ft)] } (mkL 6) [] false := by
    have := S3.cr
    exact ⟨⟨this.bd.s, this.bd.p⟩, this.sz, this.lg, this.st, this.rc, this.ok, this.r1, this.rm, this.fit, this.sec, this.sf, this.dd, this.od⟩
  have g4 : Below w.heap.size w w4 := (g2'.trans (g3.mono g2'.size)).trans (k4.below (by have := g2'.size; have := g3.size; omega) fun kk hk e => by have := (S3.dm.lt _ (.inl e)).2; have := g1.size; omega)
  have D4 : DieI w4 w1.heap.size { r with P := P, pc := pc } ρ.L (4 + step) kind false := ⟨ρ, _, _, [], rfl, ⟨h4', L4, C4⟩, rfl, fun _ => ⟨rfl, 4, np.1, rfl, hst, by omega, by omega, by show (4 : Int) < _; omega, by omega⟩⟩
  refine ⟨rfl, L.length + 1, dies_l0 (w0 := w) (r := { r with P := P, pc := pc }) (N := 4 + step) (k := kind) rfl ⟨by omega, by omega⟩ hr hL g1.size (fun dead w5 h5 g5 _ => ?_) L.length 0 false w4 rfl D4 g4⟩
  cases dead with
  | false => exact sel_t rfl ⟨rfl, g5⟩
  | true =>
    obtain ⟨ρ5, d5, l5, xs5, eL, S5, hd5, _⟩ := h5.ex
    refine sel_f rfl ((Steps_ok S5.dm).mono ?_)
    rintro _ w5 ⟨rfl, rfl⟩
    rw [← eL]
    refine ⟨_, rfl, (Reset_ok S5.dm S5.lm S5.cr.lg S5.lo).mono ?_⟩
    have er : resetL d5 l5 = (d5, l5, 91) := by unfold resetL; rw [if_pos hd5]
    rw [er]
    rintro _ w6 ⟨rfl, h6, _, k6⟩
    refine ⟨_, rfl, sel_t rfl ((Steps_ok h6).mono ?_)⟩
    rintro _ w6 ⟨rfl, rfl⟩
    refine ⟨_, rfl, by simp, g5.trans (k6.below g5.size fun kk hk hN => by have := (S5.wn kk hN).2; have := g1.size; omega)⟩
end
end Go.Proofs.YtpokaafedpnbdaaDoor.Rd

/-! A slice among the arguments, opened: its elements by a code of one's own. Conditions: none. -/
namespace Go.Dn
open Go.RowKit
set_option linter.unusedVariables false
theorem list_of {α : Type} {P : Nat → α → Prop} : ∀ {n : Nat}, (∀ i, i < n → ∃ x, P i x) → ∃ l : List α, l.length = n ∧ ∀ i (h : i < l.length), P i l[i]
  | 0, _ => ⟨[], rfl, fun i h => absurd h (Nat.not_lt_zero _)⟩
  | n + 1, key => by
    obtain ⟨l, hl, h⟩ := list_of (n := n) fun i hi => key i (by omega)
    obtain ⟨x, hx⟩ := key n (by omega)
    refine ⟨l ++ [x], by simp [hl], fun i hi => ?_⟩
    by_cases hn : i < l.length
    · rw [List.getElem_append_left hn]; exact h i hn
    · have : i = n := by rw [List.length_append] at hi; simp at hi; omega
      subst this
      rw [List.getElem_append_right (by omega)]
      simp only [hl, Nat.sub_self, List.getElem_cons_zero]
      exact hx
section
variable {H : Type} {enc : TypeId × Value → H} {P : Program} {w : World} {base : Nat} {spare : Nat → Bool} {held : Bool} {fuel : Nat} {t : TypeId}
theorem one_of' {n : Nat} {t : TypeId} {cs : List Value} {j : Nat} {x : DataW H × List MemPlace} (hj : j < cs.length) (h : DataW.trod enc P w base spare held n t ((cs.drop j).take 1) = some x) : DataW.trod enc P w base spare held n t [cs[j]] = some x := by
  rw [List.drop_eq_getElem_cons hj, List.take_succ_cons, List.take_zero] at h
  exact h
theorem wt_in {e : TypeId} {d : DataW H} {v : Nat} : ∀ {l : List (DataW H)}, d ∈ l → v ∈ d.weights P e → v ∈ DataW.weightsAll P e l
  | [], h, _ => by cases h
  | y :: l, h, hv => by
    unfold DataW.weightsAll
    rcases List.mem_cons.1 h with rfl | h
    · exact List.mem_append_left _ hv
    · exact List.mem_append_right _ (wt_in h hv)
theorem open_gen {α : Type} {enc' : α → List Value} {k by_ : Nat} (E : Enc enc' k) {r : TypeId} (ht : P.underlying t = some (.slice r)) (hc : P.cellsOf r = k) (hby : P.bytesOf r = by_) {Q : α → DataW H → Prop}
    (hq : ∀ n cs y, cs.length = k → DataW.trod enc P w base spare held n r cs = some y → ∃ x : α, cs = enc' x ∧ Q x y.1) {A : Option Addr} {len cap : Nat} {x : DataW H × List MemPlace} (h : DataW.trod enc P w base spare held fuel t [.slice A len cap] = some x) :
    ∃ l : List α, l.length = len ∧ RowE enc' k w A l ∧ (A = none → cap = 0 ∧ l.length = 0) ∧ (l ≠ [] → ∀ a, A = some a → a.block < w.heap.size) ∧ l.length ≤ cap ∧
      ((x.1 = .nil ∧ l = []) ∨ ∃ el rs, x.1 = .slice el rs ∧ el.length = l.length ∧ ∀ i (hi : i < l.length), ∃ d, el[i]? = some d ∧ Q l[i] d) ∧ ((∀ v ∈ x.1.weights P t, v ≤ reachBytes) → l.length * by_ ≤ 140737488351232) := by
  rcases DataW.trod_slice ht h with ⟨h0, hx⟩ | ⟨a, len', cap', elems, rest, n, _, h1, hx, hbs, hl, hm, hlen, hel, hsp, hns⟩
  · injection h0 with h0; injection h0 with h0 h1 h2; subst h0; subst h1; subst h2
    exact ⟨[], rfl, RowE.nil _ _ _ _, fun _ => ⟨rfl, rfl⟩, by simp, by simp, .inl ⟨by rw [hx], rfl⟩, by simp⟩
  · injection h1 with h1; injection h1 with h0 h1 h2; subst h0; subst h1; subst h2
    have key : ∀ i, i < len → ∃ z : α, (∀ j, j < k → w.cell? ((a.add (i * k)).add j) = (enc' z)[j]?) ∧ ∃ d, (elems.map (·.1))[i]? = some d ∧ Q z d := by
      intro i hi
      have h2 := hel i hi
      rw [List.getElem?_eq_getElem (by omega), Option.bind_eq_some_iff] at h2
      obtain ⟨cs, hcs, hy⟩ := h2
      obtain ⟨_, hl3, hcell⟩ := World.cells?_some hcs
      rw [hc] at hcell hl3
      obtain ⟨z, e, q⟩ := hq _ _ _ hl3 hy
      refine ⟨z, fun j hj => ?_, _, ?_, q⟩
      · have := hcell j hj
        rw [← e]
        exact this
      · rw [List.getElem?_map, List.getElem?_eq_getElem (by omega)]; rfl
    obtain ⟨l, el, hP⟩ := list_of key
    refine ⟨l, el, fun i hi => ⟨a, rfl, (hP i hi).1⟩, (fun e => by cases e), fun hne a' ha => ?_, by omega, .inr ⟨elems.map (·.1), rest.map (·.1), by rw [hx], by simp [hlen, el], fun i hi => (hP i hi).2⟩, fun hw => ?_⟩
    · injection ha with ha; subst ha
      have h0 : 0 < l.length := List.length_pos_iff.2 hne
      have h1 := (hP 0 h0).1 0 E.pos
      obtain ⟨u, h2⟩ : ∃ u, (enc' (l[0]'h0))[0]? = some u := ⟨_, List.getElem?_eq_getElem (by rw [E.len]; exact E.pos)⟩
      have := World.block_lt_of_cell? w _ (h1.trans h2)
      rw [add_block, add_block] at this; exact this
    · rw [hx] at hw
      have := hw ((elems.map (·.1)).length * by_ + (rest.map (·.1)).length * by_) (by
        simp only [DataW.weights, ht, hby]
        rw [← Nat.add_mul]; exact List.mem_cons_self)
      unfold reachBytes at this
      simp only [List.length_map] at this
      rw [el, ← hlen]
      omega
/-- rows of numbers of one kind -/
theorem open_num {κ : IntKind} {by_ : Nat} {r : TypeId} (ht : P.underlying t = some (.slice r)) (hr : P.underlying r = some (.int κ)) (hc : P.cellsOf r = 1) (hby : P.bytesOf r = by_) {A : Option Addr} {len cap : Nat} {x : DataW H × List MemPlace} (h : DataW.trod enc P w base spare held fuel t [.slice A len cap] = some x) :
    ∃ l : List Int, l.length = len ∧ RowE (fun z => [.int κ z]) 1 w A l ∧ (A = none → cap = 0 ∧ l.length = 0) ∧ (l ≠ [] → ∀ a, A = some a → a.block < w.heap.size) ∧ l.length ≤ cap ∧ ((∀ v ∈ x.1.weights P t, v ≤ reachBytes) → l.length * by_ ≤ 140737488351232) := by
  obtain ⟨l, h1, h2, h3, h4, h5, _, h7⟩ := open_gen (enc' := fun z : Int => [.int κ z]) (k := 1) ⟨fun _ => rfl, fun x u hu => by simp only [List.mem_singleton] at hu; subst hu; rfl, by decide⟩ ht hc hby (Q := fun _ _ => True) (fun n cs y hl hy => by
    obtain ⟨u, rfl⟩ : ∃ u, cs = [u] := by match cs, hl with | [u], _ => exact ⟨_, rfl⟩
    obtain ⟨z, e, _⟩ := DataW.trod_int hr hy
    injection e with e
    exact ⟨z, by rw [show u = _ from e], trivial⟩) h
  exact ⟨l, h1, h2, h3, h4, h5, h7⟩
end
end Go.Dn

/-! A row of rows of bytes among the arguments, opened. Conditions: none. -/
namespace Go.Proofs.YtpokaafedpnbdaaDoor.Rd
open Go.Dn Go.RowKit Go.Shelf Go.ChangeShapes Go.WideShapes Go.ChangeAt
set_option linter.unusedVariables false
set_option linter.unusedSimpArgs false
set_option maxRecDepth 100000
section
variable {H : Type} {enc : TypeId × Value → H} {w : World} {base : Nat} {held : Bool} {fuel : Nat}
theorem open_u8 {A : Option Addr} {len cap : Nat} {x : DataW H × List MemPlace} (h : DataW.trod enc Tryd.prog w base (fun _ => true) held fuel 29 [.slice A len cap] = some x) :
    ∃ l : List UInt8, l.length = len ∧ Go.Dn.RB w A l ∧ (A = none → cap = 0) ∧ l.length ≤ cap ∧ ((∀ v ∈ x.1.weights Tryd.prog 29, v ≤ reachBytes) → l.length * 1 ≤ 140737488351232) := by
  obtain ⟨l0, h1, _, _, _, _, h6⟩ := open_num (κ := .u8) (by_ := 1) (r := 5) (by kernel_rfl) (by kernel_rfl) (by kernel_rfl) (by kernel_rfl) h
  have hI : ∃ zs, IsRow .u8 w A len cap zs := by
    rcases open_ints (P := Tryd.prog) (t := 29) (e := 5) (by kernel_rfl) (by kernel_rfl) (by kernel_rfl) h with ⟨hcs, _⟩ | ⟨x, l, c, zs, hcs, _, hl, hm, hz, _, hcell, hwz⟩
    · simp [Value.cells] at hcs
      obtain ⟨rfl, rfl, rfl⟩ := hcs
      exact ⟨[], .inl ⟨rfl, rfl, rfl, rfl⟩⟩
    · simp [Value.cells] at hcs
      obtain ⟨rfl, rfl, rfl⟩ := hcs
      exact ⟨zs, .inr ⟨_, rfl, hl, hm, by simpa using hz, hcell, hwz⟩⟩
  obtain ⟨zs, hI⟩ := hI
  obtain ⟨l, r1, r2, r3, r4⟩ := rb_of_row hI
  exact ⟨l, r2.symm, r1, r3, r4, fun hw => by have := h6 hw; omega⟩
/-- a slice as it lies -/
def slE (x : Option Addr × Nat × Nat) : List Value := [.slice x.1 x.2.1 x.2.2]
theorem SlE : Enc slE 1 := ⟨fun _ => rfl, fun x u hu => by simp only [slE, List.mem_singleton] at hu; subst hu; rfl, by decide⟩
def OkB (w : World) (x : Option Addr × Nat × Nat) (l : List UInt8) : Prop := l.length = x.2.1 ∧ Go.Dn.RB w x.1 l ∧ (x.1 = none → x.2.2 = 0) ∧ l.length ≤ x.2.2 ∧ l.length ≤ 140737488355000
theorem open_bss {A : Option Addr} {len cap : Nat} {x : DataW H × List MemPlace} (h : DataW.trod enc Tryd.prog w base (fun _ => true) held fuel 49 [.slice A len cap] = some x) (hcap : ∀ v ∈ x.1.weights Tryd.prog 49, v ≤ reachBytes) :
    ∃ L : List (List UInt8), L.length = len ∧ RPr w A L ∧ L.length ≤ 17592186044416 := by
  have hT : Tryd.prog.underlying 49 = some (.slice 29) := by kernel_rfl
  obtain ⟨l, h1, h2, h3, h4, h5, h6, h7⟩ := open_gen (enc' := slE) (k := 1) (by_ := 24) (r := 29) SlE hT (by kernel_rfl) (by kernel_rfl)
    (Q := fun o d => (∀ v ∈ d.weights Tryd.prog 29, v ≤ reachBytes) → ∃ u, OkB w o u) (fun n cs y hl hy => by
    obtain ⟨q, rfl⟩ : ∃ q, cs = [q] := by match cs, hl with | [q], _ => exact ⟨_, rfl⟩
    obtain ⟨A2, len2, cap2, e2⟩ : ∃ A l c, q = .slice A l c := by
      rcases DataW.trod_slice (P := Tryd.prog) (t := 29) (e := 5) (by kernel_rfl) hy with ⟨q, _⟩ | ⟨a', l', c', _, _, _, _, q, _⟩
      · injection q with q; exact ⟨_, _, _, q⟩
      · injection q with q; exact ⟨_, _, _, q⟩
    subst e2
    obtain ⟨u, p1, p2, p3, p4, p5⟩ := open_u8 hy
    exact ⟨(A2, len2, cap2), rfl, fun hw => ⟨u, p1, p2, p3, p4, by have := p5 hw; omega⟩⟩) h
  have key : ∀ i, i < len → ∃ u : List UInt8, ∃ a Ai ci, A = some a ∧ w.cell? (a.add i) = some (.slice Ai u.length ci) ∧ Go.Dn.RB w Ai u ∧ u.length ≤ ci ∧ (Ai = none → ci = 0) ∧ u.length ≤ 140737488355000 := by
    intro i hi
    rw [← h1] at hi
    obtain ⟨a, ha, hc⟩ := h2 i hi
    have hc := hc 0 (by decide)
    rw [Nat.mul_one, Go.Dn.add_zero] at hc
    rcases h6 with ⟨_, h6⟩ | ⟨el, rs, hx, hel, h6⟩
    · subst h6; cases hi
    · obtain ⟨d, hd, hq⟩ := h6 i hi
      obtain ⟨u, u1, u2, u3, u4, u5⟩ := hq fun v hv => hcap v (by
        rw [hx]
        simp only [DataW.weights, hT]
        exact List.mem_cons_of_mem _ (List.mem_append_left _ (wt_in (List.mem_of_getElem? hd) hv)))
      exact ⟨u, a, l[i].1, l[i].2.2, ha, by rw [hc, u1]; rfl, u2, u4, u3, u5⟩
  obtain ⟨L, e, hP⟩ := list_of key
  exact ⟨L, e, fun i hi => hP i hi, by have := h7 hcap; omega⟩
end
theorem WalDies_row {w : World} {A0 : Option Addr} {c0 : Nat} {L : List (List UInt8)} {step kind : Int} (h0 : RPr w A0 L) (s0 : L.length ≤ 17592186044416) (_ : (Lit.int .i64 step).wf = true) (_ : (Lit.int .i64 kind).wf = true) :
    Calls Tryd.prog 4 #[.slice A0 L.length c0, .int .i64 step, .int .i64 kind] w fun e w' => e = .returned (.bool true) ∧ Below w.heap.size w w' := WalDies_walk h0 (by omega)
end Go.Proofs.YtpokaafedpnbdaaDoor.Rd
