/- The statement WalDies, walked · A slice among the arguments, opened: its elements by a code of one's own · A row of rows of bytes among the arguments, opened · Contracts of the document's sums of layer 2: Seal, Open · The document's Parse and Alike; a sector with bytes from outside · The statement WalNoise, walked -/
import Derived.Test.YtpokaafedpnbdaaDoorWxE
import Derived.Test.YtpokaafedpnbdaaDoorRdL4
import Derived.Test.YtpokaafedpnbdaaDoorRecR
import Derived.ChangeArms
import Derived.DataReads
import Derived.SizedLaws
import Derived.WalkKit
import Derived.ProofKit
import Derived.OpenShut
import Derived.Test.YtpokaafedpnbdaaDoorWxA
import Derived.Test.YtpokaafedpnbdaaDoorRdL5
/-! The statement WalDies, walked. Conditions: rows of bytes below 2^46. -/
namespace Go.Proofs.YtpokaafedpnbdaaDoor.Rd
open Go.Dn Go.RowKit Go.Shelf
set_option linter.unusedVariables false
set_option linter.unusedSimpArgs false
set_option maxRecDepth 100000
/-! ### a disk with one fate -/
structure PL (d : Dk) (N k : Int) (s : Nat) : Prop where
  off : d.off = false
  pl : d.plan = [(N, k)]
  st : d.steps = s
  k1 : 1 ≤ k
  k3 : k ≤ 3
  sN : (s : Int) < N
  N0 : N ≤ 100000
theorem stepD_steps {d : Dk} {act : Dk → Dk} (ha : ∀ d, (act d).steps = d.steps) : (stepD d act).steps = wrap64 (d.steps + 1) := by
  unfold stepD
  simp only
  split
  · rfl
  split
  · rfl
  split
  · exact ha _
  · exact ha _
section
variable {d : Dk} {l : Lg} {xs : List (Int × List UInt8)} {N k : Int} {s : Nat}
theorem PL.step (h : PL d N k s) {act : Dk → Dk} (ha : ∀ d, (act d).off = d.off ∧ (act d).plan = d.plan ∧ (act d).steps = d.steps) :
    (stepC d = 0 → PL (stepD d act) N k (s + 1)) ∧ (stepC d ≠ 0 → (stepD d act).steps = N) := by
  have := h.sN
  have := h.N0
  have k1 := h.k1
  have k3 := h.k3
  have es : wrap64 (d.steps + 1) = ((s + 1 : Nat) : Int) := by rw [h.st, wrap64_in (by omega)]; omega
  have ef : fateOf (wrap64 (d.steps + 1)) d.plan = if N = ((s + 1 : Nat) : Int) then k else 0 := by
    rw [es, h.pl]
    show (if okF ((s + 1 : Nat) : Int) (N, k) then k else 0) = _
    by_cases e : N = ((s + 1 : Nat) : Int)
    · rw [if_pos (show okF ((s + 1 : Nat) : Int) (N, k) from ⟨e, k1, k3⟩), if_pos e]
    · rw [if_neg (fun q : okF ((s + 1 : Nat) : Int) (N, k) => e q.1), if_neg e]
  refine ⟨fun h0 => ?_, fun h0 => ?_⟩
  · rw [stepC_0 h0]
    obtain ⟨a1, a2, a3⟩ := ha { d with steps := wrap64 (d.steps + 1) }
    have hne : N ≠ ((s + 1 : Nat) : Int) := fun e => by
      rw [if_pos e] at ef
      unfold stepC at h0
      simp only [ef] at h0
      split at h0
      · cases h0
      split at h0
      · cases h0
      split at h0
      · cases h0
      · omega
    exact ⟨a1.trans h.off, a2.trans h.pl, a3.trans es, k1, k3, by omega, h.N0⟩
  · have e : N = ((s + 1 : Nat) : Int) := by
      apply Classical.byContradiction
      intro hn
      rw [if_neg hn] at ef
      exact h0 (by unfold stepC; simp only [ef]; rfl)
    rw [stepD_steps fun d => (ha d).2.2, es, e]
theorem PL.wr (h : PL d N k s) {i : Nat} {b : List UInt8} (hb : b.length = 512) (hi : i < d.safe.length) : (wcL d (i : Int) b = 0 → PL (wrL d (i : Int) b) N k (s + 1)) ∧ (wcL d (i : Int) b ≠ 0 → (wrL d (i : Int) b).steps = N) := by
  have hw : ¬ wrBad d (i : Int) (toI b) := by
    unfold wrBad
    rw [toI_len, hb]
    omega
  unfold wcL wrC wrL wrD
  rw [if_neg (by rw [h.off]; decide), if_neg hw, if_neg (by rw [h.off]; decide), if_neg hw]
  exact h.step fun d => ⟨rfl, rfl, rfl⟩
theorem PL.sy (h : PL d N k s) : (syC d = 0 → PL (syD d) N k (s + 1)) ∧ (syC d ≠ 0 → (syD d).steps = N) := by
  unfold syC syD
  rw [if_neg (by rw [h.off]; decide), if_neg (by rw [h.off]; decide)]
  exact h.step fun d => ⟨rfl, rfl, rfl⟩
theorem PL.flushGo (hfit : l.stream.length ≤ l.count * 498) : ∀ (j i : Nat) (d : Dk) (s : Nat), PL d N k s → l.first + l.count ≤ d.safe.length → ((flushGo l j i d).2 = 0 → ∃ s', PL (flushGo l j i d).1 N k s') ∧ ((flushGo l j i d).2 ≠ 0 → (flushGo l j i d).1.steps = N)
  | 0, i, d, s, h, hz => ⟨fun _ => ⟨s, h⟩, fun q => absurd rfl q⟩
  | j + 1, i, d, s, h, hz => by
    unfold Rd.flushGo
    split
    · rename_i hi
      obtain ⟨q1, q2⟩ := h.wr (i := l.first + i) (b := buildL l.run (secU l.stream i)) (buildL_len _ (secU_le _ _)) (by
        have : i < l.count := by
          apply Classical.byContradiction; intro hn
          have : l.count * 498 ≤ i * 498 := Nat.mul_le_mul_right _ (by omega)
          omega
        omega)
      split
      · rename_i hc
        exact ⟨fun q => absurd q hc, fun _ => q2 hc⟩
      · rename_i hc
        exact PL.flushGo hfit j (i + 1) _ _ (q1 (by simpa using hc)) (by rw [wr_size]; exact hz)
    · exact ⟨fun _ => ⟨s, h⟩, fun q => absurd rfl q⟩
theorem PL.flush (h : PL d N k s) (hl : l.dead = false) (hfit : l.stream.length ≤ l.count * 498) (hz : l.first + l.count ≤ d.safe.length) :
    ((flushL d l).2.2 = 0 → ∃ s', PL (flushL d l).1 N k s') ∧ ((flushL d l).2.2 ≠ 0 → (flushL d l).1.steps = N) := by
  unfold flushL
  rw [if_neg (by rw [hl]; decide)]
  split
  · exact ⟨fun _ => ⟨s, h⟩, fun q => absurd rfl q⟩
  obtain ⟨q1, q2⟩ := PL.flushGo (l := l) hfit 17 (l.safe / 498) d s h hz
  split
  · rename_i hc
    exact ⟨fun q => absurd q hc, fun _ => q2 hc⟩
  · rename_i hc
    obtain ⟨s', p'⟩ := q1 (by simpa using hc)
    obtain ⟨q3, q4⟩ := p'.sy
    split
    · rename_i hc2
      exact ⟨fun q => absurd q hc2, fun _ => q4 hc2⟩
    · rename_i hc2
      exact ⟨fun _ => ⟨_, q3 (by simpa using hc2)⟩, fun q => absurd rfl q⟩
end
theorem flushL_safe {d : Dk} {l : Lg} (h1 : l.dead = false) (h2 : l.safe = l.stream.length) : flushL d l = (d, l, 0) := by
  unfold flushL; rw [if_neg (by rw [h1]; decide), if_pos h2]
/-! ### rows of rows of bytes -/
def RPr (w : World) (A : Option Addr) (L : List (List UInt8)) : Prop :=
  ∀ i (h : i < L.length), ∃ a Ai ci, A = some a ∧ w.cell? (a.add i) = some (.slice Ai L[i].length ci) ∧ Go.Dn.RB w Ai L[i] ∧ L[i].length ≤ ci ∧ (Ai = none → ci = 0) ∧ L[i].length ≤ 140737488355000
theorem RPr.keeps {w w' : World} {A : Option Addr} {L : List (List UInt8)} (h : RPr w A L) (hb : Below w.heap.size w w') : RPr w' A L := fun i hi => by
  obtain ⟨a, Ai, ci, h1, h2, h3, h4, h5, h6⟩ := h i hi
  exact ⟨a, Ai, ci, h1, (hb.cell (World.block_lt_of_cell? _ _ h2)).trans h2, h3.below hb (Nat.le_refl _), h4, h5, h6⟩
section
variable {w w0 w' : World} {B : Nat} {r : RD} {d : Dk} {ρ : RL} {l : Lg} {xs : List (Int × List UInt8)} {N k : Int}
/-- what holds between two rounds -/
structure DieI (w : World) (B : Nat) (r : RD) (L : Nat) (N k : Int) (dead : Bool) : Prop where
  ex : ∃ ρ d l xs, ρ.L = L ∧ WS w B r ρ d l xs false ∧ l.dead = dead ∧ (dead = false → l.safe = l.stream.length ∧ ∃ s, PL d N k s)
theorem dies_j1 {A : Option Addr} {c : Nat} {u : List UInt8} {L : Nat} {step : Int} {dead : Bool} (h : DieI w B r L N k dead) (hN : N = 4 + step) (hst : 1 ≤ step ∧ step ≤ 1000) (hr : Go.Dn.RB w A u) (hu : u.length ≤ 140737488355000)
    {Kn Kr : Bool → World → Prop} (hK : ∀ dead' w', DieI w' B r L N k dead' → Below B w w' → Kn dead' w') :
    f_law09_WalDies.j1 step (some ⟨r.D, 0, none⟩) (some ⟨L, 0, none⟩) 4 dead A u.length c w Kn Kr := by
  obtain ⟨ρ, d, l, xs, eL, S, hd, hnd⟩ := h.ex
  subst eL
  have eN : IntKind.i64.wrap (4 + step) = N := by rw [w64_in (by omega)]; omega
  unfold f_law09_WalDies.j1
  rw [eN]
  refine (Steps_ok S.dm).mono ?_
  rintro _ _ ⟨rfl, rfl⟩
  refine ⟨_, rfl, (Copy_ok hr (by omega)).mono ?_⟩
  rintro _ w1 ⟨A1, c1, rfl, o1, g1⟩
  have S1 := S.below g1
  refine ⟨_, _, _, rfl, (S1.append (kind := 1) (u := u) o1.reads rfl o1.nil0 (fun a ha hN => ?_) hu).mono ?_⟩
  · have := (o1.block a ha).1; have := (S.lm.lt _ hN).1; omega
  rintro _ w2 ⟨ρ2, rfl, eL2, S2, n2, k2⟩
  have b1 : Below B _ w1 := g1.mono S.lo
  have b2 : Below B _ w2 := b1.trans (S1.bel k2)
  refine ⟨_, _, rfl, ?_⟩
  rw [← eL2]
  have fl := S2.cr.flush
  refine S2.flush.mono ?_
  rintro _ w3 ⟨rfl, S3, k3⟩
  have b3 : Below B _ w3 := b2.trans (S2.bel k3)
  refine ⟨_, rfl, ?_⟩
  have hl2 : (appendL l 1 u).1.dead = l.dead ∧ (l.dead = true → (appendL l 1 u).2.2 = 91) := by
    unfold appendL
    by_cases hdd : l.dead = true
    · rw [if_pos hdd]; exact ⟨rfl, fun _ => rfl⟩
    · rw [if_neg hdd]
      refine ⟨?_, fun q => absurd q hdd⟩
      split; · rfl
      split; · rfl
      split; · rfl
      split; · rfl
      rfl
  obtain ⟨hl2, hl91⟩ := hl2
  cases hdd : dead with
  | true =>
    have hld : l.dead = true := hd.trans hdd
    have h91 := hl91 hld
    have hf : flushL d (appendL l 1 u).1 = (d, (appendL l 1 u).1, 91) := by unfold flushL; rw [if_pos (hl2.trans hld)]
    rw [h91, hf]
    rw [hf] at S3
    refine sel_t rfl (sel_f rfl (sel_f rfl ((Steps_ok S3.dm).mono ?_)))
    rintro _ w3 ⟨rfl, rfl⟩
    refine ⟨_, rfl, sel_f (by simp) (sel_f rfl (sel_t rfl ((Steps_ok S3.dm).mono ?_)))⟩
    rintro _ w3 ⟨rfl, rfl⟩
    exact ⟨_, rfl, hK true _ ⟨_, _, _, _, eL2, S3, hl2.trans hld, fun q => by cases q⟩ b3⟩
  | false =>
    have hld : l.dead = false := hd.trans hdd
    obtain ⟨hsafe, s, P⟩ := hnd hdd
    obtain ⟨p1, p2⟩ := P.flush (l := (appendL l 1 u).1) (hl2.trans hld) S2.cr.fit S2.cr.sz
    have hsN := P.sN
    obtain ⟨_, t1, t2, t3, t4, t5, t6, t7, t8, t9⟩ := fl
    have hst4 := P.st
    refine sel_f rfl (sel_t rfl (sel_t (by rw [hst4]; simpa using hsN) ((Steps_ok S3.dm).mono ?_)))
    rintro _ w3 ⟨rfl, rfl⟩
    refine ⟨_, rfl, ?_⟩
    by_cases hc : (flushL d (appendL l 1 u).1).2.2 = 0
    · obtain ⟨s', P'⟩ := p1 hc
      have hs' := P'.sN
      obtain ⟨t10, t11, _⟩ := t8 hc
      have est : (flushL d (appendL l 1 u).1).1.steps < N := by rw [P'.st]; exact hs'
      refine sel_f (by rw [hc]; simp; omega) (sel_f rfl ((Steps_ok S3.dm).mono ?_))
      rintro _ w3 ⟨rfl, rfl⟩
      refine ⟨_, rfl, sel_t (by rw [hc]; rfl) (S3.flush.mono ?_)⟩
      have hf2 : flushL (flushL d (appendL l 1 u).1).1 (flushL d (appendL l 1 u).1).2.1 = ((flushL d (appendL l 1 u).1).1, (flushL d (appendL l 1 u).1).2.1, 0) := by
        exact flushL_safe t11 (by rw [t10, t1])
      rw [hf2]
      rintro _ w4 ⟨rfl, S4, k4⟩
      refine ⟨_, rfl, sel_f rfl ((Steps_ok S4.dm).mono ?_)⟩
      rintro _ w4 ⟨rfl, rfl⟩
      refine ⟨_, rfl, sel_f (by simp) ?_⟩
      have : ((flushL d (appendL l 1 u).1).2.2 != 0) = false := by rw [hc]; rfl
      rw [this]
      exact hK false _ ⟨_, _, _, _, eL2, S4, t11, fun _ => ⟨by rw [t10, t1], s', P'⟩⟩ (b3.trans (S3.bel k4))
    · have hcs := p2 hc
      obtain ⟨t10, _⟩ := t9 hc
      have hne : ((flushL d (appendL l 1 u).1).2.2 != 0) = true := by simpa using hc
      refine sel_f (by rw [hne, hcs]; simp) (sel_f rfl ((Steps_ok S3.dm).mono ?_))
      rintro _ w3 ⟨rfl, rfl⟩
      refine ⟨_, rfl, sel_f (by rw [hne]; rfl) ?_⟩
      rw [hne]
      exact hK true _ ⟨_, _, _, _, eL2, S3, t10, fun q => by cases q⟩ b3
theorem dies_l0 {A : Option Addr} {c : Nat} {L : List (List UInt8)} {Lb : Nat} {step : Int} (hN : N = 4 + step) (hst : 1 ≤ step ∧ step ≤ 1000) (hr : RPr w0 A L) (hL : L.length ≤ 17592186044416) (hB : w0.heap.size ≤ B) {K Kr : Bool → World → Prop}
    (hK : ∀ dead w', DieI w' B r Lb N k dead → Below w0.heap.size w0 w' → K dead w') :
    ∀ (m i : Nat) (dead : Bool) (w : World), m + i = L.length → DieI w B r Lb N k dead → Below w0.heap.size w0 w → f_law09_WalDies.l0 (m + 1) step (some ⟨r.D, 0, none⟩) (some ⟨Lb, 0, none⟩) 4 dead A L.length c (L.length : Int) (i : Int) w K Kr := by
  intro m
  induction m with
  | zero =>
    intro i dead w hi h hb
    unfold f_law09_WalDies.l0
    exact sel_f (by simp; omega) (hK dead w h hb)
  | succ m ih =>
    intro i dead w hi h hb
    have hlt : i < L.length := by omega
    obtain ⟨a, Ai, ci, rfl, hc, hrb, hle, hz, hlen⟩ := (hr.keeps hb) i hlt
    unfold f_law09_WalDies.l0
    refine sel_t (by simpa using hlt) (optB_some rfl (req_intro (by simp; omega) ?_))
    rw [Int.toNat_natCast, Nat.mul_one]
    refine ldS_intro hc ?_
    rw [show IntKind.i64.wrap ((i : Int) + 1) = ((i + 1 : Nat) : Int) by rw [w64_in (by omega)]; omega]
    by_cases h100 : 100 < L[i].length
    · refine sel_t (by simp; omega) (req_intro (by simp; omega) ?_)
      rw [slA_0, show 100 - 0 = (L[i].take 100).length by rw [List.length_take]; omega]
      exact dies_j1 h hN hst (hrb.take 100) (by rw [List.length_take]; omega) fun dead' w' h' b' _ => ih (i + 1) dead' w' (by omega) h' (hb.trans (b'.mono hB))
    · exact sel_f (by simp; omega) (dies_j1 h hN hst hrb hlen fun dead' w' h' b' _ => ih (i + 1) dead' w' (by omega) h' (hb.trans (b'.mono hB)))
theorem WalDies_walk {A : Option Addr} {c : Nat} {L : List (List UInt8)} {step kind : Int} (hr : RPr w A L) (hL : L.length ≤ 17592186044416) :
    Calls Tryd.prog 4 #[.slice A L.length c, .int .i64 step, .int .i64 kind] w fun e w' => e = .returned (.bool true) ∧ Below w.heap.size w w' := by
  apply f_law09_WalDies.ok
  unfold f_law09_WalDies.wp
  refine (alive_ok w).mono ?_
  rintro _ w1 ⟨rfl, g1⟩
  refine ⟨_, rfl, sel_f rfl ((made_ok (count := 6) (by decide) (by decide)).mono ?_)⟩
  rintro _ w2 ⟨r, ρ, d, rfl, S, np, hst, hsz, g2⟩
  have g2' : Below w.heap.size w w2 := g1.trans (g2.mono g1.size)
  refine ⟨_, _, rfl, sel_f rfl (sel_f rfl ?_)⟩
  by_cases h1 : kind < 1
  · exact sel_t (by simpa using h1) ⟨rfl, g2'⟩
  refine sel_f (by simpa using h1) ?_
  by_cases h2 : 3 < kind
  · exact sel_t (by simpa using h2) ⟨rfl, g2'⟩
  refine sel_f (by simpa using h2) ?_
  by_cases h3 : step < 1
  · exact sel_t (by simpa using h3) ⟨rfl, g2'⟩
  refine sel_f (by simpa using h3) ?_
  by_cases h4 : 1000 < step
  · exact sel_t (by simpa using h4) ⟨rfl, g2'⟩
  refine sel_f (by simpa using h4) ((Steps_ok S.dm).mono ?_)
  rintro _ w2 ⟨rfl, rfl⟩
  rw [hst]
  refine ⟨_, rfl, al_new fun w3 b e3 s3 q3 g3 => ?_⟩
  rw [w64_in (x := 4 + step) (by omega)] at q3
  have S3 := S.below g3
  have row : RowE eF 2 w3 (some ⟨b, 0, none⟩) [((4 + step, kind) : Ft)] := fun i hi => by
    have : i = 0 := by simpa using hi
    subst this
    refine ⟨_, rfl, fun j hj => ?_⟩
    rw [Nat.zero_mul, Go.Dn.add_zero, HB.cell q3]
    match j, hj with
    | 0, _ => rfl
    | 1, _ => rfl
  refine (Plan_ok S3.dm row (n := 1) rfl (fun h => by cases h) (show 1 * 16 ≤ 140737488355328 by decide) S3.lo).mono ?_
  rintro _ w4 ⟨rfl, P, pc, h4', k4, n4⟩
  have hFD : ∀ {kk}, FD { r with P := P, pc := pc } kk → kk < w3.heap.size → FD r kk := fun {kk} hk hlt => by
    rcases hk with e | e | e | e
    · exact .inl e
    · exact .inr (.inl e)
    · exact .inr (.inr (.inl e))
    · have := n4 kk e; omega
  have L4 : LM w4 w1.heap.size { r with P := P, pc := pc } ρ (mkL 6) := by
    have kF : Keeps (FD r) w3 w4 := k4.mono fun _ _ e => .inl e
    have h0 := S3.lm.disk S3.dm kF
    obtain ⟨ms, m1, m2⟩ := h0.rc
    refine ⟨h0.hb, h0.lo, h0.st, ms, m1, ?_⟩
    obtain ⟨ms3, m31, m32⟩ := S3.lm.rc
    have e0 : ms = [] := List.length_eq_zero_iff.1 m2.1
    subst e0
    exact RsM.nil
  have C4 : Cr { d with plan := [((4 + step, kind) : Ft)] } (mkL 6) [] false := by
    have := S3.cr
    exact ⟨⟨this.bd.s, this.bd.p⟩, this.sz, this.lg, this.st, this.rc, this.ok, this.r1, this.rm, this.fit, this.sec, this.sf, this.dd, this.od⟩
  have g4 : Below w.heap.size w w4 := (g2'.trans (g3.mono g2'.size)).trans (k4.below (by have := g2'.size; have := g3.size; omega) fun kk hk e => by have := (S3.dm.lt _ (.inl e)).2; have := g1.size; omega)
  have D4 : DieI w4 w1.heap.size { r with P := P, pc := pc } ρ.L (4 + step) kind false := ⟨ρ, _, _, [], rfl, ⟨h4', L4, C4⟩, rfl, fun _ => ⟨rfl, 4, np.1, rfl, hst, by omega, by omega, by show (4 : Int) < _; omega, by omega⟩⟩
  refine ⟨rfl, L.length + 1, dies_l0 (w0 := w) (r := { r with P := P, pc := pc }) (N := 4 + step) (k := kind) rfl ⟨by omega, by omega⟩ hr hL g1.size (fun dead w5 h5 g5 _ => ?_) L.length 0 false w4 rfl D4 g4⟩
  cases dead with
  | false => exact sel_t rfl ⟨rfl, g5⟩
  | true =>
    obtain ⟨ρ5, d5, l5, xs5, eL, S5, hd5, _⟩ := h5.ex
    refine sel_f rfl ((Steps_ok S5.dm).mono ?_)
    rintro _ w5 ⟨rfl, rfl⟩
    rw [← eL]
    refine ⟨_, rfl, (Reset_ok S5.dm S5.lm S5.cr.lg S5.lo).mono ?_⟩
    have er : resetL d5 l5 = (d5, l5, 91) := by unfold resetL; rw [if_pos hd5]
    rw [er]
    rintro _ w6 ⟨rfl, h6, _, k6⟩
    refine ⟨_, rfl, sel_t rfl ((Steps_ok h6).mono ?_)⟩
    rintro _ w6 ⟨rfl, rfl⟩
    refine ⟨_, rfl, by simp, g5.trans (k6.below g5.size fun kk hk hN => by have := (S5.wn kk hN).2; have := g1.size; omega)⟩
end
end Go.Proofs.YtpokaafedpnbdaaDoor.Rd

/-! A slice among the arguments, opened: its elements by a code of one's own. Conditions: none. -/
namespace Go.Dn
open Go.RowKit
set_option linter.unusedVariables false
theorem list_of {α : Type} {P : Nat → α → Prop} : ∀ {n : Nat}, (∀ i, i < n → ∃ x, P i x) → ∃ l : List α, l.length = n ∧ ∀ i (h : i < l.length), P i l[i]
  | 0, _ => ⟨[], rfl, fun i h => absurd h (Nat.not_lt_zero _)⟩
  | n + 1, key => by
    obtain ⟨l, hl, h⟩ := list_of (n := n) fun i hi => key i (by omega)
    obtain ⟨x, hx⟩ := key n (by omega)
    refine ⟨l ++ [x], by simp [hl], fun i hi => ?_⟩
    by_cases hn : i < l.length
    · rw [List.getElem_append_left hn]; exact h i hn
    · have : i = n := by rw [List.length_append] at hi; simp at hi; omega
      subst this
      rw [List.getElem_append_right (by omega)]
      simp only [hl, Nat.sub_self, List.getElem_cons_zero]
      exact hx
section
variable {H : Type} {enc : TypeId × Value → H} {P : Program} {w : World} {base : Nat} {spare : Nat → Bool} {held : Bool} {fuel : Nat} {t : TypeId}
theorem one_of' {n : Nat} {t : TypeId} {cs : List Value} {j : Nat} {x : DataW H × List MemPlace} (hj : j < cs.length) (h : DataW.trod enc P w base spare held n t ((cs.drop j).take 1) = some x) : DataW.trod enc P w base spare held n t [cs[j]] = some x := by
  rw [List.drop_eq_getElem_cons hj, List.take_succ_cons, List.take_zero] at h
  exact h
theorem wt_in {e : TypeId} {d : DataW H} {v : Nat} : ∀ {l : List (DataW H)}, d ∈ l → v ∈ d.weights P e → v ∈ DataW.weightsAll P e l
  | [], h, _ => by cases h
  | y :: l, h, hv => by
    unfold DataW.weightsAll
    rcases List.mem_cons.1 h with rfl | h
    · exact List.mem_append_left _ hv
    · exact List.mem_append_right _ (wt_in h hv)
theorem open_gen {α : Type} {enc' : α → List Value} {k by_ : Nat} (E : Enc enc' k) {r : TypeId} (ht : P.underlying t = some (.slice r)) (hc : P.cellsOf r = k) (hby : P.bytesOf r = by_) {Q : α → DataW H → Prop}
    (hq : ∀ n cs y, cs.length = k → DataW.trod enc P w base spare held n r cs = some y → ∃ x : α, cs = enc' x ∧ Q x y.1) {A : Option Addr} {len cap : Nat} {x : DataW H × List MemPlace} (h : DataW.trod enc P w base spare held fuel t [.slice A len cap] = some x) :
    ∃ l : List α, l.length = len ∧ RowE enc' k w A l ∧ (A = none → cap = 0 ∧ l.length = 0) ∧ (l ≠ [] → ∀ a, A = some a → a.block < w.heap.size) ∧ l.length ≤ cap ∧
      ((x.1 = .nil ∧ l = []) ∨ ∃ el rs, x.1 = .slice el rs ∧ el.length = l.length ∧ ∀ i (hi : i < l.length), ∃ d, el[i]? = some d ∧ Q l[i] d) ∧ ((∀ v ∈ x.1.weights P t, v ≤ reachBytes) → l.length * by_ ≤ 140737488351232) := by
  rcases DataW.trod_slice ht h with ⟨h0, hx⟩ | ⟨a, len', cap', elems, rest, n, _, h1, hx, hbs, hl, hm, hlen, hel, hsp, hns⟩
  · injection h0 with h0; injection h0 with h0 h1 h2; subst h0; subst h1; subst h2
    exact ⟨[], rfl, RowE.nil _ _ _ _, fun _ => ⟨rfl, rfl⟩, by simp, by simp, .inl ⟨by rw [hx], rfl⟩, by simp⟩
  · injection h1 with h1; injection h1 with h0 h1 h2; subst h0; subst h1; subst h2
    have key : ∀ i, i < len → ∃ z : α, (∀ j, j < k → w.cell? ((a.add (i * k)).add j) = (enc' z)[j]?) ∧ ∃ d, (elems.map (·.1))[i]? = some d ∧ Q z d := by
      intro i hi
      have h2 := hel i hi
      rw [List.getElem?_eq_getElem (by omega), Option.bind_eq_some_iff] at h2
      obtain ⟨cs, hcs, hy⟩ := h2
      obtain ⟨_, hl3, hcell⟩ := World.cells?_some hcs
      rw [hc] at hcell hl3
      obtain ⟨z, e, q⟩ := hq _ _ _ hl3 hy
      refine ⟨z, fun j hj => ?_, _, ?_, q⟩
      · have := hcell j hj
        rw [← e]
        exact this
      · rw [List.getElem?_map, List.getElem?_eq_getElem (by omega)]; rfl
    obtain ⟨l, el, hP⟩ := list_of key
    refine ⟨l, el, fun i hi => ⟨a, rfl, (hP i hi).1⟩, (fun e => by cases e), fun hne a' ha => ?_, by omega, .inr ⟨elems.map (·.1), rest.map (·.1), by rw [hx], by simp [hlen, el], fun i hi => (hP i hi).2⟩, fun hw => ?_⟩
    · injection ha with ha; subst ha
      have h0 : 0 < l.length := List.length_pos_iff.2 hne
      have h1 := (hP 0 h0).1 0 E.pos
      obtain ⟨u, h2⟩ : ∃ u, (enc' (l[0]'h0))[0]? = some u := ⟨_, List.getElem?_eq_getElem (by rw [E.len]; exact E.pos)⟩
      have := World.block_lt_of_cell? w _ (h1.trans h2)
      rw [add_block, add_block] at this; exact this
    · rw [hx] at hw
      have := hw ((elems.map (·.1)).length * by_ + (rest.map (·.1)).length * by_) (by
        simp only [DataW.weights, ht, hby]
        rw [← Nat.add_mul]; exact List.mem_cons_self)
      unfold reachBytes at this
      simp only [List.length_map] at this
      rw [el, ← hlen]
      omega
/-- rows of numbers of one kind -/
theorem open_num {κ : IntKind} {by_ : Nat} {r : TypeId} (ht : P.underlying t = some (.slice r)) (hr : P.underlying r = some (.int κ)) (hc : P.cellsOf r = 1) (hby : P.bytesOf r = by_) {A : Option Addr} {len cap : Nat} {x : DataW H × List MemPlace} (h : DataW.trod enc P w base spare held fuel t [.slice A len cap] = some x) :
    ∃ l : List Int, l.length = len ∧ RowE (fun z => [.int κ z]) 1 w A l ∧ (A = none → cap = 0 ∧ l.length = 0) ∧ (l ≠ [] → ∀ a, A = some a → a.block < w.heap.size) ∧ l.length ≤ cap ∧ ((∀ v ∈ x.1.weights P t, v ≤ reachBytes) → l.length * by_ ≤ 140737488351232) := by
  obtain ⟨l, h1, h2, h3, h4, h5, _, h7⟩ := open_gen (enc' := fun z : Int => [.int κ z]) (k := 1) ⟨fun _ => rfl, fun x u hu => by simp only [List.mem_singleton] at hu; subst hu; rfl, by decide⟩ ht hc hby (Q := fun _ _ => True) (fun n cs y hl hy => by
    obtain ⟨u, rfl⟩ : ∃ u, cs = [u] := by match cs, hl with | [u], _ => exact ⟨_, rfl⟩
    obtain ⟨z, e, _⟩ := DataW.trod_int hr hy
    injection e with e
    exact ⟨z, by rw [show u = _ from e], trivial⟩) h
  exact ⟨l, h1, h2, h3, h4, h5, h7⟩
end
end Go.Dn

/-! A row of rows of bytes among the arguments, opened. Conditions: none. -/
namespace Go.Proofs.YtpokaafedpnbdaaDoor.Rd
open Go.Dn Go.RowKit Go.Shelf Go.ChangeShapes Go.WideShapes Go.ChangeAt
set_option linter.unusedVariables false
set_option linter.unusedSimpArgs false
set_option maxRecDepth 100000
section
variable {H : Type} {enc : TypeId × Value → H} {w : World} {base : Nat} {held : Bool} {fuel : Nat}
theorem open_u8 {A : Option Addr} {len cap : Nat} {x : DataW H × List MemPlace} (h : DataW.trod enc Tryd.prog w base (fun _ => true) held fuel 29 [.slice A len cap] = some x) :
    ∃ l : List UInt8, l.length = len ∧ Go.Dn.RB w A l ∧ (A = none → cap = 0) ∧ l.length ≤ cap ∧ ((∀ v ∈ x.1.weights Tryd.prog 29, v ≤ reachBytes) → l.length * 1 ≤ 140737488351232) := by
  obtain ⟨l0, h1, _, _, _, _, h6⟩ := open_num (κ := .u8) (by_ := 1) (r := 5) (by kernel_rfl) (by kernel_rfl) (by kernel_rfl) (by kernel_rfl) h
  have hI : ∃ zs, IsRow .u8 w A len cap zs := by
    rcases open_ints (P := Tryd.prog) (t := 29) (e := 5) (by kernel_rfl) (by kernel_rfl) (by kernel_rfl) h with ⟨hcs, _⟩ | ⟨x, l, c, zs, hcs, _, hl, hm, hz, _, hcell, hwz⟩
    · simp [Value.cells] at hcs
      obtain ⟨rfl, rfl, rfl⟩ := hcs
      exact ⟨[], .inl ⟨rfl, rfl, rfl, rfl⟩⟩
    · simp [Value.cells] at hcs
      obtain ⟨rfl, rfl, rfl⟩ := hcs
      exact ⟨zs, .inr ⟨_, rfl, hl, hm, by simpa using hz, hcell, hwz⟩⟩
  obtain ⟨zs, hI⟩ := hI
  obtain ⟨l, r1, r2, r3, r4⟩ := rb_of_row hI
  exact ⟨l, r2.symm, r1, r3, r4, fun hw => by have := h6 hw; omega⟩
/-- a slice as it lies -/
def slE (x : Option Addr × Nat × Nat) : List Value := [.slice x.1 x.2.1 x.2.2]
theorem SlE : Enc slE 1 := ⟨fun _ => rfl, fun x u hu => by simp only [slE, List.mem_singleton] at hu; subst hu; rfl, by decide⟩
def OkB (w : World) (x : Option Addr × Nat × Nat) (l : List UInt8) : Prop := l.length = x.2.1 ∧ Go.Dn.RB w x.1 l ∧ (x.1 = none → x.2.2 = 0) ∧ l.length ≤ x.2.2 ∧ l.length ≤ 140737488355000
theorem open_bss {A : Option Addr} {len cap : Nat} {x : DataW H × List MemPlace} (h : DataW.trod enc Tryd.prog w base (fun _ => true) held fuel 49 [.slice A len cap] = some x) (hcap : ∀ v ∈ x.1.weights Tryd.prog 49, v ≤ reachBytes) :
    ∃ L : List (List UInt8), L.length = len ∧ RPr w A L ∧ L.length ≤ 17592186044416 := by
  have hT : Tryd.prog.underlying 49 = some (.slice 29) := by kernel_rfl
  obtain ⟨l, h1, h2, h3, h4, h5, h6, h7⟩ := open_gen (enc' := slE) (k := 1) (by_ := 24) (r := 29) SlE hT (by kernel_rfl) (by kernel_rfl)
    (Q := fun o d => (∀ v ∈ d.weights Tryd.prog 29, v ≤ reachBytes) → ∃ u, OkB w o u) (fun n cs y hl hy => by
    obtain ⟨q, rfl⟩ : ∃ q, cs = [q] := by match cs, hl with | [q], _ => exact ⟨_, rfl⟩
    obtain ⟨A2, len2, cap2, e2⟩ : ∃ A l c, q = .slice A l c := by
      rcases DataW.trod_slice (P := Tryd.prog) (t := 29) (e := 5) (by kernel_rfl) hy with ⟨q, _⟩ | ⟨a', l', c', _, _, _, _, q, _⟩
      · injection q with q; exact ⟨_, _, _, q⟩
      · injection q with q; exact ⟨_, _, _, q⟩
    subst e2
    obtain ⟨u, p1, p2, p3, p4, p5⟩ := open_u8 hy
    exact ⟨(A2, len2, cap2), rfl, fun hw => ⟨u, p1, p2, p3, p4, by have := p5 hw; omega⟩⟩) h
  have key : ∀ i, i < len → ∃ u : List UInt8, ∃ a Ai ci, A = some a ∧ w.cell? (a.add i) = some (.slice Ai u.length ci) ∧ Go.Dn.RB w Ai u ∧ u.length ≤ ci ∧ (Ai = none → ci = 0) ∧ u.length ≤ 140737488355000 := by
    intro i hi
    rw [← h1] at hi
    obtain ⟨a, ha, hc⟩ := h2 i hi
    have hc := hc 0 (by decide)
    rw [Nat.mul_one, Go.Dn.add_zero] at hc
    rcases h6 with ⟨_, h6⟩ | ⟨el, rs, hx, hel, h6⟩
    · subst h6; cases hi
    · obtain ⟨d, hd, hq⟩ := h6 i hi
      obtain ⟨u, u1, u2, u3, u4, u5⟩ := hq fun v hv => hcap v (by
        rw [hx]
        simp only [DataW.weights, hT]
        exact List.mem_cons_of_mem _ (List.mem_append_left _ (wt_in (List.mem_of_getElem? hd) hv)))
      exact ⟨u, a, l[i].1, l[i].2.2, ha, by rw [hc, u1]; rfl, u2, u4, u3, u5⟩
  obtain ⟨L, e, hP⟩ := list_of key
  exact ⟨L, e, fun i hi => hP i hi, by have := h7 hcap; omega⟩
end
theorem WalDies_row {w : World} {A0 : Option Addr} {c0 : Nat} {L : List (List UInt8)} {step kind : Int} (h0 : RPr w A0 L) (s0 : L.length ≤ 17592186044416) (_ : (Lit.int .i64 step).wf = true) (_ : (Lit.int .i64 kind).wf = true) :
    Calls Tryd.prog 4 #[.slice A0 L.length c0, .int .i64 step, .int .i64 kind] w fun e w' => e = .returned (.bool true) ∧ Below w.heap.size w w' := WalDies_walk h0 (by omega)
end Go.Proofs.YtpokaafedpnbdaaDoor.Rd

/-! Contracts of the document's sums of layer 2: Seal, Open. Conditions: lengths at most 2^46. -/
namespace Go.Proofs.YtpokaafedpnbdaaDoor.Rd
open Go.Dn Go.RowKit
set_option linter.unusedVariables false
set_option linter.unusedSimpArgs false
theorem RSeal_l0 {n : Nat} (hn32 : n < 4294967296) {B : Nat} {w0 : World} {K : Option Addr → Nat → Nat → World → Prop} (hK : ∀ A' c' w', OwnB w' B 5 A' c' (le4 n) → Below B w0 w' → B ≤ w'.heap.size → K A' 4 c' w') :
    ∀ (m k i : Nat) (A3 : Option Addr) (c3 : Nat) (w : World), 4 - i = m → i ≤ 4 → m < k → OwnB w B 5 A3 c3 ((le4 n).take i) → Below B w0 w → B ≤ w.heap.size →
      f_ref02_Seal.l0 k A3 i c3 ((n / 256 ^ i : Nat) : Int) (i : Int) w K := by
  intro m
  induction m with
  | zero =>
    intro k i A3 c3 w hm hi hk ho hb hBw
    obtain ⟨k, rfl⟩ : ∃ j, k = j + 1 := ⟨k - 1, by omega⟩
    simp only [f_ref02_Seal.l0]
    refine sel_f (by simp; omega) ?_
    obtain rfl : i = 4 := by omega
    exact hK _ _ _ ho hb hBw
  | succ m ih =>
    intro k i A3 c3 w hm hi hk ho hb hBw
    obtain ⟨k, rfl⟩ : ∃ j, k = j + 1 := ⟨k - 1, by omega⟩
    have hlt : i < (le4 n).length := by rw [le4_length]; omega
    simp only [f_ref02_Seal.l0]
    refine sel_t (by simp; omega) ?_
    have hx : (le4 n)[i] = UInt8.ofNat (n / 256 ^ i) := by
      rw [le4_length] at hlt
      match i, hlt with
      | 0, _ => simp [le4]
      | 1, _ => rfl
      | 2, _ => rfl
      | 3, _ => rfl
    have ew : IntKind.u8.wrap (((n / 256 ^ i : Nat) : Int).tmod 256) = ((le4 n)[i].toNat : Int) := by
      rw [hx, Int.tmod_eq_emod_of_nonneg (Int.natCast_nonneg _), u8w, UInt8.toNat_ofNat']; omega
    rw [ew]
    refine alW_intro ?_
    have h1 : Go.Dn.RB (w.alloc (.cells #[.int .u8 ((le4 n)[i].toNat : Int)] 5)) (some ⟨w.heap.size, 0, none⟩) [(le4 n)[i]] :=
      (OwnB.lit (B := B) [(le4 n)[i]] rfl hBw (by simp)).reads
    have ho1 := ho.keep ((Below.refl w.heap.size w).alloc (Nat.le_refl _) (.cells #[.int .u8 ((le4 n)[i].toNat : Int)] 5))
    have htl : ((le4 n).take i).length = i := by rw [List.length_take, le4_length]; omega
    refine app_runs TBy ho1 htl.symm h1 rfl (fun h => by cases h) (by simp; omega) (by rw [htl]; simp; omega) ?_
    intro A' c' w' ho' hb' _ _
    refine ⟨_, _, _, rfl, ?_⟩
    rw [w64_in (by omega), show (i : Int) + 1 = ((i + 1 : Nat) : Int) by omega]
    have e : (le4 n).take i ++ [(le4 n)[i]] = (le4 n).take (i + 1) := by rw [List.take_succ_eq_append_getElem hlt]
    rw [e] at ho' ⊢
    have e2 : ((le4 n).take (i + 1)).length = i + 1 := by rw [List.length_take, le4_length]; omega
    have e3 : IntKind.u32.wrap (((n / 256 ^ i : Nat) : Int).tdiv 256) = ((n / 256 ^ (i + 1) : Nat) : Int) := by
      have h1 : n / 256 ^ i / 256 = n / 256 ^ (i + 1) := by rw [Nat.div_div_eq_div_mul, Nat.pow_succ]
      have h2 : n / 256 ^ i ≤ n := Nat.div_le_self _ _
      rw [← h1, Int.tdiv_eq_ediv_of_nonneg (Int.natCast_nonneg _), u32w]
      generalize n / 256 ^ i = q at *
      omega
    rw [e2, e3]
    refine ih k (i + 1) A' c' w' (by omega) (by omega) (by omega) ho' ?_ ?_
    · exact (hb.alloc hBw _).trans hb'
    · have := hb'.size; simp at this; omega
theorem RSeal_ok {w : World} {A : Option Addr} {n c : Nat} {l : List UInt8} (hr : Go.Dn.RB w A l) (hn : n = l.length) (hlen : l.length ≤ 140737488355000) :
    Calls Tryd.prog 69 #[.slice A n c] w fun e w' => ∃ A' c', e = .returned (.slice A' (sealL l).length c') ∧ OwnB w' w.heap.size 5 A' c' (sealL l) ∧ Below w.heap.size w w' := by
  subst hn
  apply f_ref02_Seal.ok
  unfold f_ref02_Seal.wp
  refine alW_intro ?_
  have hb0 := (Below.refl w.heap.size w).alloc (Nat.le_refl _) (.cells #[] 5)
  have h0 := OwnB.lit (w := w) (B := w.heap.size) (e := 5) [] (cs := #[]) rfl (Nat.le_refl _) (by simp)
  refine (RSum_ok (hr.below hb0 (Nat.le_refl _)) (by omega)).mono ?_
  rintro e w1 ⟨rfl, rfl⟩
  refine ⟨_, rfl, 5, ?_⟩
  have := RSeal_l0 (n := crcSum l) (crcSum_lt l) (B := w.heap.size) (w0 := w) (K := fun A11 n11 c11 w12 => ∀ _ : Fr, Calls Tryd.prog 72 #[.slice A11 n11 c11, .slice A l.length c] w12 fun e13 w14 => ∃ (A15 : Option Addr) (n15 : Nat) (c15 : Nat), e13 = .returned (.slice A15 n15 c15) ∧
    (∃ A' c', Ending.returned (.slice A15 n15 c15) = .returned (.slice A' (sealL l).length c') ∧ OwnB w14 w.heap.size 5 A' c' (sealL l) ∧ Below w.heap.size w w14)) ?_ 4 5 0 _ _ _ (by omega) (by omega) (by omega) h0 hb0 (by simp)
  · simpa using this
  intro A2 c2 w2 ho2 hb2 hB2 _
  refine (Cat_ok ho2.reads (hr.below hb2 (Nat.le_refl _)) rfl rfl (by rw [le4_length]; omega)).mono ?_
  rintro e w3 ⟨A3, c3, rfl, ho3, hb3⟩
  exact ⟨_, _, _, rfl, A3, c3, rfl, ho3.mono hb2.size, hb2.trans (hb3.mono hb2.size)⟩
theorem openL_sealed {l : List UInt8} (h : 4 ≤ l.length) : (sealL (l.drop 4) = l) = (l.take 4 = le4 (crcSum (l.drop 4))) := by
  obtain ⟨a, b, c, d, r, rfl⟩ := four h
  unfold sealL
  simp only [List.drop_succ_cons, List.drop_zero, List.take_succ_cons, List.take_zero]
  rw [show a :: b :: c :: d :: r = [a, b, c, d] ++ r from rfl]
  simp only [List.append_cancel_right_eq]
  exact propext ⟨Eq.symm, Eq.symm⟩
theorem ROpen_ok {w : World} {A : Option Addr} {n c : Nat} {l : List UInt8} (hr : Go.Dn.RB w A l) (hn : n = l.length) (hlen : l.length ≤ 140737488355000) :
    Calls Tryd.prog 45 #[.slice A n c] w fun e w' => ∃ A' c', e = .returned (.tuple #[.slice A' (openL l).1.length c', .bool (openL l).2]) ∧ OwnB w' w.heap.size 5 A' c' (openL l).1 ∧ Below w.heap.size w w' := by
  subst hn
  apply f_ref02_Open.ok
  unfold f_ref02_Open.wp
  by_cases h4 : 4 ≤ l.length
  · refine sel_f (by simp; omega) ?_
    refine (Piece_ok (p := 4) (q := l.length) hr rfl (by omega) (Nat.le_refl _) h4).mono ?_
    rintro e w1 ⟨A1, c1, rfl, ho1, hb1⟩
    rw [List.take_length] at ho1 ⊢
    refine ⟨_, _, _, rfl, ?_⟩
    refine (RSeal_ok ho1.reads rfl (by rw [List.length_drop]; omega)).mono ?_
    rintro e w2 ⟨A2, c2, rfl, ho2, hb2⟩
    refine ⟨_, _, _, rfl, ?_⟩
    have hb12 := hb1.trans (hb2.mono hb1.size)
    refine (Same_ok ho2.reads (hr.below hb12 (Nat.le_refl _)) rfl rfl (by unfold sealL; rw [List.length_append, le4_length, List.length_drop]; omega)).mono ?_
    rintro e w3 ⟨rfl, hb3⟩
    have hb13 := hb12.trans (hb3.mono hb12.size)
    refine ⟨_, rfl, ?_⟩
    unfold openL
    rw [if_pos h4]
    by_cases he : l.take 4 = le4 (crcSum (l.drop 4))
    · rw [if_pos he]
      have : sealL (l.drop 4) = l := by rw [openL_sealed h4]; exact he
      refine sel_f (by simp [this]) ⟨A1, c1, rfl, (ho1.keep (hb2.trans (hb3.mono hb2.size))), hb13⟩
    · rw [if_neg he]
      have : ¬ sealL (l.drop 4) = l := by rw [openL_sealed h4]; exact he
      exact sel_t (by simp [this]) ⟨none, 0, rfl, World.ownsRow_nil _ _ _ _, hb13⟩
  · refine sel_t (by simp; omega) ⟨none, 0, ?_, ?_, Below.refl _ _⟩
    · unfold openL; rw [if_neg h4]; rfl
    · unfold openL; rw [if_neg h4]; exact World.ownsRow_nil _ _ _ _

end Go.Proofs.YtpokaafedpnbdaaDoor.Rd

/-! The document's Parse and Alike; a sector with bytes from outside. Conditions: none. -/
namespace Go.Proofs.YtpokaafedpnbdaaDoor.Rd
open Go.Dn Go.RowKit Go.Shelf
set_option linter.unusedVariables false
set_option linter.unusedSimpArgs false
set_option maxRecDepth 100000
section
variable {w w' : World} {N N2 S : Nat → Prop} {B : Nat}
theorem Parse_l0 {A : Option Addr} {c : Nat} {d : List UInt8} (hr : Go.Dn.RB w A d) (hd : 8 ≤ d.length) {K : Int → World → Prop} : ∀ (m : Nat) (P : List UInt8), P.length + m = 8 → K (valS (P ++ (d.take m).reverse) : Int) w → f_ref09_Parse.l0 (m + 1) A d.length c (valS P : Int) ((m : Int) - 1) w K := by
  intro m
  induction m with
  | zero =>
    intro P hP hK
    unfold f_ref09_Parse.l0
    refine sel_f (by simp) ?_
    simpa using hK
  | succ m ih =>
    intro P hP hK
    have hlt : m < d.length := by omega
    obtain ⟨a, rfl, hc⟩ := hr m hlt
    unfold f_ref09_Parse.l0
    have e1 : ((m + 1 : Nat) : Int) - 1 = (m : Int) := by omega
    rw [e1]
    refine sel_t (by simp) (optB_some rfl (req_intro (by simp; omega) ?_))
    rw [Int.toNat_natCast, Nat.mul_one]
    refine ldI_intro (x := (d[m].toNat : Int)) hc ?_
    have hb := d[m].toNat_lt
    have hv : valS (P ++ [d[m]]) < 18446744073709551616 := by
      have h1 := valS_lt (P ++ [d[m]])
      have h2 : 256 ^ (P ++ [d[m]]).length ≤ 256 ^ 8 := Nat.pow_le_pow_right (by decide) (by rw [List.length_append, List.length_singleton]; omega)
      have h3 : (256 : Nat) ^ 8 = 18446744073709551616 := by decide
      omega
    have hs := valS_snoc P d[m]
    have ew : IntKind.u64.wrap (IntKind.u64.wrap ((valS P : Int) * 256) + IntKind.u64.wrap (d[m].toNat : Int)) = (valS (P ++ [d[m]]) : Int) := by
      rw [hs, u64w, u64w, u64w]
      omega
    rw [ew, w64_in (by omega)]
    refine ih (P ++ [d[m]]) (by rw [List.length_append, List.length_singleton]; omega) ?_
    have e2 : (d.take (m + 1)).reverse = d[m] :: (d.take m).reverse := by
      rw [List.take_succ_eq_append_getElem hlt, List.reverse_append]; rfl
    rw [e2] at hK
    rw [List.append_assoc]
    exact hK
theorem Parse_l1 {A : Option Addr} {c : Nat} {d : List UInt8} (hr : Go.Dn.RB w A d) (hd : d.length ≤ 1000) {K : World → Prop} {Kr : Int → Option Addr → Nat → Nat → World → Prop} : ∀ (m i : Nat), m + i = d.length →
    ((d.drop i).all (· == 0) = true → K w) → ((d.drop i).all (· == 0) = false → Kr 0 none 0 0 w) → f_ref09_Parse.l1 (m + 1) A d.length c (i : Int) w K Kr := by
  intro m
  induction m with
  | zero =>
    intro i hi hK hKr
    unfold f_ref09_Parse.l1
    refine sel_f (by simp; omega) (hK ?_)
    rw [List.drop_eq_nil_of_le (by omega)]; rfl
  | succ m ih =>
    intro i hi hK hKr
    have hlt : i < d.length := by omega
    obtain ⟨a, rfl, hc⟩ := hr i hlt
    unfold f_ref09_Parse.l1
    refine sel_t (by simp; omega) (optB_some rfl (req_intro (by simp; omega) ?_))
    rw [Int.toNat_natCast, Nat.mul_one]
    refine ldI_intro (x := (d[i].toNat : Int)) hc ?_
    rw [List.drop_eq_getElem_cons hlt, List.all_cons] at hK hKr
    by_cases h0 : d[i] = 0
    · have e : (d[i] == 0) = true := by simpa using h0
      rw [e, Bool.true_and] at hK hKr
      refine sel_f (by rw [h0]; rfl) ?_
      rw [show IntKind.i64.wrap ((i : Int) + 1) = ((i + 1 : Nat) : Int) by rw [w64_in (by omega)]; omega]
      exact ih (i + 1) (by omega) hK hKr
    · have e : (d[i] == 0) = false := by simpa using h0
      rw [e, Bool.false_and] at hKr
      refine sel_t (by simp; intro h; exact h0 (UInt8.toNat.inj (by simpa using h))) (hKr rfl)
theorem RParse_ok {A : Option Addr} {n c : Nat} {l : List UInt8} (hr : Go.Dn.RB w A l) (hn : n = l.length) (hl : l.length = 512) :
    Calls Tryd.prog 22 #[.slice A n c] w fun e w' => ∃ A' n' c', e = .returned (.tuple #[.int .i64 (ldRun l : Int), .slice A' n' c']) ∧ Below w.heap.size w w' := by
  subst hn
  apply f_ref09_Parse.ok
  unfold f_ref09_Parse.wp
  refine (ROpen_ok hr rfl (by omega)).mono ?_
  rintro _ w1 ⟨A1, c1, rfl, o1, g1⟩
  refine ⟨_, _, _, _, rfl, ?_⟩
  cases ho : (openL l).2 with
  | false =>
    have e : ldRun l = 0 := by unfold ldRun parseL; rw [ho]; rfl
    rw [e]
    exact sel_t rfl ⟨none, 0, 0, rfl, g1⟩
  | true =>
    obtain ⟨e1, _⟩ := openL_t ho
    have hdl : (openL l).1.length = 508 := by rw [e1, List.length_drop]; omega
    obtain ⟨d, hd⟩ : ∃ d, (openL l).1 = d := ⟨_, rfl⟩
    rw [hd] at o1 hdl e1 ⊢
    have hp : parseL l = restP (valS ((d.take 8).reverse)) d := by unfold parseL; rw [if_pos ho, e1]
    have rb := o1.reads
    refine sel_f rfl ⟨9, ?_⟩
    refine Parse_l0 rb (by omega) 8 [] rfl ?_
    intro _
    rw [List.nil_append]
    obtain ⟨U, hU⟩ : ∃ U, valS ((d.take 8).reverse) = U := ⟨_, rfl⟩
    rw [hU] at hp ⊢
    have g2 : Below w1.heap.size w1 w1.drew := (Below.refl _ _).drew
    have g02 : Below w.heap.size w w1.drew := g1.trans (g2.mono g1.size)
    have rb2 := rb.below g2 (Nat.le_refl _)
    obtain ⟨a, rfl, c8⟩ := rb2 8 (by omega)
    obtain ⟨a', ea, c9⟩ := rb2 9 (by omega)
    injection ea with ea; subst ea
    refine drW_intro (optB_some rfl (req_intro (by simp; omega) (ldI_intro (x := (d[8].toNat : Int)) c8 (optB_some rfl (req_intro (by simp; omega) (ldI_intro (x := (d[9].toNat : Int)) c9 ?_))))))
    have h8 := d[8].toNat_lt
    have h9 := d[9].toNat_lt
    have eL : lenP d = d[8].toNat + 256 * d[9].toNat := by unfold lenP; rw [bAt_get (by omega), bAt_get (by omega)]
    have en : IntKind.i64.wrap (IntKind.i64.wrap (d[8].toNat : Int) + IntKind.i64.wrap ((256 : Int) * IntKind.i64.wrap (d[9].toNat : Int))) = ((lenP d : Nat) : Int) := by
      rw [w64_in (x := (d[8].toNat : Int)) (by omega), w64_in (x := (d[9].toNat : Int)) (by omega), w64_in (x := (256 : Int) * (d[9].toNat : Int)) (by omega), w64_in (by omega), eL]
      omega
    rw [en]
    have bad : (U < 1 ∨ 274877906944 < U ∨ 498 < lenP d) → ldRun l = 0 := fun h => by
      unfold ldRun
      rw [hp]
      unfold restP
      rw [if_pos h]; rfl
    by_cases b1 : U < 1
    · rw [bad (.inl b1)]; exact sel_t (by simp; omega) ⟨none, 0, 0, rfl, g02⟩
    refine sel_f (by simp; omega) ?_
    by_cases b2 : 274877906944 < U
    · rw [bad (.inr (.inl b2))]; exact sel_t (by simp; omega) ⟨none, 0, 0, rfl, g02⟩
    refine sel_f (by simp; omega) ?_
    by_cases b3 : 498 < lenP d
    · rw [bad (.inr (.inr b3))]; exact sel_t (by simp; omega) ⟨none, 0, 0, rfl, g02⟩
    have hr0 : restP U d = (U, (d.drop 10).take (lenP d), (d.drop (10 + lenP d)).all (· == 0)) := by unfold restP; rw [if_neg (by omega)]
    have e10 : IntKind.i64.wrap ((10 : Int) + ((lenP d : Nat) : Int)) = ((10 + lenP d : Nat) : Int) := by rw [w64_in (by omega)]; omega
    rw [e10]
    refine sel_f (by simp; omega) ⟨508 - (10 + lenP d) + 1, Parse_l1 rb2 (by omega) (508 - (10 + lenP d)) (10 + lenP d) (by omega) (fun hz _ => ?_) (fun hz _ => ?_)⟩
    · refine (Piece_ok (p := 10) (q := 10 + lenP d) rb2 rfl (by omega) (by omega) (by omega)).mono ?_
      rintro _ w3 ⟨A3, c3, rfl, o3, g3⟩
      have e : ldRun l = U := by unfold ldRun; rw [hp, hr0]; simp only; rw [hz]; rfl
      rw [e, w64_in (by omega)]
      exact ⟨_, _, _, rfl, _, _, _, rfl, g02.trans (g3.mono g02.size)⟩
    · have e : ldRun l = 0 := by unfold ldRun; rw [hp, hr0]; simp only; rw [hz]; rfl
      rw [e]
      exact ⟨_, _, _, rfl, g02⟩
/-! ### the same records -/
theorem Alike_l0 {w0 : World} {A A2 : Option Addr} {c c2 : Nat} {ms ms2 : List MR} {rs : List Rc} (r1 : RowE eR 3 w0 A ms) (r2 : RowE eR 3 w0 A2 ms2) (m1 : RsM w0 N ms rs) (m2 : RsM w0 N2 ms2 rs) (hl : rs.length ≤ 1099511627776) {K : World → Prop} {Kr : Bool → World → Prop} (hK : ∀ w', Below w0.heap.size w0 w' → K w') :
    ∀ (m i : Nat) (w : World), m + i = rs.length → Below w0.heap.size w0 w → f_ref09_Alike.l0 (m + 1) A rs.length c A2 rs.length c2 (i : Int) w K Kr := by
  intro m
  induction m with
  | zero =>
    intro i w hi hb
    unfold f_ref09_Alike.l0
    exact sel_f (by simp; omega) (hK w hb)
  | succ m ih =>
    intro i w hi hb
    have hlt : i < rs.length := by omega
    have h1 : i < ms.length := by rw [m1.1]; exact hlt
    have h2 : i < ms2.length := by rw [m2.1]; exact hlt
    have gd := hb.drew
    have row1 := r1.keeps ER (S := fun _ => False) (.of_below gd) fun _ _ => id
    have row2 := r2.keeps ER (S := fun _ => False) (.of_below gd) fun _ _ => id
    obtain ⟨a, rfl, _⟩ := row1 i h1
    obtain ⟨a2, rfl, _⟩ := row2 i h2
    have p0 := row1.c0 ER h1
    have p1 := row1.cj h1 (j := 1) (by decide)
    have p2 := row1.cj h1 (j := 2) (by decide)
    have q0 := row2.c0 ER h2
    have q1 := row2.cj h2 (j := 1) (by decide)
    have q2 := row2.cj h2 (j := 2) (by decide)
    have x1 := (m1.2 i h1 hlt).keeps (S := fun _ => False) (.of_below gd) fun _ => False.elim
    have x2 := (m2.2 i h2 hlt).keeps (S := fun _ => False) (.of_below gd) fun _ => False.elim
    unfold f_ref09_Alike.l0
    refine sel_t (by simpa using hlt) (drW_intro (optB_some rfl (req_intro (by simp; omega) ?_)))
    rw [Int.toNat_natCast]
    refine ldI_intro (x := ms[i].lsn) p0 (optB_some rfl (req_intro (by simp; omega) (ldI_intro (x := ms2[i].lsn) q0 ?_)))
    refine sel_f (by rw [x1.l, x2.l]; simp) (optB_some rfl (req_intro (by simp; omega) (ldI_intro (x := ms[i].kind) p1 ?_)))
    refine optB_some rfl (req_intro (by simp; omega) (ldI_intro (x := ms2[i].kind) q1 ?_))
    refine sel_f (by rw [x1.k, x2.k]; simp) (optB_some rfl (req_intro (by simp; omega) (ldS_intro (A := ms[i].A) (n := ms[i].n) (c := ms[i].c) p2 ?_)))
    refine optB_some rfl (req_intro (by simp; omega) (ldS_intro (A := ms2[i].A) (n := ms2[i].n) (c := ms2[i].c) q2 ?_))
    refine (Same_ok x1.rb x2.rb x1.n x2.n (by have := x1.b; omega)).mono ?_
    rintro _ w1 ⟨rfl, g1⟩
    refine ⟨_, rfl, sel_f (by simp) ?_⟩
    rw [show IntKind.i64.wrap ((i : Int) + 1) = ((i + 1 : Nat) : Int) by rw [w64_in (by omega)]; omega]
    exact ih (i + 1) w1 (by omega) (gd.trans (g1.mono gd.size))
theorem Alike_eq {A A2 : Option Addr} {c c2 : Nat} {ms ms2 : List MR} {rs : List Rc} (r1 : RowE eR 3 w A ms) (r2 : RowE eR 3 w A2 ms2) (m1 : RsM w N ms rs) (m2 : RsM w N2 ms2 rs) (hl : rs.length ≤ 1099511627776) :
    Calls Tryd.prog 25 #[.slice A rs.length c, .slice A2 rs.length c2] w fun e w' => e = .returned (.bool true) ∧ Below w.heap.size w w' := by
  apply f_ref09_Alike.ok
  unfold f_ref09_Alike.wp
  exact sel_f (by simp) ⟨rs.length + 1, Alike_l0 r1 r2 m1 m2 hl (fun w' g _ => ⟨rfl, g⟩) rs.length 0 w rfl (Below.refl _ _)⟩
theorem RsO.keepsO {A : Option Addr} {c : Nat} {rs : List Rc} (h : RsO w B A c rs) (k : Keeps S w w') (hS : ∀ k, S k → k < B) : RsO w' B A c rs := by
  obtain ⟨ms, h1, h2⟩ := h
  exact ⟨ms, h1.keeps k fun a ha hs => by have := (h1.block a ha).1; have := hS _ hs; omega, h2.keeps k fun k hk => .inl (hS k hk)⟩
theorem RsO.alike {A A2 : Option Addr} {c c2 B2 : Nat} {rs : List Rc} (h : RsO w B A c rs) (h2 : RsO w B2 A2 c2 rs) (hl : rs.length ≤ 1099511627776) :
    Calls Tryd.prog 25 #[.slice A rs.length c, .slice A2 rs.length c2] w fun e w' => e = .returned (.bool true) ∧ Below w.heap.size w w' := by
  obtain ⟨ms, p1, p2⟩ := h
  obtain ⟨ms2, q1, q2⟩ := h2
  exact Alike_eq (p1.reads ER) (q1.reads ER) p2 q2 hl
end
theorem ixL_0 {rs : List Rc} (h : ∀ r ∈ rs, 0 ≤ r.lsn) : fromL 0 rs = rs := by
  cases rs with
  | nil => rfl
  | cons r rs =>
    unfold fromL ixL
    rw [if_neg (by have := h r List.mem_cons_self; omega)]
    rfl
theorem rcsOf_ge (run : Nat) : ∀ (xs : List (Int × List UInt8)) (a : Nat), ∀ r ∈ rcsOf run a xs, 0 ≤ r.lsn
  | [], a, r, h => by cases h
  | x :: xs, a, r, h => by
    rw [rcsOf] at h
    rcases List.mem_cons.1 h with rfl | h
    · show 0 ≤ ((_ : Nat) : Int); omega
    · exact rcsOf_ge run xs _ r h
/-! ### bytes from outside -/
theorem unI_secOf' {b : List UInt8} (h : b.length ≤ 512) : unI (secOf (toI b)).1 = b ++ List.replicate (512 - b.length) 0 := by
  unfold secOf
  simp only
  rw [List.take_of_length_le (by rw [List.length_append, List.length_replicate, toI_len]; omega), toI_len]
  unfold unI
  rw [List.map_append, List.map_replicate]
  have := unI_toI b
  unfold unI at this
  rw [this]; rfl
theorem noise_wr {d : Dk} (h : NP d) {i : Nat} {b : List UInt8} (hb : b.length ≤ 512) (hi : i < d.safe.length) :
    NP (wrL d (i : Int) b) ∧ (wrL d (i : Int) b).safe.length = d.safe.length ∧ ∀ j : Nat, hB (wrL d (i : Int) b) (j : Int) = if i = j then b ++ List.replicate (512 - b.length) 0 else hB d (j : Int) := by
  have hw : ¬ wrBad d (i : Int) (toI b) := by
    unfold wrBad
    rw [toI_len]
    omega
  obtain ⟨q1, q2⟩ := h.step (act := putD (i : Int) (toI b)) fun d hd => hd
  refine ⟨?_, wr_size _ _, fun j => ?_⟩
  · unfold wrL wrD
    rw [if_neg (by rw [h.1]; decide), if_neg hw]
    exact q2
  · unfold wrL wrD
    rw [if_neg (by rw [h.1]; decide), if_neg hw, stepC_0 q1]
    unfold hB putD
    rw [hasS_put]
    have : ((i : Int) = (j : Int)) = (i = j) := propext (by omega)
    simp only [this]
    split
    · exact unI_secOf' hb
    · rfl
theorem noise_bd {d : Dk} (h : BD d) (i : Int) (b : List UInt8) : BD (wrL d i b) := by
  have put : ∀ d : Dk, BD d → BD (putD i (toI b) d) := fun d h => by
    refine ⟨h.s, fun p hp => ?_⟩
    have hs : bySec (secOf (toI b)) := by
      intro x hx
      unfold secOf at hx
      simp only at hx
      have := List.mem_of_mem_take hx
      rw [List.mem_append] at this
      rcases this with q | q
      · exact toI_by b x q
      · have := List.eq_of_mem_replicate q; omega
    have hp' : p ∈ putK d.pend i (secOf (toI b)) := hp
    unfold putK at hp'
    split at hp'
    · obtain ⟨q, hq, rfl⟩ := List.mem_map.1 hp'
      split
      · exact hs
      · exact h.p q hq
    · rcases List.mem_append.1 hp' with q | q
      · exact h.p p q
      · rw [List.mem_singleton] at q; subst q; exact hs
  unfold wrL wrD
  split
  · exact h
  split
  · exact h
  · exact h.step put
end Go.Proofs.YtpokaafedpnbdaaDoor.Rd

/-! The statement WalNoise, walked. Conditions: rows of bytes below 2^46. -/
namespace Go.Proofs.YtpokaafedpnbdaaDoor.Rd
open Go.Dn Go.RowKit Go.Shelf
set_option linter.unusedVariables false
set_option linter.unusedSimpArgs false
set_option maxRecDepth 100000
theorem appendL_f (l : Lg) (kind : Int) (u : List UInt8) : (appendL l kind u).1.first = l.first ∧ (appendL l kind u).1.count = l.count ∧ (appendL l kind u).1.run = l.run ∧ (appendL l kind u).1.most = l.most ∧ (appendL l kind u).1.dead = l.dead ∧ (appendL l kind u).1.old = l.old ∧ (appendL l kind u).1.safe = l.safe := by
  unfold appendL
  split; · exact ⟨rfl, rfl, rfl, rfl, rfl, rfl, rfl⟩
  split; · exact ⟨rfl, rfl, rfl, rfl, rfl, rfl, rfl⟩
  split; · exact ⟨rfl, rfl, rfl, rfl, rfl, rfl, rfl⟩
  split; · exact ⟨rfl, rfl, rfl, rfl, rfl, rfl, rfl⟩
  split; · exact ⟨rfl, rfl, rfl, rfl, rfl, rfl, rfl⟩
  exact ⟨rfl, rfl, rfl, rfl, rfl, rfl, rfl⟩
theorem flushGo_size (l : Lg) : ∀ (k i : Nat) (d : Dk), (flushGo l k i d).1.safe.length = d.safe.length
  | 0, i, d => rfl
  | k + 1, i, d => by
    unfold flushGo
    split
    · split
      · exact wr_size _ _
      · exact (flushGo_size l k (i + 1) _).trans (wr_size _ _)
    · rfl
theorem flushL_size (l : Lg) (d : Dk) : (flushL d l).1.safe.length = d.safe.length := by
  unfold flushL
  split; · rfl
  split; · rfl
  split; · exact flushGo_size l _ _ _
  split; · exact sy_size.trans (flushGo_size l _ _ _)
  exact sy_size.trans (flushGo_size l _ _ _)
section
variable {w w0 w' : World} {B : Nat} {r : RD} {d : Dk} {ρ : RL} {l : Lg} {xs : List (Int × List UInt8)}
/-- a log that takes records: what abides while records are put in -/
structure LvI (w : World) (B : Nat) (r : RD) (L : Nat) (d : Dk) (count run most : Nat) : Prop where
  ex : ∃ ρ l xs, ρ.L = L ∧ WS w B r ρ d l xs false ∧ l.first = 1 ∧ l.count = count ∧ l.run = run ∧ l.most = most ∧ l.dead = false ∧ l.old = false
theorem LvI.put {count run most : Nat} {L : Nat} (h : LvI w B r L d count run most) {kind : Int} {A : Option Addr} {c : Nat} {u : List UInt8} (hr : Go.Dn.RB w A u) (hu : u.length ≤ 140737488355000) {K : Ending → World → Prop}
    (hK : ∀ x e w', LvI w' B r L d count run most → Below B w w' → K (.returned (.tuple #[.int .i64 x, .int .i64 e])) w') :
    Calls Tryd.prog 11 #[.slice A u.length c] w fun e9 w10 => ∃ (A11 : Option Addr) (n11 : Nat) (c11 : Nat), e9 = .returned (.slice A11 n11 c11) ∧ (
      Calls Tryd.prog 10 #[.pointer (some ⟨L, 0, none⟩), .int .i64 kind, .slice A11 n11 c11] w10 K) := by
  obtain ⟨ρ, l, xs, rfl, S, e1, e2, e3, e4, e5, e6⟩ := h.ex
  refine (Copy_ok hr (by omega)).mono ?_
  rintro _ w1 ⟨A1, c1, rfl, o1, g1⟩
  have S1 := S.below g1
  refine ⟨_, _, _, rfl, (S1.append (kind := kind) (u := u) o1.reads rfl o1.nil0 (fun a ha hN => ?_) hu).mono ?_⟩
  · have := (o1.block a ha).1; have := (S.lm.lt _ hN).1; omega
  rintro _ w2 ⟨ρ2, rfl, eL2, S2, n2, k2⟩
  obtain ⟨f1, f2, f3, f4, f5, f6, f7⟩ := appendL_f l kind u
  exact hK _ _ _ ⟨ρ2, _, _, eL2, S2, f1.trans e1, f2.trans e2, f3.trans e3, f4.trans e4, f5.trans e5, f6.trans e6⟩ ((g1.mono S.lo).trans (S1.bel k2))
theorem noise_l0 {A : Option Addr} {c : Nat} {Ls : List (List UInt8)} {Lb run most count : Nat} (hr : RPr w0 A Ls) (hL : Ls.length ≤ 17592186044416) (hB : w0.heap.size ≤ B) {K : World → Prop}
    (hK : ∀ w', LvI w' B r Lb d count run most → Below w0.heap.size w0 w' → K w') :
    ∀ (m i : Nat) (w : World), m + i = Ls.length → LvI w B r Lb d count run most → Below w0.heap.size w0 w → f_law09_WalNoise.l0 (m + 1) (some ⟨Lb, 0, none⟩) A Ls.length c (Ls.length : Int) (i : Int) w K := by
  intro m
  induction m with
  | zero =>
    intro i w hi h hb
    unfold f_law09_WalNoise.l0
    exact sel_f (by simp; omega) (hK w h hb)
  | succ m ih =>
    intro i w hi h hb
    have hlt : i < Ls.length := by omega
    obtain ⟨a, Ai, ci, rfl, hc, hrb, hle, hz, hlen⟩ := (hr.keeps hb) i hlt
    unfold f_law09_WalNoise.l0
    refine sel_t (by simpa using hlt) (optB_some rfl (req_intro (by simp; omega) ?_))
    rw [Int.toNat_natCast, Nat.mul_one]
    refine ldS_intro hc ?_
    rw [show IntKind.i64.wrap ((i : Int) + 1) = ((i + 1 : Nat) : Int) by rw [w64_in (by omega)]; omega]
    exact h.put hrb hlen fun x e w' h' b' => ⟨_, _, rfl, ih (i + 1) w' (by omega) h' (hb.trans (b'.mono hB))⟩
theorem noise_l1 {B0 : Nat} {w0 : World} {u0 : List UInt8} {K : Option Addr → Nat → Nat → World → Prop} (hK : ∀ A' c' w', OwnB w' B0 TU8 A' c' u0 → Below B0 w0 w' → B0 ≤ w'.heap.size → K A' 512 c' w') :
    ∀ (m : Nat) (u : List UInt8) (A : Option Addr) (c : Nat) (w : World), u.length + m = 512 → u ++ List.replicate m 0 = u0 → OwnB w B0 TU8 A c u → Below B0 w0 w → B0 ≤ w.heap.size → f_law09_WalNoise.l1 (m + 1) A u.length c w K := by
  intro m
  induction m with
  | zero =>
    intro u A c w hm hu ho hb hBw
    unfold f_law09_WalNoise.l1
    rw [List.replicate_zero, List.append_nil] at hu
    subst hu
    have := hK A c w ho hb hBw
    rw [← show u.length = 512 by omega] at this
    exact sel_f (by simp; omega) this
  | succ m ih =>
    intro u A c w hm hu ho hb hBw
    unfold f_law09_WalNoise.l1
    refine sel_t (by simp; omega) (app_one (b := 0) ho rfl hBw (by omega) fun A' c' w' ho' hb' hB' => ⟨_, _, _, rfl, ?_⟩)
    have := ih (u ++ [0]) A' c' w' (by rw [List.length_append, List.length_singleton]; omega) (by rw [List.append_assoc]; exact hu) ho' (hb.trans hb') hB'
    rw [List.length_append, List.length_singleton] at this
    exact this
theorem WalNoise_walk {A A1 : Option Addr} {c c1 : Nat} {Ls : List (List UInt8)} {u : List UInt8} {at_ : Int} (hr : RPr w A Ls) (hL : Ls.length ≤ 17592186044416) (hr1 : Go.Dn.RB w A1 u) (hu : u.length ≤ 140737488355000) :
    Calls Tryd.prog 5 #[.slice A Ls.length c, .slice A1 u.length c1, .int .i64 at_] w fun e w' => e = .returned (.bool true) ∧ Below w.heap.size w w' := by
  apply f_law09_WalNoise.ok
  unfold f_law09_WalNoise.wp
  refine (alive_ok w).mono ?_
  rintro _ w1 ⟨rfl, g1⟩
  refine ⟨_, rfl, sel_f rfl ((made_ok (count := 6) (by decide) (by decide)).mono ?_)⟩
  rintro _ w2 ⟨r, ρ, d, rfl, S, np, hst, hsz, g2⟩
  have g2' : Below w.heap.size w w2 := g1.trans (g2.mono g1.size)
  have hB1 := g1.size
  refine ⟨_, _, rfl, sel_f rfl (sel_f rfl ⟨Ls.length + 1, noise_l0 (w0 := w) hr hL g1.size (fun w3 h3 g3 _ => ?_) Ls.length 0 w2 rfl ⟨ρ, _, _, rfl, S, rfl, rfl, rfl, rfl, rfl, rfl⟩ g2'⟩)⟩
  obtain ⟨ρ3, l3, xs3, eL3, S3, a1, a2, a3, a4, a5, a6⟩ := h3.ex
  rw [← eL3]
  have fl := S3.cr.flush
  obtain ⟨fc, fn⟩ := np.flush (l := l3) a5 S3.cr.fit S3.cr.sz
  obtain ⟨C4, t1, t2, t3, t4, t5, t6, t7, t8, _⟩ := fl
  obtain ⟨t9, t10, _⟩ := t8 fc
  refine S3.flush.mono ?_
  rintro _ w4 ⟨rfl, S4, k4⟩
  rw [fc]
  obtain ⟨d4, hd4⟩ : ∃ d4, (flushL d l3).1 = d4 := ⟨_, rfl⟩
  obtain ⟨l4, hl4⟩ : ∃ l4, (flushL d l3).2.1 = l4 := ⟨_, rfl⟩
  rw [hd4, hl4] at S4 C4
  rw [hd4] at fn
  rw [hl4] at t1 t2 t3 t4 t5 t6 t7 t9 t10
  have g4 : Below w.heap.size w w4 := g3.trans ((S3.bel k4).mono hB1)
  refine ⟨_, rfl, sel_f rfl ((Records_wal S4.dm S4.lm S4.cr.lg (T := 0)).mono ?_)⟩
  rintro _ w5 ⟨A5, c5, rfl, o5, g5⟩
  have e5 : fromL 0 l4.recs = l4.recs := ixL_0 (by rw [S4.cr.rc]; exact rcsOf_ge _ _ _)
  rw [e5] at o5 ⊢
  have S5 := S4.below g5
  refine ⟨_, _, _, rfl, (Room_ok S5.lm S5.cr.lg).mono ?_⟩
  rintro _ w6 ⟨rfl, g6⟩
  have S6 := S5.below g6
  have o6 := o5.below g6
  have g06 : Below w.heap.size w w6 := (g4.trans (g5.mono g4.size)).trans (g6.mono (by have := g4.size; have := g5.size; omega))
  have ec : l4.count = 6 := t7.trans a2
  have ef : l4.first = 1 := t6.trans a1
  have er : l4.run = 2 := t3.trans a3
  have em : l4.most = 2 := t4.trans a4
  have hfit := S6.cr.fit
  rw [ec] at hfit ⊢
  refine ⟨_, rfl, ?_⟩
  by_cases q1 : at_ < 1
  · exact sel_t (by simpa using q1) ⟨rfl, g06⟩
  refine sel_f (by simpa using q1) ?_
  by_cases q2 : 6 < at_
  · exact sel_t (by simpa using q2) ⟨rfl, g06⟩
  refine sel_f (by simpa using q2) ?_
  have ew : (IntKind.i64.wrap ((IntKind.i64.wrap ((6 : Int) - (IntKind.i64.wrap ((IntKind.i64.wrap ((((6 : Nat) : Int) * 498 - (l4.stream.length : Int)) + (497 : Int))).tdiv (498 : Int))))) + (1 : Int))) = 7 - (((2988 - l4.stream.length + 497) / 498 : Nat) : Int) := by
    rw [w64_in (x := ((6 : Nat) : Int) * 498 - (l4.stream.length : Int) + 497) (by omega), Int.tdiv_eq_ediv_of_nonneg (by omega), w64_in (x := (((6 : Nat) : Int) * 498 - (l4.stream.length : Int) + 497) / 498) (by omega), w64_in (x := 6 - (((6 : Nat) : Int) * 498 - (l4.stream.length : Int) + 497) / 498) (by omega), w64_in (by omega)]
    omega
  rw [ew]
  by_cases q3 : at_ ≤ 7 - (((2988 - l4.stream.length + 497) / 498 : Nat) : Int)
  · exact sel_t (by simpa using q3) ⟨rfl, g06⟩
  refine sel_f (by simpa using q3) ?_
  by_cases q4 : 512 < u.length
  · exact sel_t (by simp; omega) ⟨rfl, g06⟩
  refine sel_f (by simp; omega) ?_
  obtain ⟨i, hi⟩ : ∃ i : Nat, at_ = ((1 + i : Nat) : Int) := ⟨(at_ - 1).toNat, by omega⟩
  have hi6 : i < 6 := by omega
  have hi0 : i ≠ 0 := by omega
  have hil : l4.stream.length ≤ i * 498 := by omega
  subst hi
  have hr6 := hr1.below g06 (Nat.le_refl _)
  refine (Copy_ok hr6 (by omega)).mono ?_
  rintro _ w7 ⟨A7, c7, rfl, o7, g7⟩
  have S7 := S6.below g7
  obtain ⟨full, hfull⟩ : ∃ full, u ++ List.replicate (512 - u.length) 0 = full := ⟨_, rfl⟩
  have hflen : full.length = 512 := by rw [← hfull, List.length_append, List.length_replicate]; omega
  refine ⟨_, _, _, rfl, 512 - u.length + 1, noise_l1 (w0 := w6) (B0 := w6.heap.size) (u0 := full) (fun A8 c8 w8 o8 b8 hb8 _ => ?_) (512 - u.length) u A7 c7 w7 (by omega) hfull o7 g7 g7.size⟩
  have S8 := S6.below b8
  refine (RParse_ok o8.reads hflen.symm hflen).mono ?_
  rintro _ w9 ⟨A9, n9, c9, rfl, g9⟩
  have g69 : Below w6.heap.size w6 w9 := b8.trans (g9.mono hb8)
  have S9 := S6.below g69
  have o9 := o6.below g69
  have g09 : Below w.heap.size w w9 := g06.trans (g69.mono g06.size)
  refine ⟨_, _, _, _, rfl, (End_ok S9.lm S9.cr.lg).mono ?_⟩
  rintro _ w9 ⟨rfl, rfl⟩
  refine ⟨_, rfl, ?_⟩
  have hss := S9.cr.lg.s
  have ed : IntKind.i64.wrap ((((l4.run * 16777216 + l4.stream.length : Nat) : Int)).tdiv 16777216) = 2 := by
    rw [er, Int.tdiv_eq_ediv_of_nonneg (by omega), w64_in (by omega)]
    omega
  rw [ed]
  by_cases q5 : ldRun full = 2
  · exact sel_t (by rw [q5]; rfl) ⟨rfl, g09⟩
  refine sel_f (by simp; omega) ?_
  by_cases q6 : 137438953472 < ldRun full
  · exact sel_t (by simp; omega) ⟨rfl, g09⟩
  refine sel_f (by simp; omega) ?_
  have hr9 := hr1.below g09 (Nat.le_refl _)
  have hbl : u ≠ [] → ∀ a, A1 = some a → ¬ FD r a.block := fun hne a ha hF => by
    obtain ⟨a', ha', hc'⟩ := hr1 0 (List.length_pos_iff.2 hne)
    rw [ha] at ha'; injection ha' with ha'; subst ha'
    have := World.block_lt_of_cell? w _ hc'
    rw [add_block] at this
    have := (S9.dm.lt _ hF).2
    omega
  have hsz4 : d4.safe.length = 10 := by rw [← hd4, flushL_size]; exact hsz
  obtain ⟨n1, n2, n3⟩ := noise_wr fn (i := 1 + i) (b := u) (by omega) (by rw [hsz4]; omega)
  refine (Write_ok' S9.dm (i := ((1 + i : Nat) : Int)) (toI_len u).symm (rbI hr9) fun hne => hbl fun e => hne (by rw [e]; rfl)).mono ?_
  rintro _ w10 ⟨rfl, h10, k10⟩
  have L10 := S9.lm.disk S9.dm k10
  have o10 := o9.keepsO k10 fun k hk => (S4.dm.lt k hk).1
  have g10 : Below w.heap.size w w10 := g09.trans (k10.below g09.size fun k hk hF => by have := (S9.dm.lt k hF).2; omega)
  obtain ⟨d', hd'⟩ : ∃ d', wrL d4 ((1 + i : Nat) : Int) u = d' := ⟨_, rfl⟩
  have h10' : DM w10 w1.heap.size r d' := by rw [← hd']; exact h10
  rw [hd'] at n1 n2 n3
  have bd' : BD d' := by rw [← hd']; exact noise_bd C4.bd _ _
  rw [hfull] at n3
  have sec : ∀ j, j < 6 → secF d' 1 j = if j = i then full else hB d4 ((1 + j : Nat) : Int) := fun j hj => by
    show hB d' ((1 + j : Nat) : Int) = _
    rw [n3 (1 + j)]
    by_cases e : j = i
    · rw [if_pos e, if_pos (by omega)]
    · rw [if_neg e, if_neg (by omega)]
  have sec4 : ∀ j, j < 6 → (Ok1 (hB d4 ((1 + j : Nat) : Int)) 2 (recsB xs3) (recsB xs3).length j) ∧ ldRun (hB d4 ((1 + j : Nat) : Int)) ≤ 2 := fun j hj => by
    rcases S4.cr.sec j (by rw [ec]; exact hj) (hB d4 ((1 + j : Nat) : Int)) (.inl (by rw [ef])) with ⟨q, _⟩ | ⟨q, q'⟩
    · cases q
    · refine ⟨?_, by rw [em] at q'; exact q'⟩
      have := q (t5.trans a6)
      rw [er, S4.cr.st] at this
      have e : l4.safe = (recsB xs3).length := by rw [t9, ← t1, S4.cr.st]
      rw [e] at this
      exact this
  have est : l4.stream = recsB xs3 := S4.cr.st
  have ok' : ∀ j, j < 6 → Ok1 (secF d' 1 j) 2 (recsB xs3) (recsB xs3).length j := fun j hj => by
    rw [sec j hj]
    by_cases e : j = i
    · rw [if_pos e]; subst e
      exact .inr ⟨hi0, by rw [← est]; exact hil, q5⟩
    · rw [if_neg e]; exact (sec4 j hj).1
  have hfit' : (recsB xs3).length ≤ 6 * 498 := by rw [← est]; exact hfit
  obtain ⟨j, j1, j2, j3⟩ := open_got (d := d') (first := 1) (count := 6) (run := 2) (safe := (recsB xs3).length) (xs := xs3) (by decide) (by decide) (by decide) hfit' C4.ok ⟨xs3.length, Nat.le_refl _, by rw [List.take_length]⟩ ok'
  have ej : j = xs3.length := Nat.le_antisymm j2 (j1 xs3.length (Nat.le_refl _) (by rw [List.take_length]))
  rw [ej, List.take_length] at j3
  have hrun := (load_got (f := secF d' 1) (count := 6) (run := 2) (safe := (recsB xs3).length) (S := recsB xs3) (by decide) (by decide) hfit' (Nat.le_refl _) (by decide) ok').1
  have hmost : mostF (secF d' 1) 6 ≤ 137438953472 := mostF_le _ _ _ fun j hj => by
    rw [sec j hj]
    split
    · omega
    · have := (sec4 j hj).2; omega
  have hmf : ldRun full ≤ mostF (secF d' 1) 6 := by
    have := mostF_ge (secF d' 1) 6 i hi6
    rw [sec i hi6, if_pos rfl] at this
    exact this
  refine ⟨_, rfl, ?_⟩
  refine (Open_wal (first := 1) (count := 6) h10' bd' n1.1 (by decide) (by decide) (by rw [n2, hsz4]; decide) (by rw [hrun]; decide)).mono ?_
  rintro _ w11 ⟨ρ', A11, c11, Bx, rfl, h11, l11, o11, p11, q11, g11⟩
  have hS := openLg_S (d := d') (first := 1) (count := 6) (by decide) (by decide) (by decide)
  obtain ⟨lm, hlm⟩ : ∃ lm, openLg d' 1 6 = lm := ⟨_, rfl⟩
  rw [hlm] at l11 o11 hS j3 ⊢
  have m1 : lm.first = 1 := by rw [j3]
  have m2 : lm.count = 6 := by rw [j3]
  have m3 : lm.run = 2 := by rw [j3]
  have m4 : lm.most = mostF (secF d' 1) 6 := by rw [j3]
  have m5 : lm.stream = recsB xs3 := by rw [j3]
  have m6 : lm.recs = rcsOf 2 0 xs3 := by rw [j3]
  have m7 : lm.dead = false := by rw [j3]
  clear j3
  have erc : l4.recs = lm.recs := by rw [S4.cr.rc, er, m6]
  have o12 := o10.below g11
  rw [erc] at o12 ⊢
  have hrl : lm.recs.length ≤ 1099511627776 := by
    have hq := hS.rs
    have hq2 := hS.s
    omega
  have g011 : Below w.heap.size w w11 := g10.trans (g11.mono g10.size)
  refine ⟨_, _, _, _, _, rfl, sel_t rfl (sel_t rfl ((o11.alike o12 hrl).mono ?_))⟩
  rintro _ w12 ⟨rfl, g12⟩
  have g012 : Below w.heap.size w w12 := g011.trans (g12.mono g011.size)
  have l12 := l11.below g12
  have h12 := h11.below g12
  have L12 := (L10.below g11).below g12
  refine ⟨_, rfl, sel_t rfl ((End_ok l12 hS).mono ?_)⟩
  rintro _ w12 ⟨rfl, rfl⟩
  refine ⟨_, rfl, (End_ok L12 S4.cr.lg).mono ?_⟩
  rintro _ w12 ⟨rfl, rfl⟩
  have eE : lm.run * 16777216 + lm.stream.length = l4.run * 16777216 + l4.stream.length := by rw [er, est, m3, m5]
  refine ⟨_, rfl, sel_t (by rw [eE]; exact beq_self_eq_true _) ?_⟩
  obtain ⟨c13, n13⟩ := n1.reset (l := lm) m7 (by rw [m4]; omega) (by rw [m1, n2, hsz4]; decide)
  have hS' := resetL_S hS d'
  refine (Reset_ok h12 l12 hS (by have := g11.size; have := g12.size; omega)).mono ?_
  rintro _ w13 ⟨rfl, h13, ⟨ρ'', eL, l13, nL⟩, k13⟩
  rw [c13]
  have e13 : (resetL d' lm).2.1 = freshL lm := by
    unfold resetL at c13 ⊢
    split at c13
    · cases c13
    rename_i x0
    split at c13
    · cases c13
    rename_i x1
    split at c13
    · rename_i x2; exact absurd c13 x2
    rename_i x2
    split at c13
    · rename_i x3; exact absurd c13 x3
    rename_i x3
    rw [if_neg x0, if_neg x1, if_neg x2, if_neg x3]
  rw [e13] at l13 hS'
  obtain ⟨lf, hlf⟩ : ∃ lf, freshL lm = lf := ⟨_, rfl⟩
  have f1 : lf.run = mostF (secF d' 1) 6 + 1 := by rw [← hlf, ← m4]; rfl
  have f2 : lf.stream.length = 0 := by rw [← hlf]; rfl
  rw [hlf] at l13 hS'
  refine ⟨_, rfl, sel_t rfl ?_⟩
  rw [← eL]
  refine (End_ok l13 hS').mono ?_
  rintro _ w13 ⟨rfl, rfl⟩
  refine ⟨_, rfl, ?_, ?_⟩
  · have e : ((lf.run * 16777216 + lf.stream.length : Nat) : Int) = (((mostF (secF d' 1) 6 + 1) * 16777216 : Nat) : Int) := by rw [f1, f2, Nat.add_zero]
    rw [e, w64_in (by omega)]
    have : ((ldRun full : Int) * 16777216) < (((mostF (secF d' 1) 6 + 1) * 16777216 : Nat) : Int) := by omega
    rw [decide_eq_true this]
  · refine g012.trans (k13.below g012.size fun k hk hN => ?_)
    rcases hN with q | q
    · have := (h12.lt k q).2; omega
    · have := (l12.lt k q).2; have := g10.size; omega
theorem WalNoise_row {A A1 : Option Addr} {c c1 : Nat} {Ls : List (List UInt8)} {u : List UInt8} {at_ : Int} (hr : RPr w A Ls) (hL : Ls.length ≤ 17592186044416) (hr1 : Go.Dn.RB w A1 u) (_ : A1 = none → c1 = 0) (_ : u.length ≤ c1) (hu : u.length ≤ 140737488355000) (_ : (Lit.int .i64 at_).wf = true) :
    Calls Tryd.prog 5 #[.slice A Ls.length c, .slice A1 u.length c1, .int .i64 at_] w fun e w' => e = .returned (.bool true) ∧ Below w.heap.size w w' := WalNoise_walk hr hL hr1 hu
end
end Go.Proofs.YtpokaafedpnbdaaDoor.Rd
