/- The statement WalDies, walked · A slice among the arguments, opened: its elements by a code of one's own · A row of rows of bytes among the arguments, opened · Contracts of the document's sums of layer 2: Seal, Open · The document's Parse and Alike; a sector with bytes from outside · The statement WalNoise, walked · slices.Backward over records: its iterator's contract, for every loop body · wal.Back · wal's laws: rows of records of the law's own, the log kept while they grow · The document's From · The statement WalBack, walked: records put in · The statement WalBack, walked: Back from the end, and all that follows · The statement WalBack, walked · A script of a log's calls: in memory, and among the arguments · The document's Later, and whether records begin so · The statement WalCrash: what holds between two calls; the calls one by one · The statement WalCrash: the calls one by one · The statement WalCrash: a plan, a crash · The statement WalCrash, walked -/
import Derived.Test.YtpokaafedpnbdaaDoorWxE
import Derived.Test.YtpokaafedpnbdaaDoorRdL4
import Derived.Test.YtpokaafedpnbdaaDoorRecR
import Derived.ChangeArms
import Derived.DataReads
import Derived.SizedLaws
import Derived.WalkKit
import Derived.ProofKit
import Derived.OpenShut
import Derived.Test.YtpokaafedpnbdaaDoorWxA
import Derived.Test.YtpokaafedpnbdaaDoorRdL5
import Derived.Test.YtpokaafedpnbdaaDoorWxC
import Derived.Test.YtpokaafedpnbdaaDoorWxB
import Derived.Test.YtpokaafedpnbdaaDoorWxD
import Derived.Test.YtpokaafedpnbdaaDoorRdQ
import Derived.Test.YtpokaafedpnbdaaDoorRdL6
import Derived.Test.YtpokaafedpnbdaaDoorAppR
import Derived.Test.YtpokaafedpnbdaaDoorRdL3
/-! The statement WalDies, walked. Conditions: rows of bytes below 2^46. -/
namespace Go.Proofs.YtpokaafedpnbdaaDoor.Rd
open Go.Dn Go.RowKit Go.Shelf
set_option linter.unusedVariables false
set_option linter.unusedSimpArgs false
set_option maxRecDepth 100000
/-! ### a disk with one fate -/
structure PL (d : Dk) (N k : Int) (s : Nat) : Prop where
  off : d.off = false
  pl : d.plan = [(N, k)]
  st : d.steps = s
  k1 : 1 ≤ k
  k3 : k ≤ 3
  sN : (s : Int) < N
  N0 : N ≤ 100000
theorem stepD_steps {d : Dk} {act : Dk → Dk} (ha : ∀ d, (act d).steps = d.steps) : (stepD d act).steps = wrap64 (d.steps + 1) := by
  unfold stepD
  simp only
  split
  · rfl
  split
  · rfl
  split
  · exact ha _
  · exact ha _
section
variable {d : Dk} {l : Lg} {xs : List (Int × List UInt8)} {N k : Int} {s : Nat}
theorem PL.step (h : PL d N k s) {act : Dk → Dk} (ha : ∀ d, (act d).off = d.off ∧ (act d).plan = d.plan ∧ (act d).steps = d.steps) :
    (stepC d = 0 → PL (stepD d act) N k (s + 1)) ∧ (stepC d ≠ 0 → (stepD d act).steps = N) := by
  have := h.sN
  have := h.N0
  have k1 := h.k1
  have k3 := h.k3
  have es : wrap64 (d.steps + 1) = ((s + 1 : Nat) : Int) := by rw [h.st, wrap64_in (by omega)]; omega
  have ef : fateOf (wrap64 (d.steps + 1)) d.plan = if N = ((s + 1 : Nat) : Int) then k else 0 := by
    rw [es, h.pl]
    show (if okF ((s + 1 : Nat) : Int) (N, k) then k else 0) = _
    by_cases e : N = ((s + 1 : Nat) : Int)
    · rw [if_pos (show okF ((s + 1 : Nat) : Int) (N, k) from ⟨e, k1, k3⟩), if_pos e]
    · rw [if_neg (fun q : okF ((s + 1 : Nat) : Int) (N, k) => e q.1), if_neg e]
  refine ⟨fun h0 => ?_, fun h0 => ?_⟩
  · rw [stepC_0 h0]
    obtain ⟨a1, a2, a3⟩ := ha { d with steps := wrap64 (d.steps + 1) }
    have hne : N ≠ ((s + 1 : Nat) : Int) := fun e => by
      rw [if_pos e] at ef
      unfold stepC at h0
      simp only [ef] at h0
      split at h0
      · cases h0
      split at h0
      · cases h0
      split at h0
      · cases h0
      · omega
    exact ⟨a1.trans h.off, a2.trans h.pl, a3.trans es, k1, k3, by omega, h.N0⟩
  · have e : N = ((s + 1 : Nat) : Int) := by
      apply Classical.byContradiction
      intro hn
      rw [if_neg hn] at ef
      exact h0 (by unfold stepC; simp only [ef]; rfl)
    rw [stepD_steps fun d => (ha d).2.2, es, e]
theorem PL.wr (h : PL d N k s) {i : Nat} {b : List UInt8} (hb : b.length = 512) (hi : i < d.safe.length) : (wcL d (i : Int) b = 0 → PL (wrL d (i : Int) b) N k (s + 1)) ∧ (wcL d (i : Int) b ≠ 0 → (wrL d (i : Int) b).steps = N) := by
  have hw : ¬ wrBad d (i : Int) (toI b) := by
    unfold wrBad
    rw [toI_len, hb]
    omega
  unfold wcL wrC wrL wrD
  rw [if_neg (by rw [h.off]; decide), if_neg hw, if_neg (by rw [h.off]; decide), if_neg hw]
  exact h.step fun d => ⟨rfl, rfl, rfl⟩
theorem PL.sy (h : PL d N k s) : (syC d = 0 → PL (syD d) N k (s + 1)) ∧ (syC d ≠ 0 → (syD d).steps = N) := by
  unfold syC syD
  rw [if_neg (by rw [h.off]; decide), if_neg (by rw [h.off]; decide)]
  exact h.step fun d => ⟨rfl, rfl, rfl⟩
theorem PL.flushGo (hfit : l.stream.length ≤ l.count * 498) : ∀ (j i : Nat) (d : Dk) (s : Nat), PL d N k s → l.first + l.count ≤ d.safe.length → ((flushGo l j i d).2 = 0 → ∃ s', PL (flushGo l j i d).1 N k s') ∧ ((flushGo l j i d).2 ≠ 0 → (flushGo l j i d).1.steps = N)
  | 0, i, d, s, h, hz => ⟨fun _ => ⟨s, h⟩, fun q => absurd rfl q⟩
  | j + 1, i, d, s, h, hz => by
    unfold Rd.flushGo
    split
    · rename_i hi
      obtain ⟨q1, q2⟩ := h.wr (i := l.first + i) (b := buildL l.run (secU l.stream i)) (buildL_len _ (secU_le _ _)) (by
        have : i < l.count := by
          apply Classical.byContradiction; intro hn
          have : l.count * 498 ≤ i * 498 := Nat.mul_le_mul_right _ (by omega)
          omega
        omega)
      split
      · rename_i hc
        exact ⟨fun q => absurd q hc, fun _ => q2 hc⟩
      · rename_i hc
        exact PL.flushGo hfit j (i + 1) _ _ (q1 (by simpa using hc)) (by rw [wr_size]; exact hz)
    · exact ⟨fun _ => ⟨s, h⟩, fun q => absurd rfl q⟩
theorem PL.flush (h : PL d N k s) (hl : l.dead = false) (hfit : l.stream.length ≤ l.count * 498) (hz : l.first + l.count ≤ d.safe.length) :
    ((flushL d l).2.2 = 0 → ∃ s', PL (flushL d l).1 N k s') ∧ ((flushL d l).2.2 ≠ 0 → (flushL d l).1.steps = N) := by
  unfold flushL
  rw [if_neg (by rw [hl]; decide)]
  split
  · exact ⟨fun _ => ⟨s, h⟩, fun q => absurd rfl q⟩
  obtain ⟨q1, q2⟩ := PL.flushGo (l := l) hfit 17 (l.safe / 498) d s h hz
  split
  · rename_i hc
    exact ⟨fun q => absurd q hc, fun _ => q2 hc⟩
  · rename_i hc
    obtain ⟨s', p'⟩ := q1 (by simpa using hc)
    obtain ⟨q3, q4⟩ := p'.sy
    split
    · rename_i hc2
      exact ⟨fun q => absurd q hc2, fun _ => q4 hc2⟩
    · rename_i hc2
      exact ⟨fun _ => ⟨_, q3 (by simpa using hc2)⟩, fun q => absurd rfl q⟩
end
theorem flushL_safe {d : Dk} {l : Lg} (h1 : l.dead = false) (h2 : l.safe = l.stream.length) : flushL d l = (d, l, 0) := by
  unfold flushL; rw [if_neg (by rw [h1]; decide), if_pos h2]
/-! ### rows of rows of bytes -/
def RPr (w : World) (A : Option Addr) (L : List (List UInt8)) : Prop :=
  ∀ i (h : i < L.length), ∃ a Ai ci, A = some a ∧ w.cell? (a.add i) = some (.slice Ai L[i].length ci) ∧ Go.Dn.RB w Ai L[i] ∧ L[i].length ≤ ci ∧ (Ai = none → ci = 0) ∧ L[i].length ≤ 140737488355000
theorem RPr.keeps {w w' : World} {A : Option Addr} {L : List (List UInt8)} (h : RPr w A L) (hb : Below w.heap.size w w') : RPr w' A L := fun i hi => by
  obtain ⟨a, Ai, ci, h1, h2, h3, h4, h5, h6⟩ := h i hi
  exact ⟨a, Ai, ci, h1, (hb.cell (World.block_lt_of_cell? _ _ h2)).trans h2, h3.below hb (Nat.le_refl _), h4, h5, h6⟩
section
variable {w w0 w' : World} {B : Nat} {r : RD} {d : Dk} {ρ : RL} {l : Lg} {xs : List (Int × List UInt8)} {N k : Int}
/-- what holds between two rounds -/
structure DieI (w : World) (B : Nat) (r : RD) (L : Nat) (N k : Int) (dead : Bool) : Prop where
  ex : ∃ ρ d l xs, ρ.L = L ∧ WS w B r ρ d l xs false ∧ l.dead = dead ∧ (dead = false → l.safe = l.stream.length ∧ ∃ s, PL d N k s)
theorem dies_j1 {A : Option Addr} {c : Nat} {u : List UInt8} {L : Nat} {step : Int} {dead : Bool} (h : DieI w B r L N k dead) (hN : N = 4 + step) (hst : 1 ≤ step ∧ step ≤ 1000) (hr : Go.Dn.RB w A u) (hu : u.length ≤ 140737488355000)
    {Kn Kr : Bool → World → Prop} (hK : ∀ dead' w', DieI w' B r L N k dead' → Below B w w' → Kn dead' w') :
    f_law09_WalDies.j1 step (some ⟨r.D, 0, none⟩) (some ⟨L, 0, none⟩) 4 dead A u.length c w Kn Kr := by
  obtain ⟨ρ, d, l, xs, eL, S, hd, hnd⟩ := h.ex
  subst eL
  have eN : IntKind.i64.wrap (4 + step) = N := by rw [w64_in (by omega)]; omega
  unfold f_law09_WalDies.j1
  rw [eN]
  refine (Steps_ok S.dm).mono ?_
  rintro _ _ ⟨rfl, rfl⟩
  refine ⟨_, rfl, (Copy_ok hr (by omega)).mono ?_⟩
  rintro _ w1 ⟨A1, c1, rfl, o1, g1⟩
  have S1 := S.below g1
  refine ⟨_, _, _, rfl, (S1.append (kind := 1) (u := u) o1.reads rfl o1.nil0 (fun a ha hN => ?_) hu).mono ?_⟩
  · have := (o1.block a ha).1; have := (S.lm.lt _ hN).1; omega
  rintro _ w2 ⟨ρ2, rfl, eL2, S2, n2, k2⟩
  have b1 : Below B _ w1 := g1.mono S.lo
  have b2 : Below B _ w2 := b1.trans (S1.bel k2)
  refine ⟨_, _, rfl, ?_⟩
  rw [← eL2]
  have fl := S2.cr.flush
  refine S2.flush.mono ?_
  rintro _ w3 ⟨rfl, S3, k3⟩
  have b3 : Below B _ w3 := b2.trans (S2.bel k3)
  refine ⟨_, rfl, ?_⟩
  have hl2 : (appendL l 1 u).1.dead = l.dead ∧ (l.dead = true → (appendL l 1 u).2.2 = 91) := by
    unfold appendL
    by_cases hdd : l.dead = true
    · rw [if_pos hdd]; exact ⟨rfl, fun _ => rfl⟩
    · rw [if_neg hdd]
      refine ⟨?_, fun q => absurd q hdd⟩
      split; · rfl
      split; · rfl
      split; · rfl
      split; · rfl
      rfl
  obtain ⟨hl2, hl91⟩ := hl2
  cases hdd : dead with
  | true =>
    have hld : l.dead = true := hd.trans hdd
    have h91 := hl91 hld
    have hf : flushL d (appendL l 1 u).1 = (d, (appendL l 1 u).1, 91) := by unfold flushL; rw [if_pos (hl2.trans hld)]
    rw [h91, hf]
    rw [hf] at S3
    refine sel_t rfl (sel_f rfl (sel_f rfl ((Steps_ok S3.dm).mono ?_)))
    rintro _ w3 ⟨rfl, rfl⟩
    refine ⟨_, rfl, sel_f (by simp) (sel_f rfl (sel_t rfl ((Steps_ok S3.dm).mono ?_)))⟩
    rintro _ w3 ⟨rfl, rfl⟩
    exact ⟨_, rfl, hK true _ ⟨_, _, _, _, eL2, S3, hl2.trans hld, fun q => by cases q⟩ b3⟩
  | false =>
    have hld : l.dead = false := hd.trans hdd
    obtain ⟨hsafe, s, P⟩ := hnd hdd
    obtain ⟨p1, p2⟩ := P.flush (l := (appendL l 1 u).1) (hl2.trans hld) S2.cr.fit S2.cr.sz
    have hsN := P.sN
    obtain ⟨_, t1, t2, t3, t4, t5, t6, t7, t8, t9⟩ := fl
    have hst4 := P.st
    refine sel_f rfl (sel_t rfl (sel_t (by rw [hst4]; simpa using hsN) ((Steps_ok S3.dm).mono ?_)))
    rintro _ w3 ⟨rfl, rfl⟩
    refine ⟨_, rfl, ?_⟩
    by_cases hc : (flushL d (appendL l 1 u).1).2.2 = 0
    · obtain ⟨s', P'⟩ := p1 hc
      have hs' := P'.sN
      obtain ⟨t10, t11, _⟩ := t8 hc
      have est : (flushL d (appendL l 1 u).1).1.steps < N := by rw [P'.st]; exact hs'
      refine sel_f (by rw [hc]; simp; omega) (sel_f rfl ((Steps_ok S3.dm).mono ?_))
      rintro _ w3 ⟨rfl, rfl⟩
      refine ⟨_, rfl, sel_t (by rw [hc]; rfl) (S3.flush.mono ?_)⟩
      have hf2 : flushL (flushL d (appendL l 1 u).1).1 (flushL d (appendL l 1 u).1).2.1 = ((flushL d (appendL l 1 u).1).1, (flushL d (appendL l 1 u).1).2.1, 0) := by
        exact flushL_safe t11 (by rw [t10, t1])
      rw [hf2]
      rintro _ w4 ⟨rfl, S4, k4⟩
      refine ⟨_, rfl, sel_f rfl ((Steps_ok S4.dm).mono ?_)⟩
      rintro _ w4 ⟨rfl, rfl⟩
      refine ⟨_, rfl, sel_f (by simp) ?_⟩
      have : ((flushL d (appendL l 1 u).1).2.2 != 0) = false := by rw [hc]; rfl
      rw [this]
      exact hK false _ ⟨_, _, _, _, eL2, S4, t11, fun _ => ⟨by rw [t10, t1], s', P'⟩⟩ (b3.trans (S3.bel k4))
    · have hcs := p2 hc
      obtain ⟨t10, _⟩ := t9 hc
      have hne : ((flushL d (appendL l 1 u).1).2.2 != 0) = true := by simpa using hc
      refine sel_f (by rw [hne, hcs]; simp) (sel_f rfl ((Steps_ok S3.dm).mono ?_))
      rintro _ w3 ⟨rfl, rfl⟩
      refine ⟨_, rfl, sel_f (by rw [hne]; rfl) ?_⟩
      rw [hne]
      exact hK true _ ⟨_, _, _, _, eL2, S3, t10, fun q => by cases q⟩ b3
theorem dies_l0 {A : Option Addr} {c : Nat} {L : List (List UInt8)} {Lb : Nat} {step : Int} (hN : N = 4 + step) (hst : 1 ≤ step ∧ step ≤ 1000) (hr : RPr w0 A L) (hL : L.length ≤ 17592186044416) (hB : w0.heap.size ≤ B) {K Kr : Bool → World → Prop}
    (hK : ∀ dead w', DieI w' B r Lb N k dead → Below w0.heap.size w0 w' → K dead w') :
    ∀ (m i : Nat) (dead : Bool) (w : World), m + i = L.length → DieI w B r Lb N k dead → Below w0.heap.size w0 w → f_law09_WalDies.l0 (m + 1) step (some ⟨r.D, 0, none⟩) (some ⟨Lb, 0, none⟩) 4 dead A L.length c (L.length : Int) (i : Int) w K Kr := by
  intro m
  induction m with
  | zero =>
    intro i dead w hi h hb
    unfold f_law09_WalDies.l0
    exact sel_f (by simp; omega) (hK dead w h hb)
  | succ m ih =>
    intro i dead w hi h hb
    have hlt : i < L.length := by omega
    obtain ⟨a, Ai, ci, rfl, hc, hrb, hle, hz, hlen⟩ := (hr.keeps hb) i hlt
    unfold f_law09_WalDies.l0
    refine sel_t (by simpa using hlt) (optB_some rfl (req_intro (by simp; omega) ?_))
    rw [Int.toNat_natCast, Nat.mul_one]
    refine ldS_intro hc ?_
    rw [show IntKind.i64.wrap ((i : Int) + 1) = ((i + 1 : Nat) : Int) by rw [w64_in (by omega)]; omega]
    by_cases h100 : 100 < L[i].length
    · refine sel_t (by simp; omega) (req_intro (by simp; omega) ?_)
      rw [slA_0, show 100 - 0 = (L[i].take 100).length by rw [List.length_take]; omega]
      exact dies_j1 h hN hst (hrb.take 100) (by rw [List.length_take]; omega) fun dead' w' h' b' _ => ih (i + 1) dead' w' (by omega) h' (hb.trans (b'.mono hB))
    · exact sel_f (by simp; omega) (dies_j1 h hN hst hrb hlen fun dead' w' h' b' _ => ih (i + 1) dead' w' (by omega) h' (hb.trans (b'.mono hB)))
theorem WalDies_walk {A : Option Addr} {c : Nat} {L : List (List UInt8)} {step kind : Int} (hr : RPr w A L) (hL : L.length ≤ 17592186044416) :
    Calls Tryd.prog 4 #[.slice A L.length c, .int .i64 step, .int .i64 kind] w fun e w' => e = .returned (.bool true) ∧ Below w.heap.size w w' := by
  apply f_law09_WalDies.ok
  unfold f_law09_WalDies.wp
  refine (alive_ok w).mono ?_
  rintro _ w1 ⟨rfl, g1⟩
  refine ⟨_, rfl, sel_f rfl ((made_ok (count := 6) (by decide) (by decide)).mono ?_)⟩
  rintro _ w2 ⟨r, ρ, d, rfl, S, np, hst, hsz, g2⟩
  have g2' : Below w.heap.size w w2 := g1.trans (g2.mono g1.size)
  refine ⟨_, _, rfl, sel_f rfl (sel_f rfl ?_)⟩
  by_cases h1 : kind < 1
  · exact sel_t (by simpa using h1) ⟨rfl, g2'⟩
  refine sel_f (by simpa using h1) ?_
  by_cases h2 : 3 < kind
  · exact sel_t (by simpa using h2) ⟨rfl, g2'⟩
  refine sel_f (by simpa using h2) ?_
  by_cases h3 : step < 1
  · exact sel_t (by simpa using h3) ⟨rfl, g2'⟩
  refine sel_f (by simpa using h3) ?_
  by_cases h4 : 1000 < step
  · exact sel_t (by simpa using h4) ⟨rfl, g2'⟩
  refine sel_f (by simpa using h4) ((Steps_ok S.dm).mono ?_)
  rintro _ w2 ⟨rfl, rfl⟩
  rw [hst]
  refine ⟨_, rfl, al_new fun w3 b e3 s3 q3 g3 => ?_⟩
  rw [w64_in (x := 4 + step) (by omega)] at q3
  have S3 := S.below g3
  have row : RowE eF 2 w3 (some ⟨b, 0, none⟩) [((4 + step, kind) : Ft)] := fun i hi => by
    have : i = 0 := by simpa using hi
    subst this
    refine ⟨_, rfl, fun j hj => ?_⟩
    rw [Nat.zero_mul, Go.Dn.add_zero, HB.cell q3]
    match j, hj with
    | 0, _ => rfl
    | 1, _ => rfl
  refine (Plan_ok S3.dm row (n := 1) rfl (fun h => by cases h) (show 1 * 16 ≤ 140737488355328 by decide) S3.lo).mono ?_
  rintro _ w4 ⟨rfl, P, pc, h4', k4, n4⟩
  have hFD : ∀ {kk}, FD { r with P := P, pc := pc } kk → kk < w3.heap.size → FD r kk := fun {kk} hk hlt => by
    rcases hk with e | e | e | e
    · exact .inl e
    · exact .inr (.inl e)
    · exact .inr (.inr (.inl e))
    · have := n4 kk e; omega
  have L4 : LM w4 w1.heap.size { r with P := P, pc := pc } ρ (mkL 6) := by
    have kF : Keeps (FD r) w3 w4 := k4.mono fun _ _ e => .inl e
    have h0 := S3.lm.disk S3.dm kF
    obtain ⟨ms, m1, m2⟩ := h0.rc
    refine ⟨h0.hb, h0.lo, h0.st, ms, m1, ?_⟩
    obtain ⟨ms3, m31, m32⟩ := S3.lm.rc
    have e0 : ms = [] := List.length_eq_zero_iff.1 m2.1
    subst e0
    exact RsM.nil
  have C4 : Cr { d with plan := [((4 + step, kind) : Ft)] } (mkL 6) [] false := by
    have := S3.cr
    exact ⟨⟨this.bd.s, this.bd.p⟩, this.sz, this.lg, this.st, this.rc, this.ok, this.r1, this.rm, this.fit, this.sec, this.sf, this.dd, this.od⟩
  have g4 : Below w.heap.size w w4 := (g2'.trans (g3.mono g2'.size)).trans (k4.below (by have := g2'.size; have := g3.size; omega) fun kk hk e => by have := (S3.dm.lt _ (.inl e)).2; have := g1.size; omega)
  have D4 : DieI w4 w1.heap.size { r with P := P, pc := pc } ρ.L (4 + step) kind false := ⟨ρ, _, _, [], rfl, ⟨h4', L4, C4⟩, rfl, fun _ => ⟨rfl, 4, np.1, rfl, hst, by omega, by omega, by show (4 : Int) < _; omega, by omega⟩⟩
  refine ⟨rfl, L.length + 1, dies_l0 (w0 := w) (r := { r with P := P, pc := pc }) (N := 4 + step) (k := kind) rfl ⟨by omega, by omega⟩ hr hL g1.size (fun dead w5 h5 g5 _ => ?_) L.length 0 false w4 rfl D4 g4⟩
  cases dead with
  | false => exact sel_t rfl ⟨rfl, g5⟩
  | true =>
    obtain ⟨ρ5, d5, l5, xs5, eL, S5, hd5, _⟩ := h5.ex
    refine sel_f rfl ((Steps_ok S5.dm).mono ?_)
    rintro _ w5 ⟨rfl, rfl⟩
    rw [← eL]
    refine ⟨_, rfl, (Reset_ok S5.dm S5.lm S5.cr.lg S5.lo).mono ?_⟩
    have er : resetL d5 l5 = (d5, l5, 91) := by unfold resetL; rw [if_pos hd5]
    rw [er]
    rintro _ w6 ⟨rfl, h6, _, k6⟩
    refine ⟨_, rfl, sel_t rfl ((Steps_ok h6).mono ?_)⟩
    rintro _ w6 ⟨rfl, rfl⟩
    refine ⟨_, rfl, by simp, g5.trans (k6.below g5.size fun kk hk hN => by have := (S5.wn kk hN).2; have := g1.size; omega)⟩
end
end Go.Proofs.YtpokaafedpnbdaaDoor.Rd

/-! A slice among the arguments, opened: its elements by a code of one's own. Conditions: none. -/
namespace Go.Dn
open Go.RowKit
set_option linter.unusedVariables false
theorem list_of {α : Type} {P : Nat → α → Prop} : ∀ {n : Nat}, (∀ i, i < n → ∃ x, P i x) → ∃ l : List α, l.length = n ∧ ∀ i (h : i < l.length), P i l[i]
  | 0, _ => ⟨[], rfl, fun i h => absurd h (Nat.not_lt_zero _)⟩
  | n + 1, key => by
    obtain ⟨l, hl, h⟩ := list_of (n := n) fun i hi => key i (by omega)
    obtain ⟨x, hx⟩ := key n (by omega)
    refine ⟨l ++ [x], by simp [hl], fun i hi => ?_⟩
    by_cases hn : i < l.length
    · rw [List.getElem_append_left hn]; exact h i hn
    · have : i = n := by rw [List.length_append] at hi; simp at hi; omega
      subst this
      rw [List.getElem_append_right (by omega)]
      simp only [hl, Nat.sub_self, List.getElem_cons_zero]
      exact hx
section
variable {H : Type} {enc : TypeId × Value → H} {P : Program} {w : World} {base : Nat} {spare : Nat → Bool} {held : Bool} {fuel : Nat} {t : TypeId}
theorem one_of' {n : Nat} {t : TypeId} {cs : List Value} {j : Nat} {x : DataW H × List MemPlace} (hj : j < cs.length) (h : DataW.trod enc P w base spare held n t ((cs.drop j).take 1) = some x) : DataW.trod enc P w base spare held n t [cs[j]] = some x := by
  rw [List.drop_eq_getElem_cons hj, List.take_succ_cons, List.take_zero] at h
  exact h
theorem wt_in {e : TypeId} {d : DataW H} {v : Nat} : ∀ {l : List (DataW H)}, d ∈ l → v ∈ d.weights P e → v ∈ DataW.weightsAll P e l
  | [], h, _ => by cases h
  | y :: l, h, hv => by
    unfold DataW.weightsAll
    rcases List.mem_cons.1 h with rfl | h
    · exact List.mem_append_left _ hv
    · exact List.mem_append_right _ (wt_in h hv)
theorem open_gen {α : Type} {enc' : α → List Value} {k by_ : Nat} (E : Enc enc' k) {r : TypeId} (ht : P.underlying t = some (.slice r)) (hc : P.cellsOf r = k) (hby : P.bytesOf r = by_) {Q : α → DataW H → Prop}
    (hq : ∀ n cs y, cs.length = k → DataW.trod enc P w base spare held n r cs = some y → ∃ x : α, cs = enc' x ∧ Q x y.1) {A : Option Addr} {len cap : Nat} {x : DataW H × List MemPlace} (h : DataW.trod enc P w base spare held fuel t [.slice A len cap] = some x) :
    ∃ l : List α, l.length = len ∧ RowE enc' k w A l ∧ (A = none → cap = 0 ∧ l.length = 0) ∧ (l ≠ [] → ∀ a, A = some a → a.block < w.heap.size) ∧ l.length ≤ cap ∧
      ((x.1 = .nil ∧ l = []) ∨ ∃ el rs, x.1 = .slice el rs ∧ el.length = l.length ∧ ∀ i (hi : i < l.length), ∃ d, el[i]? = some d ∧ Q l[i] d) ∧ ((∀ v ∈ x.1.weights P t, v ≤ reachBytes) → l.length * by_ ≤ 140737488351232) := by
  rcases DataW.trod_slice ht h with ⟨h0, hx⟩ | ⟨a, len', cap', elems, rest, n, _, h1, hx, hbs, hl, hm, hlen, hel, hsp, hns⟩
  · injection h0 with h0; injection h0 with h0 h1 h2; subst h0; subst h1; subst h2
    exact ⟨[], rfl, RowE.nil _ _ _ _, fun _ => ⟨rfl, rfl⟩, by simp, by simp, .inl ⟨by rw [hx], rfl⟩, by simp⟩
  · injection h1 with h1; injection h1 with h0 h1 h2; subst h0; subst h1; subst h2
    have key : ∀ i, i < len → ∃ z : α, (∀ j, j < k → w.cell? ((a.add (i * k)).add j) = (enc' z)[j]?) ∧ ∃ d, (elems.map (·.1))[i]? = some d ∧ Q z d := by
      intro i hi
      have h2 := hel i hi
      rw [List.getElem?_eq_getElem (by omega), Option.bind_eq_some_iff] at h2
      obtain ⟨cs, hcs, hy⟩ := h2
      obtain ⟨_, hl3, hcell⟩ := World.cells?_some hcs
      rw [hc] at hcell hl3
      obtain ⟨z, e, q⟩ := hq _ _ _ hl3 hy
      refine ⟨z, fun j hj => ?_, _, ?_, q⟩
      · have := hcell j hj
        rw [← e]
        exact this
      · rw [List.getElem?_map, List.getElem?_eq_getElem (by omega)]; rfl
    obtain ⟨l, el, hP⟩ := list_of key
    refine ⟨l, el, fun i hi => ⟨a, rfl, (hP i hi).1⟩, (fun e => by cases e), fun hne a' ha => ?_, by omega, .inr ⟨elems.map (·.1), rest.map (·.1), by rw [hx], by simp [hlen, el], fun i hi => (hP i hi).2⟩, fun hw => ?_⟩
    · injection ha with ha; subst ha
      have h0 : 0 < l.length := List.length_pos_iff.2 hne
      have h1 := (hP 0 h0).1 0 E.pos
      obtain ⟨u, h2⟩ : ∃ u, (enc' (l[0]'h0))[0]? = some u := ⟨_, List.getElem?_eq_getElem (by rw [E.len]; exact E.pos)⟩
      have := World.block_lt_of_cell? w _ (h1.trans h2)
      rw [add_block, add_block] at this; exact this
    · rw [hx] at hw
      have := hw ((elems.map (·.1)).length * by_ + (rest.map (·.1)).length * by_) (by
        simp only [DataW.weights, ht, hby]
        rw [← Nat.add_mul]; exact List.mem_cons_self)
      unfold reachBytes at this
      simp only [List.length_map] at this
      rw [el, ← hlen]
      omega
/-- rows of numbers of one kind -/
theorem open_num {κ : IntKind} {by_ : Nat} {r : TypeId} (ht : P.underlying t = some (.slice r)) (hr : P.underlying r = some (.int κ)) (hc : P.cellsOf r = 1) (hby : P.bytesOf r = by_) {A : Option Addr} {len cap : Nat} {x : DataW H × List MemPlace} (h : DataW.trod enc P w base spare held fuel t [.slice A len cap] = some x) :
    ∃ l : List Int, l.length = len ∧ RowE (fun z => [.int κ z]) 1 w A l ∧ (A = none → cap = 0 ∧ l.length = 0) ∧ (l ≠ [] → ∀ a, A = some a → a.block < w.heap.size) ∧ l.length ≤ cap ∧ ((∀ v ∈ x.1.weights P t, v ≤ reachBytes) → l.length * by_ ≤ 140737488351232) := by
  obtain ⟨l, h1, h2, h3, h4, h5, _, h7⟩ := open_gen (enc' := fun z : Int => [.int κ z]) (k := 1) ⟨fun _ => rfl, fun x u hu => by simp only [List.mem_singleton] at hu; subst hu; rfl, by decide⟩ ht hc hby (Q := fun _ _ => True) (fun n cs y hl hy => by
    obtain ⟨u, rfl⟩ : ∃ u, cs = [u] := by match cs, hl with | [u], _ => exact ⟨_, rfl⟩
    obtain ⟨z, e, _⟩ := DataW.trod_int hr hy
    injection e with e
    exact ⟨z, by rw [show u = _ from e], trivial⟩) h
  exact ⟨l, h1, h2, h3, h4, h5, h7⟩
end
end Go.Dn

/-! A row of rows of bytes among the arguments, opened. Conditions: none. -/
namespace Go.Proofs.YtpokaafedpnbdaaDoor.Rd
open Go.Dn Go.RowKit Go.Shelf Go.ChangeShapes Go.WideShapes Go.ChangeAt
set_option linter.unusedVariables false
set_option linter.unusedSimpArgs false
set_option maxRecDepth 100000
section
variable {H : Type} {enc : TypeId × Value → H} {w : World} {base : Nat} {held : Bool} {fuel : Nat}
theorem open_u8 {A : Option Addr} {len cap : Nat} {x : DataW H × List MemPlace} (h : DataW.trod enc Tryd.prog w base (fun _ => true) held fuel 29 [.slice A len cap] = some x) :
    ∃ l : List UInt8, l.length = len ∧ Go.Dn.RB w A l ∧ (A = none → cap = 0) ∧ l.length ≤ cap ∧ ((∀ v ∈ x.1.weights Tryd.prog 29, v ≤ reachBytes) → l.length * 1 ≤ 140737488351232) := by
  obtain ⟨l0, h1, _, _, _, _, h6⟩ := open_num (κ := .u8) (by_ := 1) (r := 5) (by kernel_rfl) (by kernel_rfl) (by kernel_rfl) (by kernel_rfl) h
  have hI : ∃ zs, IsRow .u8 w A len cap zs := by
    rcases open_ints (P := Tryd.prog) (t := 29) (e := 5) (by kernel_rfl) (by kernel_rfl) (by kernel_rfl) h with ⟨hcs, _⟩ | ⟨x, l, c, zs, hcs, _, hl, hm, hz, _, hcell, hwz⟩
    · simp [Value.cells] at hcs
      obtain ⟨rfl, rfl, rfl⟩ := hcs
      exact ⟨[], .inl ⟨rfl, rfl, rfl, rfl⟩⟩
    · simp [Value.cells] at hcs
      obtain ⟨rfl, rfl, rfl⟩ := hcs
      exact ⟨zs, .inr ⟨_, rfl, hl, hm, by simpa using hz, hcell, hwz⟩⟩
  obtain ⟨zs, hI⟩ := hI
  obtain ⟨l, r1, r2, r3, r4⟩ := rb_of_row hI
  exact ⟨l, r2.symm, r1, r3, r4, fun hw => by have := h6 hw; omega⟩
/-- a slice as it lies -/
def slE (x : Option Addr × Nat × Nat) : List Value := [.slice x.1 x.2.1 x.2.2]
theorem SlE : Enc slE 1 := ⟨fun _ => rfl, fun x u hu => by simp only [slE, List.mem_singleton] at hu; subst hu; rfl, by decide⟩
def OkB (w : World) (x : Option Addr × Nat × Nat) (l : List UInt8) : Prop := l.length = x.2.1 ∧ Go.Dn.RB w x.1 l ∧ (x.1 = none → x.2.2 = 0) ∧ l.length ≤ x.2.2 ∧ l.length ≤ 140737488355000
theorem open_bss {A : Option Addr} {len cap : Nat} {x : DataW H × List MemPlace} (h : DataW.trod enc Tryd.prog w base (fun _ => true) held fuel 49 [.slice A len cap] = some x) (hcap : ∀ v ∈ x.1.weights Tryd.prog 49, v ≤ reachBytes) :
    ∃ L : List (List UInt8), L.length = len ∧ RPr w A L ∧ L.length ≤ 17592186044416 := by
  have hT : Tryd.prog.underlying 49 = some (.slice 29) := by kernel_rfl
  obtain ⟨l, h1, h2, h3, h4, h5, h6, h7⟩ := open_gen (enc' := slE) (k := 1) (by_ := 24) (r := 29) SlE hT (by kernel_rfl) (by kernel_rfl)
    (Q := fun o d => (∀ v ∈ d.weights Tryd.prog 29, v ≤ reachBytes) → ∃ u, OkB w o u) (fun n cs y hl hy => by
    obtain ⟨q, rfl⟩ : ∃ q, cs = [q] := by match cs, hl with | [q], _ => exact ⟨_, rfl⟩
    obtain ⟨A2, len2, cap2, e2⟩ : ∃ A l c, q = .slice A l c := by
      rcases DataW.trod_slice (P := Tryd.prog) (t := 29) (e := 5) (by kernel_rfl) hy with ⟨q, _⟩ | ⟨a', l', c', _, _, _, _, q, _⟩
      · injection q with q; exact ⟨_, _, _, q⟩
      · injection q with q; exact ⟨_, _, _, q⟩
    subst e2
    obtain ⟨u, p1, p2, p3, p4, p5⟩ := open_u8 hy
    exact ⟨(A2, len2, cap2), rfl, fun hw => ⟨u, p1, p2, p3, p4, by have := p5 hw; omega⟩⟩) h
  have key : ∀ i, i < len → ∃ u : List UInt8, ∃ a Ai ci, A = some a ∧ w.cell? (a.add i) = some (.slice Ai u.length ci) ∧ Go.Dn.RB w Ai u ∧ u.length ≤ ci ∧ (Ai = none → ci = 0) ∧ u.length ≤ 140737488355000 := by
    intro i hi
    rw [← h1] at hi
    obtain ⟨a, ha, hc⟩ := h2 i hi
    have hc := hc 0 (by decide)
    rw [Nat.mul_one, Go.Dn.add_zero] at hc
    rcases h6 with ⟨_, h6⟩ | ⟨el, rs, hx, hel, h6⟩
    · subst h6; cases hi
    · obtain ⟨d, hd, hq⟩ := h6 i hi
      obtain ⟨u, u1, u2, u3, u4, u5⟩ := hq fun v hv => hcap v (by
        rw [hx]
        simp only [DataW.weights, hT]
        exact List.mem_cons_of_mem _ (List.mem_append_left _ (wt_in (List.mem_of_getElem? hd) hv)))
      exact ⟨u, a, l[i].1, l[i].2.2, ha, by rw [hc, u1]; rfl, u2, u4, u3, u5⟩
  obtain ⟨L, e, hP⟩ := list_of key
  exact ⟨L, e, fun i hi => hP i hi, by have := h7 hcap; omega⟩
end
theorem WalDies_row {w : World} {A0 : Option Addr} {c0 : Nat} {L : List (List UInt8)} {step kind : Int} (h0 : RPr w A0 L) (s0 : L.length ≤ 17592186044416) (_ : (Lit.int .i64 step).wf = true) (_ : (Lit.int .i64 kind).wf = true) :
    Calls Tryd.prog 4 #[.slice A0 L.length c0, .int .i64 step, .int .i64 kind] w fun e w' => e = .returned (.bool true) ∧ Below w.heap.size w w' := WalDies_walk h0 (by omega)
end Go.Proofs.YtpokaafedpnbdaaDoor.Rd

/-! Contracts of the document's sums of layer 2: Seal, Open. Conditions: lengths at most 2^46. -/
namespace Go.Proofs.YtpokaafedpnbdaaDoor.Rd
open Go.Dn Go.RowKit
set_option linter.unusedVariables false
set_option linter.unusedSimpArgs false
theorem RSeal_l0 {n : Nat} (hn32 : n < 4294967296) {B : Nat} {w0 : World} {K : Option Addr → Nat → Nat → World → Prop} (hK : ∀ A' c' w', OwnB w' B 5 A' c' (le4 n) → Below B w0 w' → B ≤ w'.heap.size → K A' 4 c' w') :
    ∀ (m k i : Nat) (A3 : Option Addr) (c3 : Nat) (w : World), 4 - i = m → i ≤ 4 → m < k → OwnB w B 5 A3 c3 ((le4 n).take i) → Below B w0 w → B ≤ w.heap.size →
      f_ref02_Seal.l0 k A3 i c3 ((n / 256 ^ i : Nat) : Int) (i : Int) w K := by
  intro m
  induction m with
  | zero =>
    intro k i A3 c3 w hm hi hk ho hb hBw
    obtain ⟨k, rfl⟩ : ∃ j, k = j + 1 := ⟨k - 1, by omega⟩
    simp only [f_ref02_Seal.l0]
    refine sel_f (by simp; omega) ?_
    obtain rfl : i = 4 := by omega
    exact hK _ _ _ ho hb hBw
  | succ m ih =>
    intro k i A3 c3 w hm hi hk ho hb hBw
    obtain ⟨k, rfl⟩ : ∃ j, k = j + 1 := ⟨k - 1, by omega⟩
    have hlt : i < (le4 n).length := by rw [le4_length]; omega
    simp only [f_ref02_Seal.l0]
    refine sel_t (by simp; omega) ?_
    have hx : (le4 n)[i] = UInt8.ofNat (n / 256 ^ i) := by
      rw [le4_length] at hlt
      match i, hlt with
      | 0, _ => simp [le4]
      | 1, _ => rfl
      | 2, _ => rfl
      | 3, _ => rfl
    have ew : IntKind.u8.wrap (((n / 256 ^ i : Nat) : Int).tmod 256) = ((le4 n)[i].toNat : Int) := by
      rw [hx, Int.tmod_eq_emod_of_nonneg (Int.natCast_nonneg _), u8w, UInt8.toNat_ofNat']; omega
    rw [ew]
    refine alW_intro ?_
    have h1 : Go.Dn.RB (w.alloc (.cells #[.int .u8 ((le4 n)[i].toNat : Int)] 5)) (some ⟨w.heap.size, 0, none⟩) [(le4 n)[i]] :=
      (OwnB.lit (B := B) [(le4 n)[i]] rfl hBw (by simp)).reads
    have ho1 := ho.keep ((Below.refl w.heap.size w).alloc (Nat.le_refl _) (.cells #[.int .u8 ((le4 n)[i].toNat : Int)] 5))
    have htl : ((le4 n).take i).length = i := by rw [List.length_take, le4_length]; omega
    refine app_runs TBy ho1 htl.symm h1 rfl (fun h => by cases h) (by simp; omega) (by rw [htl]; simp; omega) ?_
    intro A' c' w' ho' hb' _ _
    refine ⟨_, _, _, rfl, ?_⟩
    rw [w64_in (by omega), show (i : Int) + 1 = ((i + 1 : Nat) : Int) by omega]
    have e : (le4 n).take i ++ [(le4 n)[i]] = (le4 n).take (i + 1) := by rw [List.take_succ_eq_append_getElem hlt]
    rw [e] at ho' ⊢
    have e2 : ((le4 n).take (i + 1)).length = i + 1 := by rw [List.length_take, le4_length]; omega
    have e3 : IntKind.u32.wrap (((n / 256 ^ i : Nat) : Int).tdiv 256) = ((n / 256 ^ (i + 1) : Nat) : Int) := by
      have h1 : n / 256 ^ i / 256 = n / 256 ^ (i + 1) := by rw [Nat.div_div_eq_div_mul, Nat.pow_succ]
      have h2 : n / 256 ^ i ≤ n := Nat.div_le_self _ _
      rw [← h1, Int.tdiv_eq_ediv_of_nonneg (Int.natCast_nonneg _), u32w]
      generalize n / 256 ^ i = q at *
      omega
    rw [e2, e3]
    refine ih k (i + 1) A' c' w' (by omega) (by omega) (by omega) ho' ?_ ?_
    · exact (hb.alloc hBw _).trans hb'
    · have := hb'.size; simp at this; omega
theorem RSeal_ok {w : World} {A : Option Addr} {n c : Nat} {l : List UInt8} (hr : Go.Dn.RB w A l) (hn : n = l.length) (hlen : l.length ≤ 140737488355000) :
    Calls Tryd.prog 69 #[.slice A n c] w fun e w' => ∃ A' c', e = .returned (.slice A' (sealL l).length c') ∧ OwnB w' w.heap.size 5 A' c' (sealL l) ∧ Below w.heap.size w w' := by
  subst hn
  apply f_ref02_Seal.ok
  unfold f_ref02_Seal.wp
  refine alW_intro ?_
  have hb0 := (Below.refl w.heap.size w).alloc (Nat.le_refl _) (.cells #[] 5)
  have h0 := OwnB.lit (w := w) (B := w.heap.size) (e := 5) [] (cs := #[]) rfl (Nat.le_refl _) (by simp)
  refine (RSum_ok (hr.below hb0 (Nat.le_refl _)) (by omega)).mono ?_
  rintro e w1 ⟨rfl, rfl⟩
  refine ⟨_, rfl, 5, ?_⟩
  have := RSeal_l0 (n := crcSum l) (crcSum_lt l) (B := w.heap.size) (w0 := w) (K := fun A11 n11 c11 w12 => ∀ _ : Fr, Calls Tryd.prog 72 #[.slice A11 n11 c11, .slice A l.length c] w12 fun e13 w14 => ∃ (A15 : Option Addr) (n15 : Nat) (c15 : Nat), e13 = .returned (.slice A15 n15 c15) ∧
    (∃ A' c', Ending.returned (.slice A15 n15 c15) = .returned (.slice A' (sealL l).length c') ∧ OwnB w14 w.heap.size 5 A' c' (sealL l) ∧ Below w.heap.size w w14)) ?_ 4 5 0 _ _ _ (by omega) (by omega) (by omega) h0 hb0 (by simp)
  · simpa using this
  intro A2 c2 w2 ho2 hb2 hB2 _
  refine (Cat_ok ho2.reads (hr.below hb2 (Nat.le_refl _)) rfl rfl (by rw [le4_length]; omega)).mono ?_
  rintro e w3 ⟨A3, c3, rfl, ho3, hb3⟩
  exact ⟨_, _, _, rfl, A3, c3, rfl, ho3.mono hb2.size, hb2.trans (hb3.mono hb2.size)⟩
theorem openL_sealed {l : List UInt8} (h : 4 ≤ l.length) : (sealL (l.drop 4) = l) = (l.take 4 = le4 (crcSum (l.drop 4))) := by
  obtain ⟨a, b, c, d, r, rfl⟩ := four h
  unfold sealL
  simp only [List.drop_succ_cons, List.drop_zero, List.take_succ_cons, List.take_zero]
  rw [show a :: b :: c :: d :: r = [a, b, c, d] ++ r from rfl]
  simp only [List.append_cancel_right_eq]
  exact propext ⟨Eq.symm, Eq.symm⟩
theorem ROpen_ok {w : World} {A : Option Addr} {n c : Nat} {l : List UInt8} (hr : Go.Dn.RB w A l) (hn : n = l.length) (hlen : l.length ≤ 140737488355000) :
    Calls Tryd.prog 45 #[.slice A n c] w fun e w' => ∃ A' c', e = .returned (.tuple #[.slice A' (openL l).1.length c', .bool (openL l).2]) ∧ OwnB w' w.heap.size 5 A' c' (openL l).1 ∧ Below w.heap.size w w' := by
  subst hn
  apply f_ref02_Open.ok
  unfold f_ref02_Open.wp
  by_cases h4 : 4 ≤ l.length
  · refine sel_f (by simp; omega) ?_
    refine (Piece_ok (p := 4) (q := l.length) hr rfl (by omega) (Nat.le_refl _) h4).mono ?_
    rintro e w1 ⟨A1, c1, rfl, ho1, hb1⟩
    rw [List.take_length] at ho1 ⊢
    refine ⟨_, _, _, rfl, ?_⟩
    refine (RSeal_ok ho1.reads rfl (by rw [List.length_drop]; omega)).mono ?_
    rintro e w2 ⟨A2, c2, rfl, ho2, hb2⟩
    refine ⟨_, _, _, rfl, ?_⟩
    have hb12 := hb1.trans (hb2.mono hb1.size)
    refine (Same_ok ho2.reads (hr.below hb12 (Nat.le_refl _)) rfl rfl (by unfold sealL; rw [List.length_append, le4_length, List.length_drop]; omega)).mono ?_
    rintro e w3 ⟨rfl, hb3⟩
    have hb13 := hb12.trans (hb3.mono hb12.size)
    refine ⟨_, rfl, ?_⟩
    unfold openL
    rw [if_pos h4]
    by_cases he : l.take 4 = le4 (crcSum (l.drop 4))
    · rw [if_pos he]
      have : sealL (l.drop 4) = l := by rw [openL_sealed h4]; exact he
      refine sel_f (by simp [this]) ⟨A1, c1, rfl, (ho1.keep (hb2.trans (hb3.mono hb2.size))), hb13⟩
    · rw [if_neg he]
      have : ¬ sealL (l.drop 4) = l := by rw [openL_sealed h4]; exact he
      exact sel_t (by simp [this]) ⟨none, 0, rfl, World.ownsRow_nil _ _ _ _, hb13⟩
  · refine sel_t (by simp; omega) ⟨none, 0, ?_, ?_, Below.refl _ _⟩
    · unfold openL; rw [if_neg h4]; rfl
    · unfold openL; rw [if_neg h4]; exact World.ownsRow_nil _ _ _ _

end Go.Proofs.YtpokaafedpnbdaaDoor.Rd

/-! The document's Parse and Alike; a sector with bytes from outside. Conditions: none. -/
namespace Go.Proofs.YtpokaafedpnbdaaDoor.Rd
open Go.Dn Go.RowKit Go.Shelf
set_option linter.unusedVariables false
set_option linter.unusedSimpArgs false
set_option maxRecDepth 100000
section
variable {w w' : World} {N N2 S : Nat → Prop} {B : Nat}
theorem Parse_l0 {A : Option Addr} {c : Nat} {d : List UInt8} (hr : Go.Dn.RB w A d) (hd : 8 ≤ d.length) {K : Int → World → Prop} : ∀ (m : Nat) (P : List UInt8), P.length + m = 8 → K (valS (P ++ (d.take m).reverse) : Int) w → f_ref09_Parse.l0 (m + 1) A d.length c (valS P : Int) ((m : Int) - 1) w K := by
  intro m
  induction m with
  | zero =>
    intro P hP hK
    unfold f_ref09_Parse.l0
    refine sel_f (by simp) ?_
    simpa using hK
  | succ m ih =>
    intro P hP hK
    have hlt : m < d.length := by omega
    obtain ⟨a, rfl, hc⟩ := hr m hlt
    unfold f_ref09_Parse.l0
    have e1 : ((m + 1 : Nat) : Int) - 1 = (m : Int) := by omega
    rw [e1]
    refine sel_t (by simp) (optB_some rfl (req_intro (by simp; omega) ?_))
    rw [Int.toNat_natCast, Nat.mul_one]
    refine ldI_intro (x := (d[m].toNat : Int)) hc ?_
    have hb := d[m].toNat_lt
    have hv : valS (P ++ [d[m]]) < 18446744073709551616 := by
      have h1 := valS_lt (P ++ [d[m]])
      have h2 : 256 ^ (P ++ [d[m]]).length ≤ 256 ^ 8 := Nat.pow_le_pow_right (by decide) (by rw [List.length_append, List.length_singleton]; omega)
      have h3 : (256 : Nat) ^ 8 = 18446744073709551616 := by decide
      omega
    have hs := valS_snoc P d[m]
    have ew : IntKind.u64.wrap (IntKind.u64.wrap ((valS P : Int) * 256) + IntKind.u64.wrap (d[m].toNat : Int)) = (valS (P ++ [d[m]]) : Int) := by
      rw [hs, u64w, u64w, u64w]
      omega
    rw [ew, w64_in (by omega)]
    refine ih (P ++ [d[m]]) (by rw [List.length_append, List.length_singleton]; omega) ?_
    have e2 : (d.take (m + 1)).reverse = d[m] :: (d.take m).reverse := by
      rw [List.take_succ_eq_append_getElem hlt, List.reverse_append]; rfl
    rw [e2] at hK
    rw [List.append_assoc]
    exact hK
theorem Parse_l1 {A : Option Addr} {c : Nat} {d : List UInt8} (hr : Go.Dn.RB w A d) (hd : d.length ≤ 1000) {K : World → Prop} {Kr : Int → Option Addr → Nat → Nat → World → Prop} : ∀ (m i : Nat), m + i = d.length →
    ((d.drop i).all (· == 0) = true → K w) → ((d.drop i).all (· == 0) = false → Kr 0 none 0 0 w) → f_ref09_Parse.l1 (m + 1) A d.length c (i : Int) w K Kr := by
  intro m
  induction m with
  | zero =>
    intro i hi hK hKr
    unfold f_ref09_Parse.l1
    refine sel_f (by simp; omega) (hK ?_)
    rw [List.drop_eq_nil_of_le (by omega)]; rfl
  | succ m ih =>
    intro i hi hK hKr
    have hlt : i < d.length := by omega
    obtain ⟨a, rfl, hc⟩ := hr i hlt
    unfold f_ref09_Parse.l1
    refine sel_t (by simp; omega) (optB_some rfl (req_intro (by simp; omega) ?_))
    rw [Int.toNat_natCast, Nat.mul_one]
    refine ldI_intro (x := (d[i].toNat : Int)) hc ?_
    rw [List.drop_eq_getElem_cons hlt, List.all_cons] at hK hKr
    by_cases h0 : d[i] = 0
    · have e : (d[i] == 0) = true := by simpa using h0
      rw [e, Bool.true_and] at hK hKr
      refine sel_f (by rw [h0]; rfl) ?_
      rw [show IntKind.i64.wrap ((i : Int) + 1) = ((i + 1 : Nat) : Int) by rw [w64_in (by omega)]; omega]
      exact ih (i + 1) (by omega) hK hKr
    · have e : (d[i] == 0) = false := by simpa using h0
      rw [e, Bool.false_and] at hKr
      refine sel_t (by simp; intro h; exact h0 (UInt8.toNat.inj (by simpa using h))) (hKr rfl)
theorem RParse_ok {A : Option Addr} {n c : Nat} {l : List UInt8} (hr : Go.Dn.RB w A l) (hn : n = l.length) (hl : l.length = 512) :
    Calls Tryd.prog 22 #[.slice A n c] w fun e w' => ∃ A' n' c', e = .returned (.tuple #[.int .i64 (ldRun l : Int), .slice A' n' c']) ∧ Below w.heap.size w w' := by
  subst hn
  apply f_ref09_Parse.ok
  unfold f_ref09_Parse.wp
  refine (ROpen_ok hr rfl (by omega)).mono ?_
  rintro _ w1 ⟨A1, c1, rfl, o1, g1⟩
  refine ⟨_, _, _, _, rfl, ?_⟩
  cases ho : (openL l).2 with
  | false =>
    have e : ldRun l = 0 := by unfold ldRun parseL; rw [ho]; rfl
    rw [e]
    exact sel_t rfl ⟨none, 0, 0, rfl, g1⟩
  | true =>
    obtain ⟨e1, _⟩ := openL_t ho
    have hdl : (openL l).1.length = 508 := by rw [e1, List.length_drop]; omega
    obtain ⟨d, hd⟩ : ∃ d, (openL l).1 = d := ⟨_, rfl⟩
    rw [hd] at o1 hdl e1 ⊢
    have hp : parseL l = restP (valS ((d.take 8).reverse)) d := by unfold parseL; rw [if_pos ho, e1]
    have rb := o1.reads
    refine sel_f rfl ⟨9, ?_⟩
    refine Parse_l0 rb (by omega) 8 [] rfl ?_
    intro _
    rw [List.nil_append]
    obtain ⟨U, hU⟩ : ∃ U, valS ((d.take 8).reverse) = U := ⟨_, rfl⟩
    rw [hU] at hp ⊢
    have g2 : Below w1.heap.size w1 w1.drew := (Below.refl _ _).drew
    have g02 : Below w.heap.size w w1.drew := g1.trans (g2.mono g1.size)
    have rb2 := rb.below g2 (Nat.le_refl _)
    obtain ⟨a, rfl, c8⟩ := rb2 8 (by omega)
    obtain ⟨a', ea, c9⟩ := rb2 9 (by omega)
    injection ea with ea; subst ea
    refine drW_intro (optB_some rfl (req_intro (by simp; omega) (ldI_intro (x := (d[8].toNat : Int)) c8 (optB_some rfl (req_intro (by simp; omega) (ldI_intro (x := (d[9].toNat : Int)) c9 ?_))))))
    have h8 := d[8].toNat_lt
    have h9 := d[9].toNat_lt
    have eL : lenP d = d[8].toNat + 256 * d[9].toNat := by unfold lenP; rw [bAt_get (by omega), bAt_get (by omega)]
    have en : IntKind.i64.wrap (IntKind.i64.wrap (d[8].toNat : Int) + IntKind.i64.wrap ((256 : Int) * IntKind.i64.wrap (d[9].toNat : Int))) = ((lenP d : Nat) : Int) := by
      rw [w64_in (x := (d[8].toNat : Int)) (by omega), w64_in (x := (d[9].toNat : Int)) (by omega), w64_in (x := (256 : Int) * (d[9].toNat : Int)) (by omega), w64_in (by omega), eL]
      omega
    rw [en]
    have bad : (U < 1 ∨ 274877906944 < U ∨ 498 < lenP d) → ldRun l = 0 := fun h => by
      unfold ldRun
      rw [hp]
      unfold restP
      rw [if_pos h]; rfl
    by_cases b1 : U < 1
    · rw [bad (.inl b1)]; exact sel_t (by simp; omega) ⟨none, 0, 0, rfl, g02⟩
    refine sel_f (by simp; omega) ?_
    by_cases b2 : 274877906944 < U
    · rw [bad (.inr (.inl b2))]; exact sel_t (by simp; omega) ⟨none, 0, 0, rfl, g02⟩
    refine sel_f (by simp; omega) ?_
    by_cases b3 : 498 < lenP d
    · rw [bad (.inr (.inr b3))]; exact sel_t (by simp; omega) ⟨none, 0, 0, rfl, g02⟩
    have hr0 : restP U d = (U, (d.drop 10).take (lenP d), (d.drop (10 + lenP d)).all (· == 0)) := by unfold restP; rw [if_neg (by omega)]
    have e10 : IntKind.i64.wrap ((10 : Int) + ((lenP d : Nat) : Int)) = ((10 + lenP d : Nat) : Int) := by rw [w64_in (by omega)]; omega
    rw [e10]
    refine sel_f (by simp; omega) ⟨508 - (10 + lenP d) + 1, Parse_l1 rb2 (by omega) (508 - (10 + lenP d)) (10 + lenP d) (by omega) (fun hz _ => ?_) (fun hz _ => ?_)⟩
    · refine (Piece_ok (p := 10) (q := 10 + lenP d) rb2 rfl (by omega) (by omega) (by omega)).mono ?_
      rintro _ w3 ⟨A3, c3, rfl, o3, g3⟩
      have e : ldRun l = U := by unfold ldRun; rw [hp, hr0]; simp only; rw [hz]; rfl
      rw [e, w64_in (by omega)]
      exact ⟨_, _, _, rfl, _, _, _, rfl, g02.trans (g3.mono g02.size)⟩
    · have e : ldRun l = 0 := by unfold ldRun; rw [hp, hr0]; simp only; rw [hz]; rfl
      rw [e]
      exact ⟨_, _, _, rfl, g02⟩
/-! ### the same records -/
/-- a record of memory reads as this one -/
structure RcV (w : World) (m : MR) (r : Rc) : Prop where
  l : m.lsn = r.lsn
  k : m.kind = r.kind
  n : m.n = r.body.length
  b : r.body.length ≤ 1200
  rb : Go.Dn.RB w m.A r.body
def RsV (w : World) (ms : List MR) (rs : List Rc) : Prop := ms.length = rs.length ∧ ∀ i (h : i < ms.length) (h' : i < rs.length), RcV w ms[i] rs[i]
theorem RsM.v {ms : List MR} {rs : List Rc} (h : RsM w N ms rs) : RsV w ms rs := ⟨h.1, fun i h1 h2 => let q := h.2 i h1 h2; ⟨q.l, q.k, q.n, q.b, q.rb⟩⟩
theorem RcV.below {m : MR} {r : Rc} (h : RcV w m r) (k : Below w.heap.size w w') : RcV w' m r := ⟨h.l, h.k, h.n, h.b, h.rb.below k (Nat.le_refl _)⟩
theorem Alike_l0 {w0 : World} {A A2 : Option Addr} {c c2 : Nat} {ms ms2 : List MR} {rs : List Rc} (r1 : RowE eR 3 w0 A ms) (r2 : RowE eR 3 w0 A2 ms2) (m1 : RsV w0 ms rs) (m2 : RsV w0 ms2 rs) (hl : rs.length ≤ 1099511627776) {K : World → Prop} {Kr : Bool → World → Prop} (hK : ∀ w', Below w0.heap.size w0 w' → K w') :
    ∀ (m i : Nat) (w : World), m + i = rs.length → Below w0.heap.size w0 w → f_ref09_Alike.l0 (m + 1) A rs.length c A2 rs.length c2 (i : Int) w K Kr := by
  intro m
  induction m with
  | zero =>
    intro i w hi hb
    unfold f_ref09_Alike.l0
    exact sel_f (by simp; omega) (hK w hb)
  | succ m ih =>
    intro i w hi hb
    have hlt : i < rs.length := by omega
    have h1 : i < ms.length := by rw [m1.1]; exact hlt
    have h2 : i < ms2.length := by rw [m2.1]; exact hlt
    have gd := hb.drew
    have row1 := r1.keeps ER (S := fun _ => False) (.of_below gd) fun _ _ => id
    have row2 := r2.keeps ER (S := fun _ => False) (.of_below gd) fun _ _ => id
    obtain ⟨a, rfl, _⟩ := row1 i h1
    obtain ⟨a2, rfl, _⟩ := row2 i h2
    have p0 := row1.c0 ER h1
    have p1 := row1.cj h1 (j := 1) (by decide)
    have p2 := row1.cj h1 (j := 2) (by decide)
    have q0 := row2.c0 ER h2
    have q1 := row2.cj h2 (j := 1) (by decide)
    have q2 := row2.cj h2 (j := 2) (by decide)
    have x1 := (m1.2 i h1 hlt).below gd
    have x2 := (m2.2 i h2 hlt).below gd
    unfold f_ref09_Alike.l0
    refine sel_t (by simpa using hlt) (drW_intro (optB_some rfl (req_intro (by simp; omega) ?_)))
    rw [Int.toNat_natCast]
    refine ldI_intro (x := ms[i].lsn) p0 (optB_some rfl (req_intro (by simp; omega) (ldI_intro (x := ms2[i].lsn) q0 ?_)))
    refine sel_f (by rw [x1.l, x2.l]; simp) (optB_some rfl (req_intro (by simp; omega) (ldI_intro (x := ms[i].kind) p1 ?_)))
    refine optB_some rfl (req_intro (by simp; omega) (ldI_intro (x := ms2[i].kind) q1 ?_))
    refine sel_f (by rw [x1.k, x2.k]; simp) (optB_some rfl (req_intro (by simp; omega) (ldS_intro (A := ms[i].A) (n := ms[i].n) (c := ms[i].c) p2 ?_)))
    refine optB_some rfl (req_intro (by simp; omega) (ldS_intro (A := ms2[i].A) (n := ms2[i].n) (c := ms2[i].c) q2 ?_))
    refine (Same_ok x1.rb x2.rb x1.n x2.n (by have := x1.b; omega)).mono ?_
    rintro _ w1 ⟨rfl, g1⟩
    refine ⟨_, rfl, sel_f (by simp) ?_⟩
    rw [show IntKind.i64.wrap ((i : Int) + 1) = ((i + 1 : Nat) : Int) by rw [w64_in (by omega)]; omega]
    exact ih (i + 1) w1 (by omega) (gd.trans (g1.mono gd.size))
theorem Alike_eq {A A2 : Option Addr} {c c2 : Nat} {ms ms2 : List MR} {rs : List Rc} (r1 : RowE eR 3 w A ms) (r2 : RowE eR 3 w A2 ms2) (m1 : RsV w ms rs) (m2 : RsV w ms2 rs) (hl : rs.length ≤ 1099511627776) :
    Calls Tryd.prog 25 #[.slice A rs.length c, .slice A2 rs.length c2] w fun e w' => e = .returned (.bool true) ∧ Below w.heap.size w w' := by
  apply f_ref09_Alike.ok
  unfold f_ref09_Alike.wp
  exact sel_f (by simp) ⟨rs.length + 1, Alike_l0 r1 r2 m1 m2 hl (fun w' g _ => ⟨rfl, g⟩) rs.length 0 w rfl (Below.refl _ _)⟩
theorem RsO.keepsO {A : Option Addr} {c : Nat} {rs : List Rc} (h : RsO w B A c rs) (k : Keeps S w w') (hS : ∀ k, S k → k < B) : RsO w' B A c rs := by
  obtain ⟨ms, h1, h2⟩ := h
  exact ⟨ms, h1.keeps k fun a ha hs => by have := (h1.block a ha).1; have := hS _ hs; omega, h2.keeps k fun k hk => .inl (hS k hk)⟩
theorem RsO.alike {A A2 : Option Addr} {c c2 B2 : Nat} {rs : List Rc} (h : RsO w B A c rs) (h2 : RsO w B2 A2 c2 rs) (hl : rs.length ≤ 1099511627776) :
    Calls Tryd.prog 25 #[.slice A rs.length c, .slice A2 rs.length c2] w fun e w' => e = .returned (.bool true) ∧ Below w.heap.size w w' := by
  obtain ⟨ms, p1, p2⟩ := h
  obtain ⟨ms2, q1, q2⟩ := h2
  exact Alike_eq (p1.reads ER) (q1.reads ER) p2.v q2.v hl
end
theorem ixL_0 {rs : List Rc} (h : ∀ r ∈ rs, 0 ≤ r.lsn) : fromL 0 rs = rs := by
  cases rs with
  | nil => rfl
  | cons r rs =>
    unfold fromL ixL
    rw [if_neg (by have := h r List.mem_cons_self; omega)]
    rfl
theorem rcsOf_ge (run : Nat) : ∀ (xs : List (Int × List UInt8)) (a : Nat), ∀ r ∈ rcsOf run a xs, 0 ≤ r.lsn
  | [], a, r, h => by cases h
  | x :: xs, a, r, h => by
    rw [rcsOf] at h
    rcases List.mem_cons.1 h with rfl | h
    · show 0 ≤ ((_ : Nat) : Int); omega
    · exact rcsOf_ge run xs _ r h
/-! ### bytes from outside -/
theorem unI_secOf' {b : List UInt8} (h : b.length ≤ 512) : unI (secOf (toI b)).1 = b ++ List.replicate (512 - b.length) 0 := by
  unfold secOf
  simp only
  rw [List.take_of_length_le (by rw [List.length_append, List.length_replicate, toI_len]; omega), toI_len]
  unfold unI
  rw [List.map_append, List.map_replicate]
  have := unI_toI b
  unfold unI at this
  rw [this]; rfl
theorem noise_wr {d : Dk} (h : NP d) {i : Nat} {b : List UInt8} (hb : b.length ≤ 512) (hi : i < d.safe.length) :
    NP (wrL d (i : Int) b) ∧ (wrL d (i : Int) b).safe.length = d.safe.length ∧ ∀ j : Nat, hB (wrL d (i : Int) b) (j : Int) = if i = j then b ++ List.replicate (512 - b.length) 0 else hB d (j : Int) := by
  have hw : ¬ wrBad d (i : Int) (toI b) := by
    unfold wrBad
    rw [toI_len]
    omega
  obtain ⟨q1, q2⟩ := h.step (act := putD (i : Int) (toI b)) fun d hd => hd
  refine ⟨?_, wr_size _ _, fun j => ?_⟩
  · unfold wrL wrD
    rw [if_neg (by rw [h.1]; decide), if_neg hw]
    exact q2
  · unfold wrL wrD
    rw [if_neg (by rw [h.1]; decide), if_neg hw, stepC_0 q1]
    unfold hB putD
    rw [hasS_put]
    have : ((i : Int) = (j : Int)) = (i = j) := propext (by omega)
    simp only [this]
    split
    · exact unI_secOf' hb
    · rfl
theorem noise_bd {d : Dk} (h : BD d) (i : Int) (b : List UInt8) : BD (wrL d i b) := by
  have put : ∀ d : Dk, BD d → BD (putD i (toI b) d) := fun d h => by
    refine ⟨h.s, fun p hp => ?_⟩
    have hs : bySec (secOf (toI b)) := by
      intro x hx
      unfold secOf at hx
      simp only at hx
      have := List.mem_of_mem_take hx
      rw [List.mem_append] at this
      rcases this with q | q
      · exact toI_by b x q
      · have := List.eq_of_mem_replicate q; omega
    have hp' : p ∈ putK d.pend i (secOf (toI b)) := hp
    unfold putK at hp'
    split at hp'
    · obtain ⟨q, hq, rfl⟩ := List.mem_map.1 hp'
      split
      · exact hs
      · exact h.p q hq
    · rcases List.mem_append.1 hp' with q | q
      · exact h.p p q
      · rw [List.mem_singleton] at q; subst q; exact hs
  unfold wrL wrD
  split
  · exact h
  split
  · exact h
  · exact h.step put
end Go.Proofs.YtpokaafedpnbdaaDoor.Rd

/-! The statement WalNoise, walked. Conditions: rows of bytes below 2^46. -/
namespace Go.Proofs.YtpokaafedpnbdaaDoor.Rd
open Go.Dn Go.RowKit Go.Shelf
set_option linter.unusedVariables false
set_option linter.unusedSimpArgs false
set_option maxRecDepth 100000
theorem appendL_f (l : Lg) (kind : Int) (u : List UInt8) : (appendL l kind u).1.first = l.first ∧ (appendL l kind u).1.count = l.count ∧ (appendL l kind u).1.run = l.run ∧ (appendL l kind u).1.most = l.most ∧ (appendL l kind u).1.dead = l.dead ∧ (appendL l kind u).1.old = l.old ∧ (appendL l kind u).1.safe = l.safe := by
  unfold appendL
  split; · exact ⟨rfl, rfl, rfl, rfl, rfl, rfl, rfl⟩
  split; · exact ⟨rfl, rfl, rfl, rfl, rfl, rfl, rfl⟩
  split; · exact ⟨rfl, rfl, rfl, rfl, rfl, rfl, rfl⟩
  split; · exact ⟨rfl, rfl, rfl, rfl, rfl, rfl, rfl⟩
  split; · exact ⟨rfl, rfl, rfl, rfl, rfl, rfl, rfl⟩
  exact ⟨rfl, rfl, rfl, rfl, rfl, rfl, rfl⟩
theorem flushGo_size (l : Lg) : ∀ (k i : Nat) (d : Dk), (flushGo l k i d).1.safe.length = d.safe.length
  | 0, i, d => rfl
  | k + 1, i, d => by
    unfold flushGo
    split
    · split
      · exact wr_size _ _
      · exact (flushGo_size l k (i + 1) _).trans (wr_size _ _)
    · rfl
theorem flushL_size (l : Lg) (d : Dk) : (flushL d l).1.safe.length = d.safe.length := by
  unfold flushL
  split; · rfl
  split; · rfl
  split; · exact flushGo_size l _ _ _
  split; · exact sy_size.trans (flushGo_size l _ _ _)
  exact sy_size.trans (flushGo_size l _ _ _)
section
variable {w w0 w' : World} {B : Nat} {r : RD} {d : Dk} {ρ : RL} {l : Lg} {xs : List (Int × List UInt8)}
/-- a log that takes records: what abides while records are put in -/
structure LvI (w : World) (B : Nat) (r : RD) (L : Nat) (d : Dk) (count run most : Nat) : Prop where
  ex : ∃ ρ l xs, ρ.L = L ∧ WS w B r ρ d l xs false ∧ l.first = 1 ∧ l.count = count ∧ l.run = run ∧ l.most = most ∧ l.dead = false ∧ l.old = false
theorem LvI.put {count run most : Nat} {L : Nat} (h : LvI w B r L d count run most) {kind : Int} {A : Option Addr} {c : Nat} {u : List UInt8} (hr : Go.Dn.RB w A u) (hu : u.length ≤ 140737488355000) {K : Ending → World → Prop}
    (hK : ∀ x e w', LvI w' B r L d count run most → Below B w w' → K (.returned (.tuple #[.int .i64 x, .int .i64 e])) w') :
    Calls Tryd.prog 11 #[.slice A u.length c] w fun e9 w10 => ∃ (A11 : Option Addr) (n11 : Nat) (c11 : Nat), e9 = .returned (.slice A11 n11 c11) ∧ (
      Calls Tryd.prog 10 #[.pointer (some ⟨L, 0, none⟩), .int .i64 kind, .slice A11 n11 c11] w10 K) := by
  obtain ⟨ρ, l, xs, rfl, S, e1, e2, e3, e4, e5, e6⟩ := h.ex
  refine (Copy_ok hr (by omega)).mono ?_
  rintro _ w1 ⟨A1, c1, rfl, o1, g1⟩
  have S1 := S.below g1
  refine ⟨_, _, _, rfl, (S1.append (kind := kind) (u := u) o1.reads rfl o1.nil0 (fun a ha hN => ?_) hu).mono ?_⟩
  · have := (o1.block a ha).1; have := (S.lm.lt _ hN).1; omega
  rintro _ w2 ⟨ρ2, rfl, eL2, S2, n2, k2⟩
  obtain ⟨f1, f2, f3, f4, f5, f6, f7⟩ := appendL_f l kind u
  exact hK _ _ _ ⟨ρ2, _, _, eL2, S2, f1.trans e1, f2.trans e2, f3.trans e3, f4.trans e4, f5.trans e5, f6.trans e6⟩ ((g1.mono S.lo).trans (S1.bel k2))
theorem noise_l0 {A : Option Addr} {c : Nat} {Ls : List (List UInt8)} {Lb run most count : Nat} (hr : RPr w0 A Ls) (hL : Ls.length ≤ 17592186044416) (hB : w0.heap.size ≤ B) {K : World → Prop}
    (hK : ∀ w', LvI w' B r Lb d count run most → Below w0.heap.size w0 w' → K w') :
    ∀ (m i : Nat) (w : World), m + i = Ls.length → LvI w B r Lb d count run most → Below w0.heap.size w0 w → f_law09_WalNoise.l0 (m + 1) (some ⟨Lb, 0, none⟩) A Ls.length c (Ls.length : Int) (i : Int) w K := by
  intro m
  induction m with
  | zero =>
    intro i w hi h hb
    unfold f_law09_WalNoise.l0
    exact sel_f (by simp; omega) (hK w h hb)
  | succ m ih =>
    intro i w hi h hb
    have hlt : i < Ls.length := by omega
    obtain ⟨a, Ai, ci, rfl, hc, hrb, hle, hz, hlen⟩ := (hr.keeps hb) i hlt
    unfold f_law09_WalNoise.l0
    refine sel_t (by simpa using hlt) (optB_some rfl (req_intro (by simp; omega) ?_))
    rw [Int.toNat_natCast, Nat.mul_one]
    refine ldS_intro hc ?_
    rw [show IntKind.i64.wrap ((i : Int) + 1) = ((i + 1 : Nat) : Int) by rw [w64_in (by omega)]; omega]
    exact h.put hrb hlen fun x e w' h' b' => ⟨_, _, rfl, ih (i + 1) w' (by omega) h' (hb.trans (b'.mono hB))⟩
theorem noise_l1 {B0 : Nat} {w0 : World} {u0 : List UInt8} {K : Option Addr → Nat → Nat → World → Prop} (hK : ∀ A' c' w', OwnB w' B0 TU8 A' c' u0 → Below B0 w0 w' → B0 ≤ w'.heap.size → K A' 512 c' w') :
    ∀ (m : Nat) (u : List UInt8) (A : Option Addr) (c : Nat) (w : World), u.length + m = 512 → u ++ List.replicate m 0 = u0 → OwnB w B0 TU8 A c u → Below B0 w0 w → B0 ≤ w.heap.size → f_law09_WalNoise.l1 (m + 1) A u.length c w K := by
  intro m
  induction m with
  | zero =>
    intro u A c w hm hu ho hb hBw
    unfold f_law09_WalNoise.l1
    rw [List.replicate_zero, List.append_nil] at hu
    subst hu
    have := hK A c w ho hb hBw
    rw [← show u.length = 512 by omega] at this
    exact sel_f (by simp; omega) this
  | succ m ih =>
    intro u A c w hm hu ho hb hBw
    unfold f_law09_WalNoise.l1
    refine sel_t (by simp; omega) (app_one (b := 0) ho rfl hBw (by omega) fun A' c' w' ho' hb' hB' => ⟨_, _, _, rfl, ?_⟩)
    have := ih (u ++ [0]) A' c' w' (by rw [List.length_append, List.length_singleton]; omega) (by rw [List.append_assoc]; exact hu) ho' (hb.trans hb') hB'
    rw [List.length_append, List.length_singleton] at this
    exact this
theorem WalNoise_walk {A A1 : Option Addr} {c c1 : Nat} {Ls : List (List UInt8)} {u : List UInt8} {at_ : Int} (hr : RPr w A Ls) (hL : Ls.length ≤ 17592186044416) (hr1 : Go.Dn.RB w A1 u) (hu : u.length ≤ 140737488355000) :
    Calls Tryd.prog 5 #[.slice A Ls.length c, .slice A1 u.length c1, .int .i64 at_] w fun e w' => e = .returned (.bool true) ∧ Below w.heap.size w w' := by
  apply f_law09_WalNoise.ok
  unfold f_law09_WalNoise.wp
  refine (alive_ok w).mono ?_
  rintro _ w1 ⟨rfl, g1⟩
  refine ⟨_, rfl, sel_f rfl ((made_ok (count := 6) (by decide) (by decide)).mono ?_)⟩
  rintro _ w2 ⟨r, ρ, d, rfl, S, np, hst, hsz, g2⟩
  have g2' : Below w.heap.size w w2 := g1.trans (g2.mono g1.size)
  have hB1 := g1.size
  refine ⟨_, _, rfl, sel_f rfl (sel_f rfl ⟨Ls.length + 1, noise_l0 (w0 := w) hr hL g1.size (fun w3 h3 g3 _ => ?_) Ls.length 0 w2 rfl ⟨ρ, _, _, rfl, S, rfl, rfl, rfl, rfl, rfl, rfl⟩ g2'⟩)⟩
  obtain ⟨ρ3, l3, xs3, eL3, S3, a1, a2, a3, a4, a5, a6⟩ := h3.ex
  rw [← eL3]
  have fl := S3.cr.flush
  obtain ⟨fc, fn⟩ := np.flush (l := l3) a5 S3.cr.fit S3.cr.sz
  obtain ⟨C4, t1, t2, t3, t4, t5, t6, t7, t8, _⟩ := fl
  obtain ⟨t9, t10, _⟩ := t8 fc
  refine S3.flush.mono ?_
  rintro _ w4 ⟨rfl, S4, k4⟩
  rw [fc]
  obtain ⟨d4, hd4⟩ : ∃ d4, (flushL d l3).1 = d4 := ⟨_, rfl⟩
  obtain ⟨l4, hl4⟩ : ∃ l4, (flushL d l3).2.1 = l4 := ⟨_, rfl⟩
  rw [hd4, hl4] at S4 C4
  rw [hd4] at fn
  rw [hl4] at t1 t2 t3 t4 t5 t6 t7 t9 t10
  have g4 : Below w.heap.size w w4 := g3.trans ((S3.bel k4).mono hB1)
  refine ⟨_, rfl, sel_f rfl ((Records_wal S4.dm S4.lm S4.cr.lg (T := 0)).mono ?_)⟩
  rintro _ w5 ⟨A5, c5, rfl, o5, g5⟩
  have e5 : fromL 0 l4.recs = l4.recs := ixL_0 (by rw [S4.cr.rc]; exact rcsOf_ge _ _ _)
  rw [e5] at o5 ⊢
  have S5 := S4.below g5
  refine ⟨_, _, _, rfl, (Room_ok S5.lm S5.cr.lg).mono ?_⟩
  rintro _ w6 ⟨rfl, g6⟩
  have S6 := S5.below g6
  have o6 := o5.below g6
  have g06 : Below w.heap.size w w6 := (g4.trans (g5.mono g4.size)).trans (g6.mono (by have := g4.size; have := g5.size; omega))
  have ec : l4.count = 6 := t7.trans a2
  have ef : l4.first = 1 := t6.trans a1
  have er : l4.run = 2 := t3.trans a3
  have em : l4.most = 2 := t4.trans a4
  have hfit := S6.cr.fit
  rw [ec] at hfit ⊢
  refine ⟨_, rfl, ?_⟩
  by_cases q1 : at_ < 1
  · exact sel_t (by simpa using q1) ⟨rfl, g06⟩
  refine sel_f (by simpa using q1) ?_
  by_cases q2 : 6 < at_
  · exact sel_t (by simpa using q2) ⟨rfl, g06⟩
  refine sel_f (by simpa using q2) ?_
  have ew : (IntKind.i64.wrap ((IntKind.i64.wrap ((6 : Int) - (IntKind.i64.wrap ((IntKind.i64.wrap ((((6 : Nat) : Int) * 498 - (l4.stream.length : Int)) + (497 : Int))).tdiv (498 : Int))))) + (1 : Int))) = 7 - (((2988 - l4.stream.length + 497) / 498 : Nat) : Int) := by
    rw [w64_in (x := ((6 : Nat) : Int) * 498 - (l4.stream.length : Int) + 497) (by omega), Int.tdiv_eq_ediv_of_nonneg (by omega), w64_in (x := (((6 : Nat) : Int) * 498 - (l4.stream.length : Int) + 497) / 498) (by omega), w64_in (x := 6 - (((6 : Nat) : Int) * 498 - (l4.stream.length : Int) + 497) / 498) (by omega), w64_in (by omega)]
    omega
  rw [ew]
  by_cases q3 : at_ ≤ 7 - (((2988 - l4.stream.length + 497) / 498 : Nat) : Int)
  · exact sel_t (by simpa using q3) ⟨rfl, g06⟩
  refine sel_f (by simpa using q3) ?_
  by_cases q4 : 512 < u.length
  · exact sel_t (by simp; omega) ⟨rfl, g06⟩
  refine sel_f (by simp; omega) ?_
  obtain ⟨i, hi⟩ : ∃ i : Nat, at_ = ((1 + i : Nat) : Int) := ⟨(at_ - 1).toNat, by omega⟩
  have hi6 : i < 6 := by omega
  have hi0 : i ≠ 0 := by omega
  have hil : l4.stream.length ≤ i * 498 := by omega
  subst hi
  have hr6 := hr1.below g06 (Nat.le_refl _)
  refine (Copy_ok hr6 (by omega)).mono ?_
  rintro _ w7 ⟨A7, c7, rfl, o7, g7⟩
  have S7 := S6.below g7
  obtain ⟨full, hfull⟩ : ∃ full, u ++ List.replicate (512 - u.length) 0 = full := ⟨_, rfl⟩
  have hflen : full.length = 512 := by rw [← hfull, List.length_append, List.length_replicate]; omega
  refine ⟨_, _, _, rfl, 512 - u.length + 1, noise_l1 (w0 := w6) (B0 := w6.heap.size) (u0 := full) (fun A8 c8 w8 o8 b8 hb8 _ => ?_) (512 - u.length) u A7 c7 w7 (by omega) hfull o7 g7 g7.size⟩
  have S8 := S6.below b8
  refine (RParse_ok o8.reads hflen.symm hflen).mono ?_
  rintro _ w9 ⟨A9, n9, c9, rfl, g9⟩
  have g69 : Below w6.heap.size w6 w9 := b8.trans (g9.mono hb8)
  have S9 := S6.below g69
  have o9 := o6.below g69
  have g09 : Below w.heap.size w w9 := g06.trans (g69.mono g06.size)
  refine ⟨_, _, _, _, rfl, (End_ok S9.lm S9.cr.lg).mono ?_⟩
  rintro _ w9 ⟨rfl, rfl⟩
  refine ⟨_, rfl, ?_⟩
  have hss := S9.cr.lg.s
  have ed : IntKind.i64.wrap ((((l4.run * 16777216 + l4.stream.length : Nat) : Int)).tdiv 16777216) = 2 := by
    rw [er, Int.tdiv_eq_ediv_of_nonneg (by omega), w64_in (by omega)]
    omega
  rw [ed]
  by_cases q5 : ldRun full = 2
  · exact sel_t (by rw [q5]; rfl) ⟨rfl, g09⟩
  refine sel_f (by simp; omega) ?_
  by_cases q6 : 137438953472 < ldRun full
  · exact sel_t (by simp; omega) ⟨rfl, g09⟩
  refine sel_f (by simp; omega) ?_
  have hr9 := hr1.below g09 (Nat.le_refl _)
  have hbl : u ≠ [] → ∀ a, A1 = some a → ¬ FD r a.block := fun hne a ha hF => by
    obtain ⟨a', ha', hc'⟩ := hr1 0 (List.length_pos_iff.2 hne)
    rw [ha] at ha'; injection ha' with ha'; subst ha'
    have := World.block_lt_of_cell? w _ hc'
    rw [add_block] at this
    have := (S9.dm.lt _ hF).2
    omega
  have hsz4 : d4.safe.length = 10 := by rw [← hd4, flushL_size]; exact hsz
  obtain ⟨n1, n2, n3⟩ := noise_wr fn (i := 1 + i) (b := u) (by omega) (by rw [hsz4]; omega)
  refine (Write_ok' S9.dm (i := ((1 + i : Nat) : Int)) (toI_len u).symm (rbI hr9) fun hne => hbl fun e => hne (by rw [e]; rfl)).mono ?_
  rintro _ w10 ⟨rfl, h10, k10⟩
  have L10 := S9.lm.disk S9.dm k10
  have o10 := o9.keepsO k10 fun k hk => (S4.dm.lt k hk).1
  have g10 : Below w.heap.size w w10 := g09.trans (k10.below g09.size fun k hk hF => by have := (S9.dm.lt k hF).2; omega)
  obtain ⟨d', hd'⟩ : ∃ d', wrL d4 ((1 + i : Nat) : Int) u = d' := ⟨_, rfl⟩
  have h10' : DM w10 w1.heap.size r d' := by rw [← hd']; exact h10
  rw [hd'] at n1 n2 n3
  have bd' : BD d' := by rw [← hd']; exact noise_bd C4.bd _ _
  rw [hfull] at n3
  have sec : ∀ j, j < 6 → secF d' 1 j = if j = i then full else hB d4 ((1 + j : Nat) : Int) := fun j hj => by
    show hB d' ((1 + j : Nat) : Int) = _
    rw [n3 (1 + j)]
    by_cases e : j = i
    · rw [if_pos e, if_pos (by omega)]
    · rw [if_neg e, if_neg (by omega)]
  have sec4 : ∀ j, j < 6 → (Ok1 (hB d4 ((1 + j : Nat) : Int)) 2 (recsB xs3) (recsB xs3).length j) ∧ ldRun (hB d4 ((1 + j : Nat) : Int)) ≤ 2 := fun j hj => by
    rcases S4.cr.sec j (by rw [ec]; exact hj) (hB d4 ((1 + j : Nat) : Int)) (.inl (by rw [ef])) with ⟨q, _⟩ | ⟨q, q'⟩
    · cases q
    · refine ⟨?_, by rw [em] at q'; exact q'⟩
      have := q (t5.trans a6)
      rw [er, S4.cr.st] at this
      have e : l4.safe = (recsB xs3).length := by rw [t9, ← t1, S4.cr.st]
      rw [e] at this
      exact this
  have est : l4.stream = recsB xs3 := S4.cr.st
  have ok' : ∀ j, j < 6 → Ok1 (secF d' 1 j) 2 (recsB xs3) (recsB xs3).length j := fun j hj => by
    rw [sec j hj]
    by_cases e : j = i
    · rw [if_pos e]; subst e
      exact .inr ⟨hi0, by rw [← est]; exact hil, q5⟩
    · rw [if_neg e]; exact (sec4 j hj).1
  have hfit' : (recsB xs3).length ≤ 6 * 498 := by rw [← est]; exact hfit
  obtain ⟨j, j1, j2, j3⟩ := open_got (d := d') (first := 1) (count := 6) (run := 2) (safe := (recsB xs3).length) (xs := xs3) (by decide) (by decide) (by decide) hfit' C4.ok ⟨xs3.length, Nat.le_refl _, by rw [List.take_length]⟩ ok'
  have ej : j = xs3.length := Nat.le_antisymm j2 (j1 xs3.length (Nat.le_refl _) (by rw [List.take_length]))
  rw [ej, List.take_length] at j3
  have hrun := (load_got (f := secF d' 1) (count := 6) (run := 2) (safe := (recsB xs3).length) (S := recsB xs3) (by decide) (by decide) hfit' (Nat.le_refl _) (by decide) ok').1
  have hmost : mostF (secF d' 1) 6 ≤ 137438953472 := mostF_le _ _ _ fun j hj => by
    rw [sec j hj]
    split
    · omega
    · have := (sec4 j hj).2; omega
  have hmf : ldRun full ≤ mostF (secF d' 1) 6 := by
    have := mostF_ge (secF d' 1) 6 i hi6
    rw [sec i hi6, if_pos rfl] at this
    exact this
  refine ⟨_, rfl, ?_⟩
  refine (Open_wal (first := 1) (count := 6) h10' bd' n1.1 (by decide) (by decide) (by rw [n2, hsz4]; decide) (by rw [hrun]; decide)).mono ?_
  rintro _ w11 ⟨ρ', A11, c11, Bx, rfl, h11, l11, o11, p11, q11, g11⟩
  have hS := openLg_S (d := d') (first := 1) (count := 6) (by decide) (by decide) (by decide)
  obtain ⟨lm, hlm⟩ : ∃ lm, openLg d' 1 6 = lm := ⟨_, rfl⟩
  rw [hlm] at l11 o11 hS j3 ⊢
  have m1 : lm.first = 1 := by rw [j3]
  have m2 : lm.count = 6 := by rw [j3]
  have m3 : lm.run = 2 := by rw [j3]
  have m4 : lm.most = mostF (secF d' 1) 6 := by rw [j3]
  have m5 : lm.stream = recsB xs3 := by rw [j3]
  have m6 : lm.recs = rcsOf 2 0 xs3 := by rw [j3]
  have m7 : lm.dead = false := by rw [j3]
  clear j3
  have erc : l4.recs = lm.recs := by rw [S4.cr.rc, er, m6]
  have o12 := o10.below g11
  rw [erc] at o12 ⊢
  have hrl : lm.recs.length ≤ 1099511627776 := by
    have hq := hS.rs
    have hq2 := hS.s
    omega
  have g011 : Below w.heap.size w w11 := g10.trans (g11.mono g10.size)
  refine ⟨_, _, _, _, _, rfl, sel_t rfl (sel_t rfl ((o11.alike o12 hrl).mono ?_))⟩
  rintro _ w12 ⟨rfl, g12⟩
  have g012 : Below w.heap.size w w12 := g011.trans (g12.mono g011.size)
  have l12 := l11.below g12
  have h12 := h11.below g12
  have L12 := (L10.below g11).below g12
  refine ⟨_, rfl, sel_t rfl ((End_ok l12 hS).mono ?_)⟩
  rintro _ w12 ⟨rfl, rfl⟩
  refine ⟨_, rfl, (End_ok L12 S4.cr.lg).mono ?_⟩
  rintro _ w12 ⟨rfl, rfl⟩
  have eE : lm.run * 16777216 + lm.stream.length = l4.run * 16777216 + l4.stream.length := by rw [er, est, m3, m5]
  refine ⟨_, rfl, sel_t (by rw [eE]; exact beq_self_eq_true _) ?_⟩
  obtain ⟨c13, n13⟩ := n1.reset (l := lm) m7 (by rw [m4]; omega) (by rw [m1, n2, hsz4]; decide)
  have hS' := resetL_S hS d'
  refine (Reset_ok h12 l12 hS (by have := g11.size; have := g12.size; omega)).mono ?_
  rintro _ w13 ⟨rfl, h13, ⟨ρ'', eL, l13, nL⟩, k13⟩
  rw [c13]
  have e13 : (resetL d' lm).2.1 = freshL lm := by
    unfold resetL at c13 ⊢
    split at c13
    · cases c13
    rename_i x0
    split at c13
    · cases c13
    rename_i x1
    split at c13
    · rename_i x2; exact absurd c13 x2
    rename_i x2
    split at c13
    · rename_i x3; exact absurd c13 x3
    rename_i x3
    rw [if_neg x0, if_neg x1, if_neg x2, if_neg x3]
  rw [e13] at l13 hS'
  obtain ⟨lf, hlf⟩ : ∃ lf, freshL lm = lf := ⟨_, rfl⟩
  have f1 : lf.run = mostF (secF d' 1) 6 + 1 := by rw [← hlf, ← m4]; rfl
  have f2 : lf.stream.length = 0 := by rw [← hlf]; rfl
  rw [hlf] at l13 hS'
  refine ⟨_, rfl, sel_t rfl ?_⟩
  rw [← eL]
  refine (End_ok l13 hS').mono ?_
  rintro _ w13 ⟨rfl, rfl⟩
  refine ⟨_, rfl, ?_, ?_⟩
  · have e : ((lf.run * 16777216 + lf.stream.length : Nat) : Int) = (((mostF (secF d' 1) 6 + 1) * 16777216 : Nat) : Int) := by rw [f1, f2, Nat.add_zero]
    rw [e, w64_in (by omega)]
    have : ((ldRun full : Int) * 16777216) < (((mostF (secF d' 1) 6 + 1) * 16777216 : Nat) : Int) := by omega
    rw [decide_eq_true this]
  · refine g012.trans (k13.below g012.size fun k hk hN => ?_)
    rcases hN with q | q
    · have := (h12.lt k q).2; omega
    · have := (l12.lt k q).2; have := g10.size; omega
theorem WalNoise_row {A A1 : Option Addr} {c c1 : Nat} {Ls : List (List UInt8)} {u : List UInt8} {at_ : Int} (hr : RPr w A Ls) (hL : Ls.length ≤ 17592186044416) (hr1 : Go.Dn.RB w A1 u) (_ : A1 = none → c1 = 0) (_ : u.length ≤ c1) (hu : u.length ≤ 140737488355000) (_ : (Lit.int .i64 at_).wf = true) :
    Calls Tryd.prog 5 #[.slice A Ls.length c, .slice A1 u.length c1, .int .i64 at_] w fun e w' => e = .returned (.bool true) ∧ Below w.heap.size w w' := WalNoise_walk hr hL hr1 hu
end
end Go.Proofs.YtpokaafedpnbdaaDoor.Rd

/-! slices.Backward over records: its iterator's contract, for every loop body. Conditions: none. -/
namespace Go.Proofs.YtpokaafedpnbdaaDoor.Rd
open Go.RowKit Go.Shelf Go.Dn
attribute [local go_sem] Oper.semAt_some
set_option linter.unusedVariables false
set_option linter.unusedSimpArgs false
@[irreducible] def rAt (fs : List MR) (j : Nat) : MR := fs.getD j ⟨0, 0, none, 0, 0⟩
/-- what comes: from the last one to the first, each with its place -/
def bkR (fs : List MR) (k : Nat) : Nat := fs.length - 1 - k
abbrev eRt (fs : List MR) (x : Nat) : Array Value := #[.int .i64 (x : Int), .agg #[.int .i64 (rAt fs x).lsn, .int .i64 (rAt fs x).kind, .slice (rAt fs x).A (rAt fs x).n (rAt fs x).c]]
set_option maxRecDepth 100000 in
set_option maxHeartbeats 4000000 in
theorem backR_in (F : Fence) (n : Nat) (h7 : F.fn 71) (hro : F.round = none) (hn : 1 ≤ n) (l Bs n₀ x b off cap : Nat) (fs : List MR) (hreach : fs.length * 40 ≤ 140737488355328) (hb : b < n₀) (hbx : b ≠ x) (hBx : Bs ≠ x) (J Jx : List Nat → World → Prop)
    (hY : ∀ pre y W, J pre W → pre.length < fs.length → YieldAt F (n - 1) Tryd.prog l (eRt fs y) W fun e W' =>
      (e = .returned (.bool true) ∧ J (pre ++ [y]) W' ∧ KpX n₀ x W W') ∨ (e = .returned (.bool false) ∧ Jx (pre ++ [y]) W'))
    (W : World) (hBs : W.cell? ⟨Bs, 0, none⟩ = some (.slice (some ⟨b, off, none⟩) fs.length cap)) (hBn : Bs < n₀)
    (hc : ∀ j, j < fs.length → W.cell? ⟨b, off + j * 3, none⟩ = some (.int .i64 (rAt fs j).lsn) ∧ W.cell? ⟨b, off + j * 3 + 1, none⟩ = some (.int .i64 (rAt fs j).kind) ∧ W.cell? ⟨b, off + j * 3 + 2, none⟩ = some (.slice (rAt fs j).A (rAt fs j).n (rAt fs j).c)) (h0 : J [] W) :
    CallsIn F n Tryd.prog 71 #[.func (.yield l) #[] #[], .pointer (some ⟨Bs, 0, none⟩)] W fun e W' => (∃ v, e = .returned v) ∧
      ((∃ ys, ys = upto (bkR fs) fs.length ∧ J ys W') ∨ (∃ pre, (∃ k, k ≤ fs.length ∧ pre = upto (bkR fs) k) ∧ Jx pre W')) := by
  refine callsIn_of_wp Tryd.func71 rfl h7 ?_ hro
  simp only [Tryd.ntmps71, List.size_toArray, List.length_cons, List.length_nil, Nat.reduceAdd, Nat.reduceSub, Array.replicate_succ, Array.replicate_zero, List.push_toArray, List.append_toArray, List.nil_append, List.cons_append]
  gi_wp2
  gi_loopw [3] (fun i wr => ∃ k : Nat, k ≤ fs.length ∧ i = .int .i64 ((fs.length : Int) - 1 - k) ∧ J (upto (bkR fs) k) wr ∧ KpX n₀ x W wr)
    (fun i _ => (intOf i + 1).toNat)
  case atStart => exact ⟨0, Nat.zero_le _, by simp, h0, KpX.refl _ _ _⟩
  case round =>
    obtain ⟨k, hk, rfl, hJs, hnx⟩ := hrel
    have hBs' : wr.cell? ⟨Bs, 0, none⟩ = some (.slice (some ⟨b, off, none⟩) fs.length cap) := hnx.cell (p := ⟨Bs, 0, none⟩) hBn hBx hBs
    by_cases hlt : k < fs.length
    · obtain ⟨j, hj⟩ : ∃ j, fs.length - 1 - k = j := ⟨_, rfl⟩
      have hi : (fs.length : Int) - 1 - k = (j : Int) := by omega
      have hjl : j < fs.length := by omega
      obtain ⟨p0, p1, p2⟩ := hc j hjl
      have hc0 : wr.cell? ⟨b, off + j * 3, none⟩ = some (.int .i64 (rAt fs j).lsn) := hnx.cell (p := ⟨b, off + j * 3, none⟩) hb hbx p0
      have hc1 : wr.cell? ⟨b, off + j * 3 + 1, none⟩ = some (.int .i64 (rAt fs j).kind) := hnx.cell (p := ⟨b, off + j * 3 + 1, none⟩) hb hbx p1
      have hc2 : wr.cell? ⟨b, off + j * 3 + 2, none⟩ = some (.slice (rAt fs j).A (rAt fs j).n (rAt fs j).c) := hnx.cell (p := ⟨b, off + j * 3 + 2, none⟩) hb hbx p2
      obtain ⟨fn, tmps, assign, body, hy, hR⟩ := hY _ (bkR fs k) wr hJs (by rw [upto_length]; exact hlt)
      have ebk : bkR fs k = j := hj
      rw [ebk] at hy
      dsimp only [eRt] at hy
      rw [hi]
      gi_wp2
      refine hR.mono ?_
      rintro e W3 (⟨rfl, hJ3, hk3⟩ | ⟨rfl, hJx3⟩)
      · gi_wp2
        go_roundw
        case rel => exact ⟨k + 1, by omega, by simp; omega, by rw [upto_succ]; exact hJ3, hnx.trans hk3⟩
        case measure => simp [intOf]
      · gi_wp2
        refine bodyPost_ret (results_none rfl _ _ _) rfl ?_
        exact ⟨⟨_, rfl⟩, .inr ⟨_, ⟨k + 1, by omega, (upto_succ _ _).symm⟩, hJx3⟩⟩
    · obtain rfl : k = fs.length := by omega
      gi_wp2
      go_end0
      exact ⟨⟨_, rfl⟩, .inl ⟨_, rfl, hJs⟩⟩
set_option maxRecDepth 100000 in
set_option maxHeartbeats 1000000 in
theorem backR_nil_in (F : Fence) (n : Nat) (h7 : F.fn 71) (hro : F.round = none) (l Bs : Nat) (J : List Nat → World → Prop) (W : World) (A : Option Addr) (cap : Nat) (hBs : W.cell? ⟨Bs, 0, none⟩ = some (.slice A 0 cap)) (h0 : J [] W) :
    CallsIn F n Tryd.prog 71 #[.func (.yield l) #[] #[], .pointer (some ⟨Bs, 0, none⟩)] W fun e W' => (∃ v, e = .returned v) ∧ J [] W' := by
  refine callsIn_of_wp Tryd.func71 rfl h7 ?_ hro
  simp only [Tryd.ntmps71, List.size_toArray, List.length_cons, List.length_nil, Nat.reduceAdd, Nat.reduceSub, Array.replicate_succ, Array.replicate_zero, List.push_toArray, List.append_toArray, List.nil_append, List.cons_append]
  gi_wp2
  gi_loopw [3] (fun i wr => i = .int .i64 (-1) ∧ J [] wr) (fun _ _ => 0)
  case atStart => exact ⟨rfl, h0⟩
  case round =>
    obtain ⟨rfl, hJs⟩ := hrel
    gi_wp2
    go_end0
    exact ⟨⟨_, rfl⟩, hJs⟩
/-- fates readable below n₀ -/
def RecsI (n₀ x : Nat) (W : World) (A : Option Addr) (fs : List MR) : Prop :=
  fs = [] ∨ ∃ b off, A = some ⟨b, off, none⟩ ∧ b < n₀ ∧ b ≠ x ∧ ∀ j, j < fs.length → W.cell? ⟨b, off + j * 3, none⟩ = some (.int .i64 (rAt fs j).lsn) ∧ W.cell? ⟨b, off + j * 3 + 1, none⟩ = some (.int .i64 (rAt fs j).kind) ∧ W.cell? ⟨b, off + j * 3 + 2, none⟩ = some (.slice (rAt fs j).A (rAt fs j).n (rAt fs j).c)
theorem RecsI.below {n₀ x : Nat} {W W' : World} (h : Below n₀ W W') {A : Option Addr} {fs : List MR} : RecsI n₀ x W A fs → RecsI n₀ x W' A fs
  | .inl e => .inl e
  | .inr ⟨b, off, e, hb, hx, hc⟩ => .inr ⟨b, off, e, hb, hx, fun j hj => ⟨(h.cell (p := ⟨b, off + j * 3, none⟩) hb).trans (hc j hj).1, (h.cell (p := ⟨b, off + j * 3 + 1, none⟩) hb).trans (hc j hj).2.1, (h.cell (p := ⟨b, off + j * 3 + 2, none⟩) hb).trans (hc j hj).2.2⟩⟩
/-- the iterator that slices.Backward hands back -/
theorem backR_stops (F : Fence) (n : Nat) (h7 : F.fn 71) (hro : F.round = none) (hn : 1 ≤ n) (Bs n₀ x : Nat) (A : Option Addr) (cap : Nat) (fs : List MR) (hreach : fs.length * 40 ≤ 140737488355328) (w : World) (hBn : Bs < n₀) (hBx : Bs ≠ x) (hn₀ : n₀ ≤ w.heap.size)
    (hc : w.cell? ⟨Bs, 0, none⟩ = some (.slice A fs.length cap)) (hI : RecsI n₀ x w A fs) :
    SeqStopsK F n Tryd.prog 71 #[.pointer (some ⟨Bs, 0, none⟩)] (eRt fs) (KpX n₀ x) (fun ys => ys = upto (bkR fs) fs.length) (fun pre => ∃ k, k ≤ fs.length ∧ pre = upto (bkR fs) k) fs.length w := fun l J Jx W hW _ _ hY h0 => by
  have hc' := (hW.cell (p := ⟨Bs, 0, none⟩) (Nat.lt_of_lt_of_le hBn hn₀)).trans hc
  rcases hI.below (hW.mono hn₀) with rfl | ⟨b, off, rfl, hb, hbx, hcs⟩
  · exact (backR_nil_in F n h7 hro l Bs J W A cap hc' h0).mono fun e W' ⟨he, hj⟩ => ⟨he, .inl ⟨_, rfl, hj⟩⟩
  · exact backR_in F n h7 hro hn l Bs n₀ x b off cap fs hreach hb hbx hBx J Jx hY W hc' hBn hcs h0
end Go.Proofs.YtpokaafedpnbdaaDoor.Rd

/-! wal.Back. Conditions: a log of at most 16 sectors. -/
namespace Go.Proofs.YtpokaafedpnbdaaDoor.Rd
open Go.RowKit Go.Shelf Go.Dn
attribute [local go_sem] Oper.semAt_some
set_option linter.unusedVariables false
set_option linter.unusedSimpArgs false
section
variable {w w' : World} {B B1 : Nat} {r : RD} {d : Dk} {ρ : RL} {l : Lg}
theorem backR_call (n : Nat) (A : Option Addr) (len cap : Nat) (w : World) :
    CallsIn Fence.wide n Tryd.prog 51 #[.slice A len cap] w fun e w' => e = .returned (.func (.func 71) #[] #[.pointer (some ⟨w.heap.size, 0, none⟩)]) ∧ w' = w.alloc (.cells #[.slice A len cap] 28) := by
  refine callsIn_wide.2 ?_
  apply f_api_Record_Back.ok
  unfold f_api_Record_Back.wp
  exact alW_intro ⟨rfl, rfl⟩
/-- what holds between two rounds -/
def bkI (w : World) (T : Int) (ms : List MR) (pre : List Nat) (W : World) : Prop :=
  HB W w.heap.size #[.int .i64 T] 2 ∧ HB W (w.heap.size + 1) #[.int .i64 0, .int .i64 0, .slice none 0 0] TRec ∧ HB W (w.heap.size + 2) #[.bool false] 4 ∧ Below w.heap.size w W ∧ w.heap.size + 4 ≤ W.heap.size ∧ ∀ y ∈ pre, T ≤ (rAt ms y).lsn
/-- what holds where a round returned -/
def bkX (w : World) (T : Int) (ms : List MR) (c : Code) (pre : List Nat) (W : World) : Prop :=
  c = .ret ∧ ∃ (q : List Nat) (y : Nat) (A : Option Addr) (c' : Nat) (u : List UInt8), pre = q ++ [y] ∧ (∀ z ∈ q, T ≤ (rAt ms z).lsn) ∧ (rAt ms y).lsn < T ∧ Go.Dn.RB w (rAt ms y).A u ∧ (rAt ms y).n = u.length ∧ OwnB W w.heap.size TU8 A c' u ∧
    HB W (w.heap.size + 1) #[.int .i64 (rAt ms y).lsn, .int .i64 (rAt ms y).kind, .slice A u.length c'] TRec ∧ HB W (w.heap.size + 2) #[.bool true] 4 ∧ Below w.heap.size w W
theorem hb_row {W : World} {b N : Nat} {cs : Array Value} {t : TypeId} {row : Option Nat} (h : HB W b cs t) (hr : ∀ r, row = some r → N ≤ r ∧ ∃ o : Obj, W.heap[r]? = some o ∧ o.isCells = false) : some b ≠ row := fun e => by
  obtain ⟨_, o, ho, hc⟩ := hr b e.symm
  rw [show W.heap[b]? = some _ from h] at ho; cases ho; cases hc
theorem hb_grown {W W' : World} {b N : Nat} {cs : Array Value} {t : TypeId} {row : Option Nat} (h : HB W b cs t) (hg : W.grownBy W' row) (hr : ∀ r, row = some r → N ≤ r ∧ ∃ o : Obj, W.heap[r]? = some o ∧ o.isCells = false) : HB W' b cs t := (hg.block b h.lt (hb_row h hr)).trans h
theorem below_grown {w W W' : World} {N : Nat} {row : Option Nat} (b2 : Below w.heap.size w W) (hN : w.heap.size ≤ N) (hg : W.grownBy W' row) (hr : ∀ r, row = some r → N ≤ r ∧ ∃ o : Obj, W.heap[r]? = some o ∧ o.isCells = false) : Below w.heap.size w W' := by
  have hrow : ∀ b, b < w.heap.size → some b ≠ row := fun b hb e => by have := (hr b e.symm).1; omega
  exact ⟨hg.os.trans b2.os, hg.tape.trans b2.tape, hg.output.trans b2.output, Nat.le_trans b2.size hg.size, fun k hk => (hg.block k (Nat.lt_of_lt_of_le hk b2.size) (hrow k hk)).trans (b2.block k hk)⟩
theorem bkI_own {w : World} {T : Int} {ms : List MR} {N : Nat} (hN : w.heap.size ≤ N) : OwnFrom N (bkI w T ms) := by
  rintro pre X Y row ⟨h1, h2, h3, h4, h5, h6⟩ hg hr
  exact ⟨hb_grown h1 hg hr, hb_grown h2 hg hr, hb_grown h3 hg hr, below_grown h4 hN hg hr, Nat.le_trans h5 hg.size, h6⟩
theorem bkX_own {w : World} {T : Int} {ms : List MR} {N : Nat} (c : Code) (hN : w.heap.size ≤ N) : OwnFrom N (bkX w T ms c) := by
  rintro pre X Y row ⟨h1, q, y, A, c', u, h2, h3, h4, h5, h6, h7, h8, h9, h10⟩ hg hr
  refine ⟨h1, q, y, A, c', u, h2, h3, h4, h5, h6, h7.only hg fun a ha => ?_, hb_grown h8 hg hr, hb_grown h9 hg hr, below_grown h10 hN hg hr⟩
  obtain ⟨cs, hc⟩ := own_hbB h7 ha
  exact hb_row hc hr
theorem hb_set {W : World} {b : Nat} {cs : Array Value} {t : TypeId} (h : HB W b cs t) (j : Nat) (hj : j < cs.size) (v : Value) : HB (W.setCell ⟨b, j, none⟩ v) b (cs.setIfInBounds j v) t ∧ Keeps (fun k => k = b) W (W.setCell ⟨b, j, none⟩ v) ∧ W.cell? ⟨b, j, none⟩ = some cs[j] ∧ W.frozen? ⟨b, j, none⟩ = false := by
  have hc := h.cell j
  rw [Array.getElem?_eq_getElem hj, add_mk, Nat.zero_add] at hc
  exact ⟨heap_setCell_same W b j cs t _ h, (Keeps.refl (fun k => k = b) _).setCell (p := ⟨b, j, none⟩) (.inl rfl) _, hc, frozen_of_row _ _ _ _ _ h⟩
theorem hb_at {W : World} {b : Nat} {cs : Array Value} {t : TypeId} (h : HB W b cs t) (j : Nat) (v : Value) (hv : cs[j]? = some v) : W.cell? ⟨b, j, none⟩ = some v := by
  have hc := h.cell j
  rw [add_mk, Nat.zero_add] at hc
  exact hc.trans hv
theorem ret_leaves {P : Program} {hT : Hint} {n m D : Nat} {fn : Func} {rs : List ResultVar} {l : List Value} {W : World} {R : Ending → World → Prop} (hl : l.length = n) (hrs : fn.results = ⟨rs⟩) (hK : W.heap[D]? = some (.deferred (some [])))
    (h : resGo P hT n (argsF l) (W.putObj D (.deferred none)) rs fun vs => R (.returned (packV vs)) (W.putObj D (.deferred none))) : LeavesInM Fence.wide m P fn (⟨l⟩ : Array Value) R [{ target := .collected D, args := #[] }] .returning W := by
  obtain ⟨vs, hr, hk⟩ := results_sound (ds := []) hrs h
  have e : (act [] n (argsF l)).tmps = (⟨l⟩ : Array Value) := by rw [← act_of hl]
  rw [e] at hr
  exact ⟨by simp, .inl ⟨_, _, rfl, run_takeDeferred hK, ⟨_, hr, hk⟩⟩⟩
/-- the last record ahead of an LSN -/
def backL (T : Int) (rs : List Rc) : Option Rc := rs.reverse.find? fun r => decide (r.lsn < T)
theorem rb_det {w : World} {A : Option Addr} {u v : List UInt8} (h : Go.Dn.RB w A u) (k : Go.Dn.RB w A v) (e : u.length = v.length) : u = v := by
  apply List.ext_getElem e
  intro i h1 h2
  obtain ⟨a, rfl, c1⟩ := h i h1
  obtain ⟨b, e2, c2⟩ := k i h2
  injection e2 with e2; subst e2
  rw [c1] at c2
  injection c2 with c2
  unfold byteV at c2
  injection c2 with _ c2
  exact UInt8.toNat.inj (by omega)
theorem backL_at {T : Int} {rs : List Rc} {i : Nat} (hi : i < rs.length) (h1 : rs[i].lsn < T) (h2 : ∀ j (h : j < rs.length), i < j → T ≤ rs[j].lsn) : backL T rs = some rs[i] := by
  have e : rs = rs.take i ++ rs[i] :: rs.drop (i + 1) := by rw [← List.drop_eq_getElem_cons hi, List.take_append_drop]
  have er : rs.reverse = (rs.drop (i + 1)).reverse ++ (rs[i] :: (rs.take i).reverse) := by
    conv => lhs; rw [e]
    simp
  unfold backL
  rw [er, List.find?_append]
  have : (rs.drop (i + 1)).reverse.find? (fun r => decide (r.lsn < T)) = none := by
    rw [List.find?_eq_none]
    intro rc hrc
    rw [List.mem_reverse] at hrc
    obtain ⟨j, hj, rfl⟩ := List.getElem_of_mem hrc
    rw [List.length_drop] at hj
    rw [List.getElem_drop]
    have := h2 (i + 1 + j) (by omega) (by omega)
    simpa using this
  rw [this, List.find?_cons_of_pos (by simpa using h1)]
  rfl
def bkR_post (w : World) (T : Int) (rs : List Rc) (e : Ending) (w' : World) : Prop := Below w.heap.size w w' ∧ match backL T rs with
  | some rc => ∃ A c', e = .returned (.tuple #[.agg #[.int .i64 rc.lsn, .int .i64 rc.kind, .slice A rc.body.length c'], .bool true]) ∧ OwnB w' w.heap.size TU8 A c' rc.body
  | none => e = .returned (.tuple #[.agg #[.int .i64 0, .int .i64 0, .slice none 0 0], .bool false])
theorem bk_res0 (σ : Fr) (a b : Addr) (w : World) (R : List Value → Prop) : (ldI w a .i64 fun x => ldI w (a.add 1) .i64 fun y => ldS w (a.add 2) fun A n c => ldB w b fun v => R [.agg #[.int .i64 x, .int .i64 y, .slice A n c], .bool v]) =
    resGo Tryd.prog hT 25 (up (up σ 4 (.pointer (some a))) 5 (.pointer (some b))) w [.cell 4 39, .cell 5 4] R := by kernel_rfl
theorem bk_res {σ : Fr} {a b : Addr} {w : World} {R : List Value → Prop} (h4 : σ 4 = .pointer (some a)) (h5 : σ 5 = .pointer (some b)) (h : ldI w a .i64 fun x => ldI w (a.add 1) .i64 fun y => ldS w (a.add 2) fun A n c => ldB w b fun v => R [.agg #[.int .i64 x, .int .i64 y, .slice A n c], .bool v]) :
    resGo Tryd.prog hT 25 σ w [.cell 4 39, .cell 5 4] R := by
  rw [bk_res0 σ] at h
  rw [up_self h4, up_self h5] at h
  exact h
set_option maxRecDepth 100000 in
set_option maxHeartbeats 1600000 in
theorem Back_in {T : Int} (hl : LM w B r ρ l) (hs : LgS l) :
    CallsIn Fence.wide 9 Tryd.prog 26 #[.pointer (some ⟨ρ.L, 0, none⟩), .int .i64 T] w (bkR_post w T l.recs) := by
  obtain ⟨wa, hwa⟩ : ∃ wa, ((w.alloc (.cells #[.int .i64 T] 2)).alloc (.cells #[.int .i64 0, .int .i64 0, .slice none 0 0] 39)).alloc (.cells #[.bool false] 4) = wa := ⟨_, rfl⟩
  have ga : Below w.heap.size w wa := by rw [← hwa]; exact (((Below.refl _ _).alloc (Nat.le_refl _) _).alloc (by simp) _).alloc (by simp; omega) _
  have c7 : wa.cell? ⟨ρ.L, 7, none⟩ = some (.slice ρ.R l.recs.length ρ.rc) := by
    have := (hl.below ga).hb.cell 7
    rw [add_mk, Nat.zero_add] at this
    exact this
  refine callsIn_of_wp_marks Tryd.func26 rfl trivial ?_ rfl
  simp only [Tryd.ntmps26, List.size_toArray, List.length_cons, List.length_nil, Nat.reduceAdd, Nat.reduceSub, Array.replicate_succ, Array.replicate_zero, List.push_toArray, List.append_toArray, List.nil_append, List.cons_append]
  gi_wp2_with (first | (refine ⟨trivial, ?_⟩; refine (backR_call _ _ _ _ _).mono ?_; rintro e w' ⟨rfl, rfl⟩) | gi_in)
  obtain ⟨W0, hW0⟩ : ∃ W0, wa.alloc (.cells #[.slice ρ.R l.recs.length ρ.rc] 28) = W0 := ⟨_, rfl⟩
  have s0 : wa.heap.size = w.heap.size + 3 := by rw [← hwa]; simp
  have bS : Boxed W0 (w.heap.size + 3) 28 (.slice ρ.R l.recs.length ρ.rc) := by
    have := Boxed.new wa 28 (.slice ρ.R l.recs.length ρ.rc)
    rw [hW0, s0] at this
    exact this
  have s1 : W0.heap.size = w.heap.size + 4 := by rw [← hW0]; simp [s0]
  have g0 : Below wa.heap.size wa W0 := by rw [← hW0]; exact (Below.refl _ _).alloc (Nat.le_refl _) _
  have gW : Below w.heap.size w W0 := ga.trans (g0.mono ga.size)
  have hT0 : HB wa w.heap.size #[.int .i64 T] 2 := by
    rw [← hwa]
    have h1 := HB.new w #[.int .i64 T] 2
    have h2 := h1.below ((Below.refl _ _).alloc (Nat.le_refl _) (.cells #[.int .i64 0, .int .i64 0, .slice none 0 0] 39))
    exact h2.below ((Below.refl _ _).alloc (Nat.le_refl _) (.cells #[.bool false] 4))
  have hR : HB wa (w.heap.size + 1) #[.int .i64 0, .int .i64 0, .slice none 0 0] TRec := by
    rw [← hwa]
    have h1 := HB.new (w.alloc (.cells #[.int .i64 T] 2)) #[.int .i64 0, .int .i64 0, .slice none 0 0] 39
    have h2 := h1.below ((Below.refl _ _).alloc (Nat.le_refl _) (.cells #[.bool false] 4))
    rw [World.size_alloc] at h2
    exact h2
  have hO : HB wa (w.heap.size + 2) #[.bool false] 4 := by
    rw [← hwa]
    have h1 := HB.new ((w.alloc (.cells #[.int .i64 T] 2)).alloc (.cells #[.int .i64 0, .int .i64 0, .slice none 0 0] 39)) #[.bool false] 4
    rw [World.size_alloc, World.size_alloc] at h1
    exact h1
  rw [hW0]
  rw [s0]
  obtain ⟨ms, m1, m2⟩ := hl.rc
  have hrl : ms.length ≤ 7968 := by rw [m2.1]; exact Nat.le_trans hs.rs hs.s
  have hI : RecsI (w.heap.size + 4) (w.heap.size + 1) W0 ρ.R ms := by
    by_cases h0 : ms = []
    · exact .inl h0
    · have row := (m1.below gW).reads ER
      have hpos : 0 < ms.length := List.length_pos_iff.2 h0
      obtain ⟨a, ha, _⟩ := row 0 hpos
      have hb := m1.block a ha
      have hown : ∃ b off, a = ⟨b, off, none⟩ ∧ b = a.block := by
        obtain ⟨_, h⟩ := m1
        rcases h with ⟨_, h0⟩ | ⟨g, cap, cur, hv, _⟩
        · omega
        · injection hv with hv
          rw [ha] at hv; injection hv with hv
          exact ⟨g, 0, hv, by rw [hv]⟩
      obtain ⟨b, off, ea, eb⟩ := hown
      refine .inr ⟨b, off, by rw [ha, ea], by omega, by omega, fun j hj => ?_⟩
      rw [ha] at row
      have e : rAt ms j = ms[j] := by unfold rAt; rw [List.getD_eq_getElem?_getD, List.getElem?_eq_getElem hj, Option.getD_some]
      have q0 := row.c0 ER hj
      have q1 := row.cj hj (j := 1) (by decide)
      have q2 := row.cj hj (j := 2) (by decide)
      rw [ea, add_mk] at q0 q1 q2
      rw [add_mk] at q1 q2
      rw [e]
      exact ⟨q0, q1, q2⟩
  have hrec : ∀ x : Nat, ∃ u, Go.Dn.RB w (rAt ms x).A u ∧ (rAt ms x).n = u.length ∧ u.length ≤ 1200 := fun x => by
    unfold rAt
    rw [List.getD_eq_getElem?_getD]
    by_cases hx : x < ms.length
    · rw [List.getElem?_eq_getElem hx, Option.getD_some]
      have q := m2.2 x hx (by rw [← m2.1]; exact hx)
      exact ⟨_, q.rb, q.n, q.b⟩
    · rw [List.getElem?_eq_none (by omega)]
      exact ⟨[], RB.nil _ _, rfl, by decide⟩
  refine wpIn_rangeFunc_ownH (F := Fence.wide) rfl (by omega) (gf := 71) (lb := #[.pointer (some ⟨w.heap.size + 3, 0, none⟩)]) rfl trivial (enters_of Tryd.func71 (by kernel_rfl) rfl)
    (backR_stops Fence.wide 8 trivial rfl (by omega) (w.heap.size + 3) (w.heap.size + 4) (w.heap.size + 1) ρ.R ρ.rc ms (by omega) W0 (by omega) (by omega) (by omega) (by rw [m2.1]; exact bS.cell) hI) (fun h k => h.trans k) (fun W l o o' hl _ _ _ => KpX.put W l o' (by omega)) (Below.refl _ _) (fun _ => rfl)
    (bkI w T ms) (bkX w T ms) ?own ?ownx ⟨hT0.below g0, hR.below g0, hO.below g0, gW, by omega, fun y hy => by cases hy⟩
    (fun x a' W => ∃ b7, a' = { tmps := #[.pointer (some ⟨ρ.L, 0, none⟩), .int .i64 T, undef, .pointer (some ⟨w.heap.size, 0, none⟩), .pointer (some ⟨w.heap.size + 1, 0, none⟩), .pointer (some ⟨w.heap.size + 1 + 1, 0, none⟩), undef, .pointer (some ⟨b7, 0, none⟩), .pointer (some ⟨ρ.L, 0, none⟩), .pointer (some ⟨ρ.L, 0, none⟩), .pointer (some ⟨ρ.L, 7, none⟩), .slice ρ.R l.recs.length ρ.rc, .func (.func 71) #[] #[.pointer (some ⟨w.heap.size + 3, 0, none⟩)], .int .i64 (x : Int), .agg #[.int .i64 (rAt ms x).lsn, .int .i64 (rAt ms x).kind, .slice (rAt ms x).A (rAt ms x).n (rAt ms x).c], undef, undef, undef, undef, undef, undef, undef, undef, undef, undef], defers := [] } ∧
      HB W b7 #[.int .i64 (rAt ms x).lsn, .int .i64 (rAt ms x).kind, .slice (rAt ms x).A (rAt ms x).n (rAt ms x).c] TRec ∧ w.heap.size + 4 ≤ b7)
    ?ownA ?assign ?body ?done ?stop
  case own => exact bkI_own (by omega)
  case ownx => exact fun c => bkX_own c (by omega)
  case ownA =>
    rintro x a' _ X Y row ⟨b7, h1, h2, h3⟩ hg hr
    exact ⟨b7, h1, hb_grown h2 hg hr, h3⟩
  case assign =>
    rintro l' pre x W K hS hK
    obtain ⟨h1, h2, h3, h4, h5, h6⟩ := hS
    gi_wp2
    have gA : Below W.heap.size W (W.alloc (.cells #[.int .i64 (rAt ms x).lsn, .int .i64 (rAt ms x).kind, .slice (rAt ms x).A (rAt ms x).n (rAt ms x).c] TRec)) := (Below.refl _ _).alloc (Nat.le_refl _) _
    refine hK _ _ ((KeepsOthers.alloc _ _).from _) (KpX.below gA (by omega)) ⟨h1.below gA, h2.below gA, h3.below gA, h4.trans (gA.mono h4.size), by simp; omega, h6⟩ ⟨W.heap.size, rfl, HB.new _ _ _, h5⟩
  case body =>
    rintro l' pre x a' W hl' ⟨rr, hrr⟩ ⟨h1, h2, h3, h4, h5, h6⟩ ⟨b7, rfl, h7, h8⟩ hlt
    have cT := h1.cell 0
    have cx0 := h7.cell 0
    have cx2 := h7.cell 2
    rw [add_mk, Nat.zero_add] at cT cx0 cx2
    have cT' : W.cell? ⟨w.heap.size, 0, none⟩ = some (.int .i64 T) := cT
    have cx0' : W.cell? ⟨b7, 0, none⟩ = some (.int .i64 (rAt ms x).lsn) := cx0
    have cx2' : W.cell? ⟨b7, 2, none⟩ = some (.slice (rAt ms x).A (rAt ms x).n (rAt ms x).c) := cx2
    clear cT cx0 cx2
    by_cases hx : (rAt ms x).lsn < T
    · obtain ⟨u, u1, u2, u3⟩ := hrec x
      have cl := Clone_ok (w := W) (A := (rAt ms x).A) (n := u.length) (c := (rAt ms x).c) (l := u) (u1.below h4 (Nat.le_refl _)) rfl (by omega)
      have cl' := (callsIn_wide (n := 6)).2 cl
      gi_wp2
      refine ⟨trivial, CallsIn.mono (F := Fence.wide) cl' ?_⟩
      rintro _ W2 ⟨A2, c2, rfl, o2, z2, g2⟩
      clear cT' cx0' cx2' cl cl'
      have h7' := h7.below g2
      have r2 := h2.below g2
      have o2' := h3.below g2
      rw [u2] at h7'
      obtain ⟨q3, k3, d2, f2⟩ := hb_set h7' 2 (by simp) (.slice A2 u.length c2)
      obtain ⟨W3, hW3⟩ : ∃ W3, W2.setCell ⟨b7, 2, none⟩ (.slice A2 u.length c2) = W3 := ⟨_, rfl⟩
      rw [hW3] at q3 k3
      have e0 := hb_at q3 0 (.int .i64 (rAt ms x).lsn) rfl
      have e1 := hb_at q3 1 (.int .i64 (rAt ms x).kind) rfl
      have e2 := hb_at q3 2 (.slice A2 u.length c2) rfl
      have hb7 := h7.lt
      have r3 := r2.keeps k3 (by omega)
      have o3 := o2'.keeps k3 (by omega)
      obtain ⟨q4, k4, d3, f3⟩ := hb_set r3 0 (by simp) (.int .i64 (rAt ms x).lsn)
      obtain ⟨W4, hW4⟩ : ∃ W4, W3.setCell ⟨w.heap.size + 1, 0, none⟩ (.int .i64 (rAt ms x).lsn) = W4 := ⟨_, rfl⟩
      rw [hW4] at q4 k4
      obtain ⟨q5, k5, d4, f4⟩ := hb_set q4 1 (by simp) (.int .i64 (rAt ms x).kind)
      obtain ⟨W5, hW5⟩ : ∃ W5, W4.setCell ⟨w.heap.size + 1, 1, none⟩ (.int .i64 (rAt ms x).kind) = W5 := ⟨_, rfl⟩
      rw [hW5] at q5 k5
      obtain ⟨q6, k6, d5, f5⟩ := hb_set q5 2 (by simp) (.slice A2 u.length c2)
      obtain ⟨W6, hW6⟩ : ∃ W6, W5.setCell ⟨w.heap.size + 1, 2, none⟩ (.slice A2 u.length c2) = W6 := ⟨_, rfl⟩
      rw [hW6] at q6 k6
      have o6 := ((o3.keeps k4 (by omega)).keeps k5 (by omega)).keeps k6 (by omega)
      obtain ⟨q7, k7, d6, f6⟩ := hb_set o6 0 (by simp) (.bool true)
      obtain ⟨W7, hW7⟩ : ∃ W7, W6.setCell ⟨w.heap.size + 2, 0, none⟩ (.bool true) = W7 := ⟨_, rfl⟩
      rw [hW7] at q7 k7
      have n12 : w.heap.size + 1 + 1 = w.heap.size + 2 := by omega
      simp only [n12] at *
      gi_wp2
      have kk : Keeps (fun k => k = w.heap.size + 1 ∨ k = w.heap.size + 2 ∨ k = b7) W2 W7 := ((((k3.mono fun k _ e => .inr (.inr e)).trans (k4.mono fun k _ e => .inl e)).trans (k5.mono fun k _ e => .inl e)).trans (k6.mono fun k _ e => .inl e)).trans (k7.mono fun k _ e => .inr (.inl e))
      refine ⟨⟨Nat.le_trans g2.size kk.size, fun k o hk ho hoc => ?_⟩, rfl, pre, x, A2, c2, u, rfl, h6, hx, u1, u2, ?_, q6.keeps k7 (by omega), q7, ?_⟩
      · have hne : ¬ (k = w.heap.size + 1 ∨ k = w.heap.size + 2 ∨ k = b7) := by
          rintro (e | e | e)
          · omega
          · omega
          · subst e
            rw [show W.heap[k]? = some _ from h7] at ho; cases ho; cases hoc
        have hlt' := (Array.getElem?_eq_some_iff.1 ho).1
        exact (kk.block k (Nat.lt_of_lt_of_le hlt' g2.size) hne).trans ((g2.block k hlt').trans ho)
      · exact OwnB.keepsB (o2.mono h4.size) kk fun a ha hS => by
          have := (o2.block a ha).1
          rcases hS with e | e | e <;> omega
      · exact (h4.trans (g2.mono h4.size)).trans (kk.below (Nat.le_trans h4.size g2.size) fun k hk hS => by omega)
    · gi_wp2
      refine ⟨KeepsFrom.refl _ _, KpX.refl _ _ _, h1, h2, h3, h4, h5, fun y hy => ?_⟩
      rcases List.mem_append.1 hy with q | q
      · exact h6 y q
      · rw [List.mem_singleton] at q; subst q; exact hx
  case done =>
    rintro D' xs W hD' rfl ⟨h1, h2, h3, h4, h5, h6⟩ hK
    simp only [Exit.inBlock, Exit.then]
    rename_i K hKk
    refine hKk _ _ ?_
    refine post_wp (hT := hT) (f_wal_Log_Back_Post.j0_snd _ (by kernel_rfl)) rfl rfl ?_
    unfold f_wal_Log_Back_Post.j0T
    refine gAd_i (a := ⟨w.heap.size + 1, 0, none⟩) rfl (gAd_i (a := ⟨w.heap.size + 1 + 1, 0, none⟩) rfl ?_)
    unfold f_wal_Log_Back_Post.j0
    have hKs : D' < W.heap.size := (Array.getElem?_eq_some_iff.1 hK).1
    refine hb_st0 h2 (by simp) fun W4 q4 k4 => hb_st (j := 1) q4 (by simp) fun W5 q5 k5 => hb_st (j := 2) q5 (by simp) fun W6 q6 k6 => ?_
    have o6 := ((h3.keeps k4 (by omega)).keeps k5 (by omega)).keeps k6 (by omega)
    refine hb_st0 o6 (by simp) fun W7 q7 k7 => ?_
    intro dd
    have kk : Keeps (fun k => k = w.heap.size + 1 ∨ k = w.heap.size + 2) W W7 := (((k4.mono fun k _ e => .inl e).trans (k5.mono fun k _ e => .inl e)).trans (k6.mono fun k _ e => .inl e)).trans (k7.mono fun k _ e => .inr e)
    have hK7 : W7.heap[D']? = some (.deferred (some [])) := (kk.block D' hKs (by omega)).trans hK
    have q6' := q6.keeps k7 (by omega)
    have gp : ∀ {b cs t}, HB W7 b cs t → b < w.heap.size + 4 → HB (W7.putObj D' (.deferred none)) b cs t := fun hb hlt => (World.putObj_heap_other (by omega)).trans hb
    refine ⟨hK7, bk_res (a := ⟨w.heap.size + 1, 0, none⟩) (b := ⟨w.heap.size + 1 + 1, 0, none⟩) rfl rfl ?_⟩
    refine hb_ldI0 (gp q6' (by omega)) (x := 0) rfl (hb_ldI (j := 1) (gp q6' (by omega)) (x := 0) rfl (hb_ldS (j := 2) (gp q6' (by omega)) (A := none) (n := 0) (c := 0) rfl ⟨_, hb_at (gp q7 (by omega)) 0 (.bool false) rfl, ?_⟩))
    refine ⟨(h4.trans (kk.below h4.size fun k hk hS => by omega)).trans (below_put _ _ (by omega)), ?_⟩
    have hnone : backL T l.recs = none := by
      unfold backL
      rw [List.find?_eq_none]
      intro rc hrc
      rw [List.mem_reverse] at hrc
      obtain ⟨i, hi, rfl⟩ := List.getElem_of_mem hrc
      have him : i < ms.length := by rw [m2.1]; exact hi
      have hm : i ∈ upto (bkR ms) ms.length := by
        unfold upto
        exact List.mem_map.2 ⟨ms.length - 1 - i, List.mem_range.2 (by omega), by unfold bkR; omega⟩
      have := h6 i hm
      rw [show rAt ms i = ms[i] by unfold rAt; rw [List.getD_eq_getElem?_getD, List.getElem?_eq_getElem him, Option.getD_some], (m2.2 i him hi).l] at this
      simpa using this
    rw [hnone]
    rfl
  case stop =>
    rintro D' c pre W hD' ⟨k, hk, hp⟩ ⟨rfl, q, y, A, c', u, e1, e2, e3, e4, e5, e6, e7, e8, e9⟩ hK
    refine wpIn_wide.2 (wp_ret ?_)
    simp only [Exit.inBlock, Exit.then]
    have gp : ∀ {b cs t}, HB W b cs t → b < w.heap.size + 4 → HB (W.putObj D' (.deferred none)) b cs t := fun hb hlt => (World.putObj_heap_other (by omega)).trans hb
    refine ret_leaves (hT := hT) (n := 25) rfl rfl hK (bk_res (a := ⟨w.heap.size + 1, 0, none⟩) (b := ⟨w.heap.size + 1 + 1, 0, none⟩) rfl rfl ?_)
    refine hb_ldI0 (gp e7 (by omega)) rfl (hb_ldI (j := 1) (gp e7 (by omega)) rfl (hb_ldS (j := 2) (gp e7 (by omega)) rfl ⟨_, hb_at (gp e8 (by omega)) 0 (.bool true) rfl, ?_⟩))
    refine ⟨e9.trans (below_put _ _ (by omega)), ?_⟩
    obtain ⟨k', rfl⟩ : ∃ k', k = k' + 1 := by
      cases k with
      | zero => rw [hp] at e1; cases q <;> cases e1
      | succ k' => exact ⟨k', rfl⟩
    rw [hp, upto_succ] at e1
    obtain ⟨eq, ey⟩ := List.append_inj' e1 rfl
    have ey : bkR ms k' = y := by injection ey
    have hyl : y < ms.length := by rw [← ey]; unfold bkR; omega
    have hyr : y < l.recs.length := by rw [← m2.1]; exact hyl
    have er : ∀ j (h : j < ms.length), rAt ms j = ms[j] := fun j h => by unfold rAt; rw [List.getD_eq_getElem?_getD, List.getElem?_eq_getElem h, Option.getD_some]
    have hrc := m2.2 y hyl hyr
    rw [er y hyl] at e3 e4 e5 ⊢
    have hb := backL_at (T := T) hyr (by rw [← hrc.l]; exact e3) fun j hj hlt => by
      have hjm : j < ms.length := by rw [m2.1]; exact hj
      have hm : j ∈ q := by
        rw [← eq]
        unfold upto
        have : y = ms.length - 1 - k' := ey.symm
        exact List.mem_map.2 ⟨ms.length - 1 - j, List.mem_range.2 (by omega), by unfold bkR; omega⟩
      have := e2 j hm
      rw [er j hjm, (m2.2 j hjm hj).l] at this
      exact this
    rw [hb]
    have eu : u = l.recs[y].body := rb_det e4 hrc.rb (by rw [← e5, hrc.n])
    refine ⟨A, c', ?_, ?_⟩
    · rw [← eu, hrc.l, hrc.k]; rfl
    · rw [← eu]
      refine e6.only (grownBy_putObj' W D' (.deferred none)) fun a ha e => ?_
      obtain ⟨cs, hc⟩ := own_hbB e6 ha
      injection e with e
      rw [e] at hc
      rw [show W.heap[D']? = some _ from hc] at hK
      cases hK
end
end Go.Proofs.YtpokaafedpnbdaaDoor.Rd

/-! wal's laws: rows of records of the law's own, the log kept while they grow. Conditions: none. -/
namespace Go.Proofs.YtpokaafedpnbdaaDoor.Rd
open Go.Dn Go.RowKit Go.Shelf
set_option linter.unusedVariables false
set_option linter.unusedSimpArgs false
set_option maxRecDepth 100000
section
variable {w w' : World} {N S : Nat → Prop} {B B1 : Nat} {r : RD} {d : Dk} {ρ : RL} {l : Lg} {xs : List (Int × List UInt8)} {mb : Bool}
theorem RcM.keepsT {m : MR} {rc : Rc} (h : RcM w N m rc) (k : Keeps S w w') (hT : ∀ k, S k → ∀ cs, ¬ HB w k cs TU8) : RcM w' N m rc :=
  have hn : ∀ a, m.A = some a → ¬ S a.block := fun a ha hs => by
    obtain ⟨cs, hc⟩ := h.ty a ha
    exact hT _ hs cs hc
  ⟨h.l, h.k, h.n, h.c, h.b, RBk h.rb k hn, fun a ha => ⟨Nat.lt_of_lt_of_le (h.a a ha).1 k.size, (h.a a ha).2⟩, fun a ha => by
    obtain ⟨cs, hc⟩ := h.ty a ha
    exact ⟨cs, hc.keeps k (hn a ha)⟩⟩
theorem LM.keepsT (h : LM w B r ρ l) (k : Keeps S w w') (hS : ∀ k, LN ρ k → ¬ S k) (hT : ∀ k, S k → ∀ cs, ¬ HB w k cs TU8) : LM w' B r ρ l := by
  obtain ⟨ms, h1, h2⟩ := h.rc
  exact ⟨h.hb.keeps k (hS _ (.inl rfl)), h.lo, OwnB.keepsB h.st k fun a ha => hS _ (.inr (.inl ⟨a, ha, rfl⟩)), ms, h1.keeps k fun a ha => hS _ (.inr (.inr ⟨a, ha, rfl⟩)), ⟨h2.1, fun i h h' => (h2.2 i h h').keepsT k hT⟩⟩
theorem WS.keepsT (h : WS w B r ρ d l xs mb) (k : Keeps S w w') (hS : ∀ k, WN r ρ k → ¬ S k) (hT : ∀ k, S k → ∀ cs, ¬ HB w k cs TU8) : WS w' B r ρ d l xs mb :=
  ⟨h.dm.keeps k fun b hb => hS b (.inl hb), h.lm.keepsT k (fun b hb => hS b (.inr hb)) hT, h.cr⟩
/-- a row of the law's own whose bodies lie below B0: others' data -/
def RsD (w : World) (B0 B : Nat) (A : Option Addr) (c : Nat) (rs : List Rc) : Prop :=
  ∃ ms, OwnE eR 3 w B TRec A c ms ∧ RsV w ms rs ∧ ∀ m ∈ ms, m.n ≠ 0 → ∀ a, m.A = some a → a.block < B0
theorem RsV.keeps {ms : List MR} {rs : List Rc} (h : RsV w ms rs) (k : Keeps S w w') (hb : ∀ m ∈ ms, m.n ≠ 0 → ∀ a, m.A = some a → ¬ S a.block) : RsV w' ms rs := ⟨h.1, fun i h1 h2 => by
  have q := h.2 i h1 h2
  refine ⟨q.l, q.k, q.n, q.b, ?_⟩
  by_cases h0 : ms[i].n = 0
  · have : rs[i].body = [] := List.length_eq_zero_iff.1 (by rw [← q.n]; exact h0)
    rw [this]; exact RB.nil _ _
  · exact RBk q.rb k (hb _ (List.getElem_mem h1) h0)⟩
theorem RsD.keeps {B0 : Nat} {A : Option Addr} {c : Nat} {rs : List Rc} (h : RsD w B0 B A c rs) (k : Keeps S w w') (hS : ∀ k, S k → B0 ≤ k) (hA : ∀ k, Ob A k → ¬ S k) : RsD w' B0 B A c rs := by
  obtain ⟨ms, h1, h2, h3⟩ := h
  exact ⟨ms, h1.keeps k fun a ha => hA _ ⟨a, ha, rfl⟩, h2.keeps k fun m hm h0 a ha hs => by have := h3 m hm h0 a ha; have := hS _ hs; omega, h3⟩
end
end Go.Proofs.YtpokaafedpnbdaaDoor.Rd

/-! The document's From. Conditions: at most 2^40 records. -/
namespace Go.Proofs.YtpokaafedpnbdaaDoor.Rd
open Go.Dn Go.RowKit Go.Shelf
set_option linter.unusedVariables false
set_option linter.unusedSimpArgs false
set_option maxRecDepth 100000
def frF (T : Int) (rs : List Rc) : List Rc := rs.filter fun r => decide (T ≤ r.lsn)
section
variable {w w0 w' : World}
theorem RsV.snoc {ms : List MR} {rs : List Rc} (h : RsV w ms rs) {m : MR} {r : Rc} (hr : RcV w m r) : RsV w (ms ++ [m]) (rs ++ [r]) := ⟨by simp [h.1], fun i h1 h2 => by
  by_cases hi : i < ms.length
  · rw [List.getElem_append_left hi, List.getElem_append_left (by rw [← h.1]; exact hi)]; exact h.2 i hi _
  · have : i = ms.length := by simp at h1; omega
    subst this
    have e1 : (ms ++ [m])[ms.length]'h1 = m := by simp
    have e2 : (rs ++ [r])[ms.length]'h2 = r := by
      rw [List.getElem_append_right (by rw [h.1]; exact Nat.le_refl _)]
      simp [h.1]
    rw [e1, e2]; exact hr⟩
theorem From_l0 {A : Option Addr} {c : Nat} {ms : List MR} {rs : List Rc} {T : Int} (hr0 : RowE eR 3 w0 A ms) (hv0 : RsV w0 ms rs) (hl : rs.length ≤ 1000000) {K : Option Addr → Nat → Nat → World → Prop}
    (hK : ∀ A' c' w' ms', OwnE eR 3 w' w0.heap.size TRec A' c' ms' → RsV w' ms' (frF T rs) → Below w0.heap.size w0 w' → K A' (frF T rs).length c' w') :
    ∀ (m i : Nat) (w : World) (A5 : Option Addr) (c5 : Nat) (ms5 : List MR), m + i = rs.length → Below w0.heap.size w0 w → OwnE eR 3 w w0.heap.size TRec A5 c5 ms5 → RsV w0 ms5 (frF T (rs.take i)) → ms5.length ≤ i →
      f_ref09_From.l0 (m + 1) A rs.length c T A5 (frF T (rs.take i)).length c5 (i : Int) w K := by
  intro m
  induction m with
  | zero =>
    intro i w A5 c5 ms5 hi hb ho hv hle
    unfold f_ref09_From.l0
    have : i = rs.length := by omega
    subst this
    rw [List.take_length] at hv ⊢
    exact sel_f (by simp) (hK A5 c5 w ms5 ho ⟨hv.1, fun j h1 h2 => (hv.2 j h1 h2).below hb⟩ hb)
  | succ m ih =>
    intro i w A5 c5 ms5 hi hb ho hv hle
    have hlt : i < rs.length := by omega
    have hlm : i < ms.length := by rw [hv0.1]; exact hlt
    have row := hr0.keeps ER (S := fun _ => False) (.of_below hb) fun _ _ => id
    obtain ⟨a, rfl, _⟩ := row i hlm
    have c0 := row.c0 ER hlm
    have c1 := row.cj hlm (j := 1) (by decide)
    have c2 := row.cj hlm (j := 2) (by decide)
    have hq := hv0.2 i hlm hlt
    have ht : rs.take (i + 1) = rs.take i ++ [rs[i]] := by rw [List.take_succ_eq_append_getElem hlt]
    unfold f_ref09_From.l0
    refine sel_t (by simpa using hlt) (optB_some rfl (req_intro (by simp; omega) ?_))
    rw [Int.toNat_natCast, show IntKind.i64.wrap ((i : Int) + 1) = ((i + 1 : Nat) : Int) by rw [w64_in (by omega)]; omega]
    refine ldI_intro (x := ms[i].lsn) c0 ?_
    by_cases hT : T ≤ rs[i].lsn
    · have ef : frF T (rs.take (i + 1)) = frF T (rs.take i) ++ [rs[i]] := by unfold frF; rw [ht, List.filter_append]; simp [hT]
      refine sel_t (by rw [hq.l]; simpa using hT) (optB_some rfl (req_intro (by simp; omega) (ldI_intro (x := ms[i].lsn) c0 (ldI_intro (x := ms[i].kind) c1 (ldS_intro (A := ms[i].A) (n := ms[i].n) (c := ms[i].c) c2 ?_)))))
      refine put_e RTr ER (by decide) ho (by rw [hv.1]) ms[i] rfl hb.size (by omega) fun A' c' w1 o1 k1 f1 => ?_
      have g1 : Below w0.heap.size w0 w1 := hb.trans (k1.below hb.size fun k hk ⟨a2, ha, e⟩ => by have := (ho.block a2 ha).1; omega)
      have := ih (i + 1) w1 (some A') c' (ms5 ++ [ms[i]]) (by omega) g1 o1 (by rw [ef]; exact hv.snoc hq) (by rw [List.length_append, List.length_singleton]; omega)
      rw [ef, List.length_append, List.length_singleton, ← hv.1] at this
      rw [List.length_append, List.length_singleton]
      exact this
    · have ef : frF T (rs.take (i + 1)) = frF T (rs.take i) := by unfold frF; rw [ht, List.filter_append]; simp [hT]
      refine sel_f (by rw [hq.l]; simp; omega) ?_
      have := ih (i + 1) w A5 c5 ms5 (by omega) hb ho (by rw [ef]; exact hv) (by omega)
      rw [ef] at this
      exact this
theorem From_ok {A : Option Addr} {c : Nat} {ms : List MR} {rs : List Rc} {T : Int} (hr0 : RowE eR 3 w A ms) (hv0 : RsV w ms rs) (hl : rs.length ≤ 1000000) :
    Calls Tryd.prog 27 #[.slice A rs.length c, .int .i64 T] w fun e w' => ∃ A' c' ms', e = .returned (.slice A' (frF T rs).length c') ∧ OwnE eR 3 w' w.heap.size TRec A' c' ms' ∧ RsV w' ms' (frF T rs) ∧ Below w.heap.size w w' := by
  apply f_ref09_From.ok
  unfold f_ref09_From.wp
  refine alW_intro ⟨rs.length + 1, ?_⟩
  have b1 : Below w.heap.size w (w.alloc (.cells #[] TRec)) := (Below.refl _ _).alloc (Nat.le_refl _) _
  have o := OwnE.empty (enc := eR) (k := 3) (w := w) (B := w.heap.size) (e := TRec) (Nat.le_refl _)
  exact From_l0 (T := T) hr0 hv0 hl (fun A' c' w' ms' h1 h2 h3 _ => ⟨A', c', ms', rfl, h1, h2, h3⟩) rs.length 0 _ _ _ [] rfl b1 o ⟨rfl, fun i h => absurd h (Nat.not_lt_zero _)⟩ (Nat.le_refl _)
end
end Go.Proofs.YtpokaafedpnbdaaDoor.Rd

/-! The statement WalBack, walked: records put in. Conditions: rows of bytes below 2^46. -/
namespace Go.Proofs.YtpokaafedpnbdaaDoor.Rd
open Go.Dn Go.RowKit Go.Shelf
set_option linter.unusedVariables false
set_option linter.unusedSimpArgs false
set_option maxRecDepth 100000
section
variable {w w0 w' : World} {B : Nat} {r : RD} {d : Dk} {ρ : RL} {l : Lg} {xs : List (Int × List UInt8)} {mb : Bool}
/-- the law's own list: the log's records, their bodies the parameter's data -/
structure AlI (w : World) (B0 B : Nat) (r : RD) (ρ : RL) (A : Option Addr) (c : Nat) (rs : List Rc) : Prop where
  d : RsD w B0 B A c rs
  n : ∀ k, WN r ρ k → ¬ Ob A k
theorem ob_ty {α : Type} {enc : α → List Value} {k c : Nat} {A : Option Addr} {l : List α} (h : OwnE enc k w B TRec A c l) : ∀ b, Ob A b → ∀ cs, ¬ HB w b cs TU8 := by
  rintro b ⟨a, ha, rfl⟩ cs hc
  obtain ⟨cs', hc'⟩ := own_hb h ha
  exact absurd (HB.ty hc hc') (by decide)
/-- what holds between two rounds of putting in -/
structure BkS (w : World) (B0 B : Nat) (r : RD) (L : Nat) (d : Dk) (count : Nat) (A : Option Addr) (c n : Nat) : Prop where
  ex : ∃ ρ l xs, ρ.L = L ∧ WS w B r ρ d l xs false ∧ l.first = 1 ∧ l.count = count ∧ l.run = 2 ∧ l.most = 2 ∧ l.dead = false ∧ l.old = false ∧ AlI w B0 B r ρ A c l.recs ∧ n = l.recs.length
theorem rb_low {A : Option Addr} {u : List UInt8} (h : Go.Dn.RB w A u) (hu : u.length ≠ 0) : ∀ a, A = some a → a.block < w.heap.size := by
  rintro a rfl
  obtain ⟨a', e, hc⟩ := h 0 (by omega)
  cases e
  exact World.block_lt_of_cell? _ _ hc
theorem putL_2 {u : Nat} (h : u < 16384) : (putL u).length ≤ 2 := by
  show (putF 9 u).length ≤ 2
  by_cases h1 : u < 128
  · rw [putF_small h1]; simp
  · have hp : putF 9 u = UInt8.ofNat (u % 128 + 128) :: putF 8 (u / 128) := by
      show (if u < 128 then [UInt8.ofNat u] else UInt8.ofNat (u % 128 + 128) :: putF 8 (u / 128)) = _
      rw [if_neg h1]
    rw [hp, putF_small (by omega)]; simp
theorem appendL_bad {kd : Int} {u : List UInt8} (hd : l.dead = false) (ho : l.old = false) (hk : 1 ≤ kd ∧ kd ≤ 255) (hne : (appendL l kd u).2.2 ≠ 0) :
    ((appendL l kd u).2.2 = 90 ∧ (l.count : Int) * 498 - l.stream.length ≤ u.length + 4) ∨ ((appendL l kd u).2.2 = 4 ∧ 1200 < u.length) := by
  unfold appendL at hne ⊢
  rw [if_neg (by rw [hd]; decide), if_neg (by rw [ho]; decide), if_neg (by omega)] at hne ⊢
  by_cases h1 : 1200 < u.length
  · rw [if_pos h1]; exact .inr ⟨rfl, h1⟩
  · rw [if_neg h1] at hne ⊢
    by_cases h2 : (l.count : Int) * 498 - l.stream.length < (recB kd u).length
    · rw [if_pos h2]
      have := (recB_len kd u).2
      have := putL_2 (u := u.length) (by omega)
      exact .inl ⟨rfl, by omega⟩
    · rw [if_neg h2] at hne; exact absurd rfl hne
set_option maxHeartbeats 2000000 in
theorem back_l0 {A48 : Option Addr} {c48 : Nat} {Ls : List (List UInt8)} {L count : Nat} (hr : RPr w0 A48 Ls) (hL : Ls.length ≤ 17592186044416) (hBB : w0.heap.size ≤ B)
    {K0 : Option Addr → Nat → Nat → World → Prop} {Kr : Bool → World → Prop} (hK : ∀ A' c' n' w', BkS w' w0.heap.size B r L d count A' c' n' → Below w0.heap.size w0 w' → K0 A' n' c' w') :
    ∀ (m i : Nat) (w : World) (A : Option Addr) (c n : Nat), m + i = Ls.length → BkS w w0.heap.size B r L d count A c n → Below w0.heap.size w0 w → f_law09_WalBack.l0 (m + 1) (some ⟨L, 0, none⟩) A n c A48 Ls.length c48 (Ls.length : Int) (i : Int) w K0 Kr := by
  intro m
  induction m with
  | zero =>
    intro i w A c n hi h hb
    unfold f_law09_WalBack.l0
    exact sel_f (by simp; omega) (hK A c n w h hb)
  | succ m ih =>
    intro i w A c n hi h hb
    have hlt : i < Ls.length := by omega
    obtain ⟨a, Ai, ci, rfl, hc0, hrb0, hle, hz, hlen⟩ := hr i hlt
    have hc := (hb.cell (World.block_lt_of_cell? _ _ hc0)).trans hc0
    have hrb := hrb0.below hb (Nat.le_refl _)
    obtain ⟨ρ, l, xs, rfl, S, e1, e2, e3, e4, e5, e6, AL, rfl⟩ := h.ex
    unfold f_law09_WalBack.l0
    refine sel_t (by simpa using hlt) (optB_some rfl (req_intro (by simp; omega) ?_))
    rw [Int.toNat_natCast, Nat.mul_one]
    refine ldS_intro hc ?_
    rw [show IntKind.i64.wrap ((i : Int) + 1) = ((i + 1 : Nat) : Int) by rw [w64_in (by omega)]; omega]
    refine (Room_ok S.lm S.cr.lg).mono ?_
    rintro _ w1 ⟨rfl, g1⟩
    have S1 := S.below g1
    refine ⟨_, rfl, (End_ok S1.lm S1.cr.lg).mono ?_⟩
    rintro _ w1 ⟨rfl, rfl⟩
    refine ⟨_, rfl, (Copy_ok (hrb.below g1 (Nat.le_refl _)) (by omega)).mono ?_⟩
    rintro _ w2 ⟨A2, c2, rfl, o2, g2⟩
    have S2 := S1.below g2
    refine ⟨_, _, _, rfl, ?_⟩
    obtain ⟨kd, hkd⟩ : ∃ kd, IntKind.i64.wrap ((1 : Int) + ((i : Int).tmod (255 : Int))) = kd := ⟨_, rfl⟩
    have hk1 : 1 ≤ kd ∧ kd ≤ 255 := by
      rw [← hkd, Int.tmod_eq_emod_of_nonneg (Int.natCast_nonneg _), w64_in (by omega)]
      omega
    rw [hkd]
    refine (S2.append (kind := kd) (u := Ls[i]) o2.reads rfl o2.nil0 (fun a ha hN => ?_) hlen).mono ?_
    · have := (o2.block a ha).1; have := (S1.lm.lt _ hN).1; omega
    rintro _ w3 ⟨ρ3, rfl, eL3, S3, n3, k3⟩
    refine ⟨_, _, rfl, ?_⟩
    obtain ⟨f1, f2, f3, f4, f5, f6', f7⟩ := appendL_f l kd Ls[i]
    have hc16 := S.cr.lg.c
    have hs := S.cr.lg.s
    rw [← eL3]
    rcases S2.cr.append kd Ls[i] with ⟨ec, _, hx, ea, el⟩ | ⟨ec, ea, el⟩
    · have hlen' : (appendL l kd Ls[i]).1.stream.length = l.stream.length + (recB kd Ls[i]).length := by rw [el]; exact List.length_append
      have hrb2 := (recB_len kd Ls[i]).1
      have hs3 := S3.cr.lg.s
      rw [hlen'] at hs3
      refine sel_t (by rw [ec]; rfl) (sel_f (by rw [ea]; simp) ((Room_ok S3.lm S3.cr.lg).mono ?_))
      rintro _ w4 ⟨rfl, g4⟩
      have S4 := S3.below g4
      refine ⟨_, rfl, sel_f (by rw [f2, hlen']; simp; omega) ((End_ok S4.lm S4.cr.lg).mono ?_)⟩
      rintro _ w4 ⟨rfl, rfl⟩
      refine ⟨_, rfl, (Room_ok S4.lm S4.cr.lg).mono ?_⟩
      rintro _ w5 ⟨rfl, g5⟩
      have S5 := S4.below g5
      have hrun : (appendL l kd Ls[i]).1.run = 2 := f3.trans e3
      refine ⟨_, rfl, sel_f ?_ ?_⟩
      · rw [f2, hlen', hrun, e3, w64_in (by omega), w64_in (by omega)]
        simp
        omega
      · have k5 : Keeps (WN r ρ) w w5 := ((((Keeps.of_below g1).trans (.of_below g2)).trans k3).trans (.of_below g4)).trans (.of_below g5)
        have z12 : w.heap.size ≤ w2.heap.size := Nat.le_trans g1.size g2.size
        have hWN : ∀ k, WN r ρ k → w0.heap.size ≤ k := fun k hk => Nat.le_trans hBB (S.wn k hk).2
        obtain ⟨ms, om, vm, bm⟩ := AL.d
        have om5 : OwnE eR 3 w5 B TRec A c ms := om.keeps k5 fun a ha hn => AL.n _ hn ⟨a, ha, rfl⟩
        have vm5 : RsV w5 ms l.recs := vm.keeps k5 fun m hm h0 a ha hn => by have := bm m hm h0 a ha; have := hWN _ hn; omega
        have hrs := S.cr.lg.rs
        refine put_e RTr ER (by decide) om5 (by rw [vm.1]) ⟨(appendL l kd Ls[i]).2.1, kd, Ai, Ls[i].length, ci⟩ rfl S5.lo (by have := vm.1; omega) fun A' c' w6 o6 k6 f6 => ?_
        have hn5 : ∀ k, WN r ρ3 k → ¬ Ob A k := fun k hk ho => by
          rcases hk with hk | hk
          · exact AL.n k (.inl hk) ho
          · rcases n3 k hk with hk | hk
            · exact AL.n k (.inr hk) ho
            · obtain ⟨a, ha, e⟩ := ho
              have := (om.block a ha).2
              omega
        have b5 : Below w0.heap.size w w5 := (S.bel k5).mono hBB
        have b6 : Below w0.heap.size w w6 := b5.trans (k6.below (Nat.le_trans hb.size b5.size) fun k hk ⟨a, ha, e⟩ => by have := (om.block a ha).1; omega)
        have S6 := S5.keepsT k6 hn5 (ob_ty om5)
        have er : (appendL l kd Ls[i]).1.recs = l.recs ++ [⟨(appendL l kd Ls[i]).2.1, kd, Ls[i]⟩] := by rw [ea, el]; rfl
        have hb6 := hb.trans b6
        rw [eL3]
        refine ih (i + 1) w6 (some A') c' _ (by omega) ⟨ρ3, _, _, eL3, S6, f1.trans e1, f2.trans e2, f3.trans e3, f4.trans e4, f5.trans e5, f6'.trans e6, ⟨?_, ?_⟩, ?_⟩ hb6
        · rw [er]
          refine ⟨_, o6, (vm5.keeps k6 fun m hm h0 a ha hn => ?_).snoc ⟨rfl, rfl, rfl, hx.2.2, hrb0.below hb6 (Nat.le_refl _)⟩, fun m hm h0 a ha => ?_⟩
          · obtain ⟨a2, ha2, e⟩ := hn
            have := bm m hm h0 a ha
            have := (om.block a2 ha2).1
            omega
          · rcases List.mem_append.1 hm with hm | hm
            · exact bm m hm h0 a ha
            · rw [List.mem_singleton] at hm
              subst hm
              exact rb_low hrb0 h0 a ha
        · rintro k hk ⟨a, ha, e⟩
          cases ha
          rcases f6 with f6 | f6
          · exact hn5 k hk ⟨A', f6, e⟩
          · have := (S5.wn k hk).1; omega
        · rw [er, List.length_append, List.length_append, vm.1]; rfl
    · have hbad := appendL_bad e5 e6 hk1 ec
      refine sel_f (by simpa using ec) (sel_f (by rw [ea]; simp) ((Room_ok S3.lm S3.cr.lg).mono ?_))
      rintro _ w4 ⟨rfl, g4⟩
      have S4 := S3.below g4
      have k4 : Keeps (WN r ρ) w w4 := (((Keeps.of_below g1).trans (.of_below g2)).trans k3).trans (.of_below g4)
      have b4 : Below w0.heap.size w w4 := (S.bel k4).mono hBB
      have hgo : f_law09_WalBack.l0 (m + 1) (some ⟨ρ3.L, 0, none⟩) A l.recs.length c (some a) Ls.length c48 (Ls.length : Int) ((i + 1 : Nat) : Int) w4 K0 Kr := by
        rw [eL3]
        refine ih (i + 1) w4 A c _ (by omega) ⟨ρ3, _, _, eL3, S4, f1.trans e1, f2.trans e2, f3.trans e3, f4.trans e4, f5.trans e5, f6'.trans e6, ⟨?_, ?_⟩, ?_⟩ (hb.trans b4)
        · rw [el]
          exact AL.d.keeps k4 (fun k hk => Nat.le_trans hBB (S.wn k hk).2) fun k ho hn => AL.n k hn ho
        · rintro k (hk | hk) ho
          · exact AL.n k (.inl hk) ho
          · rcases n3 k hk with hk | hk
            · exact AL.n k (.inr hk) ho
            · obtain ⟨ms, om, _⟩ := AL.d
              obtain ⟨a, ha, e⟩ := ho
              have := (om.block a ha).2
              have := g1.size
              have := g2.size
              omega
        · rw [el]
      refine ⟨_, rfl, sel_f (by rw [el]; simp) ?_⟩
      rcases hbad with ⟨hc9, hr9⟩ | ⟨hc9, hr9⟩
      · refine sel_t (by rw [hc9]; rfl) (sel_f ?_ (sel_f (by rw [hc9]; rfl) hgo))
        rw [w64_in (by omega)]
        simp
        omega
      · exact sel_f (by rw [hc9]; rfl) (sel_t (by rw [hc9]; rfl) (sel_f (by simp; omega) hgo))
end
end Go.Proofs.YtpokaafedpnbdaaDoor.Rd

/-! The statement WalBack, walked: Back from the end, and all that follows. Conditions: rows of bytes below 2^46. -/
namespace Go.Proofs.YtpokaafedpnbdaaDoor.Rd
open Go.Dn Go.RowKit Go.Shelf
set_option linter.unusedVariables false
set_option linter.unusedSimpArgs false
set_option maxRecDepth 100000
section
variable {w w0 w' : World} {B : Nat} {r : RD} {d : Dk} {ρ : RL} {l : Lg} {xs : List (Int × List UInt8)} {mb : Bool}
theorem sel_dup {c b : Bool} {X P : Prop} (hb : b = false) (h : P) : sel c (sel b X P) P := by
  subst hb; cases c <;> exact h
/-! ### LSNs rise -/
def Inc (rs : List Rc) : Prop := ∀ i j (hj : j < rs.length) (hij : i < j), (rs[i]'(Nat.lt_trans hij hj)).lsn < rs[j].lsn
theorem rcsOf_bd (run : Nat) : ∀ (xs : List (Int × List UInt8)) (a : Nat), ∀ r ∈ rcsOf run a xs, ((run * 16777216 + a : Nat) : Int) ≤ r.lsn ∧ r.lsn < ((run * 16777216 + a + (recsB xs).length : Nat) : Int)
  | [], a, r, h => by cases h
  | x :: xs, a, r, h => by
    rw [rcsOf] at h
    have h2 := (recB_len x.1 x.2).1
    have h3 : (recsB (x :: xs)).length = (recB x.1 x.2).length + (recsB xs).length := by rw [recsB_cons, List.length_append]
    rcases List.mem_cons.1 h with rfl | h
    · exact ⟨Int.le_refl _, by show ((_ : Nat) : Int) < _; omega⟩
    · have := rcsOf_bd run xs _ r h; omega
theorem rcsOf_inc (run : Nat) : ∀ (xs : List (Int × List UInt8)) (a : Nat), Inc (rcsOf run a xs)
  | [], a, i, j, hj, hij => absurd hj (Nat.not_lt_zero _)
  | x :: xs, a, i, j, hj, hij => by
    have h2 := (recB_len x.1 x.2).1
    cases j with
    | zero => omega
    | succ j =>
      have hj' : j < (rcsOf run (a + (recB x.1 x.2).length) xs).length := by simpa [rcsOf] using hj
      cases i with
      | zero =>
        have := (rcsOf_bd run xs _ _ (List.getElem_mem hj')).1
        show ((run * 16777216 + a : Nat) : Int) < ((rcsOf run (a + (recB x.1 x.2).length) xs)[j]).lsn
        omega
      | succ i => exact rcsOf_inc run xs _ i j hj' (by omega)
theorem frF_eq {T : Int} : ∀ {rs : List Rc}, Inc rs → frF T rs = fromL T rs
  | [], _ => rfl
  | r :: rs, h => by
    have hs : Inc rs := fun i j hj hij => h (i + 1) (j + 1) (by simpa using hj) (by omega)
    unfold fromL ixL
    by_cases hT : r.lsn < T
    · rw [if_pos hT, List.drop_succ_cons]
      have := frF_eq (T := T) hs
      unfold frF at this ⊢
      rw [List.filter_cons_of_neg (by simp; omega), this]
      rfl
    · rw [if_neg hT, List.drop_zero]
      unfold frF
      refine List.filter_eq_self.2 fun s hm => ?_
      rcases List.mem_cons.1 hm with rfl | hm
      · simp; omega
      · obtain ⟨j, hj, rfl⟩ := List.getElem_of_mem hm
        have := h 0 (j + 1) (by simpa using hj) (by omega)
        simp at this ⊢
        omega
/-! ### the rounds backwards -/
def AtB (rs : List Rc) (i : Nat) (T : Int) : Prop := ∀ j (h : j < rs.length), (j < i → rs[j].lsn < T) ∧ (i ≤ j → T ≤ rs[j].lsn)
theorem AtB.some {rs : List Rc} {i : Nat} {T : Int} (h : AtB rs (i + 1) T) (hi : i < rs.length) : backL T rs = some rs[i] := backL_at hi ((h i hi).1 (by omega)) fun j hj hij => (h j hj).2 hij
theorem AtB.none {rs : List Rc} {T : Int} (h : AtB rs 0 T) : backL T rs = none := by
  unfold backL
  refine List.find?_eq_none.2 fun r hr => ?_
  obtain ⟨j, hj, rfl⟩ := List.getElem_of_mem (List.mem_reverse.1 hr)
  have := (h j hj).2 (Nat.zero_le _)
  simp; omega
theorem AtB.next {rs : List Rc} {i : Nat} (hinc : Inc rs) (hi : i < rs.length) : AtB rs i rs[i].lsn := fun j hj => ⟨fun hji => hinc j i hi hji, fun hij => by
  by_cases e : j = i
  · subst e; exact Int.le_refl _
  · exact Int.le_of_lt (hinc i j hj (by omega))⟩
theorem row_one {b : Nat} {m : MR} {t : TypeId} (h : HB w b #[.int .i64 m.lsn, .int .i64 m.kind, .slice m.A m.n m.c] t) : RowE eR 3 w (some ⟨b, 0, none⟩) [m] := fun i hi => by
  have : i = 0 := by simpa using hi
  subst this
  refine ⟨_, rfl, fun j hj => ?_⟩
  have := h.cell j
  rw [show (⟨b, 0, none⟩ : Addr).add (0 * 3) = ⟨b, 0, none⟩ from rfl, this]
  match j, hj with
  | 0, _ => rfl
  | 1, _ => rfl
  | 2, _ => rfl
theorem row_hd {A : Option Addr} {m : MR} {ms : List MR} (h : RowE eR 3 w A (m :: ms)) : RowE eR 3 w A [m] := fun i hi => by
  have : i = 0 := by simpa using hi
  subst this
  exact h 0 (by simp)
theorem RsD.below {B0 : Nat} {A : Option Addr} {c : Nat} {rs : List Rc} (h : RsD w B0 B A c rs) (k : Below w.heap.size w w') : RsD w' B0 B A c rs := h.keeps (S := fun _ => False) (.of_below k) (fun _ h => h.elim) fun _ _ h => h
theorem Back_ok {T : Int} (hl : LM w B r ρ l) (hs : LgS l) :
    Calls Tryd.prog 26 #[.pointer (some ⟨ρ.L, 0, none⟩), .int .i64 T] w (bkR_post w T l.recs) := callsIn_wide.1 (Back_in hl hs)
theorem back_l1 {A : Option Addr} {c B0 : Nat} (S : WS w0 B r ρ d l xs mb) (hd0 : RsD w0 B0 B A c l.recs) (hinc : Inc l.recs) {K : Int → World → Prop} {Kr : Bool → World → Prop}
    (hK : ∀ T w', AtB l.recs 0 T → Below w0.heap.size w0 w' → K T w') :
    ∀ (i : Nat) (T : Int) (w : World), i ≤ l.recs.length → AtB l.recs i T → Below w0.heap.size w0 w → f_law09_WalBack.l1 (i + 1) (some ⟨ρ.L, 0, none⟩) A l.recs.length c T ((i : Int) - 1) w K Kr := by
  intro i
  induction i with
  | zero =>
    intro T w hi hT hb
    unfold f_law09_WalBack.l1
    exact sel_f (by simp) (hK T w hT hb)
  | succ i ih =>
    intro T w hi hT hb
    have hlt : i < l.recs.length := by omega
    have S1 := S.below hb
    have hsz := S.cr.lg.s
    have hrz := S.cr.lg.rs
    unfold f_law09_WalBack.l1
    rw [show ((i + 1 : Nat) : Int) - 1 = (i : Int) by omega]
    refine sel_t (by simp) ((Back_ok S1.lm S1.cr.lg).mono ?_)
    rintro e w1 ⟨g1, hp⟩
    rw [hT.some hlt] at hp
    obtain ⟨A1, c1, rfl, o1⟩ := hp
    refine ⟨_, _, _, _, _, _, rfl, al_new fun w2 b e2 s2 h2 g2 => hb_st0 h2 (by simp) fun w3 h3 k3 => hb_st h3 (by simp) fun w4 h4 k4 => hb_st h4 (by simp) fun w5 h5 k5 => drW_intro ?_⟩
    have h5' : HB w5 b #[.int .i64 l.recs[i].lsn, .int .i64 l.recs[i].kind, .slice A1 l.recs[i].body.length c1] TRec := h5
    have g5 : Below w1.heap.size w1 w5 := g2.trans (((k3.trans k4).trans k5).below g2.size fun k hk e => by omega)
    have z01 := hb.size
    have g01 : Below w0.heap.size w0 w1 := hb.trans (g1.mono hb.size)
    have g05 : Below w0.heap.size w0 w5 := g01.trans (g5.mono g01.size)
    have o5 := o1.reads.below g5 (Nat.le_refl _)
    have gd : Below w5.heap.size w5 w5.drew := (Below.refl _ _).drew
    refine ⟨fun W => HB W b #[.int .i64 l.recs[i].lsn, .int .i64 l.recs[i].kind, .slice A1 l.recs[i].body.length c1] TRec, h5'.below gd, sel_f rfl ?_⟩
    refine ⟨l.recs[i].lsn, fun W hW => hW.cell 0, l.recs[i].kind, fun W hW => hW.cell 1, A1, l.recs[i].body.length, c1, fun W hW => hW.cell 2, ?_⟩
    obtain ⟨ms, om, vm, bm⟩ := hd0.below (g05.trans (gd.mono g05.size))
    have hcap : l.recs.length ≤ c := by
      rw [← vm.1]
      obtain ⟨_, h⟩ := om
      rcases h with ⟨h, h0⟩ | ⟨g, cap, cur, hv, _, _, hn, _⟩
      · omega
      · injection hv with _ _ hc; omega
    rw [w64_in (by omega)]
    refine req_intro (by simp; omega) (req_intro (by simp; omega) (al_new fun w6 b6 e6 s6 h6 g6 => ⟨(h5'.below gd).below g6, ?_⟩))
    rw [Int.toNat_natCast, show ((i : Int) + 1).toNat - i = 1 by omega]
    have him : i < ms.length := by rw [vm.1]; exact hlt
    have hq := vm.2 i him hlt
    have row2 := rowE_sl (om.reads ER) him (c := c) (by rw [vm.1]; exact hcap)
    rw [List.drop_eq_getElem_cons him] at row2
    have rb6 := (o5.below gd (Nat.le_refl _)).below g6 (Nat.le_refl _)
    refine (Alike_eq (rs := [l.recs[i]]) (row_one (m := ⟨l.recs[i].lsn, l.recs[i].kind, A1, l.recs[i].body.length, c1⟩) h6) ((row_hd row2).below ER g6) ⟨rfl, fun j h1 h2 => ?_⟩ ⟨rfl, fun j h1 h2 => ?_⟩ (by simp)).mono ?_
    · have : j = 0 := by simpa using h1
      subst this
      exact ⟨rfl, rfl, rfl, hq.b, rb6⟩
    · have : j = 0 := by simpa using h1
      subst this
      exact hq.below g6
    · rintro _ w7 ⟨rfl, g7⟩
      have h7 := ((h5'.below gd).below g6).below g7
      refine ⟨_, rfl, sel_f rfl (ldI_intro (h7.cell 0) ?_)⟩
      rw [w64_in (by omega)]
      refine ih _ w7 (by omega) (AtB.next hinc hlt) ?_
      have gd5 := g05.trans (gd.mono g05.size)
      have g06 := gd5.trans (g6.mono gd5.size)
      exact g06.trans (g7.mono g06.size)
end
end Go.Proofs.YtpokaafedpnbdaaDoor.Rd

/-! The statement WalBack, walked. Conditions: rows of bytes below 2^46. -/
namespace Go.Proofs.YtpokaafedpnbdaaDoor.Rd
open Go.Dn Go.RowKit Go.Shelf
set_option linter.unusedVariables false
set_option linter.unusedSimpArgs false
set_option maxRecDepth 100000
section
variable {w w0 w' : World} {B : Nat} {r : RD} {d : Dk} {ρ : RL} {l : Lg} {xs : List (Int × List UInt8)} {mb : Bool}
theorem RsO.alikeD {A A2 : Option Addr} {c c2 B2 B0 : Nat} {rs rs2 : List Rc} (h : RsO w B A c rs) (h2 : RsD w B0 B2 A2 c2 rs2) (e : rs = rs2) (hl : rs.length ≤ 1099511627776) :
    Calls Tryd.prog 25 #[.slice A rs.length c, .slice A2 rs2.length c2] w fun e w' => e = .returned (.bool true) ∧ Below w.heap.size w w' := by
  subst e
  obtain ⟨ms, p1, p2⟩ := h
  obtain ⟨ms2, q1, q2, _⟩ := h2
  exact Alike_eq (p1.reads ER) (q1.reads ER) p2.v q2 hl
set_option maxHeartbeats 2000000 in
theorem WalBack_walk {A : Option Addr} {c : Nat} {Ls : List (List UInt8)} {count T : Int} {b : Bool} (hr : RPr w A Ls) (hL : Ls.length ≤ 17592186044416) :
    Calls Tryd.prog 6 #[.int .i64 count, .slice A Ls.length c, .int .i64 T, .bool b] w fun e w' => e = .returned (.bool true) ∧ Below w.heap.size w w' := by
  apply f_law09_WalBack.ok
  unfold f_law09_WalBack.wp
  refine (alive_ok w).mono ?_
  rintro _ w1 ⟨rfl, g1⟩
  refine ⟨_, rfl, sel_f rfl ?_⟩
  by_cases q1 : count < 1
  · exact sel_t (by simpa using q1) ⟨rfl, g1⟩
  refine sel_f (by simpa using q1) ?_
  by_cases q2 : 9 < count
  · exact sel_t (by simpa using q2) ⟨rfl, g1⟩
  refine sel_f (by simpa using q2) ?_
  obtain ⟨n, rfl⟩ : ∃ n : Nat, count = (n : Int) := ⟨count.toNat, by omega⟩
  refine (made_ok (count := n) (by omega) (by omega)).mono ?_
  rintro _ w2 ⟨r, ρ, d, rfl, S, np, hst, hsz, g2⟩
  have g02 : Below w.heap.size w w2 := g1.trans (g2.mono g1.size)
  have hB1 := g1.size
  refine ⟨_, _, rfl, sel_f rfl (sel_f rfl (alW_intro ?_))⟩
  have g3 : Below w2.heap.size w2 (w2.alloc (.cells #[] TRec)) := (Below.refl _ _).alloc (Nat.le_refl _) _
  have o3 := OwnE.empty (enc := eR) (k := 3) (w := w2) (B := w1.heap.size) (e := TRec) S.lo
  obtain ⟨w3, hw3⟩ : ∃ w3, w2.alloc (.cells #[] TRec) = w3 := ⟨_, rfl⟩
  rw [hw3] at g3 o3 ⊢
  have g03 : Below w.heap.size w w3 := g02.trans (g3.mono g02.size)
  have S3 := S.below g3
  have start : BkS w3 w.heap.size w1.heap.size r ρ.L d n (some ⟨w2.heap.size, 0, none⟩) 0 0 := ⟨ρ, mkL n, [], rfl, S3, rfl, rfl, rfl, rfl, rfl, rfl, ⟨⟨[], o3, ⟨rfl, fun i h => absurd h (Nat.not_lt_zero _)⟩, fun m hm => by cases hm⟩, fun k hk ⟨a, ha, e⟩ => by
    injection ha with ha
    subst ha
    have := (S.wn k hk).1
    have e' : w2.heap.size = k := e
    omega⟩, rfl⟩
  refine ⟨Ls.length + 1, back_l0 (w0 := w) (B := w1.heap.size) (r := r) (d := d) (count := n) hr hL hB1 (fun A4 c4 n4 w4 h4 g4 _ => ?_) Ls.length 0 w3 _ _ _ rfl start g03⟩
  obtain ⟨ρ4, l4, xs4, eL4, S4, a1, a2, a3, a4, a5, a6, AL, rfl⟩ := h4.ex
  rw [← eL4]
  have hinc : Inc l4.recs := by rw [S4.cr.rc]; exact rcsOf_inc _ _ _
  have hss := S4.cr.lg.s
  have hrs := S4.cr.lg.rs
  have D4 := AL.d
  refine (Records_wal S4.dm S4.lm S4.cr.lg (T := T)).mono ?_
  rintro _ w5 ⟨A5, c5, rfl, o5, g5⟩
  have S5 := S4.below g5
  have D5 := D4.below g5
  refine ⟨_, _, _, rfl, (End_ok S5.lm S5.cr.lg).mono ?_⟩
  rintro _ w5 ⟨rfl, rfl⟩
  rw [w64_in (by omega)]
  have g05 : Below w.heap.size w w5 := g4.trans (g5.mono g4.size)
  have hend : AtB l4.recs l4.recs.length ((l4.run * 16777216 + l4.stream.length : Nat) : Int) := fun j hj => ⟨fun _ => by
    have hm : l4.recs[j] ∈ rcsOf l4.run 0 xs4 := by rw [← S4.cr.rc]; exact List.getElem_mem hj
    have := (rcsOf_bd _ _ _ _ hm).2
    rw [← S4.cr.st, Nat.add_zero] at this
    exact this, fun h => by omega⟩
  refine ⟨_, rfl, l4.recs.length + 1, back_l1 (w0 := w5) S5 D5 hinc (fun T6 w6 hT6 g6 _ => ?_) l4.recs.length _ w5 (Nat.le_refl _) hend (Below.refl _ _)⟩
  have S6 := S5.below g6
  have D6 := D5.below g6
  have o6 := o5.below g6
  have g06 : Below w.heap.size w w6 := g05.trans (g6.mono g05.size)
  refine (Back_ok S6.lm S6.cr.lg).mono ?_
  rintro e w7 ⟨g7, hp⟩
  rw [hT6.none] at hp
  subst hp
  refine ⟨_, _, _, _, _, _, rfl, al_new fun w8 b8 e8 s8 h8 g8 => hb_st0 h8 (by simp) fun w9 h9 k9 => hb_st h9 (by simp) fun w10 h10 k10 => hb_st h10 (by simp) fun w11 h11 k11 => ?_⟩
  have g711 : Below w7.heap.size w7 w11 := g8.trans (((k9.trans k10).trans k11).below g8.size fun k hk e => by omega)
  have g611 : Below w6.heap.size w6 w11 := g7.trans (g711.mono g7.size)
  have g011 : Below w.heap.size w w11 := g06.trans (g611.mono g06.size)
  have S11 := S6.below g611
  have D11 := D6.below g611
  have o11 := o6.below g611
  refine sel_dup rfl ?_
  obtain ⟨ms, om, vm, bm⟩ := D11
  refine (From_ok (T := T) (om.reads ER) vm (by omega)).mono ?_
  rintro _ w12 ⟨A12, c12, ms12, rfl, o12, v12, g12⟩
  have S12 := S11.below g12
  have D12 := (D6.below g611).below g12
  have p12 := o11.below g12
  have efr : frF T l4.recs = fromL T l4.recs := frF_eq hinc
  rw [efr] at v12 ⊢
  have hfl : (fromL T l4.recs).length ≤ l4.recs.length := by unfold fromL; rw [List.length_drop]; omega
  obtain ⟨ms5, q1, q2⟩ := p12
  refine ⟨_, _, _, rfl, (Alike_eq (q1.reads ER) (o12.reads ER) q2.v v12 (by omega)).mono ?_⟩
  rintro _ w13 ⟨rfl, g13⟩
  have S13 := S12.below g13
  have D13 := D12.below g13
  refine ⟨_, rfl, sel_f rfl ((Records_wal S13.dm S13.lm S13.cr.lg (T := 0)).mono ?_)⟩
  rintro _ w14 ⟨A14, c14, rfl, o14, g14⟩
  have e14 : fromL 0 l4.recs = l4.recs := ixL_0 (by rw [S4.cr.rc]; exact rcsOf_ge _ _ _)
  rw [e14] at o14 ⊢
  have S14 := S13.below g14
  have D14 := D13.below g14
  refine ⟨_, _, _, rfl, (o14.alikeD D14 rfl (by omega)).mono ?_⟩
  rintro _ w15 ⟨rfl, g15⟩
  have S15 := S14.below g15
  have D15 := D14.below g15
  have g012 := g011.trans (g12.mono g011.size)
  have g013 := g012.trans (g13.mono g012.size)
  have g014 := g013.trans (g14.mono g013.size)
  have g015 := g014.trans (g15.mono g014.size)
  refine ⟨_, rfl, sel_f rfl ?_⟩
  cases b with
  | false => exact sel_t rfl ⟨rfl, g015⟩
  | true =>
  refine sel_f rfl ?_
  have fl := S15.cr.flush
  obtain ⟨fc, fn⟩ := np.flush (l := l4) a5 S15.cr.fit S15.cr.sz
  obtain ⟨C16, t1, t2, t3, t4, t5, t6, t7, t8, _⟩ := fl
  obtain ⟨t9, t10, _⟩ := t8 fc
  refine S15.flush.mono ?_
  rintro _ w16 ⟨rfl, S16, k16⟩
  rw [fc]
  obtain ⟨d5, hd5⟩ : ∃ d5, (flushL d l4).1 = d5 := ⟨_, rfl⟩
  obtain ⟨l5, hl5⟩ : ∃ l5, (flushL d l4).2.1 = l5 := ⟨_, rfl⟩
  rw [hd5, hl5] at S16 C16
  rw [hl5] at t1 t2 t3 t4 t5 t6 t7 t9 t10
  have hWN : ∀ k, WN r ρ4 k → w.heap.size ≤ k := fun k hk => Nat.le_trans hB1 (S4.wn k hk).2
  have D16 : RsD w16 w.heap.size w1.heap.size A4 c4 l4.recs := D15.keeps k16 hWN fun k ho hn => AL.n k hn ho
  have g016 : Below w.heap.size w w16 := g015.trans ((S15.bel k16).mono hB1)
  refine ⟨_, rfl, sel_f rfl ((Safe_ok S16.lm S16.cr.lg).mono ?_)⟩
  rintro _ w16 ⟨rfl, rfl⟩
  refine ⟨_, rfl, (End_ok S16.lm S16.cr.lg).mono ?_⟩
  rintro _ w16 ⟨rfl, rfl⟩
  refine ⟨_, rfl, sel_f (by rw [t9, t1]; simp) ?_⟩
  refine (On_ok S16.dm (A := none) (c := 0) (n := 0) (ks := []) (fun i hi => absurd hi (Nat.not_lt_zero _)) rfl (fun a ha => by cases ha) (by decide)).mono ?_
  rintro _ w17 ⟨rfl, h17, k17⟩
  have g017 : Below w.heap.size w w17 := g016.trans (k17.below g016.size fun k hk hF => by have := (S16.dm.lt k hF).2; omega)
  have D17 : RsD w17 w.heap.size w1.heap.size A4 c4 l4.recs := D16.keeps k17 (fun k hk => hWN k (.inl hk)) fun k ho hn => AL.n k (.inl hn) ho
  have op := S16.open (t5.trans a6) h17 (Nat.le_trans S16.lo k17.size)
  rw [t6.trans a1, t7.trans a2] at op
  refine ⟨rfl, op.mono ?_⟩
  rintro _ w18 ⟨ρ', A', c', Bx', run, ys, rfl, S18, o18, p18, q18, g18, v1, v2, v3, v4⟩
  have g018 : Below w.heap.size w w18 := g017.trans (g18.mono g017.size)
  rcases v4 with ⟨v, _⟩ | ⟨v5, j, v6, v7, v8⟩
  · cases v
  have hj : xs4.length ≤ j := v8 xs4.length (Nat.le_refl _) (by rw [t9, List.take_length, ← t1, S16.cr.st])
  have ej : j = xs4.length := by omega
  rw [ej, List.take_length] at v6
  subst v6
  have er : rcsOf run 0 ys = l4.recs := by rw [S4.cr.rc, v5, t3]
  have D18 := D17.below g18
  have al := o18.alikeD D18 er (by rw [er]; omega)
  rw [rcsOf_len] at al
  refine ⟨_, _, _, _, _, rfl, sel_t rfl (al.mono ?_)⟩
  rintro _ w19 ⟨rfl, g19⟩
  exact ⟨_, rfl, rfl, g018.trans (g19.mono g018.size)⟩
theorem WalBack_row {A : Option Addr} {c : Nat} {Ls : List (List UInt8)} {count T : Int} (_ : (Lit.int .i64 count).wf = true) (hr : RPr w A Ls) (hL : Ls.length ≤ 17592186044416) (_ : (Lit.int .i64 T).wf = true) (b : Bool) :
    Calls Tryd.prog 6 #[.int .i64 count, .slice A Ls.length c, .int .i64 T, .bool b] w fun e w' => e = .returned (.bool true) ∧ Below w.heap.size w w' := WalBack_walk hr hL
end
end Go.Proofs.YtpokaafedpnbdaaDoor.Rd

/-! A script of a log's calls: in memory, and among the arguments. Conditions: none. -/
namespace Go.Proofs.YtpokaafedpnbdaaDoor.Rd
open Go.Dn Go.RowKit Go.Shelf
set_option linter.unusedVariables false
set_option linter.unusedSimpArgs false
set_option maxRecDepth 100000
abbrev TWo : TypeId := 33
structure WOp where
  kind : Int
  n : Int
  t : Int
  A1 : Option Addr
  c1 : Nat
  data : List UInt8
  A2 : Option Addr
  c2 : Nat
  keeps : List Int
  A3 : Option Addr
  c3 : Nat
  fates : List Ft
def wopE (o : WOp) : List Value := [.int .i64 o.kind, .int .i64 o.n, .int .i64 o.t, .slice o.A1 o.data.length o.c1, .slice o.A2 o.keeps.length o.c2, .slice o.A3 o.fates.length o.c3]
theorem Ewop : Enc wopE 6 := ⟨fun _ => rfl, fun x u hu => by simp only [wopE, List.mem_cons, List.not_mem_nil, or_false] at hu; rcases hu with rfl | rfl | rfl | rfl | rfl | rfl <;> rfl, by decide⟩
theorem RTo : RecTy Tryd.prog 22 TWo 6 96 := ⟨by kernel_rfl, by kernel_rfl⟩
structure OkW (w : World) (o : WOp) : Prop where
  r1 : Go.Dn.RB w o.A1 o.data
  r2 : RI w o.A2 o.keeps
  r3 : RowE eF 2 w o.A3 o.fates
  z1 : o.A1 = none → o.c1 = 0
  d1 : o.data.length ≤ o.c1
  z3 : o.A3 = none → o.c3 = 0 ∧ o.fates.length = 0
  b2 : o.keeps ≠ [] → ∀ a, o.A2 = some a → a.block < w.heap.size
  b3 : o.fates ≠ [] → ∀ a, o.A3 = some a → a.block < w.heap.size
  l1 : o.data.length ≤ 140737488355000
  l2 : o.keeps.length ≤ 140737488355328
  l3 : o.fates.length * 16 ≤ 140737488355328
theorem OkW.below {w w' : World} {o : WOp} (h : OkW w o) (k : Below w.heap.size w w') : OkW w' o := by
  refine ⟨h.r1.below k (Nat.le_refl _), ?_, h.r3.below EF k, h.z1, h.d1, h.z3, fun h0 a ha => Nat.lt_of_lt_of_le (h.b2 h0 a ha) k.size, fun h0 a ha => Nat.lt_of_lt_of_le (h.b3 h0 a ha) k.size, h.l1, h.l2, h.l3⟩
  intro i hi
  obtain ⟨a, ha, hc⟩ := h.r2 i hi
  exact ⟨a, ha, (k.cell (World.block_lt_of_cell? _ _ hc)).trans hc⟩
structure RWo (w : World) (A : Option Addr) (ops : List WOp) : Prop where
  row : RowE wopE 6 w A ops
  ok : ∀ o ∈ ops, OkW w o
  len : ops.length * 96 ≤ 140737488351232
  z : A = none → ops.length = 0
theorem wop_ld {w : World} {A : Option Addr} {ops : List WOp} {N : Nat} (hN : N = ops.length) (h : RowE wopE 6 w A ops) {i : Nat} (hi : i < ops.length) {K : Int → Int → Int → Option Addr → Nat → Nat → Option Addr → Nat → Nat → Option Addr → Nat → Nat → Prop}
    (hk : K ops[i].kind ops[i].n ops[i].t ops[i].A1 ops[i].data.length ops[i].c1 ops[i].A2 ops[i].keeps.length ops[i].c2 ops[i].A3 ops[i].fates.length ops[i].c3) :
    optB A fun a => req (decide (0 ≤ (i : Int) ∧ (i : Int) < (N : Int))) <| ldI w (a.add ((i : Int).toNat * 6)) .i64 fun x8 => ldI w ((a.add ((i : Int).toNat * 6)).add 1) .i64 fun x9 => ldI w ((a.add ((i : Int).toNat * 6)).add 2) .i64 fun xt =>
      ldS w ((a.add ((i : Int).toNat * 6)).add 3) fun A10 n10 c10 => ldS w ((a.add ((i : Int).toNat * 6)).add 4) fun A11 n11 c11 => ldS w ((a.add ((i : Int).toNat * 6)).add 5) fun A12 n12 c12 => K x8 x9 xt A10 n10 c10 A11 n11 c11 A12 n12 c12 := by
  subst hN
  obtain ⟨a, rfl, hc⟩ := h i hi
  rw [show ((i : Int).toNat) = i by omega]
  refine optB_some rfl (req_intro (by simp; omega) ?_)
  refine ldI_intro (x := ops[i].kind) (by have := h.c0 Ewop hi; rw [this]; rfl) (ldI_intro (x := ops[i].n) (by have := h.cj hi (j := 1) (by decide); rw [this]; rfl) (ldI_intro (x := ops[i].t) (by have := h.cj hi (j := 2) (by decide); rw [this]; rfl) ?_))
  refine ldS_intro (A := ops[i].A1) (n := ops[i].data.length) (c := ops[i].c1) (by have := h.cj hi (j := 3) (by decide); rw [this]; rfl) ?_
  refine ldS_intro (A := ops[i].A2) (n := ops[i].keeps.length) (c := ops[i].c2) (by have := h.cj hi (j := 4) (by decide); rw [this]; rfl) ?_
  exact ldS_intro (A := ops[i].A3) (n := ops[i].fates.length) (c := ops[i].c3) (by have := h.cj hi (j := 5) (by decide); rw [this]; rfl) hk
/-- a call laid into a box of its own -/
theorem wop_box {w : World} {o : WOp} {K : Nat → World → Prop} (hk : ∀ b w', b = w.heap.size → HB w' b (wopE o).toArray TWo → Below w.heap.size w w' → K b w') :
    alW w (.cells #[.int .i64 (0 : Int), .int .i64 (0 : Int), .int .i64 (0 : Int), .slice none 0 0, .slice none 0 0, .slice none 0 0] TWo) fun b w14 =>
    stW w14 (⟨b, 0, Option.none⟩ : Addr) (.int .i64 o.kind) fun w15 =>
    stW w15 ((⟨b, 0, Option.none⟩ : Addr).add 1) (.int .i64 o.n) fun w16 =>
    stW w16 ((⟨b, 0, Option.none⟩ : Addr).add 2) (.int .i64 o.t) fun w17 =>
    stW w17 ((⟨b, 0, Option.none⟩ : Addr).add 3) (.slice o.A1 o.data.length o.c1) fun w18 =>
    stW w18 ((⟨b, 0, Option.none⟩ : Addr).add 4) (.slice o.A2 o.keeps.length o.c2) fun w19 =>
    stW w19 ((⟨b, 0, Option.none⟩ : Addr).add 5) (.slice o.A3 o.fates.length o.c3) fun w20 => K b w20 := by
  refine al_new fun w1 b e s h g => hb_st0 h (by simp) fun w2 h2 k2 => hb_st h2 (by simp) fun w3 h3 k3 => hb_st h3 (by simp) fun w4 h4 k4 => hb_st h4 (by simp) fun w5 h5 k5 => hb_st h5 (by simp) fun w6 h6 k6 => hb_st h6 (by simp) fun w7 h7 k7 => ?_
  have kk := ((((k2.trans k3).trans k4).trans k5).trans k6).trans k7
  exact hk b w7 e h7 (g.trans (kk.below g.size fun i hi e' => by omega))
/-! ### opened -/
theorem und_ft : ∃ f0 f1, Tryd.prog.underlying TFt = some (.struct ⟨[f0, f1]⟩) ∧ f0.offset = 0 ∧ f1.offset = 1 ∧ f0.type = 3 ∧ f1.type = 3 := by
  have h : (match Tryd.prog.underlying TFt with | some (.struct ⟨[f0, f1]⟩) => Nat.beq f0.offset 0 && Nat.beq f1.offset 1 && Nat.beq f0.type 3 && Nat.beq f1.type 3 | _ => false) = true := by kernel_rfl
  split at h
  · rename_i f0 f1 hu
    simp only [Bool.and_eq_true] at h
    obtain ⟨⟨⟨a, b⟩, c⟩, e⟩ := h
    exact ⟨f0, f1, hu, Nat.eq_of_beq_eq_true a, Nat.eq_of_beq_eq_true b, Nat.eq_of_beq_eq_true c, Nat.eq_of_beq_eq_true e⟩
  · cases h
theorem und_wop : ∃ f0 f1 ft f2 f3 f4, Tryd.prog.underlying TWo = some (.struct ⟨[f0, f1, ft, f2, f3, f4]⟩) ∧ (f0.offset = 0 ∧ f1.offset = 1 ∧ ft.offset = 2 ∧ f2.offset = 3 ∧ f3.offset = 4 ∧ f4.offset = 5) ∧ f0.type = 3 ∧ f1.type = 3 ∧ ft.type = 2 ∧ f2.type = 29 ∧ f3.type = 30 ∧ f4.type = 31 := by
  have h : (match Tryd.prog.underlying TWo with | some (.struct ⟨[f0, f1, ft, f2, f3, f4]⟩) => (Nat.beq f0.offset 0 && Nat.beq f1.offset 1 && Nat.beq ft.offset 2 && Nat.beq f2.offset 3 && Nat.beq f3.offset 4 && Nat.beq f4.offset 5) && (Nat.beq f0.type 3 && Nat.beq f1.type 3 && Nat.beq ft.type 2 && Nat.beq f2.type 29 && Nat.beq f3.type 30 && Nat.beq f4.type 31) | _ => false) = true := by kernel_rfl
  split at h
  · rename_i f0 f1 ft f2 f3 f4 hu
    simp only [Bool.and_eq_true] at h
    obtain ⟨⟨⟨⟨⟨⟨a0, a1⟩, a2⟩, a3⟩, a4⟩, a5⟩, ⟨⟨⟨⟨⟨b0, b1⟩, b2⟩, b3⟩, b4⟩, b5⟩⟩ := h
    exact ⟨f0, f1, ft, f2, f3, f4, hu, ⟨Nat.eq_of_beq_eq_true a0, Nat.eq_of_beq_eq_true a1, Nat.eq_of_beq_eq_true a2, Nat.eq_of_beq_eq_true a3, Nat.eq_of_beq_eq_true a4, Nat.eq_of_beq_eq_true a5⟩, Nat.eq_of_beq_eq_true b0, Nat.eq_of_beq_eq_true b1, Nat.eq_of_beq_eq_true b2, Nat.eq_of_beq_eq_true b3, Nat.eq_of_beq_eq_true b4, Nat.eq_of_beq_eq_true b5⟩
  · cases h
section
variable {H : Type} {enc : TypeId × Value → H} {w : World} {base : Nat} {held : Bool} {fuel : Nat}
theorem ri_of {A : Option Addr} {l : List Int} (h : RowE (fun z : Int => [.int .i64 z]) 1 w A l) : RI w A l := fun i hi => by
  obtain ⟨a, ha, hc⟩ := h i hi
  refine ⟨a, ha, ?_⟩
  have := hc 0 (by decide)
  rw [Nat.mul_one, Go.Dn.add_zero] at this
  simpa using this
theorem open_is {A : Option Addr} {len cap : Nat} {x : DataW H × List MemPlace} (h : DataW.trod enc Tryd.prog w base (fun _ => true) held fuel 30 [.slice A len cap] = some x) :
    ∃ l : List Int, l.length = len ∧ RI w A l ∧ (l ≠ [] → ∀ a, A = some a → a.block < w.heap.size) ∧ ((∀ v ∈ x.1.weights Tryd.prog 30, v ≤ reachBytes) → l.length * 8 ≤ 140737488351232) := by
  obtain ⟨l, h1, h2, h3, h4, h5, h6⟩ := open_num (κ := .i64) (by_ := 8) (r := 3) (by kernel_rfl) (by kernel_rfl) (by kernel_rfl) (by kernel_rfl) h
  exact ⟨l, h1, ri_of h2, h4, h6⟩
theorem open_fts {A : Option Addr} {len cap : Nat} {x : DataW H × List MemPlace} (h : DataW.trod enc Tryd.prog w base (fun _ => true) held fuel 31 [.slice A len cap] = some x) :
    ∃ l : List Ft, l.length = len ∧ RowE eF 2 w A l ∧ (A = none → cap = 0 ∧ l.length = 0) ∧ (l ≠ [] → ∀ a, A = some a → a.block < w.heap.size) ∧ ((∀ v ∈ x.1.weights Tryd.prog 31, v ≤ reachBytes) → l.length * 16 ≤ 140737488351232) := by
  obtain ⟨f0, f1, hu, o0, o1, t0, t1⟩ := und_ft
  obtain ⟨l, h1, h2, h3, h4, h5, _, h7⟩ := open_gen (enc' := eF) (k := 2) (by_ := 16) (r := TFt) EF (by kernel_rfl) (by kernel_rfl) (by kernel_rfl) (Q := fun _ _ => True) (fun n cs y hl hy => by
    obtain ⟨xs, m, _, hya, hl2, hxl, hf⟩ := DataW.trod_struct hu hy
    obtain ⟨q0, q1, rfl⟩ : ∃ u v, cs = [u, v] := by match cs, hl with | [u, v], _ => exact ⟨_, _, rfl⟩
    have hx2 : xs.length = 2 := hxl
    have c1 : Tryd.prog.cellsOf 3 = 1 := by kernel_rfl
    have a0 := hf 0 f0 rfl
    have a1 := hf 1 f1 rfl
    rw [o0, t0, c1, List.getElem?_eq_getElem (by omega)] at a0
    rw [o1, t1, c1, List.getElem?_eq_getElem (by omega)] at a1
    obtain ⟨z0, e0, _, _⟩ := DataW.trod_int Kint (one_of' (by simp) a0)
    obtain ⟨z1, e1, _, _⟩ := DataW.trod_int Kint (one_of' (by simp) a1)
    injection e0 with e0
    injection e1 with e1
    have e0 : q0 = _ := e0
    have e1 : q1 = _ := e1
    subst e0; subst e1
    exact ⟨(z0, z1), rfl, trivial⟩) h
  exact ⟨l, h1, h2, h3, h4, h7⟩
theorem open_wops {A : Option Addr} {len cap : Nat} {x : DataW H × List MemPlace} (h : DataW.trod enc Tryd.prog w base (fun _ => true) held fuel 22 [.slice A len cap] = some x) (hcap : ∀ v ∈ x.1.weights Tryd.prog 22, v ≤ reachBytes) :
    ∃ ops : List WOp, ops.length = len ∧ RWo w A ops ∧ (A = none → cap = 0) ∧ ((x.1 = .nil ∧ ops = []) ∨ ∃ el rs, x.1 = .slice el rs ∧ el.length = ops.length) := by
  obtain ⟨f0, f1, ft, f2, f3, f4, hu, ⟨o0, o1, ot, o2, o3, o4⟩, t0, t1, tt, t2, t3, t4⟩ := und_wop
  have hT : Tryd.prog.underlying 22 = some (.slice TWo) := by kernel_rfl
  have K64 : Tryd.prog.underlying 2 = some (.int .i64) := by kernel_rfl
  obtain ⟨l, h1, h2, h3, h4, h5, h6, h7⟩ := open_gen (enc' := wopE) (k := 6) (by_ := 96) (r := TWo) Ewop hT (by kernel_rfl) (by kernel_rfl)
    (Q := fun o d => (∀ v ∈ d.weights Tryd.prog TWo, v ≤ reachBytes) → OkW w o) (fun n cs y hl hy => by
    obtain ⟨xs, m, _, hya, hl2, hxl, hf⟩ := DataW.trod_struct hu hy
    obtain ⟨q0, q1, qt, q2, q3, q4, rfl⟩ : ∃ u v z s t r, cs = [u, v, z, s, t, r] := by match cs, hl with | [u, v, z, s, t, r], _ => exact ⟨_, _, _, _, _, _, rfl⟩
    have hx5 : xs.length = 6 := hxl
    obtain ⟨y0, y1, yt, y2, y3, y4, rfl⟩ : ∃ u v z s t r, xs = [u, v, z, s, t, r] := by match xs, hx5 with | [u, v, z, s, t, r], _ => exact ⟨_, _, _, _, _, _, rfl⟩
    have c1 : Tryd.prog.cellsOf 3 = 1 := by kernel_rfl
    have ct : Tryd.prog.cellsOf 2 = 1 := by kernel_rfl
    have c2 : Tryd.prog.cellsOf 29 = 1 := by kernel_rfl
    have c3 : Tryd.prog.cellsOf 30 = 1 := by kernel_rfl
    have c4 : Tryd.prog.cellsOf 31 = 1 := by kernel_rfl
    have a0 := hf 0 f0 rfl
    have a1 := hf 1 f1 rfl
    have at' := hf 2 ft rfl
    have a2 := hf 3 f2 rfl
    have a3 := hf 4 f3 rfl
    have a4 := hf 5 f4 rfl
    rw [o0, t0, c1, List.getElem?_eq_getElem (by simp)] at a0
    rw [o1, t1, c1, List.getElem?_eq_getElem (by simp)] at a1
    rw [ot, tt, ct, List.getElem?_eq_getElem (by simp)] at at'
    rw [o2, t2, c2, List.getElem?_eq_getElem (by simp)] at a2
    rw [o3, t3, c3, List.getElem?_eq_getElem (by simp)] at a3
    rw [o4, t4, c4, List.getElem?_eq_getElem (by simp)] at a4
    obtain ⟨z0, e0, _, _⟩ := DataW.trod_int Kint (one_of' (by simp) a0)
    obtain ⟨z1, e1, _, _⟩ := DataW.trod_int Kint (one_of' (by simp) a1)
    obtain ⟨zt, et, _, _⟩ := DataW.trod_int K64 (one_of' (by simp) at')
    have a2 := one_of' (j := 3) (by simp) a2
    have a3 := one_of' (j := 4) (by simp) a3
    have a4 := one_of' (j := 5) (by simp) a4
    have sl : ∀ {t r : TypeId} {q : Value} {n : Nat} {y : DataW H × List MemPlace}, Tryd.prog.underlying t = some (.slice r) → DataW.trod enc Tryd.prog w base (fun _ => true) held n t [q] = some y → ∃ A l c, q = .slice A l c := fun ht h => by
      rcases DataW.trod_slice ht h with ⟨q, _⟩ | ⟨a', l', c', _, _, _, _, q, _⟩
      · injection q with q; exact ⟨_, _, _, q⟩
      · injection q with q; exact ⟨_, _, _, q⟩
    obtain ⟨A2, len2, cap2, e2⟩ := sl (r := 5) (by kernel_rfl) a2
    obtain ⟨A3, len3, cap3, e3⟩ := sl (r := 3) (by kernel_rfl) a3
    obtain ⟨A4, len4, cap4, e4⟩ := sl (r := TFt) (by kernel_rfl) a4
    injection e0 with e0
    injection e1 with e1
    injection et with et
    have e0 : q0 = _ := e0
    have e1 : q1 = _ := e1
    have et : qt = _ := et
    have e2 : q2 = _ := e2
    have e3 : q3 = _ := e3
    have e4 : q4 = _ := e4
    subst e0; subst e1; subst et; subst e2; subst e3; subst e4
    obtain ⟨l2, p1, p2, p3, p4, p5⟩ := open_u8 a2
    obtain ⟨l3, r1, r2, r3, r4⟩ := open_is a3
    obtain ⟨l4, s1, s2, s3, s4, s5⟩ := open_fts a4
    subst p1; subst r1; subst s1
    refine ⟨⟨z0, z1, zt, A2, cap2, l2, A3, cap3, l3, A4, cap4, l4⟩, rfl, fun hw => ?_⟩
    rw [hya] at hw
    simp only [DataW.weights, hu, List.map_cons, List.map_nil, DataW.weightsEach, t0, t1, tt, t2, t3, t4] at hw
    have w2 := p5 fun v hv => hw v (by simp only [List.mem_append]; exact .inr (.inr (.inr (.inl hv))))
    have w3 := r4 fun v hv => hw v (by simp only [List.mem_append]; exact .inr (.inr (.inr (.inr (.inl hv)))))
    have w4 := s5 fun v hv => hw v (by simp only [List.mem_append]; exact .inr (.inr (.inr (.inr (.inr (.inl hv))))))
    exact ⟨p2, r2, s2, p3, p4, s3, r3, s4, by show l2.length ≤ _; omega, by show l3.length ≤ _; omega, by show l4.length * 16 ≤ _; omega⟩) h
  refine ⟨l, h1, ⟨h2, fun o ho => ?_, h7 hcap, fun e => (h3 e).2⟩, fun e => (h3 e).1, h6.imp id fun ⟨el, rs, q1, q2, _⟩ => ⟨el, rs, q1, q2⟩⟩
  obtain ⟨i, hi, rfl⟩ := List.getElem_of_mem ho
  rcases h6 with ⟨_, h6⟩ | ⟨el, rs, hx, hel, h6⟩
  · subst h6; cases hi
  · obtain ⟨d, hd, hq⟩ := h6 i hi
    refine hq fun v hv => hcap v ?_
    rw [hx]
    simp only [DataW.weights, hT]
    exact List.mem_cons_of_mem _ (List.mem_append_left _ (wt_in (List.mem_of_getElem? hd) hv))
end
end Go.Proofs.YtpokaafedpnbdaaDoor.Rd

/-! The document's Later, and whether records begin so. Conditions: none. -/
namespace Go.Proofs.YtpokaafedpnbdaaDoor.Rd
open Go.Dn Go.RowKit Go.Shelf
set_option linter.unusedVariables false
set_option linter.unusedSimpArgs false
set_option maxRecDepth 100000
theorem RTft : RecTy Tryd.prog 31 TFt 2 16 := ⟨by kernel_rfl, by kernel_rfl⟩
section
variable {w w0 w' : World}
theorem Later_l0 {A : Option Addr} {c : Nat} {fs : List Ft} {now : Int} (hr0 : RowE eF 2 w0 A fs) (hl : fs.length * 16 ≤ 140737488355328) {K : Option Addr → Nat → Nat → World → Prop}
    (hK : ∀ A' c' w' (fs' : List Ft), OwnE eF 2 w' w0.heap.size TFt A' c' fs' → fs'.length ≤ fs.length → Below w0.heap.size w0 w' → K A' fs'.length c' w') :
    ∀ (m i : Nat) (w : World) (A5 : Option Addr) (c5 : Nat) (fs5 : List Ft), m + i = fs.length → Below w0.heap.size w0 w → OwnE eF 2 w w0.heap.size TFt A5 c5 fs5 → fs5.length ≤ i →
      f_ref07_Later.l0 (m + 1) A fs.length c now A5 fs5.length c5 (i : Int) w K := by
  intro m
  induction m with
  | zero =>
    intro i w A5 c5 fs5 hi hb ho hle
    unfold f_ref07_Later.l0
    exact sel_f (by simp; omega) (hK A5 c5 w fs5 ho (by omega) hb)
  | succ m ih =>
    intro i w A5 c5 fs5 hi hb ho hle
    have hlt : i < fs.length := by omega
    have row := hr0.below EF hb
    obtain ⟨a, rfl, _⟩ := row i hlt
    have ew : IntKind.i64.wrap ((i : Int) + 1) = ((i + 1 : Nat) : Int) := by rw [w64_in (by omega)]; omega
    unfold f_ref07_Later.l0
    refine sel_t (by simpa using hlt) (optB_some rfl (req_intro (by simp; omega) ?_))
    rw [Int.toNat_natCast, ew]
    refine ldI_intro (x := fs[i].1) (row.c0 EF hlt) ?_
    by_cases q1 : 1 ≤ fs[i].1
    · refine sel_t (by simpa using q1) (optB_some rfl (req_intro (by simp; omega) (ldI_intro (x := fs[i].1) (row.c0 EF hlt) ?_)))
      by_cases q2 : fs[i].1 ≤ 1099511627776
      · refine sel_t (by simpa using q2) (drW_intro ⟨fun W => RowE eF 2 W (some a) fs, row.below EF ((Below.refl _ _).drew), ?_⟩)
        refine optB_some rfl (req_intro (by simp; omega) ⟨fs[i].1, fun W hW => hW.c0 EF hlt, optB_some rfl (req_intro (by simp; omega) ⟨fs[i].2, fun W hW => hW.cj hlt (j := 1) (by decide), ?_⟩)⟩)
        have gd : Below w.heap.size w w.drew := (Below.refl _ _).drew
        have hbd := hb.trans (gd.mono hb.size)
        refine al_new fun w2 b e2 s2 h2 g2 => ⟨(row.below EF gd).below EF g2, ?_⟩
        have g02 := hbd.trans (g2.mono hbd.size)
        refine app_e RTft EF (by decide) ((ho.below gd).below g2) rfl h2 (x := (IntKind.i64.wrap (fs[i].1 + now), fs[i].2)) rfl g02.size (by omega) fun A' c' w3 o3 k3 f3 => ⟨_, _, _, rfl, ?_⟩
        have g03 := g02.trans (k3.below g02.size fun k hk ⟨a2, ha, e⟩ => by have := (ho.block a2 ha).1; omega)
        exact ih (i + 1) w3 _ c' _ (by omega) g03 o3 (by rw [List.length_append, List.length_singleton]; omega)
      · exact sel_f (by simpa using q2) (ih (i + 1) w A5 c5 fs5 (by omega) hb ho (by omega))
    · exact sel_f (by simpa using q1) (ih (i + 1) w A5 c5 fs5 (by omega) hb ho (by omega))
theorem Later_ok {A : Option Addr} {n c : Nat} {fs : List Ft} {now : Int} (hr0 : RowE eF 2 w A fs) (hn : n = fs.length) (hl : fs.length * 16 ≤ 140737488355328) :
    Calls Tryd.prog 15 #[.slice A n c, .int .i64 now] w fun e w' => ∃ A' c' fs', e = .returned (.slice A' fs'.length c') ∧ OwnE eF 2 w' w.heap.size TFt A' c' fs' ∧ fs'.length ≤ fs.length ∧ Below w.heap.size w w' := by
  subst hn
  apply f_ref07_Later.ok
  unfold f_ref07_Later.wp
  refine alW_intro ⟨fs.length + 1, ?_⟩
  have b1 : Below w.heap.size w (w.alloc (.cells #[] TFt)) := (Below.refl _ _).alloc (Nat.le_refl _) _
  have o := OwnE.empty (enc := eF) (k := 2) (w := w) (B := w.heap.size) (e := TFt) (Nat.le_refl _)
  exact Later_l0 hr0 hl (fun A' c' w' fs' h1 h2 h3 _ => ⟨A', c', fs', rfl, h1, h2, h3⟩) fs.length 0 _ _ _ [] (by simp) b1 o (Nat.zero_le _)
/-! ### begins -/
theorem RowE.take' {α : Type} {enc : α → List Value} {k : Nat} {A : Option Addr} {l : List α} (h : RowE enc k w A l) (j : Nat) : RowE enc k w A (l.take j) := fun i hi => by
  have hi' : i < l.length := by rw [List.length_take] at hi; omega
  obtain ⟨a, ha, hc⟩ := h i hi'
  exact ⟨a, ha, fun j hj => by rw [List.getElem_take]; exact hc j hj⟩
theorem RsV.take {ms : List MR} {rs : List Rc} (h : RsV w ms rs) (j : Nat) : RsV w (ms.take j) (rs.take j) := ⟨by rw [List.length_take, List.length_take, h.1], fun i h1 h2 => by
  rw [List.getElem_take, List.getElem_take]
  exact h.2 i _ _⟩
theorem RsV.append {ms ms2 : List MR} {rs rs2 : List Rc} (h : RsV w ms rs) (h2 : RsV w ms2 rs2) : RsV w (ms ++ ms2) (rs ++ rs2) := ⟨by rw [List.length_append, List.length_append, h.1, h2.1], fun i q1 q2 => by
  by_cases hi : i < ms.length
  · rw [List.getElem_append_left hi, List.getElem_append_left (by rw [← h.1]; exact hi)]; exact h.2 i hi _
  · rw [List.getElem_append_right (by omega), List.getElem_append_right (by rw [← h.1]; omega)]
    simp only [← h.1]
    exact h2.2 _ _ _⟩
theorem RsV.below {ms : List MR} {rs : List Rc} (h : RsV w ms rs) (k : Below w.heap.size w w') : RsV w' ms rs := ⟨h.1, fun i h1 h2 => (h.2 i h1 h2).below k⟩
theorem RsD.nil0 {B0 B : Nat} {A : Option Addr} {c : Nat} {rs : List Rc} (h : RsD w B0 B A c rs) : A = none → c = 0 ∧ rs.length = 0 := fun e => by
  obtain ⟨ms, h1, h2, _⟩ := h
  have := h1.nil0 e
  exact ⟨this.1, by rw [← h2.1, this.2]; rfl⟩
theorem Begins_ok {B B1 B2 B3 B4 : Nat} {A A1 A2 : Option Addr} {c c1 c2 : Nat} {gs kl tl : List Rc} (hg : RsO w B A c gs) (hk : RsD w B1 B2 A1 c1 kl) (ht : RsD w B3 B4 A2 c2 tl) (hl : kl.length + tl.length ≤ 100000) (hgl : gs.length ≤ 100000)
    (h : gs = [] ∨ ∃ j, gs = (kl ++ tl).take j ∧ kl.length ≤ j ∧ j ≤ kl.length + tl.length) :
    Calls Tryd.prog 19 #[.slice A gs.length c, .slice A1 kl.length c1, .slice A2 tl.length c2] w fun e w' => ∃ b, e = .returned (.bool b) ∧ ((gs = [] ∧ 0 < kl.length) ∨ b = true) ∧ Below w.heap.size w w' := by
  apply f_law09_begins.ok
  unfold f_law09_begins.wp
  by_cases q1 : gs.length < kl.length
  · refine sel_t (by simpa using q1) ⟨_, rfl, .inl ⟨?_, by omega⟩, Below.refl _ _⟩
    rcases h with h | ⟨j, h, h1, h2⟩
    · exact h
    · rw [h, List.length_take, List.length_append] at q1; omega
  have h' : ∃ j, gs = (kl ++ tl).take j ∧ j ≤ kl.length + tl.length := by
    rcases h with h | ⟨j, h, h1, h2⟩
    · exact ⟨0, by rw [h]; rfl, Nat.zero_le _⟩
    · exact ⟨j, h, h2⟩
  obtain ⟨j, ej, hj⟩ := h'
  have hgj : gs.length = j := by rw [ej, List.length_take, List.length_append]; omega
  refine sel_f (by simpa using q1) (sel_f ?_ (alW_intro ?_))
  · rw [w64_in (by omega)]; simp; omega
  obtain ⟨mk, k1, k2, _⟩ := hk
  obtain ⟨mt, t1, t2, _⟩ := ht
  have hmk := k2.1
  have hmt := t2.1
  have g1 : Below w.heap.size w (w.alloc (.cells #[] TRec)) := (Below.refl _ _).alloc (Nat.le_refl _) _
  have o := OwnE.empty (enc := eR) (k := 3) (w := w) (B := w.heap.size) (e := TRec) (Nat.le_refl _)
  obtain ⟨w1, hw1⟩ : ∃ w1, w.alloc (.cells #[] TRec) = w1 := ⟨_, rfl⟩
  rw [hw1] at g1 o ⊢
  refine app_row2 RTr ER (by decide) o rfl ((k1.reads ER).below ER g1) hmk.symm (fun e => ⟨(k1.nil0 e).1, by rw [← hmk, (k1.nil0 e).2]; rfl⟩) g1.size (by simp; omega) fun A3 c3 w2 o2 kk2 f2 => ⟨_, _, _, rfl, ?_⟩
  rw [List.nil_append] at o2 ⊢
  have g2 : Below w.heap.size w w2 := g1.trans (kk2.below g1.size fun k hk ⟨a, ha, e⟩ => by have := (o.block a ha).1; omega)
  refine app_row2 RTr ER (by decide) o2 rfl ((t1.reads ER).below ER g2) hmt.symm (fun e => ⟨(t1.nil0 e).1, by rw [← hmt, (t1.nil0 e).2]; rfl⟩) g2.size (by omega) fun A4 c4 w3 o3 kk3 f3 => ⟨_, _, _, rfl, ?_⟩
  have g3 : Below w.heap.size w w3 := g2.trans (kk3.below g2.size fun k hk ⟨a, ha, e⟩ => by have := (o2.block a ha).1; omega)
  have hcap : (mk ++ mt).length ≤ c4 := by
    obtain ⟨_, h⟩ := o3
    rcases h with ⟨h, h0⟩ | ⟨g, cap, cur, hv, _, _, hn, _⟩
    · rw [h0]; exact Nat.zero_le _
    · injection hv with _ _ hc; omega
  have hlen : (mk ++ mt).length = kl.length + tl.length := by rw [List.length_append, hmk, hmt]
  refine req_intro (by simp; omega) ?_
  have row : RowE eR 3 w3 (slA A4 0 c4 3) ((mk ++ mt).take j) := by
    by_cases h0 : 0 < (mk ++ mt).length
    · have := rowE_sl (o3.reads ER) h0 hcap
      rw [List.drop_zero] at this
      exact RowE.take' this j
    · have : mk ++ mt = [] := List.length_eq_zero_iff.1 (by omega)
      rw [this, List.take_nil]
      exact RowE.nil _ _ _ _
  obtain ⟨mg, q1', q2', _⟩ : ∃ ms, OwnE eR 3 w B TRec A c ms ∧ RsV w ms gs ∧ True := by
    obtain ⟨ms, p1, p2⟩ := hg
    exact ⟨ms, p1, p2.v, trivial⟩
  have vv : RsV w3 ((mk ++ mt).take j) gs := by
    rw [ej]
    exact ((k2.append t2).take j).below g3
  rw [Int.toNat_natCast, Nat.sub_zero]
  refine (Alike_eq ((q1'.reads ER).below ER g3) row (q2'.below g3) vv (by omega)).mono ?_
  rintro _ w4 ⟨rfl, g4⟩
  exact ⟨_, rfl, _, rfl, .inr rfl, g3.trans (g4.mono g3.size)⟩
end
end Go.Proofs.YtpokaafedpnbdaaDoor.Rd

/-! The statement WalCrash: what holds between two calls; the calls one by one. Conditions: none. -/
namespace Go.Proofs.YtpokaafedpnbdaaDoor.Rd
open Go.Dn Go.RowKit Go.Shelf
set_option linter.unusedVariables false
set_option linter.unusedSimpArgs false
set_option maxRecDepth 100000
theorem hdI_i {S : World → Prop} {b j : Nat} {cs : Array Value} {t : TypeId} (h : ∀ w, S w → HB w b cs t) {x : Int} (hj : cs[j]? = some (.int .i64 x)) {K : Int → Prop} (hk : K x) : hdI S ((⟨b, 0, none⟩ : Addr).add j) .i64 K := ⟨_, fun w hs => ((h w hs).cell j).trans hj, hk⟩
theorem hdS_i {S : World → Prop} {b j : Nat} {cs : Array Value} {t : TypeId} (h : ∀ w, S w → HB w b cs t) {A : Option Addr} {n c : Nat} (hj : cs[j]? = some (.slice A n c)) {K : Option Addr → Nat → Nat → Prop} (hk : K A n c) : hdS S ((⟨b, 0, none⟩ : Addr).add j) K := ⟨_, _, _, fun w hs => ((h w hs).cell j).trans hj, hk⟩
section
variable {w w' : World} {B : Nat} {r : RD} {d : Dk}
/-- On, where nothing at all is kept and the slice lies wherever it likes -/
theorem On0_ok (h : DM w B r d) {A : Option Addr} {c : Nat} :
    Calls Tryd.prog 17 #[.pointer (some ⟨r.D, 0, none⟩), .slice A 0 c] w fun e w' => e = .returned (.tuple #[]) ∧ DM w' B r (onD d []) ∧ Keeps (FD r) w w' := by
  apply f_disk_Disk_On.ok
  unfold f_disk_Disk_On.wp
  refine ⟨1, ?_⟩
  unfold f_disk_Disk_On.l0
  refine sel_f (by simp) ?_
  intro _
  refine hb_ldM (j := 1) h.hb rfl (h.gm.clear KTs fun w2 gm2 k2 => ⟨rfl, ?_⟩)
  obtain ⟨d1, d2, d3, d4, d5, d6⟩ := h.dd
  have h2 : DM w2 B r { d with pend := [] } := ⟨h.hb.keeps k2 d1, h.sf.keeps k2 fun a ha e => d3 ⟨a, ha, e⟩, gm2, h.pl.keeps k2 fun a ha e => d5 ⟨a, ha, e⟩, h.lo, h.sl, (fun p hp => by cases hp), h.pn⟩
  refine hb_st (j := 4) h2.hb (by simp [dkC, dC]) fun w3 h3 k3 => ⟨rfl, ?_, ?_⟩
  · have e : onD d [] = { d with pend := [], off := false } := by unfold onD; rw [kept_nil]
    rw [e]
    exact h2.reD (d' := { d with pend := [], off := false }) k3 (fun b _ hn e => hn e) h3 rfl rfl rfl
  · exact (k2.mono fun k _ e => .inr (.inl e)).trans (k3.mono fun k _ e => .inl e)
theorem On1_ok (h : DM w B r d) {A : Option Addr} {c B0 : Nat} {ks : List Int} (hr : RI w A ks) (hb : ks ≠ [] → ∀ a, A = some a → a.block < B0) (hB : B0 ≤ B) (hle : ks.length ≤ 140737488355328) :
    Calls Tryd.prog 17 #[.pointer (some ⟨r.D, 0, none⟩), .slice A ks.length c] w fun e w' => e = .returned (.tuple #[]) ∧ DM w' B r (onD d ks) ∧ Keeps (FD r) w w' := by
  by_cases h0 : ks = []
  · subst h0; exact On0_ok h
  · exact On_ok h hr rfl (fun a ha hk => by have := hb h0 a ha; have := (h.lt a.block (.inr (.inr (.inl hk)))).2; omega) (by omega)
end
/-- what holds between two calls -/
structure CrX (w : World) (B0 B : Nat) (count : Nat) (A45 : Option Addr) (c45 : Nat) (ops : List WOp) (r : RD) (ρ : RL) (d : Dk) (l : Lg) (xs : List (Int × List UInt8)) (A7 : Option Addr) (c7 : Nat) (kl : List Rc) (A8 : Option Addr) (c8 : Nat) (tl : List Rc) (last : Int) (mb : Bool) (mx : Nat) : Prop where
  S : WS w B r ρ d l xs mb
  f : l.first = 1
  c : l.count = count
  o : l.old = false
  m : l.most ≤ mx
  la : last < (endL l : Nat)
  rc : l.recs = kl ++ tl
  sf : l.safe = (recsB (xs.take kl.length)).length
  D7 : RsD w B0 B A7 c7 kl
  D8 : RsD w B0 B A8 c8 tl
  n7 : ∀ k, WN r ρ k → ¬ Ob A7 k
  n8 : ∀ k, WN r ρ k → ¬ Ob A8 k
  n45 : ∀ k, (WN r ρ k ∨ Ob A7 k ∨ Ob A8 k) → ¬ Ob A45 k
  n78 : ∀ k, Ob A7 k → ¬ Ob A8 k
  ow : OwnE wopE 6 w B TWo A45 c45 ops
section
variable {w w' : World} {B0 B count : Nat} {A45 : Option Addr} {c45 : Nat} {ops : List WOp} {r : RD} {ρ : RL} {d : Dk} {l : Lg} {xs : List (Int × List UInt8)} {A7 : Option Addr} {c7 : Nat} {kl : List Rc} {A8 : Option Addr} {c8 : Nat} {tl : List Rc} {last : Int} {mb : Bool} {mx : Nat}
theorem RsD.lt {A : Option Addr} {c : Nat} {rs : List Rc} (h : RsD w B0 B A c rs) : ∀ k, Ob A k → B ≤ k ∧ k < w.heap.size := by
  rintro k ⟨a, ha, rfl⟩
  obtain ⟨ms, h1, _⟩ := h
  exact h1.block a ha
theorem RsD.ty {A : Option Addr} {c : Nat} {rs : List Rc} (h : RsD w B0 B A c rs) : ∀ b, Ob A b → ∀ cs, ¬ HB w b cs TU8 := by
  obtain ⟨ms, h1, _⟩ := h
  exact ob_ty h1
theorem RsD.nil (w : World) (B0 B : Nat) : RsD w B0 B none 0 [] := ⟨[], OwnE.none _ _ _ _ _, ⟨rfl, fun i h => absurd h (Nat.not_lt_zero _)⟩, fun m hm => by cases hm⟩
theorem CrX.lt45 (h : CrX w B0 B count A45 c45 ops r ρ d l xs A7 c7 kl A8 c8 tl last mb mx) : ∀ k, Ob A45 k → B ≤ k ∧ k < w.heap.size := by
  rintro k ⟨a, ha, rfl⟩
  exact h.ow.block a ha
theorem CrX.below (h : CrX w B0 B count A45 c45 ops r ρ d l xs A7 c7 kl A8 c8 tl last mb mx) (k : Below w.heap.size w w') : CrX w' B0 B count A45 c45 ops r ρ d l xs A7 c7 kl A8 c8 tl last mb mx :=
  ⟨h.S.below k, h.f, h.c, h.o, h.m, h.la, h.rc, h.sf, h.D7.below k, h.D8.below k, h.n7, h.n8, h.n45, h.n78, h.ow.below k⟩
theorem CrX.len (h : CrX w B0 B count A45 c45 ops r ρ d l xs A7 c7 kl A8 c8 tl last mb mx) : kl.length + tl.length = xs.length ∧ xs.length ≤ 7968 := by
  have h1 := h.rc
  have h2 := h.S.cr.lg.rs
  have h3 := h.S.cr.lg.s
  rw [h1, List.length_append] at h2
  rw [h.S.cr.rc] at h1
  have := congrArg List.length h1
  rw [rcsOf_len, List.length_append] at this
  omega
/-- the log and the disk change, and nothing else of the law's -/
theorem CrX.keep {mb' : Bool} {mx' : Nat} {r' : RD} {ρ' : RL} {d' : Dk} {l' : Lg} (h : CrX w B0 B count A45 c45 ops r ρ d l xs A7 c7 kl A8 c8 tl last mb mx) (hB : B0 ≤ B) (k : Keeps (WN r ρ) w w') (S' : WS w' B r' ρ' d' l' xs mb') (hn : ∀ k, WN r' ρ' k → WN r ρ k ∨ w.heap.size ≤ k)
    (f : l'.first = l.first) (c : l'.count = l.count) (o : l'.old = l.old) (m : l'.most ≤ mx') (e : endL l' = endL l) (rc : l'.recs = l.recs) (sf : l'.safe = l.safe) : CrX w' B0 B count A45 c45 ops r' ρ' d' l' xs A7 c7 kl A8 c8 tl last mb' mx' := by
  have hw : ∀ k, WN r ρ k → B0 ≤ k := fun k hk => Nat.le_trans hB (h.S.wn k hk).2
  refine ⟨S', f.trans h.f, c.trans h.c, o.trans h.o, m, by rw [e]; exact h.la, rc.trans h.rc, sf.trans h.sf, h.D7.keeps k hw fun k ho hn => h.n7 k hn ho, h.D8.keeps k hw fun k ho hn => h.n8 k hn ho, ?_, ?_, ?_, h.n78, h.ow.keeps k fun a ha hn => h.n45 _ (.inl hn) ⟨a, ha, rfl⟩⟩
  · intro k hk ho
    rcases hn k hk with q | q
    · exact h.n7 k q ho
    · have := (h.D7.lt k ho).2; omega
  · intro k hk ho
    rcases hn k hk with q | q
    · exact h.n8 k q ho
    · have := (h.D8.lt k ho).2; omega
  · rintro k (hk | hk) ho
    · rcases hn k hk with q | q
      · exact h.n45 k (.inl q) ho
      · have := (h.lt45 k ho).2; omega
    · exact h.n45 k (.inr hk) ho
/-- the lists are given up -/
theorem CrX.fresh {mb' : Bool} {mx' : Nat} {r' : RD} {ρ' : RL} {d' : Dk} {l' : Lg} {last' : Int} (h : CrX w B0 B count A45 c45 ops r ρ d l xs A7 c7 kl A8 c8 tl last mb mx) (k : Keeps (WN r ρ) w w') (S' : WS w' B r' ρ' d' l' [] mb') (hn : ∀ k, WN r' ρ' k → WN r ρ k ∨ w.heap.size ≤ k)
    (f : l'.first = l.first) (c : l'.count = l.count) (o : l'.old = false) (m : l'.most ≤ mx') (e : last' < (endL l' : Nat)) (rc : l'.recs = []) (sf : l'.safe = 0) : CrX w' B0 B count A45 c45 ops r' ρ' d' l' [] none 0 [] none 0 [] last' mb' mx' := by
  have nn : ∀ k, ¬ Ob none k := fun k ⟨a, ha, _⟩ => by cases ha
  refine ⟨S', f.trans h.f, c.trans h.c, o, m, e, rc, sf, RsD.nil _ _ _, RsD.nil _ _ _, fun k _ => nn k, fun k _ => nn k, ?_, fun k _ => nn k, h.ow.keeps k fun a ha hn => h.n45 _ (.inl hn) ⟨a, ha, rfl⟩⟩
  rintro k (hk | hk | hk) ho
  · rcases hn k hk with q | q
    · exact h.n45 k (.inl q) ho
    · have := (h.lt45 k ho).2; omega
  · exact nn k hk
  · exact nn k hk
end
end Go.Proofs.YtpokaafedpnbdaaDoor.Rd

/-! The statement WalCrash: the calls one by one. Conditions: none. -/
namespace Go.Proofs.YtpokaafedpnbdaaDoor.Rd
open Go.Dn Go.RowKit Go.Shelf
set_option linter.unusedVariables false
set_option linter.unusedSimpArgs false
set_option maxRecDepth 100000
section
variable {w0 w w' : World} {B count : Nat} {A45 : Option Addr} {c45 : Nat} {ops : List WOp} {r : RD} {ρ : RL} {d : Dk} {l : Lg} {xs : List (Int × List UInt8)} {A7 : Option Addr} {c7 : Nat} {kl : List Rc} {A8 : Option Addr} {c8 : Nat} {tl : List Rc} {last : Int} {mb : Bool} {mx : Nat} {o : WOp} {b : Nat}
set_option maxHeartbeats 1000000 in
theorem arm1 (h : CrX w w0.heap.size B count A45 c45 ops r ρ d l xs A7 c7 kl A8 c8 tl last mb mx) (hB : w0.heap.size ≤ B) (hmx : mx ≤ 274877906944) (ho : OkW w0 o) (gw : Below w0.heap.size w0 w) (hb : HB w b (wopE o).toArray TWo) (hnb : ¬ WN r ρ b)
    {Kr : Bool → World → Prop} {K : Option Addr → Nat → Nat → Int → World → Prop}
    (hK : ∀ A' c' tl' last' w' r' ρ' d' l' xs', r'.D = r.D → ρ'.L = ρ.L → CrX w' w0.heap.size B count A45 c45 ops r' ρ' d' l' xs' A7 c7 kl A' c' tl' last' mb mx → Below w0.heap.size w w' → K A' tl'.length c' last' w') :
    drW w fun w37 =>
    ∃ S38 : World → Prop, S38 w37 ∧ (
    hdI S38 ((⟨b, 0, Option.none⟩ : Addr).add 1) .i64 fun x39 =>
    hdS S38 ((⟨b, 0, Option.none⟩ : Addr).add 3) fun A40 n40 c40 =>
    Calls Tryd.prog 11 #[.slice A40 n40 c40] w37 fun e41 w42 => ∃ (A43 : Option Addr) (n43 : Nat) (c43 : Nat), e41 = .returned (.slice A43 n43 c43) ∧ (
    S38 w42 ∧ (
    Calls Tryd.prog 10 #[.pointer (some ⟨ρ.L, 0, none⟩), .int .i64 x39, .slice A43 n43 c43] w42 fun e44 w45 => ∃ (x46_0 : Int) (x46_1 : Int), e44 = .returned (.tuple #[.int .i64 x46_0, .int .i64 x46_1]) ∧ (
    sel (x46_1 == (0 : Int)) (
    sel (decide (x46_0 ≤ last)) (
    Kr false w45) (
    ldI w45 ((⟨b, 0, Option.none⟩ : Addr).add 1) .i64 fun x47 =>
    ldS w45 ((⟨b, 0, Option.none⟩ : Addr).add 3) fun A48 n48 c48 =>
    alW w45 (.cells #[.int .i64 x46_0, .int .i64 x47, .slice A48 n48 c48] TRec) fun B49 w50 =>
    Runs Tryd.prog (Builtin.append_ #[28, 28] 28 #[.slice A8 tl.length c8, .slice (some (⟨B49, 0, Option.none⟩ : Addr)) 1 1]) w50 fun v52 w51 => ∃ (A53 : Option Addr) (n53 : Nat) (c53 : Nat), v52 = (.slice A53 n53 c53) ∧ (
    K A53 n53 c53 x46_0 w51))) (
    K A8 tl.length c8 last w45))))) := by
  have gd : Below w.heap.size w w.drew := (Below.refl _ _).drew
  have h1 := h.below gd
  have hb1 := hb.below gd
  refine drW_intro ⟨fun W => HB W b (wopE o).toArray TWo, hb1, hdI_i (fun _ h => h) (j := 1) (x := o.n) rfl (hdS_i (fun _ h => h) (j := 3) (A := o.A1) (n := o.data.length) (c := o.c1) rfl ?_)⟩
  have gw1 := gw.trans (gd.mono gw.size)
  have ok1 := ho.below gw1
  have hl1 := ho.l1
  refine (Copy_ok ok1.r1 (by omega)).mono ?_
  rintro _ w2 ⟨A2, c2, rfl, o2, g2⟩
  have h2 := h1.below g2
  have hb2 := hb1.below g2
  have gd2 : Below w.heap.size w w2 := gd.trans (g2.mono gd.size)
  refine ⟨_, _, _, rfl, hb2, (h2.S.append (kind := o.n) (u := o.data) o2.reads rfl o2.nil0 (fun a ha hN => ?_) ho.l1).mono ?_⟩
  · have := (o2.block a ha).1; have := (h1.S.lm.lt _ hN).1; omega
  rintro _ w3 ⟨ρ3, rfl, eL3, S3, n3, k3⟩
  obtain ⟨f1, f2, f3, f4, f5, f6o, f7⟩ := appendL_f l o.n o.data
  have k3' : Keeps (WN r ρ) w w3 := (Keeps.of_below gd2).trans k3
  have b3 : Below w0.heap.size w w3 := (h.S.bel k3').mono hB
  have hn3 : ∀ k, WN r ρ3 k → WN r ρ k ∨ w.heap.size ≤ k := by
    rintro k (hk | hk)
    · exact .inl (.inl hk)
    · rcases n3 k hk with q | q
      · exact .inl (.inr q)
      · exact .inr (Nat.le_trans gd2.size q)
  refine ⟨_, _, rfl, ?_⟩
  rcases h2.S.cr.append o.n o.data with ⟨ec, _, hx, ea, el⟩ | ⟨ec, ea, el⟩
  · have hla := h.la
    have hend : last < ((l.run * 16777216 + l.stream.length : Nat) : Int) := hla
    refine sel_t (by rw [ec]; rfl) (sel_f (by rw [ea]; simp; omega) ?_)
    have hb3 := hb2.keeps k3 fun hk => hnb hk
    refine hb_ldI hb3 (j := 1) (x := o.n) rfl (hb_ldS hb3 (j := 3) (A := o.A1) (n := o.data.length) (c := o.c1) rfl ?_)
    have hlen := h.len
    have hw : ∀ k, WN r ρ k → w0.heap.size ≤ k := fun k hk => Nat.le_trans hB (h.S.wn k hk).2
    obtain ⟨ms, om, vm, bm⟩ := h.D8
    have om3 : OwnE eR 3 w3 B TRec A8 c8 ms := om.keeps k3' fun a ha hn => h.n8 _ hn ⟨a, ha, rfl⟩
    have vm3 : RsV w3 ms tl := vm.keeps k3' fun m hm h0 a ha hn => by have := bm m hm h0 a ha; have := hw _ hn; omega
    refine put_e RTr ER (by decide) om3 (by rw [vm.1]) ⟨(appendL l o.n o.data).2.1, o.n, o.A1, o.data.length, o.c1⟩ rfl S3.lo (by have := vm.1; omega) fun A' c' w6 o6 k6 f6 => ?_
    have hn5 : ∀ k, WN r ρ3 k → ¬ Ob A8 k := fun k hk ho => by
      rcases hn3 k hk with hk | hk
      · exact h.n8 k hk ho
      · have := (h.D8.lt k ho).2; omega
    have b36 : Below w0.heap.size w w6 := b3.trans (k6.below (Nat.le_trans (Nat.le_trans gw.size gd2.size) (by have := k3.size; omega)) fun k hk ⟨a, ha, e⟩ => by have := (om.block a ha).1; omega)
    have S6 := S3.keepsT k6 hn5 (ob_ty om3)
    have er : (appendL l o.n o.data).1.recs = kl ++ (tl ++ [⟨(appendL l o.n o.data).2.1, o.n, o.data⟩]) := by
      rw [ea, el, ← List.append_assoc, ← h.rc]; rfl
    have hA' : ∀ k, Ob (some A') k → Ob A8 k ∨ w3.heap.size ≤ k := by
      rintro k ⟨a, ha, rfl⟩
      cases ha
      rcases f6 with f6 | f6
      · exact .inl ⟨A', f6, rfl⟩
      · exact .inr f6
    have hsz3 : w.heap.size ≤ w3.heap.size := k3'.size
    have hwl : ∀ k, WN r ρ3 k → k < w3.heap.size := fun k hk => (S3.wn k hk).1
    have := hK (some A') c' (tl ++ [⟨(appendL l o.n o.data).2.1, o.n, o.data⟩]) (appendL l o.n o.data).2.1 w6 r ρ3 d _ _ rfl eL3 ⟨S6, f1.trans h.f, f2.trans h.c, f6o.trans h.o, by rw [f4]; exact h.m, ?_, er, ?_, ?_, ?_, ?_, ?_, ?_, ?_, ?_⟩ b36
    · rw [List.length_append, List.length_singleton] at this ⊢
      rw [vm.1]; exact this
    · have hr := (recB_len o.n o.data).1
      rw [ea]
      show ((_ : Nat) : Int) < ((_ : Nat) : Int)
      unfold endL
      rw [f3, el]
      show ((l.run * 16777216 + l.stream.length : Nat) : Int) < ((l.run * 16777216 + (l.stream ++ recB o.n o.data).length : Nat) : Int)
      rw [List.length_append]; omega
    · rw [f7, h.sf]
      unfold appX
      rw [if_pos ec, List.take_append_of_le_length (by omega)]
    · exact (h.D7.keeps k3' hw fun k ho hn => h.n7 k hn ho).keeps k6 (fun k ⟨a, ha, e⟩ => by have := (om.block a ha).1; omega) fun k ho => h.n78 k ho
    · refine ⟨_, o6, (vm3.keeps k6 fun m hm h0 a ha hn => ?_).snoc ⟨rfl, rfl, rfl, hx.2.2, (ho.below (gw.trans b36)).r1⟩, fun m hm h0 a ha => ?_⟩
      · obtain ⟨a2, ha2, e⟩ := hn
        have := bm m hm h0 a ha
        have := (om.block a2 ha2).1
        omega
      · rcases List.mem_append.1 hm with hm | hm
        · exact bm m hm h0 a ha
        · rw [List.mem_singleton] at hm
          subst hm
          exact rb_low ho.r1 h0 a ha
    · intro k hk ho
      rcases hn3 k hk with q | q
      · exact h.n7 k q ho
      · have := (h.D7.lt k ho).2; omega
    · intro k hk ho
      rcases hA' k ho with q | q
      · exact hn5 k hk q
      · have := hwl k hk; omega
    · rintro k hk ho
      have h45 := (h.lt45 k ho).2
      rcases hk with hk | hk | hk
      · rcases hn3 k hk with q | q
        · exact h.n45 k (.inl q) ho
        · omega
      · exact h.n45 k (.inr (.inl hk)) ho
      · rcases hA' k hk with q | q
        · exact h.n45 k (.inr (.inr q)) ho
        · omega
    · intro k hk ho
      rcases hA' k ho with q | q
      · exact h.n78 k hk q
      · have := (h.D7.lt k hk).2; omega
    · exact (h.ow.keeps k3' fun a ha hn => h.n45 _ (.inl hn) ⟨a, ha, rfl⟩).keeps k6 fun a ha hn => h.n45 _ (.inr (.inr hn)) ⟨a, ha, rfl⟩
  · refine sel_f (by simpa using ec) ?_
    refine hK A8 c8 tl last w3 r ρ3 d _ xs rfl eL3 (h.keep hB k3' ?_ hn3 f1 f2 f6o (by rw [f4]; exact h.m) (by rw [el]) (by rw [el]) f7) b3
    have := S3
    unfold appX at this
    rw [if_neg ec] at this
    exact this
set_option maxHeartbeats 1000000 in
theorem arm2 (h : CrX w w0.heap.size B count A45 c45 ops r ρ d l xs A7 c7 kl A8 c8 tl last mb mx) (hB : w0.heap.size ≤ B) (gw : Below w0.heap.size w0 w)
    {K : Option Addr → Nat → Nat → Option Addr → Nat → Nat → World → Prop}
    (hK : ∀ A' c' kl' A2' c2' tl' w' r' ρ' d' l' xs', r'.D = r.D → ρ'.L = ρ.L → CrX w' w0.heap.size B count A45 c45 ops r' ρ' d' l' xs' A' c' kl' A2' c2' tl' last mb mx → Below w0.heap.size w w' → K A' kl'.length c' A2' tl'.length c2' w') :
    Calls Tryd.prog 12 #[.pointer (some ⟨ρ.L, 0, none⟩)] w fun e54 w55 => ∃ (x56 : Int), e54 = .returned (.int .i64 x56) ∧ (
    sel (x56 == (0 : Int)) (
    Runs Tryd.prog (Builtin.append_ #[28, 28] 28 #[.slice A7 kl.length c7, .slice A8 tl.length c8]) w55 fun v58 w57 => ∃ (A59 : Option Addr) (n59 : Nat) (c59 : Nat), v58 = (.slice A59 n59 c59) ∧ (
    K A59 n59 c59 none 0 0 w57)) (
    K A7 kl.length c7 A8 tl.length c8 w55)) := by
  refine h.S.flush.mono ?_
  rintro _ w1 ⟨rfl, S1, k1⟩
  obtain ⟨C1, t1, t2, t3, t4, t5, t6, t7, t8, t9⟩ := h.S.cr.flush
  have h1 : CrX w1 w0.heap.size B count A45 c45 ops r ρ (flushL d l).1 { (flushL d l).2.1 with safe := l.safe } xs A7 c7 kl A8 c8 tl last mb mx → True := fun _ => trivial
  have hw : ∀ k, WN r ρ k → w0.heap.size ≤ k := fun k hk => Nat.le_trans hB (h.S.wn k hk).2
  have b1 : Below w0.heap.size w w1 := (h.S.bel k1).mono hB
  have D7 := h.D7.keeps k1 hw fun k ho hn => h.n7 k hn ho
  have D8 := h.D8.keeps k1 hw fun k ho hn => h.n8 k hn ho
  have ow := h.ow.keeps k1 fun a ha hn => h.n45 _ (.inl hn) ⟨a, ha, rfl⟩
  have hend : endL (flushL d l).2.1 = endL l := by unfold endL; rw [t3, t1]
  have hlen := h.len
  refine ⟨_, rfl, ?_⟩
  by_cases q : (flushL d l).2.2 = 0
  · obtain ⟨t10, t11, t12⟩ := t8 q
    refine sel_t (by rw [q]; rfl) ?_
    obtain ⟨mk, k7, v7, b7⟩ := D7
    obtain ⟨mt, k8, v8, b8⟩ := D8
    have hmk := v7.1
    have hmt := v8.1
    refine app_row2 RTr ER (by decide) k7 hmk.symm (k8.reads ER) hmt.symm (fun e => ⟨(k8.nil0 e).1, by rw [← hmt, (k8.nil0 e).2]; rfl⟩) S1.lo (by omega) fun A3 c3 w2 o2 kk2 f2 => ⟨_, _, _, rfl, ?_⟩
    have hB7 : ∀ k, Ob A7 k → w0.heap.size ≤ k ∧ k < w1.heap.size := fun k ⟨a, ha, e⟩ => by have := k7.block a ha; have := h.D7.lt a.block ⟨a, ha, rfl⟩; have := k1.size; have := h.S.lo; omega
    have b2 : Below w0.heap.size w w2 := b1.trans (kk2.below (by have := gw.size; have := k1.size; omega) fun k hk hn => by have := (hB7 k hn).1; omega)
    have S2 := S1.keepsT kk2 h.n7 (ob_ty k7)
    have hA' : ∀ k, Ob A3 k → Ob A7 k ∨ w1.heap.size ≤ k := by
      rintro k ⟨a, ha, rfl⟩
      rcases f2 a ha with q | q
      · exact .inl ⟨a, q, rfl⟩
      · exact .inr q
    have nn : ∀ k, ¬ Ob none k := fun k ⟨a, ha, _⟩ => by cases ha
    have := hK A3 c3 (kl ++ tl) none 0 [] w2 r ρ _ _ xs rfl rfl ⟨S2, t6.trans h.f, t7.trans h.c, t5.trans h.o, by rw [t4]; exact h.m, by rw [hend]; exact h.la, by rw [List.append_nil, t2, h.rc], ?_, ?_, RsD.nil _ _ _, ?_, fun k _ => nn k, ?_, fun k _ => nn k, ?_⟩ b2
    · rw [List.length_append] at this
      rw [List.length_append, hmk, hmt]; exact this
    · rw [t10, h.S.cr.st, List.length_append, hlen.1, List.take_length]
    · refine ⟨_, o2, (v7.append v8).keeps kk2 fun m hm h0 a ha hn => ?_, fun m hm h0 a ha => ?_⟩
      · have := (hB7 _ hn).1
        rcases List.mem_append.1 hm with hm | hm
        · have := b7 m hm h0 a ha; omega
        · have := b8 m hm h0 a ha; omega
      · rcases List.mem_append.1 hm with hm | hm
        · exact b7 m hm h0 a ha
        · exact b8 m hm h0 a ha
    · intro k hk ho
      rcases hA' k ho with q | q
      · exact h.n7 k hk q
      · have := (h.S.wn k hk).1; have := k1.size; omega
    · rintro k hk ho
      have h45 := (h.lt45 k ho).2
      have := k1.size
      rcases hk with hk | hk | hk
      · exact h.n45 k (.inl hk) ho
      · rcases hA' k hk with q | q
        · exact h.n45 k (.inr (.inl q)) ho
        · omega
      · exact nn k hk
    · exact ow.keeps kk2 fun a ha hn => h.n45 _ (.inr (.inl hn)) ⟨a, ha, rfl⟩
  · obtain ⟨t10, t11⟩ := t9 q
    exact sel_f (by simpa using q) (hK A7 c7 kl A8 c8 tl w1 r ρ _ _ xs rfl rfl (h.keep hB k1 S1 (fun k hk => .inl hk) t6 t7 t5 (by rw [t4]; exact h.m) hend t2 t11) b1)
theorem stepC_ne {d : Dk} : stepC d ≠ 91 := by
  unfold stepC
  simp only
  split
  · decide
  split
  · decide
  split
  · decide
  · decide
theorem reset_ne91 (hd : l.dead = false) : (resetL d l).2.2 ≠ 91 := by
  have hw : ∀ (d : Dk) (i : Int) (b : List UInt8), wcL d i b ≠ 91 := fun d i b => by
    unfold wcL wrC
    split
    · decide
    split
    · decide
    · exact stepC_ne
  have hs : ∀ (d : Dk), syC d ≠ 91 := fun d => by
    unfold syC
    split
    · decide
    · exact stepC_ne
  unfold resetL
  rw [if_neg (by rw [hd]; decide)]
  split
  · exact (by decide : (90 : Int) ≠ 91)
  split
  · exact hw _ _ _
  split
  · exact hs _
  · exact (by decide : (0 : Int) ≠ 91)
theorem arm3 (h : CrX w w0.heap.size B count A45 c45 ops r ρ d l xs A7 c7 kl A8 c8 tl last mb mx) (hB : w0.heap.size ≤ B) (hmx : mx < 274877906944)
    {K1 K2 K3 : World → Prop}
    (h1 : ∀ w' r' ρ' d' l', r'.D = r.D → ρ'.L = ρ.L → CrX w' w0.heap.size B count A45 c45 ops r' ρ' d' l' [] none 0 [] none 0 [] last false (mx + 1) → Below w0.heap.size w w' → K1 w')
    (h2 : ∀ w' r' ρ' d' l', r'.D = r.D → ρ'.L = ρ.L → CrX w' w0.heap.size B count A45 c45 ops r' ρ' d' l' xs A7 c7 kl A8 c8 tl last true (mx + 1) → Below w0.heap.size w w' → K2 w')
    (h3 : ∀ w' r' ρ' d' l', r'.D = r.D → ρ'.L = ρ.L → CrX w' w0.heap.size B count A45 c45 ops r' ρ' d' l' xs A7 c7 kl A8 c8 tl last mb (mx + 1) → Below w0.heap.size w w' → K3 w') :
    Calls Tryd.prog 13 #[.pointer (some ⟨ρ.L, 0, none⟩)] w fun e60 w61 => ∃ (x62 : Int), e60 = .returned (.int .i64 x62) ∧ (
    sel (x62 == (0 : Int)) (K1 w61) (sel (x62 != (91 : Int)) (K2 w61) (K3 w61))) := by
  obtain ⟨c0, c1⟩ := h.S.cr.reset
  refine (Reset_ok h.S.dm h.S.lm h.S.cr.lg h.S.lo).mono ?_
  rintro _ w1 ⟨rfl, m1, ⟨ρ1, eL, l1, n1⟩, k1⟩
  have b1 : Below w0.heap.size w w1 := (h.S.bel k1).mono hB
  have hm := h.m
  have hn : ∀ k, WN r ρ1 k → WN r ρ k ∨ w.heap.size ≤ k := fun k hk => .inl (hk.imp id (n1 k))
  refine ⟨_, rfl, ?_⟩
  by_cases q : (resetL d l).2.2 = 0
  · obtain ⟨e1, e2, e3, C1⟩ := c0 q
    rw [e3] at l1
    have hla := h.la
    have hs := h.S.cr.lg.s
    have hrm := h.S.cr.rm
    refine sel_t (by rw [q]; rfl) (h1 w1 r ρ1 _ (freshL l) rfl eL (h.fresh k1 ⟨m1, l1, C1⟩ hn rfl rfl rfl (by show l.most + 1 ≤ _; omega) ?_ rfl rfl) b1)
    refine Int.lt_trans hla (Int.ofNat_lt.2 ?_)
    obtain ⟨l2, hl2⟩ : ∃ l2, freshL l = l2 := ⟨_, rfl⟩
    have z1 : l2.run = l.most + 1 := by rw [← hl2]; rfl
    have z2 : l2.stream = [] := by rw [← hl2]; rfl
    rw [hl2]
    unfold endL
    rw [z1, z2, List.length_nil]
    clear hl2 h1 h2 h3 h
    omega
  · rcases c1 q h.o with ⟨⟨q1, q2⟩ | ⟨q1, q2⟩, e1, e2⟩ | ⟨hd, e2, C1⟩
    · refine sel_f (by simpa using q) (sel_f (by rw [q1]; rfl) (h3 w1 r ρ1 d l rfl eL (h.keep hB k1 ⟨?_, ?_, h.S.cr⟩ hn rfl rfl rfl (by omega) rfl rfl rfl) b1))
      · rw [e1] at m1; exact m1
      · rw [e2] at l1; exact l1
    · omega
    · have q1 := reset_ne91 (d := d) hd
      rw [e2] at l1
      obtain ⟨l2, hl2⟩ : ∃ l2, ({ l with dead := true } : Lg) = l2 := ⟨_, rfl⟩
      have z1 : l2.first = l.first := by rw [← hl2]
      have z2 : l2.count = l.count := by rw [← hl2]
      have z3 : l2.old = l.old := by rw [← hl2]
      have z4 : l2.most = l.most := by rw [← hl2]
      have z5 : l2.recs = l.recs := by rw [← hl2]
      have z6 : l2.safe = l.safe := by rw [← hl2]
      have z7 : l2.run = l.run := by rw [← hl2]
      have z8 : l2.stream = l.stream := by rw [← hl2]
      rw [hl2] at l1 C1
      clear hl2 e2
      exact sel_f (by simpa using q) (sel_t (by simpa using q1) (h2 w1 r ρ1 _ _ rfl eL (h.keep hB k1 ⟨m1, l1, C1⟩ hn z1 z2 z3 (by rw [z4]; omega) (by unfold endL; rw [z7, z8]) z5 z6) b1))
end
end Go.Proofs.YtpokaafedpnbdaaDoor.Rd

/-! The statement WalCrash: a plan, a crash. Conditions: none. -/
namespace Go.Proofs.YtpokaafedpnbdaaDoor.Rd
open Go.Dn Go.RowKit Go.Shelf
set_option linter.unusedVariables false
set_option linter.unusedSimpArgs false
set_option maxRecDepth 100000
section
variable {w0 w w' : World} {B count : Nat} {A45 : Option Addr} {c45 : Nat} {ops : List WOp} {r : RD} {ρ : RL} {d : Dk} {l : Lg} {xs : List (Int × List UInt8)} {A7 : Option Addr} {c7 : Nat} {kl : List Rc} {A8 : Option Addr} {c8 : Nat} {tl : List Rc} {last : Int} {mb : Bool} {mx : Nat} {o : WOp} {b : Nat}
/-- a plan -/
theorem CrX.plan {A : Option Addr} {n c : Nat} {fs : List Ft} (h : CrX w w0.heap.size B count A45 c45 ops r ρ d l xs A7 c7 kl A8 c8 tl last mb mx) (hB : w0.heap.size ≤ B) (hr : RowE eF 2 w A fs) (hn : n = fs.length) (hz : A = none → c = 0 ∧ n = 0) (hl : fs.length * 16 ≤ 140737488355328) :
    Calls Tryd.prog 14 #[.pointer (some ⟨r.D, 0, none⟩), .slice A n c] w fun e w' => e = .returned (.tuple #[]) ∧ ∃ r', r'.D = r.D ∧ CrX w' w0.heap.size B count A45 c45 ops r' ρ { d with plan := fs } l xs A7 c7 kl A8 c8 tl last mb mx ∧ Below w0.heap.size w w' ∧ Keeps (fun k => k = r.D) w w' := by
  refine (Plan_ok h.S.dm hr hn hz hl h.S.lo).mono ?_
  rintro _ w4 ⟨rfl, P, pc, h4, k4, n4⟩
  have hFD : ∀ k, FD { r with P := P, pc := pc } k → FD r k ∨ w.heap.size ≤ k := fun k hk => by
    rcases hk with e | e | e | e
    · exact .inl (.inl e)
    · exact .inl (.inr (.inl e))
    · exact .inl (.inr (.inr (.inl e)))
    · exact .inr (n4 k e)
  have kF : Keeps (FD r) w w4 := k4.mono fun _ _ e => .inl e
  have l0 : LM w B { r with P := P, pc := pc } ρ l := h.S.lm.reP rfl fun k hlt hk => (hFD k hk).resolve_right (by omega)
  have hnF := h.S.lm.nFD h.S.dm
  have l4 : LM w4 B { r with P := P, pc := pc } ρ l := l0.keeps k4 (fun k hk e => hnF k hk (.inl e)) fun k e => .inl e
  have C4 : Cr { d with plan := fs } l xs mb := by
    have := h.S.cr
    exact ⟨⟨this.bd.s, this.bd.p⟩, this.sz, this.lg, this.st, this.rc, this.ok, this.r1, this.rm, this.fit, this.sec, this.sf, this.dd, this.od⟩
  have kW : Keeps (WN r ρ) w w4 := k4.mono fun _ _ e => .inl (.inl e)
  exact ⟨rfl, { r with P := P, pc := pc }, rfl, h.keep (r' := { r with P := P, pc := pc }) hB kW ⟨h4, l4, C4⟩ (fun k hk => by
    rcases hk with hk | hk
    · exact (hFD k hk).imp .inl id
    · exact .inl (.inr hk)) rfl rfl rfl h.m rfl rfl rfl, (h.S.bel kW).mono hB, k4⟩
theorem arm7 (h : CrX w w0.heap.size B count A45 c45 ops r ρ d l xs A7 c7 kl A8 c8 tl last mb mx) (hB : w0.heap.size ≤ B) (ho : OkW w0 o) (gw : Below w0.heap.size w0 w) (hb : HB w b (wopE o).toArray TWo)
    {K : World → Prop} (hK : ∀ w' r' ρ' d' l', r'.D = r.D → ρ'.L = ρ.L → CrX w' w0.heap.size B count A45 c45 ops r' ρ' d' l' xs A7 c7 kl A8 c8 tl last mb mx → Below w0.heap.size w w' → K w') :
    drW w fun w63 =>
    ∃ S64 : World → Prop, S64 w63 ∧ (
    hdS S64 ((⟨b, 0, Option.none⟩ : Addr).add 5) fun A65 n65 c65 =>
    Calls Tryd.prog 16 #[.pointer (some ⟨r.D, 0, none⟩)] w63 fun e66 w67 => ∃ (x68 : Int), e66 = .returned (.int .i64 x68) ∧ (
    S64 w67 ∧ (
    Calls Tryd.prog 15 #[.slice A65 n65 c65, .int .i64 x68] w67 fun e69 w70 => ∃ (A71 : Option Addr) (n71 : Nat) (c71 : Nat), e69 = .returned (.slice A71 n71 c71) ∧ (
    S64 w70 ∧ (
    Calls Tryd.prog 14 #[.pointer (some ⟨r.D, 0, none⟩), .slice A71 n71 c71] w70 fun e72 w73 => e72 = .returned (.tuple #[]) ∧ (
    K w73)))))) := by
  have gd : Below w.heap.size w w.drew := (Below.refl _ _).drew
  have h1 := h.below gd
  have hb1 := hb.below gd
  have gw1 := gw.trans (gd.mono gw.size)
  have ok1 := ho.below gw1
  have hl := ho.l3
  refine drW_intro ⟨fun W => HB W b (wopE o).toArray TWo, hb1, hdS_i (fun _ h => h) (j := 5) (A := o.A3) (n := o.fates.length) (c := o.c3) rfl ((Steps_ok h1.S.dm).mono ?_)⟩
  rintro _ _ ⟨rfl, rfl⟩
  refine ⟨_, rfl, hb1, (Later_ok ok1.r3 rfl hl).mono ?_⟩
  rintro _ w2 ⟨A2, c2, fs, rfl, o2, hle, g2⟩
  have h2 := h1.below g2
  refine ⟨_, _, _, rfl, hb1.below g2, (h2.plan hB (o2.reads EF) rfl (fun e => ⟨(o2.nil0 e).1, by rw [(o2.nil0 e).2]; rfl⟩) (by omega)).mono ?_⟩
  rintro _ w3 ⟨rfl, r', eD, h3, b3, _⟩
  have gd2 : Below w.heap.size w w2 := gd.trans (g2.mono gd.size)
  exact ⟨rfl, hK w3 r' ρ _ _ eD rfl h3 ((gd2.mono gw.size).trans b3)⟩
theorem lt_runs' {a b s t K : Nat} (h : a ≤ b) (hs : s ≤ K) : a * K + s ≤ (b + 1) * K + t := by
  have h1 : a * K ≤ b * K := Nat.mul_le_mul_right K h
  have h2 : (b + 1) * K = b * K + K := by rw [Nat.add_mul, Nat.one_mul]
  rw [h2]
  exact Nat.le_trans (Nat.add_le_add h1 hs) (Nat.le_add_right _ _)
theorem lt_runs {a b s t : Nat} (h : a ≤ b) (hs : s ≤ 7968) : a * 16777216 + s ≤ (b + 1) * 16777216 + t := lt_runs' h (Nat.le_trans hs (by decide))
/-- a log opened takes records again -/
theorem reset6 {Q : Ending → World → Prop} {r2 : RD} {ρ2 : RL} {d2 : Dk} {l2 : Lg} {ys : List (Int × List UInt8)} (S : WS w B r2 ρ2 d2 l2 ys false) (np : NP d2) (hd : l2.dead = false) (hm : l2.most < 274877906944)
    (hK : ∀ w' ρ', ρ'.L = ρ2.L → WS w' B r2 ρ' (resetL d2 l2).1 (freshL l2) [] false → (∀ k, LN ρ' k → LN ρ2 k) → Keeps (WN r2 ρ2) w w' → Q (.returned (.int .i64 0)) w') :
    Calls Tryd.prog 13 #[.pointer (some ⟨ρ2.L, 0, none⟩)] w Q := by
  have hz := S.cr.sz
  have hc := S.cr.lg.c0
  obtain ⟨q1, q2⟩ := np.reset (l := l2) hd hm (by omega)
  obtain ⟨c0, _⟩ := S.cr.reset
  obtain ⟨e1, e2, e3, C1⟩ := c0 q1
  refine (Reset_ok S.dm S.lm S.cr.lg S.lo).mono ?_
  rintro _ w1 ⟨rfl, m1, ⟨ρ1, eL, l1, n1⟩, k1⟩
  rw [e3] at l1
  rw [q1]
  exact hK w1 ρ1 eL ⟨m1, l1, C1⟩ n1 k1
set_option maxHeartbeats 1000000 in
theorem arm6 (h : CrX w w0.heap.size B count A45 c45 ops r ρ d l xs A7 c7 kl A8 c8 tl last mb mx) (hB : w0.heap.size ≤ B) (hmx : mx + 1 < 274877906944) (ho : OkW w0 o) (gw : Below w0.heap.size w0 w) (hb : HB w b (wopE o).toArray TWo) (hnb : ¬ WN r ρ b)
    {Kr : Bool → World → Prop} {K : Option Addr → World → Prop} (hK : ∀ w' r' ρ' d' l', r'.D = r.D → CrX w' w0.heap.size B count A45 c45 ops r' ρ' d' l' [] none 0 [] none 0 [] last false (mx + 2) → Below w0.heap.size w w' → K (some ⟨ρ'.L, 0, none⟩) w') :
    Calls Tryd.prog 14 #[.pointer (some ⟨r.D, 0, none⟩), .slice none 0 0] w fun e74 w75 => e74 = .returned (.tuple #[]) ∧ (
    ldS w75 ((⟨b, 0, Option.none⟩ : Addr).add 4) fun A76 n76 c76 =>
    Calls Tryd.prog 17 #[.pointer (some ⟨r.D, 0, none⟩), .slice A76 n76 c76] w75 fun e77 w78 => e77 = .returned (.tuple #[]) ∧ (
    Calls Tryd.prog 18 #[.pointer (some ⟨r.D, 0, none⟩), .int .i64 (1 : Int), .int .i64 (count : Int)] w78 fun e79 w80 => ∃ (p81_0 : Option Addr) (A81_1 : Option Addr) (n81_1 : Nat) (c81_1 : Nat) (x81_2 : Int), e79 = .returned (.tuple #[.pointer p81_0, .slice A81_1 n81_1 c81_1, .int .i64 x81_2]) ∧ (
    sel (x81_2 != (0 : Int)) (
    Kr false w80) (
    sel p81_0.isNone (
    Kr false w80) (
    Calls Tryd.prog 19 #[.slice A81_1 n81_1 c81_1, .slice A7 kl.length c7, .slice A8 tl.length c8] w80 fun e82 w83 => ∃ (b84 : Bool), e82 = .returned (.bool b84) ∧ (
    sel (!b84) (
    sel mb (
    sel (!((n81_1 : Int) == (0 : Int))) (
    Kr false w83) (
    Calls Tryd.prog 13 #[.pointer p81_0] w83 fun e85 w86 => ∃ (x87 : Int), e85 = .returned (.int .i64 x87) ∧ (
    sel (x87 != (0 : Int)) (
    Kr false w86) (
    K p81_0 w86)))) (
    Kr false w83)) (
    Calls Tryd.prog 13 #[.pointer p81_0] w83 fun e88 w89 => ∃ (x90 : Int), e88 = .returned (.int .i64 x90) ∧ (
    sel (x90 != (0 : Int)) (
    Kr false w89) (
    K p81_0 w89))))))))) := by
  refine (h.plan hB (A := none) (n := 0) (c := 0) (fs := []) (RowE.nil _ _ _ _) rfl (fun _ => ⟨rfl, rfl⟩) (by simp)).mono ?_
  rintro _ w1 ⟨rfl, r1, eD, h1, b1, k1⟩
  have hb1 := hb.keeps k1 fun e => hnb (.inl (.inl e))
  have gw1 := gw.trans b1
  have ok1 := ho.below gw1
  refine ⟨rfl, hb_ldS hb1 (j := 4) (A := o.A2) (n := o.keeps.length) (c := o.c2) rfl ?_⟩
  rw [← eD]
  refine (On1_ok h1.S.dm ok1.r2 ho.b2 hB ho.l2).mono ?_
  rintro _ w2 ⟨rfl, d2, k2⟩
  have b12 : Below w0.heap.size w1 w2 := k2.below gw1.size fun k hk hF => by have := (h1.S.dm.lt k hF).2; omega
  have gw2 := gw1.trans b12
  have hB2 : B ≤ w2.heap.size := Nat.le_trans h1.S.lo k2.size
  have op := h1.S.open h1.o d2 hB2
  rw [h1.f, h1.c] at op
  refine ⟨rfl, op.mono ?_⟩
  rintro _ w3 ⟨ρ3, A3, c3, Bx, run, ys, rfl, S3, o3, p3, q3, g3, v1, v2, v3, v4⟩
  have hWk : Keeps (WN r1 ρ) w1 w2 := k2.mono fun _ _ hk => .inl hk
  have hw1 : ∀ k, WN r1 ρ k → w0.heap.size ≤ k := fun k hk => Nat.le_trans hB (h1.S.wn k hk).2
  have D7 := (h1.D7.keeps hWk hw1 fun k ho hn => h1.n7 k hn ho).below g3
  have D8 := (h1.D8.keeps hWk hw1 fun k ho hn => h1.n8 k hn ho).below g3
  obtain ⟨l3, hl3⟩ : ∃ l3, (⟨1, count, run, mostF (secF (onD { d with plan := [] } o.keeps) 1) count, recsB ys, (recsB ys).length, rcsOf run 0 ys, true, false⟩ : Lg) = l3 := ⟨_, rfl⟩
  have z1 : l3.first = 1 := by rw [← hl3]
  have z2 : l3.count = count := by rw [← hl3]
  have z3 : l3.dead = false := by rw [← hl3]
  have z4 : l3.most = mostF (secF (onD { d with plan := [] } o.keeps) 1) count := by rw [← hl3]
  have S3' : WS w3 B r1 ρ3 (onD { d with plan := [] } o.keeps) l3 ys false := by rw [← hl3]; exact S3
  clear S3
  have np : NP (onD { d with plan := [] } o.keeps) := NP.on rfl _
  obtain ⟨d3, hd3⟩ : ∃ d3, onD { d with plan := [] } o.keeps = d3 := ⟨_, rfl⟩
  rw [hd3] at z4 S3' np v1 v2
  rw [← z4] at v1 v2
  have hlen := h1.len
  have hyx : (rcsOf run 0 ys).length = ys.length := rcsOf_len _ _ _
  have hys : ys.length ≤ 7968 := by
    rcases v4 with ⟨_, e⟩ | ⟨_, j, e, hj, _⟩
    · rw [e]; exact Nat.zero_le _
    · rw [e, List.length_take]; omega
  refine ⟨_, _, _, _, _, rfl, sel_f rfl (sel_f rfl ?_)⟩
  have hbeg : rcsOf run 0 ys = [] ∨ ∃ j, rcsOf run 0 ys = (kl ++ tl).take j ∧ kl.length ≤ j ∧ j ≤ kl.length + tl.length := by
    rcases v4 with ⟨_, e⟩ | ⟨e1, j, e, hj, hk⟩
    · exact .inl (by rw [e]; rfl)
    · refine .inr ⟨j, ?_, hk kl.length (by omega) h1.sf, by omega⟩
      rw [← h1.rc, h1.S.cr.rc, e1, e]
      have ht := rcsOf_app l.run (xs.take j) 0 (xs.drop j)
      rw [List.take_append_drop] at ht
      rw [ht, List.take_left' (by rw [rcsOf_len, List.length_take]; omega)]
  have bg := Begins_ok o3 D7 D8 (by omega) (by rw [hyx]; omega) hbeg
  rw [hyx] at bg
  refine bg.mono ?_
  rintro _ w4 ⟨bb, rfl, hbb, g4⟩
  have S4 := S3'.below g4
  have gw3 := gw2.trans (g3.mono gw2.size)
  have gw4 := gw3.trans (g4.mono gw3.size)
  have hm3 : l3.most < 274877906944 := by have := h1.m; split at v2 <;> omega
  have b14 : Below w0.heap.size w w4 := ((b1.trans b12).trans (g3.mono gw2.size)).trans (g4.mono gw3.size)
  have fin : ∀ {Kx : World → Prop}, (∀ w', K (some ⟨ρ3.L, 0, none⟩) w' → Kx w') → Calls Tryd.prog 13 #[.pointer (some ⟨ρ3.L, 0, none⟩)] w4 fun e85 w86 => ∃ (x87 : Int), e85 = .returned (.int .i64 x87) ∧ (sel (x87 != (0 : Int)) (Kr false w86) (Kx w86)) := by
    intro Kx hx
    refine reset6 S4 np z3 hm3 fun w5 ρ5 eL5 S5 n5 k5 => ⟨_, rfl, sel_f rfl (hx _ ?_)⟩
    have b45 : Below w0.heap.size w4 w5 := (S4.bel k5).mono hB
    rw [← eL5]
    obtain ⟨l5, hl5⟩ : ∃ l5, freshL l3 = l5 := ⟨_, rfl⟩
    have y1 : l5.first = l3.first := by rw [← hl5]; rfl
    have y2 : l5.count = l3.count := by rw [← hl5]; rfl
    have y3 : l5.old = false := by rw [← hl5]; rfl
    have y4 : l5.most = l3.most + 1 := by rw [← hl5]; rfl
    have y5 : l5.recs = [] := by rw [← hl5]; rfl
    have y6 : l5.safe = 0 := by rw [← hl5]; rfl
    have y7 : l5.run = l3.most + 1 := by rw [← hl5]; rfl
    rw [hl5] at S5
    refine hK w5 r1 ρ5 _ l5 eD ⟨S5, y1.trans z1, y2.trans z2, y3, by rw [y4]; have := h1.m; split at v2 <;> omega, ?_, y5, y6, RsD.nil _ _ _, RsD.nil _ _ _, fun k _ ⟨a, ha, _⟩ => by (cases ha), fun k _ ⟨a, ha, _⟩ => by (cases ha), ?_, fun k _ ⟨a, ha, _⟩ => by (cases ha), ?_⟩ (b14.trans b45)
    · refine Int.lt_of_lt_of_le h1.la (Int.ofNat_le.2 ?_)
      have hs := h1.S.cr.lg.s
      unfold endL
      rw [y7]
      exact lt_runs (Nat.le_trans v3 v1) hs
    · rintro k (hk | ⟨a, ha, _⟩ | ⟨a, ha, _⟩) ho
      · rcases hk with hk | hk
        · exact h1.n45 k (.inl (.inl hk)) ho
        · have := (q3 k (n5 k hk)).2
          have := (h1.lt45 k ho).2
          have := k2.size
          omega
      · cases ha
      · cases ha
    · exact ((((h1.ow.keeps hWk fun a ha hn => h1.n45 _ (.inl hn) ⟨a, ha, rfl⟩).below g3).below g4).keeps k5 fun a ha hn => by
        rcases hn with hn | hn
        · exact h1.n45 _ (.inl (.inl hn)) ⟨a, ha, rfl⟩
        · have := (q3 _ hn).2
          have := (h1.lt45 _ ⟨a, ha, rfl⟩).2
          have := k2.size
          omega)
  refine ⟨_, rfl, ?_⟩
  cases bb with
  | true => exact sel_f rfl (fin fun _ h => h)
  | false =>
    refine sel_t rfl ?_
    have e0 : rcsOf run 0 ys = [] ∧ 0 < kl.length := hbb.resolve_right (by decide)
    have y0 : ys.length = 0 := by rw [← hyx, e0.1]; rfl
    have hmb : mb = true := by
      rcases v4 with ⟨e, _⟩ | ⟨e1, j, e, hj, hk⟩
      · exact e
      · have := hk kl.length (by omega) h1.sf
        rw [e, List.length_take] at y0
        omega
    exact sel_t hmb (sel_f (by rw [y0]; rfl) (fin fun _ h => h))
end
end Go.Proofs.YtpokaafedpnbdaaDoor.Rd

/-! The statement WalCrash, walked. Conditions: a script of at most 2^21 calls. -/
namespace Go.Proofs.YtpokaafedpnbdaaDoor.Rd
open Go.Dn Go.RowKit Go.Shelf
set_option linter.unusedVariables false
set_option linter.unusedSimpArgs false
set_option maxRecDepth 100000
section
variable {w0 w w' : World} {B count : Nat} {A45 : Option Addr} {c45 : Nat} {ops : List WOp}
set_option maxHeartbeats 1000000 in
theorem crash_l0 {D : Nat} (hops : ops.length ≤ 2097152) (hok : ∀ o ∈ ops, OkW w0 o) (hB : w0.heap.size ≤ B) {K0 : World → Prop} {Kr : Bool → World → Prop} (hK : ∀ w, Below w0.heap.size w0 w → K0 w) :
    ∀ (m i : Nat) (w : World) (r : RD) (ρ : RL) (d : Dk) (l : Lg) (xs : List (Int × List UInt8)) (A7 : Option Addr) (c7 : Nat) (kl : List Rc) (A8 : Option Addr) (c8 : Nat) (tl : List Rc) (last : Int) (mb : Bool) (mx : Nat), m + i = ops.length →
      CrX w w0.heap.size B count A45 c45 ops r ρ d l xs A7 c7 kl A8 c8 tl last mb mx → r.D = D → mx ≤ 2 + 2 * i → Below w0.heap.size w0 w →
      f_law09_WalCrash.l0 (m + 1) (count : Int) (some ⟨D, 0, none⟩) (some ⟨ρ.L, 0, none⟩) A7 kl.length c7 A8 tl.length c8 last mb A45 ops.length c45 (ops.length : Int) (i : Int) w K0 Kr := by
  intro m
  induction m with
  | zero =>
    intro i w r ρ d l xs A7 c7 kl A8 c8 tl last mb mx hi h eD hmx gw
    unfold f_law09_WalCrash.l0
    exact sel_f (by simp; omega) (hK w gw)
  | succ m ih =>
    intro i w r ρ d l xs A7 c7 kl A8 c8 tl last mb mx hi h eD hmx gw
    have hlt : i < ops.length := by omega
    have ew : IntKind.i64.wrap ((i : Int) + 1) = ((i + 1 : Nat) : Int) := by rw [w64_in (by omega)]; omega
    unfold f_law09_WalCrash.l0
    rw [ew]
    refine sel_t (by simpa using hlt) (wop_ld rfl (h.ow.reads Ewop) hlt (wop_box (o := ops[i]) fun b w1 e1 hb g1 => ?_))
    have ho := hok _ (List.getElem_mem hlt)
    have hb0 := hb
    obtain ⟨o, hoi⟩ : ∃ o, ops[i] = o := ⟨_, rfl⟩
    rw [hoi] at hb ho
    have h1 := h.below g1
    have gw1 := gw.trans (g1.mono gw.size)
    have hnb : ¬ WN r ρ b := fun hk => by have := (h.S.wn b hk).1; omega
    have go : ∀ (w' : World) (r' : RD) (ρ' : RL) (d' : Dk) (l' : Lg) (xs' : List (Int × List UInt8)) (A7' : Option Addr) (c7' : Nat) (kl' : List Rc) (A8' : Option Addr) (c8' : Nat) (tl' : List Rc) (last' : Int) (mb' : Bool) (mx' : Nat), r'.D = r.D → mx' ≤ mx + 2 → CrX w' w0.heap.size B count A45 c45 ops r' ρ' d' l' xs' A7' c7' kl' A8' c8' tl' last' mb' mx' → Below w0.heap.size w1 w' →
        f_law09_WalCrash.l0 (m + 1) (count : Int) (some ⟨D, 0, none⟩) (some ⟨ρ'.L, 0, none⟩) A7' kl'.length c7' A8' tl'.length c8' last' mb' A45 ops.length c45 (ops.length : Int) ((i + 1 : Nat) : Int) w' K0 Kr := fun w' r' ρ' d' l' xs' A7' c7' kl' A8' c8' tl' last' mb' mx' e1 e2 h' g' =>
      ih (i + 1) w' r' ρ' d' l' xs' A7' c7' kl' A8' c8' tl' last' mb' mx' (by omega) h' (e1.trans eD) (by omega) (gw1.trans g')
    refine hb_ldI0 hb (x := o.kind) rfl ?_
    by_cases q1 : o.kind = 1
    · refine sel_t (by rw [q1]; rfl) ?_
      refine arm1 h1 hB (by omega) ho gw1 hb hnb (K := fun A n c last w => f_law09_WalCrash.l0 (m + 1) (count : Int) (some ⟨D, 0, none⟩) (some ⟨ρ.L, 0, none⟩) A7 kl.length c7 A n c last mb A45 ops.length c45 (ops.length : Int) ((i + 1 : Nat) : Int) w K0 Kr) fun A' c' tl' last' w' r' ρ' d' l' xs' e1 e2 h' g' => ?_
      rw [← e2]
      exact go w' r' ρ' d' l' xs' A7 c7 kl A' c' tl' last' mb mx e1 (by omega) h' g'
    refine sel_f (by simpa using q1) ?_
    by_cases q2 : o.kind = 2
    · refine sel_t (by rw [q2]; rfl) ?_
      refine arm2 h1 hB gw1 (K := fun A n c A2 n2 c2 w => f_law09_WalCrash.l0 (m + 1) (count : Int) (some ⟨D, 0, none⟩) (some ⟨ρ.L, 0, none⟩) A n c A2 n2 c2 last mb A45 ops.length c45 (ops.length : Int) ((i + 1 : Nat) : Int) w K0 Kr) fun A' c' kl' A2' c2' tl' w' r' ρ' d' l' xs' e1 e2 h' g' => ?_
      rw [← e2]
      exact go w' r' ρ' d' l' xs' A' c' kl' A2' c2' tl' last mb mx e1 (by omega) h' g'
    refine sel_f (by simpa using q2) ?_
    by_cases q3 : o.kind = 3
    · refine sel_t (by rw [q3]; rfl) ?_
      refine arm3 h1 hB (by omega) (fun w' r' ρ' d' l' e1 e2 h' g' => ?_) (fun w' r' ρ' d' l' e1 e2 h' g' => ?_) fun w' r' ρ' d' l' e1 e2 h' g' => ?_
      · rw [← e2]; exact go w' r' ρ' d' l' [] none 0 [] none 0 [] last false _ e1 (by omega) h' g'
      · rw [← e2]; exact go w' r' ρ' d' l' xs A7 c7 kl A8 c8 tl last true _ e1 (by omega) h' g'
      · rw [← e2]; exact go w' r' ρ' d' l' xs A7 c7 kl A8 c8 tl last mb _ e1 (by omega) h' g'
    refine sel_f (by simpa using q3) ?_
    by_cases q7 : o.kind = 7
    · refine sel_t (by rw [q7]; rfl) ?_
      rw [← eD]
      refine arm7 h1 hB ho gw1 hb fun w' r' ρ' d' l' e1 e2 h' g' => ?_
      rw [← e2, eD]
      exact go w' r' ρ' d' l' xs A7 c7 kl A8 c8 tl last mb mx e1 (by omega) h' g'
    refine sel_f (by simpa using q7) ?_
    by_cases q6 : o.kind = 6
    · refine sel_t (by rw [q6]; rfl) ?_
      rw [← eD]
      refine arm6 h1 hB (by omega) ho gw1 hb hnb (K := fun p w => f_law09_WalCrash.l0 (m + 1) (count : Int) (some ⟨r.D, 0, none⟩) p none 0 0 none 0 0 last false A45 ops.length c45 (ops.length : Int) ((i + 1 : Nat) : Int) w K0 Kr) fun w' r' ρ' d' l' e1 h' g' => ?_
      show f_law09_WalCrash.l0 (m + 1) (count : Int) (some ⟨r.D, 0, none⟩) _ none 0 0 none 0 0 last false A45 ops.length c45 (ops.length : Int) ((i + 1 : Nat) : Int) w' K0 Kr
      rw [eD]
      exact go w' r' ρ' d' l' [] none 0 [] none 0 [] last false (mx + 2) e1 (by omega) h' g'
    refine sel_f (by simpa using q6) ?_
    exact go w1 r ρ d l xs A7 c7 kl A8 c8 tl last mb mx rfl (by omega) h1 (Below.refl _ _)
set_option maxHeartbeats 1000000 in
theorem WalCrash_walk {A : Option Addr} {c : Nat} {ops : List WOp} {count : Int} (hr : RWo w A ops) (hc0 : A = none → c = 0) (hl : ops.length ≤ 2097151) :
    Calls Tryd.prog 3 #[.int .i64 count, .slice A ops.length c] w fun e w' => e = .returned (.bool true) ∧ Below w.heap.size w w' := by
  apply f_law09_WalCrash.ok
  unfold f_law09_WalCrash.wp
  refine (alive_ok w).mono ?_
  rintro _ w1 ⟨rfl, g1⟩
  refine ⟨_, rfl, sel_f rfl ?_⟩
  by_cases q1 : count < 1
  · exact sel_t (by simpa using q1) ⟨rfl, g1⟩
  refine sel_f (by simpa using q1) ?_
  by_cases q2 : 9 < count
  · exact sel_t (by simpa using q2) ⟨rfl, g1⟩
  refine sel_f (by simpa using q2) ?_
  obtain ⟨n, rfl⟩ : ∃ n : Nat, count = (n : Int) := ⟨count.toNat, by omega⟩
  refine (made_ok (count := n) (by omega) (by omega)).mono ?_
  rintro _ w2 ⟨r, ρ, d, rfl, S, np, hst, hsz, g2⟩
  have g02 : Below w.heap.size w w2 := g1.trans (g2.mono g1.size)
  have hB1 := g1.size
  refine ⟨_, _, rfl, sel_f rfl (sel_f rfl (alW_intro (alW_intro (alW_intro ?_))))⟩
  have z3 : (w2.alloc (.cells #[] TRec)).heap.size = w2.heap.size + 1 := by simp
  have o7 := OwnE.empty (enc := eR) (k := 3) (w := w2) (B := w1.heap.size) (e := TRec) S.lo
  have g3 : Below w2.heap.size w2 (w2.alloc (.cells #[] TRec)) := (Below.refl _ _).alloc (Nat.le_refl _) _
  obtain ⟨w3, hw3⟩ : ∃ w3, w2.alloc (.cells #[] TRec) = w3 := ⟨_, rfl⟩
  rw [hw3] at o7 g3 z3 ⊢
  have z4 : (w3.alloc (.cells #[] TRec)).heap.size = w3.heap.size + 1 := by simp
  have o8 := OwnE.empty (enc := eR) (k := 3) (w := w3) (B := w1.heap.size) (e := TRec) (Nat.le_trans S.lo g3.size)
  have g4 : Below w3.heap.size w3 (w3.alloc (.cells #[] TRec)) := (Below.refl _ _).alloc (Nat.le_refl _) _
  obtain ⟨w4, hw4⟩ : ∃ w4, w3.alloc (.cells #[] TRec) = w4 := ⟨_, rfl⟩
  rw [hw4] at o8 g4 z4 ⊢
  have z5 : (w4.alloc (.cells #[] TWo)).heap.size = w4.heap.size + 1 := by simp
  have lo4 : w1.heap.size ≤ w4.heap.size := Nat.le_trans (Nat.le_trans S.lo g3.size) g4.size
  have o9 := OwnE.empty (enc := wopE) (k := 6) (w := w4) (B := w1.heap.size) (e := TWo) lo4
  have g5 : Below w4.heap.size w4 (w4.alloc (.cells #[] TWo)) := (Below.refl _ _).alloc (Nat.le_refl _) _
  obtain ⟨w5, hw5⟩ : ∃ w5, w4.alloc (.cells #[] TWo) = w5 := ⟨_, rfl⟩
  rw [hw5] at o9 g5 z5 ⊢
  have g03 := g02.trans (g3.mono g02.size)
  have g04 := g03.trans (g4.mono g03.size)
  have g05 := g04.trans (g5.mono g04.size)
  have hlen := hr.len
  refine app_row2 RTo Ewop (by decide) o9 rfl (hr.row.below Ewop g05) rfl (fun e => ⟨hc0 e, hr.z e⟩) (by omega) (by simp only [List.length_nil]; omega) fun A6 c6 w6 o6 k6 f6 => ⟨_, _, _, rfl, ?_⟩
  rw [List.nil_append] at o6 ⊢
  have k6' : ∀ k, Ob (some (⟨w4.heap.size, 0, none⟩ : Addr)) k → k = w4.heap.size := by
    rintro k ⟨a, ha, rfl⟩
    cases ha; rfl
  have hk6 : ∀ k, Ob A6 k → w4.heap.size ≤ k := by
    rintro k ⟨a, ha, rfl⟩
    rcases f6 a ha with q | q
    · cases q; exact Nat.le_refl _
    · omega
  have g06 : Below w.heap.size w w6 := g05.trans (k6.below g05.size fun k hk hn => by have := k6' k hn; have := g04.size; omega)
  have sz6 := k6.size
  refine put_e RTo Ewop (by decide) o6 rfl (⟨6, 0, 0, none, 0, [], none, 0, [], none, 0, []⟩ : WOp) rfl (by omega) (by omega) fun A7 c7 w7 o77 k7 f7 => ?_
  have hk7 : ∀ k, Ob (some A7) k → w4.heap.size ≤ k := by
    rintro k ⟨a, ha, rfl⟩
    cases ha
    rcases f7 with q | q
    · exact hk6 _ ⟨A7, q, rfl⟩
    · omega
  have g07 : Below w.heap.size w w7 := g06.trans (k7.below g06.size fun k hk hn => by have := hk6 k hn; have := g04.size; omega)
  have K57 : Keeps (fun k => w4.heap.size ≤ k) w5 w7 := (k6.mono fun k _ e => by have := k6' k e; show w4.heap.size ≤ k; omega).trans (k7.mono fun k _ e => hk6 k e)
  have g47 : Below w4.heap.size w4 w7 := g5.trans (K57.below g5.size fun k hk hn => by omega)
  have hb2 : ∀ k, WN r ρ k → k < w2.heap.size := fun k hk => (S.wn k hk).1
  have S7 := ((S.below g3).below g4).below g47
  have v0 : ∀ w : World, RsV w [] [] := fun w => ⟨rfl, fun i h => absurd h (Nat.not_lt_zero _)⟩
  have ob : ∀ (m k : Nat), Ob (some (⟨m, 0, none⟩ : Addr)) k → k = m := by
    rintro m k ⟨a, ha, rfl⟩
    cases ha; rfl
  have st : CrX w7 w.heap.size w1.heap.size n (some A7) c7 (ops ++ [(⟨6, 0, 0, none, 0, [], none, 0, [], none, 0, []⟩ : WOp)]) r ρ d (mkL n) [] (some ⟨w2.heap.size, 0, none⟩) 0 [] (some ⟨w3.heap.size, 0, none⟩) 0 [] (-1) false 2 := by
    refine ⟨S7, rfl, rfl, rfl, Nat.le_refl _, ?_, rfl, rfl, ⟨[], (o7.below g4).below g47, v0 _, fun m hm => by cases hm⟩, ⟨[], o8.below g47, v0 _, fun m hm => by cases hm⟩, fun k hk ho => ?_, fun k hk ho => ?_, ?_, fun k h1 h2 => ?_, o77⟩
    · show (-1 : Int) < ((_ : Nat) : Int)
      omega
    · have := ob _ _ ho; have := hb2 k hk; omega
    · have := ob _ _ ho; have := hb2 k hk; omega
    · rintro k (h1 | h1 | h1) h2
      · have := hb2 k h1; have := hk7 k h2; omega
      · have := ob _ _ h1; have := hk7 k h2; omega
      · have := ob _ _ h1; have := hk7 k h2; omega
    · have := ob _ _ h1; have := ob _ _ h2; omega
  have hl2 : (ops ++ [(⟨6, 0, 0, none, 0, [], none, 0, [], none, 0, []⟩ : WOp)]).length ≤ 2097152 := by rw [List.length_append, List.length_singleton]; omega
  have ok2 : ∀ o ∈ ops ++ [(⟨6, 0, 0, none, 0, [], none, 0, [], none, 0, []⟩ : WOp)], OkW w o := by
    intro o ho
    rcases List.mem_append.1 ho with ho | ho
    · exact hr.ok o ho
    · rw [List.mem_singleton] at ho
      subst ho
      exact ⟨Go.Dn.RB.nil _ _, fun i hi => absurd hi (Nat.not_lt_zero _), RowE.nil _ _ _ _, fun _ => rfl, Nat.le_refl _, fun _ => ⟨rfl, rfl⟩, fun h => absurd rfl h, fun h => absurd rfl h, Nat.zero_le _, Nat.zero_le _, Nat.zero_le _⟩
  exact ⟨_, crash_l0 (w0 := w) hl2 ok2 hB1 (fun w8 g8 _ => ⟨rfl, g8⟩) _ 0 w7 r ρ d (mkL n) [] _ 0 [] _ 0 [] (-1) false 2 rfl st rfl (Nat.le_refl _) g07⟩
theorem WalCrashUpto_row {A : Option Addr} {c : Nat} {ops : List WOp} {count : Int} (_ : (Lit.int .i64 count).wf = true) (hr : RWo w A ops) (hc0 : A = none → c = 0) (hl : ops.length ≤ 1048576) :
    Calls Tryd.prog 3 #[.int .i64 count, .slice A ops.length c] w fun e w' => e = .returned (.bool true) ∧ Below w.heap.size w w' := WalCrash_walk hr hc0 (by omega)
end
end Go.Proofs.YtpokaafedpnbdaaDoor.Rd
