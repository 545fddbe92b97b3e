/- The statement DiskFates: what a step's fate brings. Conditions: none. -/
import Derived.Test.YthekjlglnmhlaaaDkY
import Derived.Test.YthekjlglnmhlaaaRdL8
namespace Go.Proofs.Ythekjlglnmhlaaa.Rd
open Go.Dn Go.RowKit Go.Shelf
set_option linter.unusedVariables false
set_option linter.unusedSimpArgs false
set_option maxRecDepth 100000
/-! ### the plain law -/
theorem wrap_eq (n : Int) : IntKind.i64.wrap n = wrap64 n := by
  unfold IntKind.wrap wrap64
  simp [IntKind.bits, IntKind.signed, IntKind.min]
  try omega
theorem has_on {d : Dk} (h : 1 < d.safe.length) : hasS (onD d [1]) 1 = hasS d 1 := by
  unfold hasS
  show ((lk ([] : List (Int × Sec)) (1 : Int)).getD ((kept d [1]).getD (1 : Int).toNat z0)) = _
  rw [show lk ([] : List (Int × Sec)) (1 : Int) = none from rfl]
  have h1 : 1 < (kept d [1]).length := by rw [kept_len]; exact h
  have e : (kept d [1])[1] = hasS d ((1 : Nat) : Int) := by rw [kept_get, if_pos (by decide)]
  simp only [Option.getD_none]
  rw [show (1 : Int).toNat = 1 from rfl, List.getD_eq_getElem?_getD, List.getElem?_eq_getElem h1, Option.getD_some, e]
  rfl
theorem has_sync {d : Dk} (h : 1 < d.safe.length) : hasS (syncD d) 1 = hasS d 1 := by
  have h1 : 1 < (flushed d []).length := by rw [flushed_len]; exact h
  show ((lk ([] : List (Int × Sec)) (1 : Int)).getD ((flushed d []).getD (1 : Int).toNat z0)) = _
  rw [show lk ([] : List (Int × Sec)) (1 : Int) = none from rfl]
  have e : (flushed d [])[1] = hasS d ((1 : Nat) : Int) := by rw [flushed_get]; simp [hasK]
  simp only [Option.getD_none]
  rw [show (1 : Int).toNat = 1 from rfl, List.getD_eq_getElem?_getD, List.getElem?_eq_getElem h1, Option.getD_some, e]
  rfl
theorem has_put {d : Dk} {l : List Int} : hasS (putD 1 l d) 1 = secOf l := by
  unfold hasS putD
  simp only [lk_putK, if_true]
  rfl
theorem all_pend {d : Dk} (h : d.pend = []) : allD d = d.safe := by
  apply List.ext_getElem
  · rw [allD_len]
  · intro i h1 h2
    rw [allD_get]
    exact hasS_tight (by rw [h]; rfl) h2
theorem kept_tight {d : Dk} (h : d.pend = []) (ks : List Int) : kept d ks = d.safe := by
  apply List.ext_getElem
  · exact kept_len _ _
  · intro i h1 h2
    rw [kept_get]
    have e : hasS d (i : Int) = d.safe[i] := hasS_tight (by rw [h]; rfl) h2
    split
    · exact e
    · simp [List.getD_eq_getElem?_getD, h2]
theorem fate_one (s k : Int) : fateOf s [(s, k)] = if 1 ≤ k ∧ k ≤ 3 then k else 0 := by
  unfold fateOf
  by_cases h : 1 ≤ k ∧ k ≤ 3
  · simp [okF, h.1, h.2]
  · rw [if_neg h]
    have : ¬ (1 ≤ k ∧ k ≤ 3) := h
    have ho : ¬ okF s (s, k) := fun hh => this ⟨hh.2.1, hh.2.2⟩
    rw [if_neg ho]
    rfl
def actF (sync : Bool) (l : List Int) : Dk → Dk := if sync then syncD else putD 1 l
/-- what the fated step brings: S what was safe, d the state ahead of it, x the state behind it, e its answer -/
structure FatesP (kind : Int) (sync : Bool) (l : List Int) (S : List Sec) (d x : Dk) (e : Int) : Prop where
  len : x.safe.length = 4
  st : x.steps = wrap64 (d.steps + 1)
  k0 : ¬ (1 ≤ kind ∧ kind ≤ 3) → e = 0 ∧ x.off = false
  k1 : kind = 1 → e = 71 ∧ x.off = false ∧ allD x = allD d ∧ x.safe = S
  k2 : kind = 2 ∨ kind = 3 → e = 70 ∧ x.off = true
  k3 : kind = 2 → sync = false → allD (onD x [1]) = S
  k4 : (kind = 2 ∧ sync = true) ∨ kind = 3 → hasS (onD x [1]) 1 = secOf l
theorem fated {kind : Int} {sync : Bool} {l : List Int} {S : List Sec} {d : Dk} (hl : d.safe.length = 4) (hS : d.safe = S) (hp : sync = false → d.pend = []) (hh : sync = true → hasS d 1 = secOf l) {plan : List Ft} (hpl : plan = [(wrap64 (d.steps + 1), kind)]) (hoff : d.off = false) :
    FatesP kind sync l S d (stepD { d with plan := plan } (actF sync l)) (stepC { d with plan := plan }) := by
  subst hpl
  have hf := fate_one (wrap64 (d.steps + 1)) kind
  have act4 : ∀ d' : Dk, d'.safe.length = 4 → (actF sync l d').safe.length = 4 := fun d' h => by
    unfold actF; split
    · exact (flushed_len _ _).trans h
    · exact h
  have actS : ∀ d' : Dk, (actF sync l d').steps = d'.steps ∧ (actF sync l d').off = d'.off := fun d' => by
    unfold actF; split <;> exact ⟨rfl, rfl⟩
  have actH : ∀ d' : Dk, d'.safe.length = 4 → (sync = true → hasS d' 1 = secOf l) → hasS (actF sync l d') 1 = secOf l := fun d' h hs => by
    unfold actF; split
    · rename_i e; rw [has_sync (by omega)]; exact hs e
    · exact has_put
  unfold stepD stepC
  simp only [hf]
  by_cases c : 1 ≤ kind ∧ kind ≤ 3
  · simp only [if_pos c]
    by_cases c1 : kind = 1
    · simp only [if_pos c1]
      exact ⟨hl, rfl, fun h => absurd c h, fun _ => ⟨rfl, hoff, rfl, hS⟩, fun h => by omega, fun h => by omega, fun h => by omega⟩
    · simp only [if_neg c1]
      by_cases c2 : kind = 2
      · simp only [if_pos c2]
        refine ⟨hl, rfl, fun h => absurd c h, fun h => absurd h c1, fun _ => ⟨rfl, rfl⟩, fun _ hs => ?_, fun h => ?_⟩
        · rw [onD_all]
          have : ({ d with plan := [(wrap64 (d.steps + 1), kind)], steps := wrap64 (d.steps + 1), off := true } : Dk).pend = [] := hp hs
          exact (kept_tight this [1]).trans hS
        · rcases h with ⟨_, hs⟩ | h
          · rw [has_on (by show 1 < d.safe.length; omega)]; exact hh hs
          · omega
      · have c3 : kind = 3 := by omega
        simp only [if_neg c2, if_pos c3]
        refine ⟨act4 _ hl, (actS _).1, fun h => absurd c h, fun h => absurd h c1, fun _ => ⟨rfl, rfl⟩, fun h => absurd h c2, fun h => ?_⟩
        rw [has_on (by have := act4 { d with plan := [(wrap64 (d.steps + 1), kind)], steps := wrap64 (d.steps + 1) } hl; show 1 < (actF sync l { d with plan := [(wrap64 (d.steps + 1), kind)], steps := wrap64 (d.steps + 1) }).safe.length; omega)]
        exact actH _ hl fun e => hh e
  · simp only [if_neg c]
    refine ⟨act4 _ hl, (actS _).1, fun _ => ⟨rfl, ?_⟩, fun h => by omega, fun h => by omega, fun h => by omega, fun h => by omega⟩
    exact (actS _).2.trans hoff
/-! ### the walk -/
section
variable {w w' : World} {B : Nat} {d : Dk}
theorem Fates_l0 {A : Option Addr} {c : Nat} {ops : List DOp} {D : Nat} {w0 : World} (hB : B ≤ w0.heap.size) {K0 : World → Prop}
    (k0 : ∀ w r, r.D = D → DM w B r (doAll d ops) → Keeps (fun k => B ≤ k) w0 w → RDo w B A ops → K0 w) :
    ∀ (m i : Nat) (w : World) (r : RD), ops.length - i = m → i ≤ ops.length → r.D = D → DM w B r (doAll d (ops.take i)) → Keeps (fun k => B ≤ k) w0 w → RDo w B A ops →
      f_law07_DiskFates.l0 (m + 1) (some ⟨D, 0, none⟩) A ops.length c (ops.length : Int) (i : Int) w K0 := by
  intro m
  induction m with
  | zero =>
    intro i w r hm hi eD h k ho
    have : i = ops.length := by omega
    subst this
    rw [List.take_length] at h
    unfold f_law07_DiskFates.l0
    exact sel_f (by simp) (k0 w r eD h k ho)
  | succ m ih =>
    intro i w r hm hi eD h k ho
    have hlt : i < ops.length := by omega
    have hmem : ops[i] ∈ ops := List.getElem_mem hlt
    unfold f_law07_DiskFates.l0
    refine sel_t (by simpa using hlt) (op_ld ho.row hlt (op_box fun b w1 e1 h1 g1 => ?_))
    have kb : Keeps (fun k => B ≤ k) w w1 := .of_below g1
    refine hb_ldI0 h1 rfl (hb_ldI (j := 1) h1 rfl (hb_ldS (j := 2) h1 rfl (hb_ldS (j := 3) h1 rfl (hb_ldS (j := 4) h1 rfl ?_))))
    subst eD
    have := k.size
    have := g1.size
    refine (do_ok (h.below g1) ((ho.ok _ hmem).keep kb) (by omega)).mono ?_
    rintro _ w2 ⟨rfl, r', e', h2, k2⟩
    rw [wrs hlt ho.len]
    exact ⟨rfl, ih (i + 1) w2 r' (by omega) (by omega) e' (by rw [doAll_snoc d ops hlt]; exact h2) ((k.trans kb).trans k2) (ho.keep (kb.trans k2))⟩
/-- the sector read behind it -/
theorem Fates_tail {w0 : World} {l : List Int} {x : Dk} {r : RD} {A2 : Option Addr} {c2 : Nat} (h : DM w B r x) (K : Keeps (fun k => B ≤ k) w0 w) (hoff : x.off = false) (hlen : x.safe.length = 4) (hl : l.length ≤ 512) (hx : hasS x 1 = secOf l)
    (r2 : ∀ w, Keeps (fun k => B ≤ k) w0 w → RB w A2 l) {Kr : Bool → World → Prop} (k : ∀ w, Keeps (fun k => B ≤ k) w0 w → Kr true w) :
    Calls Try.prog 17 #[.pointer (some ⟨r.D, 0, none⟩), .int .i64 (1 : Int)] w fun e115 w116 => ∃ (A117_0 : Option Addr) (n117_0 : Nat) (c117_0 : Nat) (x117_1 : Int), e115 = .returned (.tuple #[.slice A117_0 n117_0 c117_0, .int .i64 x117_1]) ∧ (
      sel (x117_1 == (0 : Int)) (
      Calls Try.prog 23 #[.slice A117_0 n117_0 c117_0, .int .i64 (0 : Int), .int .i64 (l.length : Int)] w116 fun e118 w119 => ∃ (A120 : Option Addr) (n120 : Nat) (c120 : Nat), e118 = .returned (.slice A120 n120 c120) ∧ (
      Calls Try.prog 22 #[.slice A120 n120 c120, .slice A2 l.length c2] w119 fun e121 w122 => ∃ (b123 : Bool), e121 = .returned (.bool b123) ∧ (
      Kr b123 w122))) (
      Kr false w116)) := by
  refine (Read_ok h 1).mono ?_
  rintro _ w1 ⟨⟨A1, n1, c1', y1, rfl, hd⟩, g1⟩
  rcases hd with ⟨hd, _⟩ | ⟨_, hd, _⟩ | ⟨_, _, _, rfl, rfl, rfl, b, rfl, hb, H⟩
  · rw [hoff] at hd; cases hd
  · omega
  rw [hx] at H
  have K1 := K.trans (.of_below g1)
  have e512 : (secOf l).1.length = 512 := (secOf l).2
  refine ⟨_, _, _, _, rfl, sel_t rfl ((BPiece_ok (p := 0) (q := l.length) (c := 512) (RowE.rb (secRow H)) e512.symm (by omega)).mono ?_)⟩
  rintro _ w2 ⟨A2', c2', rfl, o2, g2⟩
  rw [piece_sec hl] at o2 ⊢
  have K2 := K1.trans (.of_below g2)
  refine ⟨_, _, _, rfl, (BSame_ok (OwnE.rb o2) rfl (r2 _ K2) rfl (by omega)).mono ?_⟩
  rintro _ w3 ⟨rfl, g3⟩
  exact ⟨_, rfl, by simpa using k _ (K2.trans (.of_below g3))⟩
/-- sectors compared with what was told before -/
theorem Fates_j3 {w0 : World} {kind : Int} {sync : Bool} {l : List Int} {S : List Sec} {x : Dk} {e : Int} {r : RD} {A2 A12 A13 : Option Addr} {n2 c2 n12 c12 n13 c13 : Nat} (P : FatesP kind sync l S d x e) (h : DM w0 B r x) (hl : l.length ≤ 512)
    (r2 : ∀ w, Keeps (fun k => B ≤ k) w0 w → RB w A2 l) (e2 : n2 = l.length) (r12 : RB w0 A12 (bytesOf S)) (e12 : n12 = (bytesOf S).length) (r13 : RB w0 A13 (bytesOf (allD d))) (e13 : n13 = (bytesOf (allD d)).length)
    (f12 : ∀ a, A12 = some a → ¬ FD r a.block) {Kr : Bool → World → Prop} (k : ∀ w, Keeps (fun k => B ≤ k) w0 w → Kr true w) :
    f_law07_DiskFates.j3 kind A2 n2 c2 sync (some ⟨r.D, 0, none⟩) A12 n12 c12 A13 n13 c13 d.steps e w0 Kr := by
  subst e2 e12 e13
  have upF : ∀ {W W' : World} {r : RD} {d : Dk}, DM W B r d → Keeps (FD r) W W' → Keeps (fun k => B ≤ k) W W' := fun h k => k.mono fun i hi ho => (h.lt i ho).2
  have hst : (x.steps == wrap64 (d.steps + 1)) = true := by rw [P.st]; simp
  have tail0 : ¬ (1 ≤ kind ∧ kind ≤ 3) → sel (e == (0 : Int)) (
      Calls Try.prog 15 #[.pointer (some ⟨r.D, 0, none⟩)] w0 fun e51 w52 => ∃ (b53 : Bool), e51 = .returned (.bool b53) ∧ (
      sel b53 (
      Calls Try.prog 14 #[.pointer (some ⟨r.D, 0, none⟩)] w52 fun e54 w55 => ∃ (x56 : Int), e54 = .returned (.int .i64 x56) ∧ (
      Kr (x56 == (wrap64 (d.steps + (1 : Int)))) w55)) (
      Kr false w52))) (
      Kr false w0) := fun c => by
    obtain ⟨p1, p2⟩ := P.k0 c
    refine sel_t (by simp [p1]) ((Power_ok h).mono ?_)
    rintro _ _ ⟨rfl, rfl⟩
    refine ⟨_, rfl, sel_t (by simp [p2]) ((Steps_ok h).mono ?_)⟩
    rintro _ _ ⟨rfl, rfl⟩
    exact ⟨_, rfl, by have := k _ (.refl _ _); rw [hst]; exact this⟩
  unfold f_law07_DiskFates.j3
  rw [wrap_eq]
  by_cases c1 : kind < 1
  · exact sel_t (by simpa using c1) (tail0 (by omega))
  refine sel_f (by simpa using c1) ?_
  by_cases c2 : kind > 3
  · exact sel_t (by simpa using c2) (tail0 (by omega))
  refine sel_f (by simpa using c2) ?_
  by_cases c3 : kind = 1
  · obtain ⟨p1, p2, p3, p4⟩ := P.k1 c3
    refine sel_t (by simpa using c3) (sel_t (by simp [p1]) ((Power_ok h).mono ?_))
    rintro _ _ ⟨rfl, rfl⟩
    refine ⟨_, rfl, sel_t (by simp [p2]) ((All_ok h).mono ?_)⟩
    rintro _ w1 ⟨A1, c1, rfl, o1, g1⟩
    have b := bytes_le h
    refine ⟨_, _, _, rfl, (BSame_ok (OwnE.rb o1) rfl (r13.belw g1) rfl b.1).mono ?_⟩
    rintro _ w2 ⟨rfl, g2⟩
    have h2 := (h.below g1).below g2
    refine ⟨_, rfl, sel_t (by simp [p3]) ((Safe_ok h2).mono ?_)⟩
    rintro _ w3 ⟨A3, c3, rfl, o3, g3⟩
    refine ⟨_, _, _, rfl, (BSame_ok (OwnE.rb o3) rfl (((r12.belw g1).belw g2).belw g3) rfl b.2.1).mono ?_⟩
    rintro _ w4 ⟨rfl, g4⟩
    have h4 := (h2.below g3).below g4
    refine ⟨_, rfl, sel_t (by simp [p4]) ((Steps_ok h4).mono ?_)⟩
    rintro _ _ ⟨rfl, rfl⟩
    refine ⟨_, rfl, ?_⟩
    rw [hst]
    exact k _ ((((Keeps.of_below g1).trans (.of_below g2)).trans (.of_below g3)).trans (.of_below g4))
  refine sel_f (by simpa using c3) ((Read_ok h 1).mono ?_)
  obtain ⟨p1, p2⟩ := P.k2 (by omega)
  rintro _ w1 ⟨⟨A1, n1, c1', y1, rfl, hd⟩, g1⟩
  obtain ⟨rfl, rfl, rfl⟩ : A1 = none ∧ n1 = 0 ∧ y1 = 70 := by
    rcases hd with ⟨_, h⟩ | ⟨h, _⟩ | ⟨h, _⟩
    · exact h
    · rw [p2] at h; cases h
    · rw [p2] at h; cases h
  have h1 := h.below g1
  refine ⟨_, _, _, _, rfl, sel_f (by simp [p1]) ((Power_ok h1).mono ?_)⟩
  rintro _ _ ⟨rfl, rfl⟩
  refine ⟨_, rfl, sel_f (by simp [p2]) (sel_f rfl ((Write_ok (i := 2) (A := none) (l := []) (n := 0) (c := 0) h1 rfl (RB.nil _ _) (fun a ha => by cases ha)).mono ?_))⟩
  rintro _ w2 ⟨rfl, h2, k2⟩
  have e1 : wrC x 2 [] = 70 := by unfold wrC; rw [if_pos p2]
  have e2 : wrD x 2 [] = x := by unfold wrD; rw [if_pos p2]
  rw [e2] at h2
  refine ⟨_, rfl, sel_f (by simp [e1]) ((Sync_ok h2).mono ?_)⟩
  rintro _ w3 ⟨rfl, h3, k3⟩
  have e3 : syC x = 70 := by unfold syC; rw [if_pos p2]
  have e4 : syD x = x := by unfold syD; rw [if_pos p2]
  rw [e4] at h3
  refine ⟨_, rfl, sel_f (by simp [e3]) ((Steps_ok h3).mono ?_)⟩
  rintro _ w3 ⟨rfl, rfl⟩
  refine ⟨_, rfl, sel_f (by have := P.st; simp only [bne_eq_false_iff_eq]; exact this) (al_new fun w4 b4 e4' s4 hb4 g4 => ?_)⟩
  have h4 := h3.below g4
  have K3 : Keeps (fun k => B ≤ k) w0 w3 := ((Keeps.of_below g1).trans (upF h1 k2)).trans (upF h2 k3)
  have rI : RI w4 (some ⟨b4, 0, none⟩) [1] := fun i hi => by
    have : i = 0 := by simpa using hi
    subst this
    exact ⟨_, rfl, (hb4.cell 0).trans rfl⟩
  refine (On_ok h4 (ks := [1]) (n := 1) (c := 1) rI rfl (fun a ha hf => by injection ha with ha; subst ha; have := (h3.lt _ (.inr (.inr (.inl hf)))).1; simp at this; omega) (by decide)).mono ?_
  rintro _ w5 ⟨rfl, h5, k5⟩
  have K5 : Keeps (fun k => B ≤ k) w0 w5 := (K3.trans (.of_below g4)).trans (upF h4 k5)
  have r12' : RB w5 A12 (bytesOf S) := ((((r12.belw g1).keeps k2 f12).keeps k3 f12).belw g4).keeps k5 f12
  have o5 : (onD x [1]).off = false := rfl
  have l5 : (onD x [1]).safe.length = 4 := (kept_len _ _).trans P.len
  by_cases c4 : kind = 2
  · refine ⟨rfl, sel_t (by simpa using c4) ?_⟩
    cases hs : sync with
    | false =>
      refine sel_t rfl ((All_ok h5).mono ?_)
      rintro _ w6 ⟨A6, c6, rfl, o6, g6⟩
      rw [P.k3 c4 hs] at o6 ⊢
      have := P.k3 c4 hs
      refine ⟨_, _, _, rfl, (BSame_ok (OwnE.rb o6) rfl (r12'.belw g6) rfl (by rw [← this]; exact (bytes_le h5).1)).mono ?_⟩
      rintro _ w7 ⟨rfl, g7⟩
      exact ⟨_, rfl, by simpa using k _ ((K5.trans (.of_below g6)).trans (.of_below g7))⟩
    | true => exact sel_f rfl (Fates_tail h5 K5 o5 l5 hl (P.k4 (.inl ⟨c4, hs⟩)) r2 k)
  · exact ⟨rfl, sel_f (by simpa using c4) (Fates_tail h5 K5 o5 l5 hl (P.k4 (.inr (by omega))) r2 k)⟩
/-- behind the power's return: the write ahead, what is told, the plan, the step -/
theorem Fates_j2 {w0 w : World} {kind : Int} {sync : Bool} {l : List Int} {S : List Sec} {d : Dk} {r : RD} {A2 A12 : Option Addr} {n2 c2 n12 c12 : Nat} (h : DM w B r d) (hB : B ≤ w.heap.size) (hl : l.length ≤ 512) (hl4 : d.safe.length = 4) (hS : d.safe = S) (hp : sync = false → d.pend = []) (hh : sync = true → hasS d 1 = secOf l) (hoff : d.off = false)
    (K0 : Keeps (fun k => B ≤ k) w0 w) (r2 : ∀ w, Keeps (fun k => B ≤ k) w0 w → RB w A2 l) (b2 : ∀ a, A2 = some a → l ≠ [] → a.block < B) (e2 : n2 = l.length) (r12 : RB w A12 (bytesOf S)) (e12 : n12 = (bytesOf S).length) (f12 : ∀ a, A12 = some a → ¬ FD r a.block ∧ a.block < w.heap.size)
    {Kr : Bool → World → Prop} (k : ∀ w, Keeps (fun k => B ≤ k) w0 w → Kr true w) :
    f_law07_DiskFates.j2 kind A2 n2 c2 sync (some ⟨r.D, 0, none⟩) A12 n12 c12 w Kr := by
  subst e2 e12
  have upF : ∀ {W W' : World} {r : RD} {d : Dk}, DM W B r d → Keeps (FD r) W W' → Keeps (fun k => B ≤ k) W W' := fun h k => k.mono fun i hi ho => (h.lt i ho).2
  unfold f_law07_DiskFates.j2
  refine (All_ok h).mono ?_
  rintro _ w1 ⟨A1, c1, rfl, o1, g1⟩
  have h1 := h.below g1
  refine ⟨_, _, _, rfl, (Steps_ok h1).mono ?_⟩
  rintro _ _ ⟨rfl, rfl⟩
  refine ⟨_, rfl, ?_⟩
  rw [wrap_eq]
  refine al_new fun w2 b2' e2' s2 hb2 g2 => ?_
  have h2 := h1.below g2
  have s1 := g1.size
  have rF : RowE eF 2 w2 (some ⟨b2', 0, none⟩) [(wrap64 (d.steps + 1), kind)] := fun i hi => by
    have : i = 0 := by simpa using hi
    subst this
    refine ⟨_, rfl, fun j hj => ?_⟩
    rw [Nat.zero_mul, show (⟨b2', 0, none⟩ : Addr).add 0 = ⟨b2', 0, none⟩ from rfl, hb2.cell]
    obtain rfl | rfl : j = 0 ∨ j = 1 := by omega
    · rfl
    · rfl
  refine (Plan_ok h2 (A := some ⟨b2', 0, none⟩) (n := 1) (c := 1) (fs := [(wrap64 (d.steps + 1), kind)]) rF rfl (fun h => by cases h) (by simp) (by omega)).mono ?_
  rintro _ w3 ⟨rfl, P, pc, h3, k3, f3⟩
  have K3 : Keeps (fun k => B ≤ k) w0 w3 := ((K0.trans (.of_below g1)).trans (.of_below g2)).trans (k3.mono fun i hi e => by rw [e]; exact h.lo.1)
  have s3 := k3.size
  have r12' : RB w3 A12 (bytesOf S) := ((r12.belw g1).belw g2).keeps k3 fun a ha e => (f12 a ha).1 (.inl e)
  have r1' : RB w3 A1 (bytesOf (allD d)) := ((OwnE.rb o1).belw g2).keeps k3 fun a ha e => by have := (o1.block a ha).1; have := h.hb.lt; omega
  have F := fated (kind := kind) (sync := sync) (l := l) (plan := [(wrap64 (d.steps + 1), kind)]) hl4 hS hp hh rfl hoff
  have nf : ∀ k, FD { r with P := P, pc := pc } k → FD r k ∨ w2.heap.size ≤ k := fun k hk => by
    rcases hk with e | e | e | e
    · exact .inl (.inl e)
    · exact .inl (.inr (.inl e))
    · exact .inl (.inr (.inr (.inl e)))
    · exact .inr (f3 k e)
  have f12' : ∀ a, A12 = some a → ¬ FD { r with P := P, pc := pc } a.block := fun a ha hf => by
    obtain ⟨q1, q2⟩ := f12 a ha
    rcases nf _ hf with e | e
    · exact q1 e
    · omega
  have f1' : ∀ a, A1 = some a → ¬ FD { r with P := P, pc := pc } a.block := fun a ha hf => by
    have q := o1.block a ha
    rcases nf _ hf with e | e
    · have := (h.lt _ e).1; omega
    · omega
  refine ⟨rfl, ?_⟩
  generalize hr : ({ r with P := P, pc := pc } : RD) = r' at h3 f12' f1' nf
  have eD : r.D = r'.D := by rw [← hr]
  rw [eD]
  cases hs : sync with
  | true =>
    refine sel_t rfl ((Sync_ok h3).mono ?_)
    rintro _ w4 ⟨rfl, h4, k4⟩
    subst hs
    have e1 : syC { d with plan := [(wrap64 (d.steps + 1), kind)] } = stepC { d with plan := [(wrap64 (d.steps + 1), kind)] } := by unfold syC; rw [if_neg (by show ¬ d.off = true; simp [hoff])]
    have e2 : syD { d with plan := [(wrap64 (d.steps + 1), kind)] } = stepD { d with plan := [(wrap64 (d.steps + 1), kind)] } (actF true l) := by unfold syD; rw [if_neg (by show ¬ d.off = true; simp [hoff])]; rfl
    rw [e2] at h4
    rw [e1]
    have K4 := K3.trans (upF h3 k4)
    exact ⟨_, rfl, Fates_j3 F h4 hl (fun w hk => r2 w (K4.trans hk)) rfl (r12'.keeps k4 f12') rfl (r1'.keeps k4 f1') rfl f12' fun w hk _ => k w (K4.trans hk)⟩
  | false =>
    refine sel_f rfl ((Write_ok' (i := 1) (l := l) h3 rfl (r2 _ K3) (fun h0 a ha hf => by have := b2 a ha h0; have := (h3.lt _ hf).2; omega)).mono ?_)
    rintro _ w4 ⟨rfl, h4, k4⟩
    subst hs
    have nb : ¬ wrBad { d with plan := [(wrap64 (d.steps + 1), kind)] } 1 l := by unfold wrBad; show ¬ (_ ∨ (d.safe.length : Int) ≤ 1 ∨ _); omega
    have e1 : wrC { d with plan := [(wrap64 (d.steps + 1), kind)] } 1 l = stepC { d with plan := [(wrap64 (d.steps + 1), kind)] } := by unfold wrC; rw [if_neg (by show ¬ d.off = true; simp [hoff]), if_neg nb]
    have e2 : wrD { d with plan := [(wrap64 (d.steps + 1), kind)] } 1 l = stepD { d with plan := [(wrap64 (d.steps + 1), kind)] } (actF false l) := by unfold wrD; rw [if_neg (by show ¬ d.off = true; simp [hoff]), if_neg nb]; rfl
    rw [e2] at h4
    rw [e1]
    have K4 := K3.trans (upF h3 k4)
    exact ⟨_, rfl, Fates_j3 F h4 hl (fun w hk => r2 w (K4.trans hk)) rfl (r12'.keeps k4 f12') rfl (r1'.keeps k4 f1') rfl f12' fun w hk _ => k w (K4.trans hk)⟩
theorem Fates_j1 {w0 w : World} {kind : Int} {sync : Bool} {l : List Int} {S : List Sec} {d : Dk} {r : RD} {A2 A12 : Option Addr} {n2 c2 n12 c12 : Nat} (h : DM w B r d) (hB : B ≤ w.heap.size) (hl : l.length ≤ 512) (hl4 : d.safe.length = 4) (hS : d.safe = S) (hp : d.pend = []) (hoff : d.off = false)
    (K0 : Keeps (fun k => B ≤ k) w0 w) (r2 : ∀ w, Keeps (fun k => B ≤ k) w0 w → RB w A2 l) (b2 : ∀ a, A2 = some a → l ≠ [] → a.block < B) (e2 : n2 = l.length) (r12 : RB w A12 (bytesOf S)) (e12 : n12 = (bytesOf S).length) (f12 : ∀ a, A12 = some a → ¬ FD r a.block ∧ a.block < w.heap.size)
    {Kr : Bool → World → Prop} (k : ∀ w, Keeps (fun k => B ≤ k) w0 w → Kr true w) :
    f_law07_DiskFates.j1 kind A2 n2 c2 sync (some ⟨r.D, 0, none⟩) A12 n12 c12 w Kr := by
  have upF : ∀ {W W' : World} {r : RD} {d : Dk}, DM W B r d → Keeps (FD r) W W' → Keeps (fun k => B ≤ k) W W' := fun h k => k.mono fun i hi ho => (h.lt i ho).2
  unfold f_law07_DiskFates.j1
  refine (Plan_ok h (A := none) (n := 0) (c := 0) (fs := []) (RowE.nil _ _ _ _) rfl (fun _ => ⟨rfl, rfl⟩) (by simp) hB).mono ?_
  rintro _ w1 ⟨rfl, P, pc, h1, k1, f1⟩
  have K1 : Keeps (fun k => B ≤ k) w0 w1 := K0.trans (k1.mono fun i hi e => by rw [e]; exact h.lo.1)
  have s1 := k1.size
  have r12' : RB w1 A12 (bytesOf S) := r12.keeps k1 fun a ha e => (f12 a ha).1 (.inl e)
  have f12' : ∀ a, A12 = some a → ¬ FD { r with P := P, pc := pc } a.block ∧ a.block < w1.heap.size := fun a ha => by
    obtain ⟨q1, q2⟩ := f12 a ha
    refine ⟨fun hk => ?_, by omega⟩
    rcases hk with e | e | e | e
    · exact q1 (.inl e)
    · exact q1 (.inr (.inl e))
    · exact q1 (.inr (.inr (.inl e)))
    · have := f1 _ e; omega
  refine ⟨rfl, ?_⟩
  generalize hr : ({ r with P := P, pc := pc } : RD) = r' at h1 f12'
  have eD : r.D = r'.D := by rw [← hr]
  rw [eD]
  cases hs : sync with
  | false =>
    exact sel_f rfl (Fates_j2 h1 (by omega) hl hl4 hS (fun _ => hp) (fun h => by cases h) hoff K1 r2 b2 e2 r12' e12 f12' fun w hk _ => k w hk)
  | true =>
    refine sel_t rfl ((Write_ok' (i := 1) (l := l) h1 e2 (r2 _ K1) (fun h0 a ha hf => by have := b2 a ha h0; have := (h1.lt _ hf).2; omega)).mono ?_)
    rintro _ w2 ⟨rfl, h2, k2⟩
    have nb : ¬ wrBad { d with plan := [] } 1 l := by unfold wrBad; show ¬ (_ ∨ (d.safe.length : Int) ≤ 1 ∨ _); omega
    have ew : wrD { d with plan := [] } 1 l = putD 1 l { d with plan := [], steps := wrap64 (d.steps + 1) } := by
      unfold wrD
      rw [if_neg (by show ¬ d.off = true; simp [hoff]), if_neg nb]
      unfold stepD fateOf
      rfl
    rw [ew] at h2
    have K2 := K1.trans (upF h1 k2)
    have s2 := k2.size
    exact ⟨_, rfl, Fates_j2 h2 (by omega) hl hl4 hS (fun h => by cases h) (fun _ => has_put) hoff K2 r2 b2 e2 (r12'.keeps k2 fun a ha => (f12' a ha).1) e12 (fun a ha => ⟨(f12' a ha).1, by have := (f12' a ha).2; omega⟩) fun w hk _ => k w hk⟩
end
theorem slA00 (A : Option Addr) (m z : Nat) : slA A 0 m z = A := by
  unfold slA; split
  · rfl
  · cases A with
    | none => rfl
    | some a => simp [add_zero]
theorem DiskFates_row {w : World} {A0 A2 : Option Addr} {n2 c0 c2 : Nat} {l0 : List DOp} {zs : List Int} {kind : Int} (h0 : RDo w w.heap.size A0 l0) (_ : (Lit.int .i64 kind).wf = true) (h2 : IsRow .u8 w A2 n2 c2 zs) (s2 : n2 * 1 ≤ 140737488351232) (sync : Bool) :
    Calls Try.prog 8 #[.slice A0 l0.length c0, .int .i64 kind, .slice A2 n2 c2, .bool sync] w fun e w' => e = .returned (.bool true) ∧ Below w.heap.size w w' := by
  obtain ⟨l2, e2, r2, b2, _, cc⟩ := rb_row h2
  subst e2
  apply f_law07_DiskFates.ok
  unfold f_law07_DiskFates.wp
  refine (alive_ok w).mono ?_
  rintro _ w1 ⟨rfl, g1⟩
  refine ⟨_, rfl, sel_f rfl ((New_ok w1 4).mono ?_)⟩
  rintro _ w2 ⟨r, rfl, m2, g2⟩
  have s1 := g1.size
  have s2 := g2.size
  have up : ∀ {W : World}, Keeps (fun k => w1.heap.size ≤ k) w2 W → Below w.heap.size w W := fun k => (g1.trans (g2.mono s1)).trans (k.below (by omega) fun i hi e => by omega)
  have kb : Keeps (fun k => w1.heap.size ≤ k) w w2 := ((Keeps.of_below g1).trans (.of_below g2))
  have q0 := (h0.mono s1).keep kb
  have rd : ∀ {W : World}, Keeps (fun k => w1.heap.size ≤ k) w2 W → RB W A2 l2 := fun k => by
    by_cases hn : l2 = []
    · rw [hn]; exact RB.nil _ _
    · exact r2.keeps (kb.trans k) fun a ha e => by have := b2 hn a ha; omega
  obtain ⟨D, hD⟩ : ∃ D, r.D = D := ⟨_, rfl⟩
  rw [hD]
  refine ⟨_, rfl, sel_f rfl ⟨_, Fates_l0 (d := newD (nS 4)) (w0 := w2) s2 (fun w3 r3 e3 m3 k3 _ => ?_) l0.length 0 w2 r rfl (by omega) hD m2 (.refl _ _) q0⟩⟩
  intro _
  have s3 := k3.size
  generalize hd3 : doAll (newD (nS 4)) l0 = d3 at m3
  have len3 : d3.safe.length = 4 := by rw [← hd3, doAll_len]; rfl
  subst e3
  refine (On0_ok m3).mono ?_
  rintro _ w4 ⟨rfl, m4, k4⟩
  have s4 := k4.size
  have K4 : Keeps (fun k => w1.heap.size ≤ k) w2 w4 := k3.trans (k4.mono fun i hi ho => (m3.lt i ho).2)
  refine ⟨rfl, (Safe_ok m4).mono ?_⟩
  rintro _ w5 ⟨A5, c5, rfl, o5, g5⟩
  have m5 := m4.below g5
  have s5 := g5.size
  have K5 := K4.trans (.of_below g5)
  have l4 : (onD d3 []).safe.length = 4 := (kept_len _ _).trans len3
  refine ⟨_, _, _, rfl, ?_⟩
  have f5 : ∀ a, A5 = some a → ¬ FD r3 a.block ∧ a.block < w5.heap.size := fun a ha => by
    have q := o5.block a ha
    exact ⟨fun hf => by have := (m4.lt _ hf).1; omega, q.2⟩
  by_cases hc : 512 < l2.length
  · refine sel_t (by simp; omega) (req_intro (by simp; omega) ?_)
    rw [slA00]
    have tk : (l2.take 512).length = 512 := by rw [List.length_take]; omega
    refine Fates_j1 (l := l2.take 512) (w0 := w2) m5 (by omega) (by omega) l4 rfl rfl rfl K5 (fun w hk => (rd hk).take 512) (fun a ha hn => ?_) (by rw [tk]) (OwnE.rb o5) rfl f5 fun w hk _ => ⟨rfl, up hk⟩
    have := b2 (fun e => hn (by rw [e]; rfl)) a ha
    omega
  · refine sel_f (by simp; omega) (Fates_j1 (l := l2) (w0 := w2) m5 (by omega) (by omega) l4 rfl rfl rfl K5 (fun w hk => rd hk) (fun a ha hn => ?_) rfl (OwnE.rb o5) rfl f5 fun w hk _ => ⟨rfl, up hk⟩)
    have := b2 hn a ha
    omega
end Go.Proofs.Ythekjlglnmhlaaa.Rd
