/- The statement DiskAtoms: each sector whole, the safe one or the pending one. Conditions: none. -/
import Derived.Test.YthekjlglnmhlaaaDkU
import Derived.Test.YthekjlglnmhlaaaRdL7
namespace Go.Proofs.Ythekjlglnmhlaaa.Rd
open Go.Dn Go.RowKit Go.Shelf
set_option linter.unusedVariables false
set_option linter.unusedSimpArgs false
set_option maxRecDepth 100000
theorem RI.blw {w w' : World} {A : Option Addr} {l : List Int} (h : RI w A l) (hb : Below w.heap.size w w') : RI w' A l := h.keeps (S := fun _ => False) (.of_below hb) fun _ _ => id
theorem Has_l0 {w : World} {A : Option Addr} {l : List Int} {c : Nat} (r : RI w A l) (hl : l.length ≤ 140737488355328) {x : Int} {K0 : World → Prop} {Kr : Bool → World → Prop} (h0 : x ∉ l → K0 w) (h1 : x ∈ l → Kr true w) : ∀ (m i : Nat), l.length - i = m → i ≤ l.length → (x ∈ l ↔ x ∈ l.drop i) → f_ref01_Has.l0 (m + 1) A l.length c x (i : Int) w K0 Kr := by
  intro m
  induction m with
  | zero =>
    intro i hm hi ht
    unfold f_ref01_Has.l0
    have : i = l.length := by omega
    subst this
    refine sel_f (by simp) (h0 fun h => ?_)
    rw [ht] at h; simp at h
  | succ m ih =>
    intro i hm hi ht
    have hlt : i < l.length := by omega
    obtain ⟨a, rfl, q⟩ := r i hlt
    unfold f_ref01_Has.l0
    refine sel_t (by simpa using hlt) (optB_some rfl (req_intro (by simp; omega) (ldI_intro (x := l[i]) (by rw [Int.toNat_natCast, Nat.mul_one]; exact q) ?_)))
    by_cases e : l[i] = x
    · exact sel_t (by simp [e]) (h1 (by rw [← e]; exact List.getElem_mem hlt))
    · refine sel_f (by simp [e]) ?_
      rw [w64_in (by omega), show (i : Int) + 1 = ((i + 1 : Nat) : Int) by omega]
      refine ih (i + 1) (by omega) (by omega) (ht.trans ?_)
      rw [List.drop_eq_getElem_cons hlt, List.mem_cons]
      exact ⟨fun h => h.resolve_left fun h => e h.symm, .inr⟩
theorem Has_ok {w : World} {A : Option Addr} {n c : Nat} {l : List Int} (r : RI w A l) (hn : n = l.length) (hl : l.length ≤ 140737488355328) (x : Int) : Calls Try.prog 35 #[.slice A n c, .int .i64 x] w fun e w' => e = .returned (.bool (decide (x ∈ l))) ∧ w' = w := by
  subst hn
  apply f_ref01_Has.ok
  unfold f_ref01_Has.wp
  refine ⟨l.length + 1, Has_l0 r hl (fun h => ?_) (fun h => ?_) l.length 0 (by omega) (by omega) (by simp)⟩
  · intro _; exact ⟨by simp [h], rfl⟩
  · intro _; exact ⟨by simp [h], rfl⟩
/-! ### the plain law -/
theorem piece_bytes : ∀ {l : List Sec} {i : Nat} (hi : i < l.length), pieceL (bytesOf l) (512 * i) (512 * i + 512) = l[i].1
  | [], i, hi => by simp at hi
  | a :: l, 0, hi => by
    unfold pieceL bytesOf
    simp only [Nat.mul_zero, Nat.zero_add, List.drop_zero, List.flatMap_cons, List.getElem_cons_zero]
    rw [List.take_append_of_le_length (by rw [a.2]; exact Nat.le_refl _), List.take_of_length_le (by rw [a.2]; exact Nat.le_refl _)]
  | a :: l, i + 1, hi => by
    have ih := piece_bytes (l := l) (i := i) (by simpa using hi)
    unfold pieceL bytesOf at ih ⊢
    simp only [List.flatMap_cons, List.getElem_cons_succ]
    have e : 512 * (i + 1) + 512 = 512 + (512 * i + 512) := by omega
    have e2 : 512 * (i + 1) = 512 + 512 * i := by omega
    rw [e, e2]
    have ha : a.1.length = 512 := a.2
    rw [List.take_append, List.drop_append, ha, List.take_of_length_le (by rw [ha]; omega), List.drop_eq_nil_of_le (by rw [ha]; omega), List.nil_append, Nat.add_sub_cancel_left, ha, Nat.add_sub_cancel_left]
    exact ih
theorem allD_get (d : Dk) (i : Nat) (h : i < (allD d).length) : (allD d)[i] = hasS d (i : Int) := by simp [allD]
theorem allD_len (d : Dk) : (allD d).length = d.safe.length := by simp [allD]
theorem hasS_tight {d : Dk} {i : Nat} (h : hasK d.pend (i : Int) = false) (hi : i < d.safe.length) : hasS d (i : Int) = d.safe[i] := by
  unfold hasS
  have : lk d.pend (i : Int) = none := by rw [lk_none_iff]; intro p hp e; unfold hasK at h; rw [List.any_eq_false] at h; exact h p hp (by simpa using e)
  rw [this]
  simp [List.getD_eq_getElem?_getD, hi]
/-- what a sector has behind On, as the statement tells it -/
theorem atom {d : Dk} {ks : List Int} {i : Nat} (hi : i < d.safe.length) : (hasS (onD d ks) (i : Int)).1 = if (i : Int) ∈ looseD d ∧ (i : Int) ∈ ks then pieceL (bytesOf (allD d)) (512 * i) (512 * i + 512) else pieceL (bytesOf d.safe) (512 * i) (512 * i + 512) := by
  have e : hasS (onD d ks) (i : Int) = (kept d ks)[i]'(by rw [kept_len]; exact hi) := by
    unfold hasS
    show ((lk ([] : List (Int × Sec)) (i : Int)).getD ((kept d ks).getD (i : Int).toNat z0)) = _
    rw [show lk ([] : List (Int × Sec)) (i : Int) = none from rfl]
    simp [List.getD_eq_getElem?_getD, kept_len, hi]
  rw [e, kept_get, piece_bytes hi, piece_bytes (by rw [allD_len]; exact hi), allD_get]
  by_cases hk : (i : Int) ∈ ks
  · rw [if_pos hk]
    by_cases hl : (i : Int) ∈ looseD d
    · rw [if_pos ⟨hl, hk⟩]
    · rw [if_neg (fun h => hl h.1)]
      have : hasK d.pend (i : Int) = false := by
        cases hh : hasK d.pend (i : Int) with
        | false => rfl
        | true => exact absurd (looseD_mem.2 ⟨⟨by omega, by omega⟩, hh⟩) hl
      rw [hasS_tight this hi]
  · rw [if_neg hk, if_neg (fun h => hk h.2)]
    simp [List.getD_eq_getElem?_getD, hi]
theorem onD_loose (d : Dk) (ks : List Int) : looseD (onD d ks) = [] := by
  unfold looseD onD
  simp [hasK]
theorem onD_all (d : Dk) (ks : List Int) : allD (onD d ks) = (onD d ks).safe := by
  apply List.ext_getElem
  · simp [allD]
  · intro i h1 h2
    rw [allD_get]
    exact hasS_tight (by simp [onD, hasK]) h2
/-! ### the walk -/
section
variable {w w' : World} {B : Nat} {d : Dk}
theorem Atoms_l0 {A : Option Addr} {c : Nat} {ops : List DOp} {D : Nat} {w0 : World} (hB : B ≤ w0.heap.size) {K0 : World → Prop}
    (k0 : ∀ w r, r.D = D → DM w B r (doAll d ops) → Keeps (fun k => B ≤ k) w0 w → RDo w B A ops → K0 w) :
    ∀ (m i : Nat) (w : World) (r : RD), ops.length - i = m → i ≤ ops.length → r.D = D → DM w B r (doAll d (ops.take i)) → Keeps (fun k => B ≤ k) w0 w → RDo w B A ops →
      f_law07_DiskAtoms.l0 (m + 1) (some ⟨D, 0, none⟩) A ops.length c (ops.length : Int) (i : Int) w K0 := by
  intro m
  induction m with
  | zero =>
    intro i w r hm hi eD h k ho
    have : i = ops.length := by omega
    subst this
    rw [List.take_length] at h
    unfold f_law07_DiskAtoms.l0
    exact sel_f (by simp) (k0 w r eD h k ho)
  | succ m ih =>
    intro i w r hm hi eD h k ho
    have hlt : i < ops.length := by omega
    have hmem : ops[i] ∈ ops := List.getElem_mem hlt
    unfold f_law07_DiskAtoms.l0
    refine sel_t (by simpa using hlt) (op_ld ho.row hlt (op_box fun b w1 e1 h1 g1 => ?_))
    have kb : Keeps (fun k => B ≤ k) w w1 := .of_below g1
    refine hb_ldI0 h1 rfl (hb_ldI (j := 1) h1 rfl (hb_ldS (j := 2) h1 rfl (hb_ldS (j := 3) h1 rfl (hb_ldS (j := 4) h1 rfl ?_))))
    subst eD
    have := k.size
    have := g1.size
    refine (do_ok (h.below g1) ((ho.ok _ hmem).keep kb) (by omega)).mono ?_
    rintro _ w2 ⟨rfl, r', e', h2, k2⟩
    rw [wrs hlt ho.len]
    exact ⟨rfl, ih (i + 1) w2 r' (by omega) (by omega) e' (by rw [doAll_snoc d ops hlt]; exact h2) ((k.trans kb).trans k2) (ho.keep (kb.trans k2))⟩
theorem Atoms_j2 {A1 A2 : Option Addr} {c1 c2 : Nat} {l : List Int} (r1 : RB w A1 l) (r2 : RB w A2 l) (hl : l.length ≤ 140737488355328) {n1 n2 : Nat} (e1 : n1 = l.length) (e2 : n2 = l.length) {Kn : World → Prop} {Kr : Bool → World → Prop} (kn : ∀ w', Below w.heap.size w w' → Kn w') :
    f_law07_DiskAtoms.j2 A1 n1 c1 0 A2 n2 c2 w Kn Kr := by
  unfold f_law07_DiskAtoms.j2
  refine sel_f rfl ((BSame_ok r1 e1 r2 e2 hl).mono ?_)
  rintro _ w1 ⟨rfl, g⟩
  exact ⟨_, rfl, sel_f (by simp) (kn _ g)⟩
theorem Atoms_l1 {w0 : World} {r : RD} {ks : List Int} {A1 A8 A9 A10 : Option Addr} {c1 c8 c9 c10 : Nat} (h : DM w0 B r (onD d ks)) (hn : d.safe.length = 6) (r1 : RI w0 A1 ks) (hks : ks.length ≤ 140737488355328) (r8 : RB w0 A8 (bytesOf d.safe)) (r9 : RB w0 A9 (bytesOf (allD d))) (r10 : RI w0 A10 (looseD d)) (hlo : (looseD d).length ≤ 140737488355328)
    {K2 : World → Prop} {Kr : Bool → World → Prop} (k2 : ∀ w, Below w0.heap.size w0 w → K2 w) :
    ∀ (m i : Nat) (w : World), 6 - i = m → i ≤ 6 → Below w0.heap.size w0 w →
      f_law07_DiskAtoms.l1 (m + 1) A1 ks.length c1 (some ⟨r.D, 0, none⟩) A8 (bytesOf d.safe).length c8 A9 (bytesOf (allD d)).length c9 A10 (looseD d).length c10 (i : Int) w K2 Kr := by
  have b8 : (bytesOf d.safe).length = 3072 := by rw [bytesOf_len, hn]
  have b9 : (bytesOf (allD d)).length = 3072 := by rw [bytesOf_len, allD_len, hn]
  have hon : (onD d ks).safe.length = 6 := (kept_len _ _).trans hn
  intro m
  induction m with
  | zero =>
    intro i w hm hi g
    unfold f_law07_DiskAtoms.l1
    exact sel_f (by simp; omega) (k2 w g)
  | succ m ih =>
    intro i w hm hi g
    have hlt : i < 6 := by omega
    unfold f_law07_DiskAtoms.l1
    refine sel_t (by simp; omega) ((Read_ok (h.below g) (i : Int)).mono ?_)
    rintro _ w1 ⟨⟨A, n, c, y, rfl, hd⟩, g1⟩
    rcases hd with ⟨hd, _⟩ | ⟨_, hd, _⟩ | ⟨_, _, _, rfl, rfl, rfl, b, rfl, hb, H⟩
    · cases hd
    · rw [hon] at hd; omega
    have G1 := g.trans (g1.mono g.size)
    have e512 : (hasS (onD d ks) (i : Int)).1.length = 512 := (hasS (onD d ks) (i : Int)).2
    have ew : IntKind.i64.wrap ((512 : Int) * (i : Int)) = ((512 * i : Nat) : Int) := by rw [w64_in (by omega)]; omega
    have ew2 : IntKind.i64.wrap (((512 * i : Nat) : Int) + 512) = ((512 * i + 512 : Nat) : Int) := by rw [w64_in (by omega)]; omega
    rw [ew, ew2, wrs hlt (by omega)]
    refine ⟨_, _, _, _, rfl, (BPiece_ok (r8.belw G1) rfl (by rw [b8]; omega)).mono ?_⟩
    rintro _ w2 ⟨A2, c2, rfl, o2, g2⟩
    have G2 := G1.trans (g2.mono G1.size)
    have H2 := H.below g2
    have at_ := atom (d := d) (ks := ks) (i := i) (by omega)
    have go : ∀ w', Below w0.heap.size w0 w' → f_law07_DiskAtoms.l1 (m + 1) A1 ks.length c1 (some ⟨r.D, 0, none⟩) A8 (bytesOf d.safe).length c8 A9 (bytesOf (allD d)).length c9 A10 (looseD d).length c10 ((i + 1 : Nat) : Int) w' K2 Kr := fun w' g' => ih (i + 1) w' (by omega) (by omega) g'
    refine ⟨_, _, _, rfl, (Has_ok (RI.blw r10 G2) rfl hlo _).mono ?_⟩
    rintro _ _ ⟨rfl, rfl⟩
    refine ⟨_, rfl, ?_⟩
    by_cases hl : (i : Int) ∈ looseD d
    · refine sel_t (by simpa using hl) ((Has_ok (RI.blw r1 G2) rfl hks _).mono ?_)
      rintro _ _ ⟨rfl, rfl⟩
      refine ⟨_, rfl, ?_⟩
      by_cases hk : (i : Int) ∈ ks
      · rw [if_pos ⟨hl, hk⟩] at at_
        refine sel_t (by simpa using hk) ((BPiece_ok (r9.belw G2) rfl (by rw [b9]; omega)).mono ?_)
        rintro _ w3 ⟨A3, c3, rfl, o3, g3⟩
        rw [← at_] at o3 ⊢
        exact ⟨_, _, _, rfl, Atoms_j2 (RowE.rb (secRow (H2.below g3))) (OwnE.rb o3) (by omega) e512.symm rfl fun w' g' _ => go w' ((G2.trans (g3.mono G2.size)).trans (g'.mono (by have := G2.size; have := g3.size; omega)))⟩
      · rw [if_neg (fun h => hk h.2)] at at_
        rw [← at_] at o2 ⊢
        exact sel_f (by simpa using hk) (Atoms_j2 (RowE.rb (secRow H2)) (OwnE.rb o2) (by omega) e512.symm rfl fun w' g' _ => go w' (G2.trans (g'.mono G2.size)))
    · rw [if_neg (fun h => hl h.1)] at at_
      rw [← at_] at o2 ⊢
      exact sel_f (by simpa using hl) (Atoms_j2 (RowE.rb (secRow H2)) (OwnE.rb o2) (by omega) e512.symm rfl fun w' g' _ => go w' (G2.trans (g'.mono G2.size)))
end
theorem OwnI.e' {w : World} {B e : Nat} {A : Option Addr} {c : Nat} {l : List Int} (h : OwnI w B e A c l) : ∀ a, A = some a → B ≤ a.block := fun a ha => (OwnI.block h a ha).1
theorem DiskAtoms_walk {w : World} {A0 A1 : Option Addr} {n0 c0 n1 c1 : Nat} {l0 : List DOp} {ks : List Int} (h0 : RDo w w.heap.size A0 l0) (e0 : n0 = l0.length) (h1 : RI w A1 ks) (e1 : n1 = ks.length)
    (b1 : ks ≠ [] → ∀ a, A1 = some a → a.block < w.heap.size) (hks : ks.length ≤ 140737488355328) :
    Calls Try.prog 7 #[.slice A0 n0 c0, .slice A1 n1 c1] w fun e w' => e = .returned (.bool true) ∧ Below w.heap.size w w' := by
  subst e0 e1
  apply f_law07_DiskAtoms.ok
  unfold f_law07_DiskAtoms.wp
  refine (alive_ok w).mono ?_
  rintro _ w1 ⟨rfl, g1⟩
  refine ⟨_, rfl, sel_f rfl ((New_ok w1 6).mono ?_)⟩
  rintro _ w2 ⟨r, rfl, m2, g2⟩
  have s1 := g1.size
  have s2 := g2.size
  have up : ∀ {W : World}, Keeps (fun k => w1.heap.size ≤ k) w2 W → Below w.heap.size w W := fun k => (g1.trans (g2.mono s1)).trans (k.below (by omega) fun i hi e => by omega)
  have kb : Keeps (fun k => w1.heap.size ≤ k) w w2 := ((Keeps.of_below g1).trans (.of_below g2))
  have q0 := (h0.mono s1).keep kb
  have rd : ∀ {W : World}, Keeps (fun k => w1.heap.size ≤ k) w2 W → RI W A1 ks := fun k => by
    by_cases hn : ks = []
    · rw [hn]; exact RI.nil _ _
    · exact h1.keeps (kb.trans k) fun a ha e => by have := b1 hn a ha; omega
  obtain ⟨D, hD⟩ : ∃ D, r.D = D := ⟨_, rfl⟩
  rw [hD]
  refine ⟨_, rfl, sel_f rfl ⟨_, Atoms_l0 (d := newD (nS 6)) (w0 := w2) s2 (fun w3 r3 e3 m3 k3 _ => ?_) l0.length 0 w2 r rfl (by omega) hD m2 (.refl _ _) q0⟩⟩
  intro _
  have s3 := k3.size
  generalize hd3 : doAll (newD (nS 6)) l0 = d3 at m3
  have len3 : d3.safe.length = 6 := by rw [← hd3, doAll_len]; rfl
  subst e3
  refine (Safe_ok m3).mono ?_
  rintro _ w4 ⟨A4, c4, rfl, o4, g4⟩
  have m4 := m3.below g4
  refine ⟨_, _, _, rfl, (All_ok m4).mono ?_⟩
  rintro _ w5 ⟨A5, c5, rfl, o5, g5⟩
  have m5 := m4.below g5
  refine ⟨_, _, _, rfl, (Loose_ok m5).mono ?_⟩
  rintro _ w6 ⟨A6, c6, rfl, o6, g6⟩
  have m6 := m5.below g6
  have s4 := g4.size
  have s5 := g5.size
  have s6 := g6.size
  have k6 := ((k3.trans (.of_below g4)).trans (.of_below g5)).trans (.of_below g6)
  refine ⟨_, _, _, rfl, (Steps_ok m6).mono ?_⟩
  rintro _ w6 ⟨rfl, rfl⟩
  have fr : ∀ k, FD r3 k → k < w3.heap.size := fun k hk => (m3.lt k hk).1
  have hon : Calls Try.prog 21 #[.pointer (some ⟨r3.D, 0, none⟩), .slice A1 ks.length c1] w6 fun e w' => e = .returned (.tuple #[]) ∧ DM w' w1.heap.size r3 (onD d3 ks) ∧ Keeps (FD r3) w6 w' := by
    by_cases hn : ks = []
    · subst hn; exact On0_ok m6
    · exact On_ok m6 (rd k6) rfl (fun a ha hf => by have := b1 hn a ha; have := (m6.lt _ (.inr (.inr (.inl hf)))).2; omega) (by omega)
  refine ⟨_, rfl, hon.mono ?_⟩
  rintro _ w7 ⟨rfl, m7, k7⟩
  have K7 : Keeps (fun k => w1.heap.size ≤ k) w2 w7 := k6.trans (k7.mono fun i hi ho => (m6.lt i ho).2)
  have r4 : RB w7 A4 (bytesOf d3.safe) := ((OwnE.rb o4).belw (g5.trans (g6.mono s5))).keeps k7 fun a ha hf => by have := (o4.block a ha).1; have := fr _ hf; omega
  have r5 : RB w7 A5 (bytesOf (allD d3)) := ((OwnE.rb o5).belw g6).keeps k7 fun a ha hf => by have := (o5.block a ha).1; have := fr _ hf; omega
  have r6 : RI w7 A6 (looseD d3) := (OwnI.reads o6).keeps k7 fun a ha hf => by have := (OwnI.e' o6 a ha); have := fr _ hf; omega
  have hlo : (looseD d3).length ≤ 140737488355328 := by
    have : (looseD d3).length ≤ d3.safe.length := by unfold looseD; exact Nat.le_trans (List.length_filter_le _ _) (by simp)
    omega
  refine ⟨rfl, _, Atoms_l1 (w0 := w7) m7 len3 (rd K7) hks r4 r5 r6 hlo (fun w8 g8 => ?_) 6 0 w7 rfl (by omega) (Below.refl _ _)⟩
  intro _
  have m8 := m7.below g8
  have K8 := K7.trans (.of_below g8)
  refine (Power_ok m8).mono ?_
  rintro _ w8 ⟨rfl, rfl⟩
  refine ⟨_, rfl, sel_t rfl ((Steps_ok m8).mono ?_)⟩
  rintro _ w8 ⟨rfl, rfl⟩
  refine ⟨_, rfl, sel_t (by show (d3.steps == d3.steps) = true; simp) ((Loose_ok m8).mono ?_)⟩
  rintro _ w9 ⟨A9, c9, rfl, -, g9⟩
  rw [onD_loose]
  have m9 := m8.below g9
  refine ⟨_, _, _, rfl, sel_t rfl ((Safe_ok m9).mono ?_)⟩
  rintro _ w10 ⟨A10, c10, rfl, o10, g10⟩
  have m10 := m9.below g10
  refine ⟨_, _, _, rfl, (All_ok m10).mono ?_⟩
  rintro _ w11 ⟨A11, c11, rfl, o11, g11⟩
  rw [onD_all] at o11 ⊢
  have lb : (bytesOf (onD d3 ks).safe).length ≤ 140737488355328 := by rw [bytesOf_len, show (onD d3 ks).safe.length = 6 from (kept_len _ _).trans len3]; omega
  refine ⟨_, _, _, rfl, (BSame_ok ((OwnE.rb o10).belw g11) rfl (OwnE.rb o11) rfl lb).mono ?_⟩
  rintro _ w12 ⟨rfl, g12⟩
  exact ⟨_, rfl, by simp, up (((((K8.trans (.of_below g9)).trans (.of_below g10)).trans (.of_below g11)).trans (.of_below g12)))⟩
theorem DiskAtoms_row {w : World} {A0 A1 : Option Addr} {n1 c0 c1 : Nat} {l0 : List DOp} {zs : List Int} (h0 : RDo w w.heap.size A0 l0) (h1 : IsRow .i64 w A1 n1 c1 zs) (s1 : n1 * 8 ≤ 140737488351232) :
    Calls Try.prog 7 #[.slice A0 l0.length c0, .slice A1 n1 c1] w fun e w' => e = .returned (.bool true) ∧ Below w.heap.size w w' := by
  obtain ⟨l1, e1, r1, b1⟩ : ∃ l : List Int, n1 = l.length ∧ RI w A1 l ∧ (l ≠ [] → ∀ a, A1 = some a → a.block < w.heap.size) := by
    rcases h1 with ⟨rfl, rfl, rfl, rfl⟩ | ⟨a, rfl, hl, hm, hz, hc, hw⟩
    · exact ⟨[], rfl, RI.nil _ _, fun h => absurd rfl h⟩
    · have hlen : (zs.take n1).length = n1 := by rw [List.length_take]; omega
      have hg : ∀ i (hi : i < (zs.take n1).length), w.cell? (a.add i) = some (.int .i64 (zs.take n1)[i]) := fun i hi => by
        rw [hlen] at hi
        rw [hc i (by omega)]
        have e : zs.getD i 0 = zs[i]'(by omega) := by simp [List.getD_eq_getElem?_getD, show i < zs.length by omega]
        rw [e, List.getElem_take]
      refine ⟨zs.take n1, hlen.symm, fun i hi => ⟨a, rfl, hg i hi⟩, fun hne a' ha => ?_⟩
      injection ha with ha; subst ha
      have h0 : 0 < (zs.take n1).length := List.length_pos_iff.2 hne
      have := World.block_lt_of_cell? w _ (hg 0 h0)
      rw [add_block] at this; exact this
  exact DiskAtoms_walk h0 rfl r1 e1 b1 (by omega)
end Go.Proofs.Ythekjlglnmhlaaa.Rd
