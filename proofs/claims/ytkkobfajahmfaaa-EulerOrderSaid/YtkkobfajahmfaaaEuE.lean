/- The inner calls of a rope, walked: merge, split, free, root, index on trees. Conditions: none. -/
import Derived.Test.YtkkobfajahmfaaaEuD
namespace Go.Proofs.Ytkkobfajahmfaaa.Rd
open Go.Dn Go.RowKit
set_option linter.unusedVariables false
set_option maxRecDepth 100000

def Vals (N : Nat → Nat → Int) (n : Nat) : Prop := ∀ i, i < n → In64 (N i 5) ∧ In64 (N i 6) ∧ In64 (N i 7)
theorem ne_mem {l : List Nat} {i a : Nat} (h : i ∈ l) (k : a ∉ l) : i ≠ a := fun e => k (e ▸ h)
theorem Vals.chg {N N' : Nat → Nat → Int} {n : Nat} {ids : List Nat} (h : Vals N n) (c : Chg ids N N') : Vals N' n := fun i hi => by rw [c.own i 5 (by omega), c.own i 6 (by omega), c.own i 7 (by omega)]; exact h i hi
theorem pull_t {w : World} {r : RC} {N : Nat → Nat → Int} (h : Rp w r N) (hn : r.n ≤ 65537) {a : Nat} {tl tr : Tr} (ha : 0 < a ∧ a < r.n) (hl : OkT N r.n tl) (hr : OkT N r.n tr) (nd : (tl.ids ++ a :: tr.ids).Nodup) (h0 : N a 0 = (tl.root : Int)) (h1 : N a 1 = (tr.root : Int)) (hv : Vals N r.n) :
    Calls Try.prog 75 #[.pointer (some ⟨r.R, 0, none⟩), .int .i64 (a : Int)] w fun e w' => e = .returned (.tuple #[]) ∧ ∃ N', Aft r w w' N' ∧ OkT N' r.n (.node tl a tr) ∧ Chg (tl.ids ++ a :: tr.ids) N N' ∧ N' a 2 = N a 2 := by
  have hp := pull_tree hn ha hl hr nd h0 h1 (hv a ha.2)
  refine (pull_ok h ha.2 (hl.root_lt (by omega)) (hr.root_lt (by omega)) h0 h1 ?_).mono ?_
  · intro e e2
    have := Tr.root_mem e
    rw [e2] at this
    simp only [List.nodup_append] at nd
    exact nd.2.2 a this a (by simp) rfl
  · rintro e w' ⟨rfl, hA⟩
    exact ⟨rfl, _, hA, hp⟩
theorem free_ok {w : World} {r : RC} {N : Nat → Nat → Int} (h : Rp w r N) {a : Nat} (ha : a < r.n) :
    Calls Try.prog 69 #[.pointer (some ⟨r.R, 0, none⟩), .int .i64 (a : Int)] w fun e w' => e = .returned (.tuple #[]) ∧ Aft r w w' (if a = 0 then N else Dn.st N a 2 0) := by
  apply f_euler_load_free.ok
  unfold f_euler_load_free.wp
  by_cases h0 : a = 0
  · subst h0
    exact sel_f (by simp) ⟨rfl, h, Keeps.refl _ _⟩
  · refine sel_t (by simp; omega) (nd_at (K := fun x => stW w ((x.add _).add 2) _ _) h ha rfl (nd_st (j := 2) h ha rfl (by omega) fun w' h' k' => ⟨rfl, ?_, k'⟩))
    rw [if_neg h0]; exact h'
/-- climbing -/
theorem root_l0 {w : World} {r : RC} {N : Nat → Nat → Int} (h : Rp w r N) {K : Int → World → Prop} : ∀ {t : Tr} {a : Nat}, OkT N r.n t → a ∈ t.ids → (∃ k, f_euler_load_root.l0 k ⟨r.R, 0, none⟩ (t.root : Int) w K) → ∃ k, f_euler_load_root.l0 k ⟨r.R, 0, none⟩ (a : Int) w K
  | .nil, a, _, hm, _ => absurd hm (by simp [Tr.ids])
  | .node l x y, a, ok, hm, hk => by
    obtain ⟨h1, h2, h3, h4, h5, h6, h7, h7b, h8, h9, hl, hr⟩ := ok
    have step : ∀ {s : Tr}, OkT N r.n s → a ∈ s.ids → (s.root ≠ 0 → N s.root 2 = (x : Int)) → ∃ k, f_euler_load_root.l0 k ⟨r.R, 0, none⟩ (s.root : Int) w K := by
      intro s hs hm hup
      have hs0 : s.root ≠ 0 := fun e => by rw [hs.root_pos.1 e] at hm; simp [Tr.ids] at hm
      obtain ⟨k, hk⟩ := hk
      have hu := hup hs0
      have hlt := hs.root_lt (by omega)
      refine ⟨k + 1, ?_⟩
      unfold f_euler_load_root.l0
      refine nd_rd (j := 2) h hlt rfl (by omega) (sel_t (by rw [hu]; simp; omega) (nd_rd (j := 2) h hlt rfl (by omega) ?_))
      rw [hu]; exact hk
    simp only [Tr.ids, List.mem_append, List.mem_cons] at hm
    rcases hm with hm | rfl | hm
    · exact root_l0 h hl hm (step hl hm h8)
    · exact hk
    · exact root_l0 h hr hm (step hr hm h9)
theorem root_ok {w : World} {r : RC} {N : Nat → Nat → Int} (h : Rp w r N) {t : Tr} (ok : OkT N r.n t) (h0 : N t.root 2 = 0) {a : Nat} (hm : a ∈ t.ids) :
    Calls Try.prog 66 #[.pointer (some ⟨r.R, 0, none⟩), .int .i64 (a : Int)] w fun e w' => e = .returned (.int .i64 (t.root : Int)) ∧ w' = w := by
  apply f_euler_load_root.ok
  unfold f_euler_load_root.wp
  refine root_l0 h ok hm ⟨1, ?_⟩
  unfold f_euler_load_root.l0
  have : 0 < r.n := by have := ok.lt a hm; omega
  exact nd_rd (j := 2) h (ok.root_lt this) rfl (by omega) (sel_f (by rw [h0]; simp) fun _ => ⟨rfl, rfl⟩)

theorem idx_l {l : List Nat} {a : Nat} (m : List Nat) (h : a ∈ l) : (l ++ m).idxOf a = l.idxOf a := by rw [List.idxOf_append, if_pos h]
theorem idx_r {l : List Nat} {a : Nat} (m : List Nat) (h : a ∉ l) : (l ++ m).idxOf a = m.idxOf a + l.length := by rw [List.idxOf_append, if_neg h]
theorem idx_lt {l : List Nat} {a : Nat} (h : a ∈ l) : l.idxOf a < l.length := List.idxOf_lt_length_of_mem h
/-- climbing, with what stands ahead -/
theorem index_l0 {r : RC} {N : Nat → Nat → Int} (hn : r.n ≤ 65537) (hz : N 0 4 = 0) {K : Int → World → Prop} : ∀ {t : Tr} {a : Nat} {w : World}, Rp w r N → OkT N r.n t → t.ids.Nodup → a ∈ t.ids →
    (∀ w', Below w.heap.size w w' → Rp w' r N → ∃ k, f_euler_load_index.l0 k ⟨r.R, 0, none⟩ (t.root : Int) (t.ids.idxOf a : Int) (N t.root 2) w' K) →
    ∃ s0 : Tr, OkT N r.n s0 ∧ N a 0 = (s0.root : Int) ∧ s0.ids.length ≤ 65537 ∧ ∃ k, f_euler_load_index.l0 k ⟨r.R, 0, none⟩ (a : Int) (s0.ids.length : Int) (N a 2) w K
  | .nil, a, w, _, _, _, hm, _ => absurd hm (by simp [Tr.ids])
  | .node l x y, a, w, h, ok, nd, hm, hk => by
    have ok' := ok
    obtain ⟨h1, h2, h3, h4, h5, h6, h7, h7b, h8, h9, hl, hr⟩ := ok
    have nd' := nd
    simp only [Tr.ids, List.nodup_append, List.nodup_cons, List.mem_cons] at nd
    obtain ⟨ndl, ⟨hxr, ndr⟩, hd⟩ := nd
    have hxl : x ∉ l.ids := fun h => hd x h x (.inl rfl) rfl
    have hlen : (Tr.node l x y).ids.length ≤ r.n := nodup_le _ _ nd' fun i hi => (ok'.lt i hi).2
    simp only [Tr.ids, List.length_append, List.length_cons] at hlen
    have hm' := hm
    simp only [Tr.ids, List.mem_append, List.mem_cons] at hm
    have hls : N l.root 4 = (l.ids.length : Int) := by
      by_cases e : l.root = 0
      · rw [e, hz, hl.root_pos.1 e]; rfl
      · exact hl.sz e
    rcases hm with hm | rfl | hm
    · refine index_l0 hn hz h hl ndl hm fun w' b' h' => ?_
      have hs0 : l.root ≠ 0 := fun e => by rw [hl.root_pos.1 e] at hm; simp [Tr.ids] at hm
      have hne : y.root ≠ l.root := fun e => hd l.root (Tr.root_mem hs0) y.root (.inr (Tr.root_mem (e ▸ hs0))) e.symm
      obtain ⟨k, hk⟩ := hk w' b' h'
      refine ⟨k + 1, ?_⟩
      unfold f_euler_load_index.l0
      refine sel_t (by rw [h8 hs0]; simp; omega) ?_
      rw [h8 hs0]
      refine nd_rd (j := 1) h' h2 rfl (by omega) (sel_f (by rw [h4]; simp; omega) ?_)
      unfold f_euler_load_index.j1
      refine nd_rd (j := 2) h' h2 rfl (by omega) fun _ => ?_
      simp only [Tr.ids, idx_l _ hm, Tr.root] at hk
      exact hk
    · refine ⟨l, hl, h3, by omega, ?_⟩
      obtain ⟨k, hk⟩ := hk w (Below.refl _ _) h
      refine ⟨k, ?_⟩
      simp only [Tr.ids, idx_r _ hxl, Tr.root, List.idxOf_cons_self, Nat.zero_add] at hk
      exact hk
    · refine index_l0 hn hz h hr ndr hm fun w' b' h' => ?_
      have hs0 : y.root ≠ 0 := fun e => by rw [hr.root_pos.1 e] at hm; simp [Tr.ids] at hm
      obtain ⟨k, hk⟩ := hk w'.drew b'.drew h'.drew
      refine ⟨k + 1, ?_⟩
      unfold f_euler_load_index.l0
      refine sel_t (by rw [h9 hs0]; simp; omega) ?_
      rw [h9 hs0]
      have hal : a ∉ l.ids := fun h => hd a h a (.inr hm) rfl
      have hax : x ≠ a := fun e => hxr (e ▸ hm)
      have hi := idx_lt hm
      refine nd_rd (j := 1) h' h2 rfl (by omega) (sel_t (by rw [h4]; simp) (drW_intro (ldS_intro h'.drew.sl0 (nd_rd0 h'.drew h2 rfl ?_))))
      rw [h3]
      refine optB_some rfl (req_intro (by have := hl.root_lt (show 0 < r.n by omega); simp; omega) (nd_ld (j := 4) h'.drew (hl.root_lt (by omega)) rfl (by omega) ?_))
      unfold f_euler_load_index.j1
      refine nd_rd (j := 2) h'.drew h2 rfl (by omega) fun _ => ?_
      simp only [Tr.ids, idx_r _ hal, Tr.root, List.idxOf_cons] at hk
      rw [show (x == a) = false by simpa using hax] at hk
      rw [hls, w64_in (x := (l.ids.length : Int) + 1) (by omega), w64_in (by omega)]
      rw [show ((y.ids.idxOf a : Nat) : Int) + ((l.ids.length : Int) + 1) = ((y.ids.idxOf a + 1 + l.ids.length : Nat) : Int) by omega]
      exact hk
theorem index_ok {w : World} {r : RC} {N : Nat → Nat → Int} (h : Rp w r N) (hn : r.n ≤ 65537) (hz : N 0 4 = 0) {t : Tr} (ok : OkT N r.n t) (nd : t.ids.Nodup) (h0 : N t.root 2 = 0) {a : Nat} (hm : a ∈ t.ids) :
    Calls Try.prog 72 #[.pointer (some ⟨r.R, 0, none⟩), .int .i64 (a : Int)] w fun e w' => e = .returned (.int .i64 (t.ids.idxOf a : Int)) ∧ Below w.heap.size w w' := by
  apply f_euler_load_index.ok
  unfold f_euler_load_index.wp
  have ha := ok.lt a hm
  obtain ⟨s0, hs, e0, hl, hk⟩ := index_l0 (w := w.drew) hn hz (K := fun x30 w31 => ∀ _ : Fr, (fun e w' => e = Ending.returned (.int .i64 (t.ids.idxOf a : Int)) ∧ Below w.heap.size w w') (.returned (.int .i64 x30)) w31) h.drew ok nd hm (fun w' b' h' => ⟨1, by
    unfold f_euler_load_index.l0
    exact sel_f (by rw [h0]; simp) fun _ => ⟨rfl, (Below.refl _ _).drew.trans b'⟩⟩)
  have hss : N s0.root 4 = (s0.ids.length : Int) := by
    by_cases e : s0.root = 0
    · rw [e, hz, hs.root_pos.1 e]; rfl
    · exact hs.sz e
  refine drW_intro (ldS_intro h.drew.sl0 (nd_rd0 h.drew ha.2 rfl ?_))
  rw [e0]
  have hlt := hs.root_lt (show 0 < r.n by omega)
  refine optB_some rfl (req_intro (by simp; omega) (nd_ld (j := 4) h.drew hlt rfl (by omega) (nd_rd (j := 2) h.drew ha.2 rfl (by omega) ?_)))
  rw [hss]
  exact hk

theorem merge_ok : ∀ (m : Nat) {w : World} {r : RC} {N : Nat → Nat → Int} {ta tb : Tr}, ta.ids.length + tb.ids.length ≤ m → Rp w r N → r.n ≤ 65537 → OkT N r.n ta → OkT N r.n tb → (ta.ids ++ tb.ids).Nodup → Vals N r.n →
    Calls Try.prog 70 #[.pointer (some ⟨r.R, 0, none⟩), .int .i64 (ta.root : Int), .int .i64 (tb.root : Int)] w fun e w' => ∃ t N', e = .returned (.int .i64 (t.root : Int)) ∧ Aft r w w' N' ∧ OkT N' r.n t ∧ t.ids = ta.ids ++ tb.ids ∧ Chg (ta.ids ++ tb.ids) N N' := by
  intro m
  induction m with
  | zero =>
    intro w r N ta tb hm h hn oa ob nd hv
    cases ta with
    | node l a x => simp [Tr.ids] at hm
    | nil =>
      apply f_euler_load_merge.ok
      unfold f_euler_load_merge.wp
      exact sel_t rfl ⟨tb, N, rfl, ⟨h, Keeps.refl _ _⟩, ob, rfl, Chg.refl _ _⟩
  | succ m ih =>
    intro w r N ta tb hm h hn oa ob nd hv
    apply f_euler_load_merge.ok
    unfold f_euler_load_merge.wp
    cases ta with
    | nil => exact sel_t rfl ⟨tb, N, rfl, ⟨h, Keeps.refl _ _⟩, ob, rfl, Chg.refl _ _⟩
    | node l a x =>
      cases tb with
      | nil =>
        refine sel_f (by have := oa.1; simp [Tr.root]; omega) (sel_t rfl ⟨.node l a x, N, rfl, ⟨h, Keeps.refl _ _⟩, oa, by simp [Tr.ids], Chg.refl _ _⟩)
      | node y b z =>
        have oa' := oa; have ob' := ob
        obtain ⟨a1, a2, a3, a4, a5, a6, a7, a7b, a8, a9, al, ar⟩ := oa
        obtain ⟨b1, b2, b3, b4, b5, b6, b7, b7b, b8, b9, bl, br⟩ := ob
        have nd' := nd
        simp only [Tr.ids, List.nodup_append, List.nodup_cons, List.mem_cons, List.mem_append] at nd
        obtain ⟨⟨n1, ⟨n2, n3⟩, n4⟩, ⟨n5, ⟨n6, n7⟩, n8⟩, n9⟩ := nd
        simp only [Tr.ids, List.length_append, List.length_cons] at hm
        refine sel_f (by simp [Tr.root]; omega) (sel_f (by simp [Tr.root]; omega) (drW_intro ?_))
        refine nd_rd (j := 3) h.drew a2 rfl (by omega) (nd_rd (j := 3) h.drew b2 rfl (by omega) ?_)
        by_cases hp : N a 3 ≥ N b 3
        · refine sel_t (by simpa using hp) (drW_intro ⟨fun w' => ∃ M, Rp w' r M ∧ M a 1 = N a 1, ⟨N, h.drew.drew, rfl⟩, _, _, _, fun w' ⟨M, h', _⟩ => h'.sl0, _, _, _, fun w' ⟨M, h', _⟩ => h'.sl0, ?_⟩)
          refine optB_some rfl (req_intro (by simp [Tr.root]; omega) ⟨(x.root : Int), fun w' ⟨M, h', e⟩ => by rw [← a4, ← e]; exact h'.cell (j := 1) a2 rfl (by omega), ?_⟩)
          have ndx : (x.ids ++ (Tr.node y b z).ids).Nodup := by
            simp only [Tr.ids, List.nodup_append, List.nodup_cons, List.mem_cons, List.mem_append] at nd' ⊢
            exact ⟨n3, ⟨n5, ⟨n6, n7⟩, n8⟩, fun i hi j hj => n9 i (.inr (.inr hi)) j hj⟩
          refine (ih (by simp only [Tr.ids, List.length_append, List.length_cons]; omega) h.drew.drew hn ar ob' ndx hv).mono ?_
          rintro e w1 ⟨t, N1, rfl, ⟨h1, k1⟩, ot, et, c1⟩
          have hax : a ∉ x.ids ++ (Tr.node y b z).ids := by
            intro hh
            simp only [Tr.ids, List.mem_append, List.mem_cons] at hh
            rcases hh with hh | hh
            · exact n2 hh
            · exact n9 a (.inr (.inl rfl)) a hh rfl
          refine ⟨_, rfl, ⟨N1, h1, c1.out a hax 1⟩, optB_some rfl (req_intro (by simp [Tr.root]; omega) ?_)⟩
          refine nd_st (j := 1) h1 a2 rfl (by omega) fun w2 h2 k2 => ?_
          have hlx : ∀ i ∈ l.ids, i ∉ x.ids ++ (Tr.node y b z).ids := by
            intro i hi hh
            simp only [Tr.ids, List.mem_append, List.mem_cons] at hh
            rcases hh with hh | hh
            · exact n4 i hi i (.inr hh) rfl
            · exact n9 i (.inl hi) i hh rfl
          have hla : a ∉ l.ids := fun hh => n4 a hh a (.inl rfl) rfl
          have hta : a ∉ t.ids := by rw [et]; exact hax
          have ol2 : OkT (Dn.st N1 a 1 (t.root : Int)) r.n l := al.congr (Nat.le_refl _) n1 fun i hi j _ _ => by rw [st_i _ _ _ _ (ne_mem hi hla), c1.out i (hlx i hi)]
          have ot2 : OkT (Dn.st N1 a 1 (t.root : Int)) r.n t := ot.congr (Nat.le_refl _) (et ▸ ndx) fun i hi j _ _ => st_i _ _ _ _ (ne_mem hi hta)
          have hndt : (l.ids ++ a :: t.ids).Nodup := by
            rw [et]
            simp only [Tr.ids, List.nodup_append, List.nodup_cons, List.mem_cons, List.mem_append] at nd' ⊢ ndx hlx hax
            exact ⟨n1, ⟨hax, ndx⟩, fun i hi j hj e => by
              rcases hj with rfl | hj
              · exact hla (e ▸ hi)
              · exact hlx i hi (e ▸ hj)⟩
          refine (pull_t h2 hn ⟨a1, a2⟩ ol2 ot2 hndt (by rw [st_j _ _ _ _ (by omega), c1.out a hax]; exact a3) (st_same _ _ _ _) ((hv.chg c1).chg (Chg.st (ids := [a]) (by simp) (by omega)))).mono ?_
          rintro e w3 ⟨rfl, N3, ⟨h3, k3⟩, o3, c3, u3⟩
          refine ⟨rfl, .node l a t, N3, rfl, ⟨h3, (Keeps.of_below ((Below.refl _ _).drew.drew)).trans ((k1.trans k2).trans k3)⟩, o3, by simp [Tr.ids, et], ?_⟩
          refine ((c1.mono ?_).trans (Chg.st (by simp [Tr.ids]) (by omega))).trans (c3.mono ?_)
          · intro i hi; simp only [Tr.ids, List.mem_append, List.mem_cons] at hi ⊢; rcases hi with hi | hi
            · exact .inl (.inr (.inr hi))
            · exact .inr hi
          · intro i hi; rw [et] at hi; simpa [Tr.ids, or_assoc] using hi
        · refine sel_f (by simpa using hp) (drW_intro ⟨fun w' => ∃ M, Rp w' r M ∧ M b 0 = N b 0, ⟨N, h.drew.drew, rfl⟩, _, _, _, fun w' ⟨M, h', _⟩ => h'.sl0, _, _, _, fun w' ⟨M, h', _⟩ => h'.sl0, ?_⟩)
          refine optB_some rfl (req_intro (by simp [Tr.root]; omega) ⟨(y.root : Int), fun w' ⟨M, h', e⟩ => by rw [← b3, ← e]; exact h'.cell0 b2 rfl, ?_⟩)
          have ndx : ((Tr.node l a x).ids ++ y.ids).Nodup := by
            simp only [Tr.ids, List.nodup_append, List.nodup_cons, List.mem_cons, List.mem_append] at nd' ⊢
            exact ⟨⟨n1, ⟨n2, n3⟩, n4⟩, n5, fun i hi j hj => n9 i hi j (.inl hj)⟩
          refine (ih (by simp only [Tr.ids, List.length_append, List.length_cons]; omega) h.drew.drew hn oa' bl ndx hv).mono ?_
          rintro e w1 ⟨t, N1, rfl, ⟨h1, k1⟩, ot, et, c1⟩
          have hax : b ∉ (Tr.node l a x).ids ++ y.ids := by
            intro hh
            simp only [Tr.ids, List.mem_append, List.mem_cons] at hh
            rcases hh with hh | hh
            · exact n9 b hh b (.inr (.inl rfl)) rfl
            · exact n8 b hh b (.inl rfl) rfl
          refine ⟨_, rfl, ⟨N1, h1, c1.out b hax 0⟩, optB_some rfl (req_intro (by simp [Tr.root]; omega) ?_)⟩
          refine nd_st0 h1 b2 rfl fun w2 h2 k2 => ?_
          have hzx : ∀ i ∈ z.ids, i ∉ (Tr.node l a x).ids ++ y.ids := by
            intro i hi hh
            simp only [Tr.ids, List.mem_append, List.mem_cons] at hh
            rcases hh with hh | hh
            · exact n9 i hh i (.inr (.inr hi)) rfl
            · exact n8 i hh i (.inr hi) rfl
          have hta : b ∉ t.ids := by rw [et]; exact hax
          have ol2 : OkT (Dn.st N1 b 0 (t.root : Int)) r.n z := br.congr (Nat.le_refl _) n7 fun i hi j _ _ => by rw [st_i _ _ _ _ (ne_mem hi n6), c1.out i (hzx i hi)]
          have ot2 : OkT (Dn.st N1 b 0 (t.root : Int)) r.n t := ot.congr (Nat.le_refl _) (et ▸ ndx) fun i hi j _ _ => st_i _ _ _ _ (ne_mem hi hta)
          have hndt : (t.ids ++ b :: z.ids).Nodup := by
            have : t.ids ++ b :: z.ids = (Tr.node l a x).ids ++ (Tr.node y b z).ids := by rw [et]; simp [Tr.ids]
            rw [this]; exact nd'
          refine (pull_t h2 hn ⟨b1, b2⟩ ot2 ol2 hndt (st_same _ _ _ _) (by rw [st_j _ _ _ _ (by omega), c1.out b hax]; exact b4) ((hv.chg c1).chg (Chg.st (ids := [b]) (by simp) (by omega)))).mono ?_
          rintro e w3 ⟨rfl, N3, ⟨h3, k3⟩, o3, c3, u3⟩
          refine ⟨rfl, .node t b z, N3, rfl, ⟨h3, (Keeps.of_below ((Below.refl _ _).drew.drew)).trans ((k1.trans k2).trans k3)⟩, o3, by simp [Tr.ids, et], ?_⟩
          refine ((c1.mono ?_).trans (Chg.st (by simp [Tr.ids]) (by omega))).trans (c3.mono ?_)
          · intro i hi; simp only [Tr.ids, List.mem_append, List.mem_cons] at hi ⊢; rcases hi with hi | hi
            · exact .inl hi
            · exact .inr (.inl hi)
          · intro i hi; rw [et] at hi; simpa [Tr.ids, or_assoc] using hi

theorem split_ok : ∀ {t : Tr} {k : Nat} {w : World} {r : RC} {N : Nat → Nat → Int}, k ≤ t.ids.length → Rp w r N → r.n ≤ 65537 → OkT N r.n t → t.ids.Nodup → Vals N r.n →
    Calls Try.prog 71 #[.pointer (some ⟨r.R, 0, none⟩), .int .i64 (t.root : Int), .int .i64 (k : Int)] w fun e w' => ∃ tx ty N', e = .returned (.tuple #[.int .i64 (tx.root : Int), .int .i64 (ty.root : Int)]) ∧ Aft r w w' N' ∧ OkT N' r.n tx ∧ OkT N' r.n ty ∧
      tx.ids = t.ids.take k ∧ ty.ids = t.ids.drop k ∧ Chg t.ids N N'
  | .nil, k, w, r, N, hk, h, hn, ok, nd, hv => by
    apply f_euler_load_split.ok
    unfold f_euler_load_split.wp
    exact sel_t rfl ⟨.nil, .nil, N, rfl, ⟨h, Keeps.refl _ _⟩, trivial, trivial, by simp [Tr.ids], by simp [Tr.ids], Chg.refl _ _⟩
  | .node l a x, k, w, r, N, hk, h, hn, ok, nd, hv => by
    apply f_euler_load_split.ok
    unfold f_euler_load_split.wp
    have ok' := ok
    obtain ⟨a1, a2, a3, a4, a5, a6, a7, a7b, a8, a9, al, ar⟩ := ok
    have nd' := nd
    have hlen : (Tr.node l a x).ids.length ≤ r.n := nodup_le _ _ nd' fun i hi => (ok'.lt i hi).2
    simp only [Tr.ids, List.nodup_append, List.nodup_cons, List.mem_cons] at nd
    obtain ⟨n1, ⟨n2, n3⟩, n4⟩ := nd
    have hal : a ∉ l.ids := fun hh => n4 a hh a (.inl rfl) rfl
    simp only [Tr.ids, List.length_append, List.length_cons] at hk hlen
    have key : ∀ (ahead : Int) (_ : ahead = (l.ids.length : Int)) (K : Int → Int → World → Prop), (∀ tx ty N' w', Aft r w w' N' → OkT N' r.n tx → OkT N' r.n ty → tx.ids = (l.ids ++ a :: x.ids).take k → ty.ids = (l.ids ++ a :: x.ids).drop k → Chg (l.ids ++ a :: x.ids) N N' → K (tx.root : Int) (ty.root : Int) w') →
        f_euler_load_split.j0 ⟨r.R, 0, none⟩ (a : Int) (k : Int) (l.root : Int) ahead w K := by
      intro ahead ea K hK
      subst ea
      unfold f_euler_load_split.j0
      by_cases hka : k ≤ l.ids.length
      · refine sel_t (by simpa using hka) ?_
        refine (split_ok hka h hn al n1 hv).mono ?_
        rintro e w1 ⟨tx, ty, N1, rfl, ⟨h1, k1⟩, o1, o2, e1, e2, c1⟩
        refine ⟨_, _, rfl, nd_at (K := fun q => stW w1 (q.add _) _ _) h1 a2 rfl (nd_st0 h1 a2 rfl fun w2 h2 k2 => ?_)⟩
        have hty : ∀ i ∈ ty.ids, i ∈ l.ids := fun i hi => by rw [e2] at hi; exact List.mem_of_mem_drop hi
        have htx : ∀ i ∈ tx.ids, i ∈ l.ids := fun i hi => by rw [e1] at hi; exact List.mem_of_mem_take hi
        have ndy : ty.ids.Nodup := by rw [e2]; exact n1.sublist (List.drop_sublist _ _)
        have ndx : tx.ids.Nodup := by rw [e1]; exact n1.sublist (List.take_sublist _ _)
        have oy2 : OkT (Dn.st N1 a 0 (ty.root : Int)) r.n ty := o2.congr (Nat.le_refl _) ndy fun i hi j _ _ => st_i _ _ _ _ (ne_mem (hty i hi) hal)
        have ox2 : OkT (Dn.st N1 a 0 (ty.root : Int)) r.n x := ar.congr (Nat.le_refl _) n3 fun i hi j _ _ => by rw [st_i _ _ _ _ (ne_mem hi n2), c1.out i (fun hh => n4 i hh i (.inr hi) rfl)]
        have hnd2 : (ty.ids ++ a :: x.ids).Nodup := by
          simp only [List.nodup_append, List.nodup_cons, List.mem_cons]
          exact ⟨ndy, ⟨n2, n3⟩, fun i hi j hj => n4 i (hty i hi) j hj⟩
        refine (pull_t h2 hn ⟨a1, a2⟩ oy2 ox2 hnd2 (st_same _ _ _ _) (by rw [st_j _ _ _ _ (by omega), c1.out a hal]; exact a4) ((hv.chg c1).chg (Chg.st (ids := [a]) (by simp) (by omega)))).mono ?_
        rintro e w3 ⟨rfl, N3, ⟨h3, k3⟩, o3, c3, u3⟩
        refine ⟨rfl, hK tx (.node ty a x) N3 w3 ⟨h3, (k1.trans k2).trans k3⟩ ?_ o3 ?_ ?_ ?_⟩
        · refine o1.congr (Nat.le_refl _) ndx fun i hi j _ _ => ?_
          rw [c3.out i, st_i _ _ _ _ (ne_mem (htx i hi) hal)]
          intro hh
          simp only [List.mem_append, List.mem_cons] at hh
          rcases hh with hh | rfl | hh
          · rw [e1] at hi; rw [e2] at hh
            have hz := n1
            rw [← List.take_append_drop k l.ids, List.nodup_append] at hz
            exact hz.2.2 i hi i hh rfl
          · exact hal (htx _ hi)
          · exact n4 i (htx i hi) i (.inr hh) rfl
        · rw [e1, List.take_append_of_le_length hka]
        · simp only [Tr.ids]; rw [e2, List.drop_append_of_le_length hka]
        · refine ((c1.mono ?_).trans (Chg.st (by simp) (by omega))).trans (c3.mono ?_)
          · intro i hi; simp [hi]
          · intro i hi; simp only [List.mem_append, List.mem_cons] at hi ⊢; rcases hi with hi | hi
            · exact .inl (hty i hi)
            · exact .inr hi
      · refine sel_f (by simpa using hka) (nd_rd (j := 1) h a2 rfl (by omega) ?_)
        rw [a4, w64_in (x := (k : Int) - (l.ids.length : Int)) (by omega), w64_in (by omega), show (k : Int) - (l.ids.length : Int) - 1 = ((k - l.ids.length - 1 : Nat) : Int) by omega]
        refine (split_ok (k := k - l.ids.length - 1) (by omega) h hn ar n3 hv).mono ?_
        rintro e w1 ⟨tx, ty, N1, rfl, ⟨h1, k1⟩, o1, o2, e1, e2, c1⟩
        refine ⟨_, _, rfl, nd_at (K := fun q => stW w1 ((q.add _).add 1) _ _) h1 a2 rfl (nd_st (j := 1) h1 a2 rfl (by omega) fun w2 h2 k2 => ?_)⟩
        have hty : ∀ i ∈ ty.ids, i ∈ x.ids := fun i hi => by rw [e2] at hi; exact List.mem_of_mem_drop hi
        have htx : ∀ i ∈ tx.ids, i ∈ x.ids := fun i hi => by rw [e1] at hi; exact List.mem_of_mem_take hi
        have ndy : ty.ids.Nodup := by rw [e2]; exact n3.sublist (List.drop_sublist _ _)
        have ndx : tx.ids.Nodup := by rw [e1]; exact n3.sublist (List.take_sublist _ _)
        have ol2 : OkT (Dn.st N1 a 1 (tx.root : Int)) r.n l := al.congr (Nat.le_refl _) n1 fun i hi j _ _ => by rw [st_i _ _ _ _ (ne_mem hi hal), c1.out i (fun hh => n4 i hi i (.inr hh) rfl)]
        have ox2 : OkT (Dn.st N1 a 1 (tx.root : Int)) r.n tx := o1.congr (Nat.le_refl _) ndx fun i hi j _ _ => st_i _ _ _ _ (ne_mem (htx i hi) n2)
        have hnd2 : (l.ids ++ a :: tx.ids).Nodup := by
          simp only [List.nodup_append, List.nodup_cons, List.mem_cons]
          exact ⟨n1, ⟨fun hh => n2 (htx a hh), ndx⟩, fun i hi j hj => n4 i hi j (by rcases hj with hj | hj; exact .inl hj; exact .inr (htx j hj))⟩
        refine (pull_t h2 hn ⟨a1, a2⟩ ol2 ox2 hnd2 (by rw [st_j _ _ _ _ (by omega), c1.out a n2]; exact a3) (st_same _ _ _ _) ((hv.chg c1).chg (Chg.st (ids := [a]) (by simp) (by omega)))).mono ?_
        rintro e w3 ⟨rfl, N3, ⟨h3, k3⟩, o3, c3, u3⟩
        have ek : k = l.ids.length + (k - l.ids.length - 1 + 1) := by omega
        refine ⟨rfl, hK (.node l a tx) ty N3 w3 ⟨h3, (k1.trans k2).trans k3⟩ o3 ?_ ?_ ?_ ?_⟩
        · refine o2.congr (Nat.le_refl _) ndy fun i hi j _ _ => ?_
          rw [c3.out i, st_i _ _ _ _ (ne_mem (hty i hi) n2)]
          intro hh
          simp only [List.mem_append, List.mem_cons] at hh
          rcases hh with hh | rfl | hh
          · exact n4 i hh i (.inr (hty i hi)) rfl
          · exact n2 (hty _ hi)
          · rw [e2] at hi; rw [e1] at hh
            have hz := n3
            rw [← List.take_append_drop (k - l.ids.length - 1) x.ids, List.nodup_append] at hz
            exact hz.2.2 i hh i hi rfl
        · simp only [Tr.ids]; rw [e1, ek, List.take_length_add_append, List.take_succ_cons]; simp
        · rw [e2, ek, List.drop_length_add_append, List.drop_succ_cons]; simp
        · refine ((c1.mono ?_).trans (Chg.st (by simp) (by omega))).trans (c3.mono ?_)
          · intro i hi; simp [hi]
          · intro i hi; simp only [List.mem_append, List.mem_cons] at hi ⊢; rcases hi with hi | hi | hi
            · exact .inl hi
            · exact .inr (.inl hi)
            · exact .inr (.inr (htx i hi))
    refine sel_f (by simp [Tr.root]; omega) (nd_rd0 h a2 rfl ?_)
    rw [a3]
    by_cases hl0 : l.root = 0
    · have : l.ids.length = 0 := by rw [al.root_pos.1 hl0]; rfl
      refine sel_f (by simp [hl0]) ?_
      exact key _ (by omega) _ fun tx ty N' w' hA o1 o2 e1 e2 hc _ => ⟨tx, ty, N', rfl, hA, o1, o2, e1, e2, hc⟩
    · refine sel_t (by simp; omega) (nd_rd (j := 4) h (al.root_lt (by omega)) rfl (by omega) ?_)
      exact key _ (al.sz hl0) _ fun tx ty N' w' hA o1 o2 e1 e2 hc _ => ⟨tx, ty, N', rfl, hA, o1, o2, e1, e2, hc⟩
end Go.Proofs.Ytkkobfajahmfaaa.Rd
