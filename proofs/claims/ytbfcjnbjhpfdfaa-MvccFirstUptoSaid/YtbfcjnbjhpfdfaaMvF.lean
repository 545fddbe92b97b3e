/- Try, Commit, walked. Conditions: none. -/
import Derived.Test.YtbfcjnbjhpfdfaaMvE
namespace Go.Proofs.Ytbfcjnbjhpfdfaa.Rd
open Go.Dn Go.RowKit
set_option linter.unusedVariables false
set_option maxRecDepth 100000
variable {w : World} {F : Nat → Prop} {a : Nat} {t : Tb} {bl bw : Nat} {L : List Lv} {W : List (Rf × Int)}
theorem try_loop {a bw q p r : Nat} {s : Int} {cs : Array Value} {ta tp : TypeId} {m : List (Rf × Bool)} {W : List (Rf × Int)} {K0 : World → Prop} {Kr : Int → World → Prop} (hcs : cs[3]? = some (.map (some bw))) (har : a ≠ r) (hwr : bw ≠ r) (hpr : p ≠ r) :
    ∀ (N : Nat) (left : List (Rf × Bool)) (cur : Option (Rf × Bool)) (w : World), left.length ≤ N → GI w eR Value.bool okR q r m left cur → HB w a cs ta → GM w eR eI okR bw W → HB w p #[.int .i64 s, .map (some q)] tp →
    (∀ w', Keeps (fun k => k = r) w w' → (∀ x b, (x, b) ∈ left → ∀ v, lk W x = some v → ¬ v > s) → K0 w') →
    (∀ w', Keeps (fun k => k = r) w w' → (∃ x b v, (x, b) ∈ left ∧ lk W x = some v ∧ v > s) → Kr 140 w') →
    f_mvcc_Table_Try.l0 (N + 1) ⟨a, 0, none⟩ (some ⟨p, 0, none⟩) (some ⟨r, 0, none⟩) w K0 Kr
  | N, left, cur, w, hN, hI, ha, hw, hp, hK, hR => by
    unfold f_mvcc_Table_Try.l0
    refine hI.next (fun hl => ⟨false, [], rfl, sel_f rfl ?_⟩) (fun x v w1 hm hI1 hlt hk hsz => ⟨true, [eR x, .bool v], rfl, sel_t rfl (hI1.entry ⟨x.1, x.2, v, rfl, box_rf x fun w2 B2 e2 h2 g2 s2 => drW_intro ?_⟩)⟩) eR_inj
    · subst hl
      exact hK w (.refl _ _) fun x b h => by cases h
    · cases N with
      | zero => omega
      | succ N =>
        have kF : Keeps (fun _ => False) w1 w2.drew := (Keeps.of_below g2).drew
        have hI2 : GI w2.drew eR Value.bool okR q r m (delK left x) (some (x, v)) := hI1.keeps kF id id
        have ha2 := (ha.keeps hk har).keeps kF id
        have hw2 := (hw.keeps hk hwr).keeps kF id
        have hp2 := (hp.keeps hk hpr).keeps kF id
        have hB2 : HB w2.drew B2 _ _ := h2
        have k2 : Keeps (fun k => k = r) w w2.drew := hk.trans' kF fun k _ h => h.elim
        generalize w2.drew = w3 at hI2 ha2 hw2 hp2 hB2 k2
        have hnot : (∀ v', lk W x = some v' → ¬ v' > s) → f_mvcc_Table_Try.l0 (N + 1) ⟨a, 0, none⟩ (some ⟨p, 0, none⟩) (some ⟨r, 0, none⟩) w3 K0 Kr := fun hx => by
          refine try_loop hcs har hwr hpr N _ _ w3 (by omega) hI2 ha2 hw2 hp2 (fun w' k' h' => hK w' (k2.trans k') fun y b hy => ?_) fun w' k' ⟨y, b, u, h1, h2⟩ => hR w' (k2.trans k') ⟨y, b, u, (List.mem_filter.1 h1).1, h2⟩
          by_cases e : y = x
          · subst e; exact hx
          · exact h' y b (List.mem_filter.2 ⟨hy, by simp [e]⟩)
        refine ⟨some bw, (ha2.cell 3).trans hcs, hb_ldB0 hB2 rfl (hb_ldI (j := 1) hB2 rfl (hw2.look2 KTw (x := x) (hI.ok _ (hI.sub _ hm)) (z2 w3) ?_))⟩
        cases hl : lk W x with
        | none =>
          exact ⟨0, false, rfl, sel_f rfl (hnot fun v' h => by rw [hl] at h; cases h)⟩
        | some u =>
          refine ⟨u, true, rfl, sel_t rfl (optB_some rfl (hb_ldI0 hp2 rfl ?_))⟩
          by_cases hgt : u > s
          · exact sel_t (by simpa using hgt) (hR w3 k2 ⟨x, v, u, hm, hl, hgt⟩)
          · refine sel_f (by simpa using hgt) (hnot fun v' h => ?_)
            rw [hl] at h; injection h with h; omega
theorem Try_mv (h : MvT w a bl bw L W t) {n : Int} (hn : W64 n) : Calls Try.prog 24 #[eP a, .int .i64 n] w fun e w' => e = .returned (.int .i64 (t.try_ n)) ∧ Below w.heap.size w w' := by
  apply f_mvcc_Table_Try.ok
  unfold f_mvcc_Table_Try.wp
  refine hb_ldM (j := 2) h.tab rfl (h.lv.look KTl (x := n) hn (z78 w) ?_)
  rcases h.look n with ⟨h1, h2⟩ | ⟨v, x, hv, e, h1, h2, h3, h4⟩
  · rw [h1]
    refine ⟨none, rfl, sel_t rfl ?_⟩
    unfold Tb.try_; rw [h2]; exact ⟨rfl, .refl _ _⟩
  · rw [h1]
    refine ⟨some ⟨v.p, 0, none⟩, rfl, sel_f rfl (optB_some rfl (hb_ldM (j := 1) (h.tx v hv).1 rfl ((h.tx v hv).2.range KTt fun w1 r er sr hI g1 => ⟨some ⟨r, 0, none⟩, rfl, ?_⟩)))⟩
    have hlt : ∀ k, Own a bl bw L k → k < w.heap.size := fun k hk => h.own_lt hk
    have m1 := h.below g1
    have hclash : t.clash x = true ↔ ∃ y b u, (y, b) ∈ v.tm ∧ lk W y = some u ∧ u > v.s := by
      rw [h.wok.clash h2]
      constructor
      · rintro ⟨r, hr, u, hu, hgt⟩
        obtain ⟨b, hb⟩ := (h4 r).2 hr
        exact ⟨r, b, u, hb, hu, by omega⟩
      · rintro ⟨r, b, u, hb, hu, hgt⟩
        exact ⟨r, (h4 r).1 ⟨b, hb⟩, u, hu, by omega⟩
    have hpp := hlt v.p (.inr (.inr (.inr ⟨v, hv, .inl rfl⟩)))
    refine ⟨_, try_loop (cs := #[.int .i64 t.last, .int .i64 t.txs.length, .map (some bl), .map (some bw)]) rfl (by have := hlt a (.inl rfl); omega) (by have := hlt bw (.inr (.inr (.inl rfl))); omega) (by omega) _ _ none w1 (Nat.le_refl _) hI m1.tab m1.wr (m1.tx v hv).1 (fun w2 k2 hno _ => ?_) fun w2 k2 hyes _ => ?_⟩
    · have hc : t.clash x = false := by
        rw [Bool.eq_false_iff]
        intro hc
        obtain ⟨y, b, u, hb, hu, hgt⟩ := hclash.1 hc
        exact hno y b hb u hu hgt
      have g2 : Below w.heap.size w w2 := g1.trans (k2.below (by omega) fun k hk e => by omega)
      have m2 := h.below g2
      refine optB_some rfl (hb_ldM (j := 1) (m2.tx v hv).1 rfl ((m2.tx v hv).2.len KTt ⟨_, rfl, ?_⟩))
      have hz : v.tm.length = 0 ↔ x.tk = [] := by
        rw [List.length_eq_zero_iff]
        constructor
        · intro he
          refine List.eq_nil_iff_forall_not_mem.2 fun r hr => ?_
          obtain ⟨b, hb⟩ := (h4 r).2 hr
          rw [he] at hb; cases hb
        · intro he
          refine List.eq_nil_iff_forall_not_mem.2 fun p hp => ?_
          have := (h4 p.1).1 ⟨p.2, hp⟩
          rw [he] at this; cases this
      by_cases hk : x.tk = []
      · refine sel_f (decide_eq_false (by have := hz.2 hk; omega)) ?_
        unfold Tb.try_; rw [h2]
        simp only [hc]
        rw [if_neg (by simp), if_neg (fun h => h.1 hk)]
        exact ⟨rfl, g2⟩
      · refine sel_t (decide_eq_true (by have : v.tm.length ≠ 0 := fun h => hk (hz.1 h); omega)) (hb_ldI0 m2.tab rfl ?_)
        by_cases hl : mxT ≤ t.last
        · refine sel_t (by simp only [mxT] at hl; simpa using hl) ?_
          unfold Tb.try_; rw [h2]
          simp only [hc]
          rw [if_neg (by simp), if_pos ⟨hk, hl⟩]
          exact ⟨rfl, g2⟩
        · refine sel_f (by simp only [mxT] at hl; simpa using hl) ?_
          unfold Tb.try_; rw [h2]
          simp only [hc]
          rw [if_neg (by simp), if_neg (fun h => hl h.2)]
          exact ⟨rfl, g2⟩
    · have hc : t.clash x = true := hclash.2 hyes
      unfold Tb.try_; rw [h2]
      simp only
      rw [if_pos hc]
      exact ⟨rfl, g1.trans (k2.below (by omega) fun k hk e => by omega)⟩
theorem Try_ok (h : TBL w F a t) {n : Int} (hn : W64 n) : Calls Try.prog 24 #[eP a, .int .i64 n] w fun e w' => e = .returned (.int .i64 (t.try_ n)) ∧ Below w.heap.size w w' := by
  obtain ⟨bl, bw, L, W, h, hF⟩ := h
  exact Try_mv h hn
/-! ### Commit -/
theorem commit_loop {a bw q r : Nat} {l1 : Int} {cs : Array Value} {ta : TypeId} {m : List (Rf × Bool)} {K0 : World → Prop} (hcs : cs[3]? = some (.map (some bw))) (hc0 : cs[0]? = some (.int .i64 l1)) (har : a ≠ r) (hwr : bw ≠ r) (haw : a ≠ bw) (hqw : q ≠ bw) :
    ∀ (N : Nat) (left : List (Rf × Bool)) (cur : Option (Rf × Bool)) (w : World) (W : List (Rf × Int)), left.length ≤ N → GI w eR Value.bool okR q r m left cur → HB w a cs ta → GM w eR eI okR bw W →
    (∀ w' W', Keeps (fun k => k = r ∨ k = bw) w w' → GM w' eR eI okR bw W' → (∀ x, lk W' x = if (∃ b, (x, b) ∈ left) then some l1 else lk W x) → K0 w') →
    f_mvcc_Table_Commit.l1 (N + 1) ⟨a, 0, none⟩ (some ⟨r, 0, none⟩) w K0
  | N, left, cur, w, W, hN, hI, ha, hw, hK => by
    unfold f_mvcc_Table_Commit.l1
    refine hI.next (fun hl => ⟨false, [], rfl, sel_f rfl ?_⟩) (fun x v w1 hm hI1 hlt hk hsz => ⟨true, [eR x, .bool v], rfl, sel_t rfl (hI1.entry ⟨x.1, x.2, v, rfl, box_rf x fun w2 B2 e2 h2 g2 s2 => drW_intro ?_⟩)⟩) eR_inj
    · subst hl
      exact hK w W (.refl _ _) hw fun x => by rw [if_neg]; rintro ⟨b, h⟩; cases h
    · cases N with
      | zero => omega
      | succ N =>
        have kF : Keeps (fun _ => False) w1 w2.drew := (Keeps.of_below g2).drew
        have hI2 : GI w2.drew eR Value.bool okR q r m (delK left x) (some (x, v)) := hI1.keeps kF id id
        have ha2 := (ha.keeps hk har).keeps kF id
        have hw2 := (hw.keeps hk hwr).keeps kF id
        have hB2 : HB w2.drew B2 _ _ := h2
        have k2 : Keeps (fun k => k = r) w w2.drew := hk.trans' kF fun k _ h => h.elim
        generalize w2.drew = w3 at hI2 ha2 hw2 hB2 k2
        refine ⟨some bw, (ha2.cell 3).trans hcs, hb_ldB0 hB2 rfl (hb_ldI (j := 1) hB2 rfl (hb_ldI0 ha2 hc0 (hw2.upd KTw (x := x) (hI.ok _ (hI.sub _ hm)) (v := l1) fun w4 hw4 k4 => ?_)))⟩
        refine commit_loop hcs hc0 har hwr haw hqw N _ _ w4 _ (by omega) (hI2.keeps k4 hqw (Ne.symm hwr)) (ha2.keeps k4 haw) hw4 fun w5 W5 k5 hw5 h5 => hK w5 W5 (((k2.mono fun k _ h => .inl h).trans (k4.mono fun k _ h => .inr h)).trans k5) hw5 fun y => ?_
        rw [h5, lk_putK]
        by_cases e : x = y
        · subst e
          rw [if_pos (⟨v, hm⟩ : ∃ b, (x, b) ∈ left), if_pos rfl]
          split <;> rfl
        · rw [if_neg e]
          have : (∃ b, (y, b) ∈ delK left x) ↔ ∃ b, (y, b) ∈ left := exists_congr fun b => by
            unfold delK
            rw [List.mem_filter]
            simp [Ne.symm e]
          by_cases hy : ∃ b, (y, b) ∈ left
          · rw [if_pos hy, if_pos (this.2 hy)]
          · rw [if_neg hy, if_neg (fun h => hy (this.1 h))]
theorem Commit_ok (h : TBL w F a t) {n : Int} (hn : W64 n) : Calls Try.prog 21 #[eP a, .int .i64 n] w fun e w' => e = .returned (.tuple #[.int .i64 (t.commit n).2.1, .int .i64 (t.commit n).2.2]) ∧
    ∃ F', TBL w' F' a (t.commit n).1 ∧ Keeps F w w' ∧ ∀ k, F' k → F k := by
  have h0 := h
  obtain ⟨bl, bw, L, W, h, hF⟩ := h
  apply f_mvcc_Table_Commit.ok
  unfold f_mvcc_Table_Commit.wp
  refine hb_ldM (j := 2) h.tab rfl (h.lv.look KTl (x := n) hn (z78 w) ?_)
  rcases h.look n with ⟨h1, h2⟩ | ⟨v, x, hv, e, h1, h2, h3, h4⟩
  · rw [h1]
    refine ⟨none, rfl, (Try_mv h hn).mono fun e w1 he => ?_⟩
    obtain ⟨rfl, g1⟩ := he
    refine ⟨_, rfl, sel_f rfl ?_⟩
    unfold f_mvcc_Table_Commit.j0
    have ht : t.try_ n = 141 := by unfold Tb.try_; rw [h2]
    rw [ht]
    refine sel_t (by decide) fun _ => ?_
    unfold Tb.commit; rw [h2]
    exact ⟨rfl, F, h0.below g1, .of_below g1, fun _ => id⟩
  · rw [h1]
    refine ⟨some ⟨v.p, 0, none⟩, rfl, (Try_mv h hn).mono fun e w1 he => ?_⟩
    obtain ⟨rfl, g1⟩ := he
    have m1 := h.below g1
    refine ⟨_, rfl, sel_t rfl ((end_ok m1 h2).mono fun e w2 he => ?_)⟩
    obtain ⟨rfl, W2, m2, k2⟩ := he
    refine ⟨rfl, ?_⟩
    have hp2 := (m1.tx v hv).1.keeps k2 fun e => e.elim (h.pl hv) (h.pw hv)
    have hq2 := (m1.tx v hv).2.keeps k2 fun e => e.elim (h.lq hv) (h.wq hv)
    have hsub : ∀ k, Own a bl bw (L.filter fun v => !decide (v.n = n)) k → F k := fun k hk => (hF k).2 (by
      rcases hk with hk | hk | hk | ⟨v, hv, hk⟩
      · exact .inl hk
      · exact .inr (.inl hk)
      · exact .inr (.inr (.inl hk))
      · exact .inr (.inr (.inr ⟨v, (List.mem_filter.1 hv).1, hk⟩)))
    have k02 : Keeps F w w2 := (Keeps.of_below g1).trans' k2 fun k _ hk => (hF k).2 (hk.elim (fun h => .inr (.inl h)) fun h => .inr (.inr (.inl h)))
    have hlt : ∀ k, Own a bl bw L k → k < w.heap.size := fun k hk => h.own_lt hk
    unfold f_mvcc_Table_Commit.j0
    by_cases ht : t.try_ n = 0
    · refine sel_f (by simp [ht]) (optB_some rfl (hb_ldM (j := 1) hp2 rfl (hq2.len KTt ⟨_, rfl, ?_⟩)))
      have hz : v.tm.length = 0 ↔ x.tk = [] := by
        rw [List.length_eq_zero_iff]
        constructor
        · intro he
          refine List.eq_nil_iff_forall_not_mem.2 fun r hr => ?_
          obtain ⟨b, hb⟩ := (h4 r).2 hr
          rw [he] at hb; cases hb
        · intro he
          refine List.eq_nil_iff_forall_not_mem.2 fun p hp => ?_
          have := (h4 p.1).1 ⟨p.2, hp⟩
          rw [he] at this; cases this
      by_cases hk : x.tk = []
      · refine sel_t (beq_iff_eq.2 (by have := hz.2 hk; omega)) (optB_some rfl (hb_ldI0 hp2 rfl fun _ => ?_))
        unfold Tb.commit; rw [h2]
        simp only
        rw [if_neg (by omega), if_pos hk, ← h3]
        exact ⟨rfl, _, ⟨bl, bw, _, W2, m2, fun _ => Iff.rfl⟩, k02, hsub⟩
      · have hcl := (Tb.try_zero h2 ht).2.resolve_left hk
        have hl0 := h.ok.l0
        refine sel_f (beq_false_of_ne (by have : v.tm.length ≠ 0 := fun h => hk (hz.1 h); omega)) (hb_ldI0 m2.tab rfl (hb_st0 m2.tab (by simp) fun w3 t3 k3 => optB_some rfl ?_))
        have e3 : (t.put n { x with live := false }).last = t.last := rfl
        rw [e3] at t3
        rw [w64_in (by simp only [mxT] at hcl; omega)] at t3
        have t3 : HB w3 a #[.int .i64 (t.last + 1), .int .i64 ((t.put n { x with live := false }).txs.length : Int), .map (some bl), .map (some bw)] 60 := t3
        have hp3 := hp2.keeps k3 (h.pa hv)
        have hq3 := hq2.keeps k3 (h.aq hv)
        refine hb_ldM (j := 1) hp3 rfl (hq3.range KTt fun w4 r er sr hI g4 => ⟨some ⟨r, 0, none⟩, rfl, ?_⟩)
        have s3 : w.heap.size ≤ w3.heap.size := by have := k02.size; have := k3.size; omega
        have hr : ∀ k, Own a bl bw L k → k ≠ r := fun k hk => by have := hlt k hk; omega
        have wr4 := (m2.wr.keeps k3 (Ne.symm h.aw)).below g4
        refine ⟨_, commit_loop (l1 := t.last + 1) (cs := #[.int .i64 (t.last + 1), .int .i64 ((t.put n { x with live := false }).txs.length : Int), .map (some bl), .map (some bw)]) rfl rfl (hr a (.inl rfl)) (hr bw (.inr (.inr (.inl rfl)))) h.aw (h.wq hv) _ _ none w4 W2 (Nat.le_refl _) hI (t3.below g4) wr4 fun w5 W5 k5 hw5 h5 _ => ?_⟩
        have kk : Keeps (fun k => k = a ∨ k = bw) w2 w5 := ((k3.mono fun k _ h => .inl h).trans' (Keeps.of_below (S := fun _ => False) g4) fun k _ h => h.elim).trans' k5 fun k hk e => e.elim (fun e => by have := k3.size; have := g4.size; omega) .inr
        have m5 : MvT w5 a bl bw (L.filter fun v => !decide (v.n = n)) W5 ⟨(t.put n { x with live := false, at_ := t.last + 1 }).txs, t.last + 1⟩ := by
          have hf : ∀ u ∈ L.filter fun v => !decide (v.n = n), u ∈ L := fun u hu => (List.mem_filter.1 hu).1
          refine ⟨?_, m2.lv.keeps kk fun e => e.elim (fun e => h.al e.symm) h.lbw, hw5, fun u hu => ⟨(m2.tx u hu).1.keeps kk fun e => e.elim (h.pa (hf u hu)) (h.pw (hf u hu)), (m2.tx u hu).2.keeps kk fun e => e.elim (h.aq (hf u hu)) (h.wq (hf u hu))⟩, m2.ap, h.ne, fun u hu => ?_, fun k y hy => ?_, h.ok.over h2 (Int.le_refl _) (by omega) (by omega), ?_⟩
          · have e6 : (t.put n { x with live := false, at_ := t.last + 1 }).txs.length = (t.put n { x with live := false }).txs.length := by simp [Tb.put]
            simp only
            rw [e6]
            exact (t3.below g4).keeps k5 fun e => e.elim (hr a (.inl rfl)) h.aw
          · obtain ⟨y, hy, h6⟩ := m2.mem u hu
            refine ⟨y, ?_, h6⟩
            rw [get_over h2]
            rw [Tb.get_put h2] at hy
            by_cases e7 : u.n = n
            · rw [if_pos e7] at hy; simp at hy
            · rw [if_neg e7] at hy ⊢; exact hy
          · refine m2.all k y ?_
            rw [get_over h2] at hy
            rw [Tb.get_put h2]
            by_cases e7 : k = n
            · rw [if_pos e7] at hy; cases hy
            · rw [if_neg e7] at hy ⊢; exact hy
          · refine WOk.commit h.ok h2 m2.wok fun y => ?_
            rw [h5]
            by_cases hy : y ∈ x.tk
            · rw [if_pos hy, if_pos ((h4 y).2 hy)]
            · rw [if_neg hy, if_neg fun h => hy ((h4 y).1 h)]
        refine (forget_ok m5).mono fun e w6 he => ?_
        obtain ⟨rfl, W6, m6, k6⟩ := he
        refine ⟨rfl, hb_ldI0 m6.tab rfl fun _ => ?_⟩
        unfold Tb.commit; rw [h2]
        simp only
        rw [if_neg (by omega), if_neg hk]
        refine ⟨rfl, _, ⟨bl, bw, _, W6, m6, fun _ => Iff.rfl⟩, (k02.trans' kk fun k _ hk => (hF k).2 ?_).trans' k6 fun k _ hk => (hF k).2 (.inr (.inr (.inl hk))), hsub⟩
        rcases hk with hk | hk
        · exact .inl hk
        · exact .inr (.inr (.inl hk))
    · refine sel_t (by simp [ht]) fun _ => ?_
      unfold Tb.commit; rw [h2]
      simp only
      rw [if_pos ht]
      exact ⟨rfl, _, ⟨bl, bw, _, W2, m2, fun _ => Iff.rfl⟩, k02, hsub⟩
end Go.Proofs.Ytbfcjnbjhpfdfaa.Rd
