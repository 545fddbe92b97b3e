/- New, Last, Horizon, Start, forget, end, Abort, walked. Conditions: none. -/
import Derived.Test.YtbfcjnbjhpfdfaaMvC
namespace Go.Dn
open Go.RowKit
set_option linter.unusedVariables false
theorem hb_ldM {w : World} {b : Nat} {cs : Array Value} {t : TypeId} (h : HB w b cs t) {j : Nat} {x : Option Nat} (hj : cs[j]? = some (.map x)) {K : Option Nat → Prop} (hk : K x) : ldM w ((⟨b, 0, none⟩ : Addr).add j) K := ⟨x, (h.cell j).trans hj, hk⟩
theorem hb_ldB0 {w : World} {b : Nat} {cs : Array Value} {t : TypeId} (h : HB w b cs t) {x : Bool} (hj : cs[0]? = some (.bool x)) {K : Bool → Prop} (hk : K x) : ldB w (⟨b, 0, none⟩ : Addr) K := ⟨x, (h.cell 0).trans hj, hk⟩
theorem box_rf {w : World} {t : TypeId} {K : Nat → World → Prop} (r : Rf) (h : ∀ w' b, b = w.heap.size → HB w' b #[.bool r.1, .int .i64 r.2] t → Below w.heap.size w w' → w.heap.size < w'.heap.size → K b w') :
    alW w (.cells #[.bool false, .int .i64 (0 : Int)] t) fun B w1 => stW w1 (⟨B, 0, none⟩ : Addr) (.bool r.1) fun w2 => stW w2 ((⟨B, 0, none⟩ : Addr).add 1) (.int .i64 r.2) fun w3 => K B w3 := by
  refine al_new fun w1 b e s1 hb hbl => hb_st0 hb (by decide) fun w2 hb2 k2 => hb_st (j := 1) hb2 (by simp) fun w3 hb3 k3 => h w3 b e hb3 ?_ ?_
  · exact hbl.trans ((k2.trans k3).below (by omega) (fun k hk => by subst e; omega))
  · have := k2.size; have := k3.size; omega
def Hs (w : World) (w' : World) : Prop := Below w.heap.size w w'
end Go.Dn
namespace Go.Proofs.Ytbfcjnbjhpfdfaa.Rd
open Go.Dn Go.RowKit
set_option linter.unusedVariables false
set_option maxRecDepth 100000
abbrev MvT (w : World) (a bl bw : Nat) (L : List Lv) (W : List (Rf × Int)) (t : Tb) : Prop := Mv w a bl bw 60 81 L W t
theorem New_ok (w : World) (l : Int) : Calls Try.prog 8 #[.int .i64 l] w fun e w' => ∃ F a, e = .returned (eP a) ∧ TBL w' F a (Tb.new l) ∧ Below w.heap.size w w' ∧ ∀ k, F k → w.heap.size ≤ k := by
  apply f_mvcc_New.ok
  unfold f_mvcc_New.wp
  refine alW_intro (alW_intro (al_new fun w5 b5 e5 s5 h5 g5 => ?_))
  have o1 : GM (w.alloc (.map #[] 0)) eI eP W64 w.heap.size [] := GM.new w
  generalize hw2 : w.alloc (.map #[] 0) = w2 at *
  have k2 : Below w.heap.size w w2 := by rw [← hw2]; exact (Below.refl _ _).alloc (Nat.le_refl _) _
  have s2 : w2.heap.size = w.heap.size + 1 := by rw [← hw2]; simp
  have o2 : GM (w2.alloc (.map #[] 0)) eR eI okR w2.heap.size [] := GM.new w2
  generalize hw3 : w2.alloc (.map #[] 0) = w3 at *
  have k3 : Below w2.heap.size w2 w3 := by rw [← hw3]; exact (Below.refl _ _).alloc (Nat.le_refl _) _
  have s3 : w3.heap.size = w2.heap.size + 1 := by rw [← hw3]; simp
  refine ⟨_, b5, rfl, ⟨w.heap.size, w2.heap.size, [], [], ⟨h5, (o1.below k3).below g5, o2.below g5, by simp, by simp; omega, by decide, by simp, fun n x hx => ?_, TbOk.new l, WOk.new l⟩, fun _ => Iff.rfl⟩, ?_, ?_⟩
  · have := Tb.get_mem hx
    cases this
  · exact (k2.trans (k3.mono (by omega))).trans (g5.mono (by omega))
  · rintro k (rfl | rfl | rfl | ⟨v, hv, _⟩)
    · omega
    · exact Nat.le_refl _
    · omega
    · cases hv
variable {w : World} {F : Nat → Prop} {a : Nat} {t : Tb} {bl bw : Nat} {L : List Lv} {W : List (Rf × Int)}
theorem Last_ok (h : TBL w F a t) : Calls Try.prog 13 #[eP a] w fun e w' => e = .returned (.int .i64 t.last) ∧ w' = w := by
  obtain ⟨bl, bw, L, W, h, hF⟩ := h
  apply f_mvcc_Table_Last.ok
  exact hb_ldI0 h.tab rfl ⟨rfl, rfl⟩
theorem Start_ok (h : TBL w F a t) {n : Int} (hn : W64 n) : Calls Try.prog 20 #[eP a, .int .i64 n] w fun e w' => e = .returned (.tuple #[.int .i64 (t.startOf n).1, .int .i64 (t.startOf n).2]) ∧ w' = w := by
  obtain ⟨bl, bw, L, W, h, hF⟩ := h
  apply f_mvcc_Table_Start.ok
  unfold f_mvcc_Table_Start.wp
  refine hb_ldM (j := 2) h.tab rfl (h.lv.look KTl (x := n) hn (z78 w) ?_)
  rcases h.look n with ⟨h1, h2⟩ | ⟨v, x, hv, e, h1, h2, h3, h4⟩
  · rw [h1]
    refine ⟨none, rfl, sel_t rfl ?_⟩
    unfold Tb.startOf; rw [h2]; exact ⟨rfl, rfl⟩
  · rw [h1]
    refine ⟨some ⟨v.p, 0, none⟩, rfl, sel_f rfl (optB_some rfl (hb_ldI0 (h.tx v hv).1 rfl ?_))⟩
    unfold Tb.startOf; rw [h2, ← h3]; exact ⟨rfl, rfl⟩
theorem hor_loop {b r : Nat} {m : List (Int × Nat)} {st : Nat → Int} {K0 : Int → World → Prop} : ∀ (N : Nat) (left : List (Int × Nat)) (cur : Option (Int × Nat)) (w : World) (h : Int), left.length ≤ N → GI w eI eP W64 b r m left cur →
    (∀ p ∈ m, w.cell? ⟨p.2, 0, none⟩ = some (.int .i64 (st p.2)) ∧ p.2 ≠ r) →
    (∀ h' w', Keeps (fun k => k = r) w w' → (h' ≤ h ∧ (∀ p ∈ left, h' ≤ st p.2) ∧ (h' = h ∨ ∃ p ∈ left, st p.2 = h')) → K0 h' w') → f_mvcc_Table_Horizon.l0 (N + 1) h (some ⟨r, 0, none⟩) w K0
  | N, left, cur, w, h, hN, hI, hc, hK => by
    unfold f_mvcc_Table_Horizon.l0
    refine hI.next (fun hl => ⟨false, [], rfl, sel_f rfl ?_⟩) (fun x v w' hm hI' hlt hk hsz => ⟨true, [eI x, eP v], rfl, sel_t rfl (hI'.entry ⟨x, some ⟨v, 0, none⟩, rfl, optB_some rfl ?_⟩)⟩) eI_inj
    · subst hl
      exact hK h w (.refl _ _) ⟨Int.le_refl _, by simp, .inl rfl⟩
    · cases N with
      | zero => omega
      | succ N =>
        have hcv := hc _ (hI.sub _ hm)
        refine ldI_intro (hk.cell hcv.1 (by exact hcv.2)) (hor_loop N (delK left x) _ w' _ (by omega) hI' (fun p hp => ⟨hk.cell (hc p hp).1 (by exact (hc p hp).2), (hc p hp).2⟩) fun h' w2 hk2 hh => hK h' w2 (hk.trans hk2) ?_)
        obtain ⟨h1, h2, h3⟩ := hh
        refine ⟨by split at h1 <;> omega, fun p hp => ?_, ?_⟩
        · by_cases e : p.1 = x
          · have hpv : p = (x, v) := by
              have h5 := hI.nd
              have h6 := lk_mem h5 (hI.sub p hp)
              have h7 := lk_mem h5 (hI.sub _ hm)
              rw [e] at h6
              have h8 : p.2 = v := Option.some.inj (h6.symm.trans h7)
              exact Prod.ext e h8
            rw [hpv]
            have h1' : h' ≤ (if st v < h then st v else h) := h1
            show h' ≤ st v
            split at h1' <;> omega
          · exact h2 p (List.mem_filter.2 ⟨hp, by simp [e]⟩)
        · rcases h3 with h3 | ⟨p, hp, h3⟩
          · split at h3
            · exact .inr ⟨(x, v), hm, h3.symm⟩
            · exact .inl h3
          · exact .inr ⟨p, (List.mem_filter.1 hp).1, h3⟩
theorem Horizon_mv (h : MvT w a bl bw L W t) : Calls Try.prog 14 #[eP a] w fun e w' => e = .returned (.int .i64 t.hor) ∧ Below w.heap.size w w' := by
  apply f_mvcc_Table_Horizon.ok
  unfold f_mvcc_Table_Horizon.wp
  refine hb_ldI0 h.tab rfl (hb_ldM (j := 2) h.tab rfl (h.lv.range KTl fun w' r er sr hI hb => ⟨some ⟨r, 0, none⟩, rfl, ?_⟩))
  -- what a block tells of its start
  have hst : ∃ st : Nat → Int, ∀ v ∈ L, st v.p = v.s := by
    refine ⟨fun p => match L.find? (fun v => v.p == p) with | some v => v.s | none => 0, fun v hv => ?_⟩
    cases hf : L.find? (fun u => u.p == v.p) with
    | none => exact absurd (List.find?_eq_none.1 hf v hv) (by simp)
    | some u =>
      have h1 := List.mem_of_find?_eq_some hf
      have h2 := List.find?_some hf
      have h2 : u.p = v.p := by simpa using h2
      have h3 := (h.tx u h1).1
      have h4 := (h.tx v hv).1
      rw [h2] at h3
      unfold HB at h3 h4
      rw [h3] at h4
      injection h4 with h4; injection h4 with h4
      have h5 := congrArg (·[0]?) h4
      simp only [hf]
      simpa using h5
  obtain ⟨st, hst⟩ := hst
  refine ⟨_, hor_loop (st := st) _ _ none w' t.last (Nat.le_refl _) hI (fun p hp => ?_) fun h' w2 hk hh _ => ⟨?_, hb.trans (hk.below (by omega) (fun k hk' => by omega))⟩⟩
  · obtain ⟨v, hv, rfl⟩ := List.mem_map.1 hp
    have h1 := ((h.tx v hv).1.below hb).cell 0
    have h2 := (h.tx v hv).1.lt
    simp only
    rw [hst v hv]
    exact ⟨h1, by omega⟩
  · have e : h' = t.hor := by
      refine IsHor.uniq (t := t) ⟨hh.1, fun n x hx => ?_, ?_⟩ t.hor_is
      · obtain ⟨v, hv, e⟩ := h.all n x hx
        obtain ⟨x', h1, h2, _⟩ := h.mem v hv
        rw [e, hx] at h1; injection h1 with h1; subst h1
        have := hh.2.1 (v.n, v.p) (List.mem_map.2 ⟨v, hv, rfl⟩)
        simp only at this
        rw [hst v hv] at this; omega
      · rcases hh.2.2 with h1 | ⟨p, hp, h1⟩
        · exact .inl h1
        · obtain ⟨v, hv, rfl⟩ := List.mem_map.1 hp
          obtain ⟨x', h3, h4, _⟩ := h.mem v hv
          simp only at h1
          rw [hst v hv] at h1
          exact .inr ⟨v.n, x', h3, by omega⟩
    rw [e]
theorem Horizon_ok (h : TBL w F a t) : Calls Try.prog 14 #[eP a] w fun e w' => e = .returned (.int .i64 t.hor) ∧ Below w.heap.size w w' := by
  obtain ⟨bl, bw, L, W, h, hF⟩ := h
  exact Horizon_mv h
/-! ### forget -/
theorem old_ok {B : Nat} {h : Int} (hB : HB w B #[.int .i64 h] 2) (r : Rf) (x : Int) : Calls Try.prog 41 #[eR r, .int .i64 x, .pointer (some ⟨B, 0, none⟩)] w fun e w' => e = .returned (.bool (decide (x ≤ h))) ∧ Below w.heap.size w w' := by
  apply f_mvcc_Table_forget_1.ok
  refine al_new fun w1 b e s1 hb hbl => hb_ldI0 (hB.below hbl) rfl ⟨rfl, hbl⟩
theorem del_loop {b r B : Nat} {h : Int} {K0 : World → Prop} : ∀ (N : Nat) (m left : List (Rf × Int)) (cur : Option (Rf × Int)) (w : World), left.length ≤ N → GI w eR eI okR b r m left cur → HB w B #[.int .i64 h] 2 → B ≠ b → B ≠ r →
    (∀ m' w', Keeps (fun k => k = r ∨ k = b) w w' → GM w' eR eI okR b m' → (∀ x v, lk m' x = some v ↔ lk m x = some v ∧ ((x, v) ∈ left → h < v)) → K0 w') → f_api_Ref_int64.l0 (N + 1) (some b) ⟨B, 0, none⟩ (some ⟨r, 0, none⟩) w K0
  | N, m, left, cur, w, hN, hI, hB, hBb, hBr, hK => by
    unfold f_api_Ref_int64.l0
    refine hI.next (fun hl => ⟨false, [], rfl, sel_f rfl ?_⟩) (fun x v w1 hm hI1 hlt hk hsz => ⟨true, [eR x, eI v], rfl, sel_t rfl (hI1.entry ⟨x.1, x.2, v, rfl, box_rf x fun w2 B2 e2 h2 g2 s2 => ?_⟩)⟩) eR_inj
    · subst hl
      exact hK m w (.refl _ _) hI.gm fun x v => ⟨fun h => ⟨h, fun h => by cases h⟩, fun h => h.1⟩
    · cases N with
      | zero => omega
      | succ N =>
        have hI2 := hI1.below g2
        have hB2 := (hB.keeps hk hBr).below g2
        refine hb_ldB0 h2 rfl (hb_ldI (j := 1) h2 rfl ((old_ok hB2 x v).mono fun e w3 he => ?_))
        obtain ⟨rfl, g3⟩ := he
        have hI3 := hI2.below g3
        have hB3 := hB2.below g3
        have h3 := h2.below g3
        have k13 : Keeps (fun k => k = r ∨ k = b) w w3 := ((hk.trans' (Keeps.of_below (S := fun _ => False) g2) (fun k _ h => h.elim)).trans' (Keeps.of_below (S := fun _ => False) g3) (fun k _ h => h.elim)).mono fun k _ h => .inl h
        refine ⟨_, rfl, ?_⟩
        by_cases hle : v ≤ h
        · refine sel_t (by simpa using hle) (hb_ldB0 h3 rfl (hb_ldI (j := 1) h3 rfl (hI3.del KTw fun w4 hI4 hk4 => ⟨rfl, ?_⟩)))
          refine del_loop N _ _ none w4 (by omega) hI4 (hB3.keeps hk4 hBb) hBb hBr fun m' w5 hk5 hg5 hl5 => hK m' w5 ((k13.trans (hk4.mono fun k _ h => .inr h)).trans hk5) hg5 fun y u => ?_
          rw [hl5, lk_delK]
          by_cases e : x = y
          · subst e
            rw [if_pos rfl]
            refine ⟨fun h => (by cases h.1), fun h => ?_⟩
            have h7 := lk_mem hI.nd (hI.sub _ hm)
            rw [h7] at h
            injection h.1 with h1
            have := h.2 (h1 ▸ hm)
            omega
          · rw [if_neg e]
            have : (y, u) ∈ delK left x ↔ (y, u) ∈ left := by
              unfold delK
              rw [List.mem_filter]
              simp [Ne.symm e]
            rw [this]
        · refine sel_f (by simpa using hle) ?_
          refine del_loop N _ _ _ w3 (by omega) hI3 hB3 hBb hBr fun m' w5 hk5 hg5 hl5 => hK m' w5 (k13.trans hk5) hg5 fun y u => ?_
          rw [hl5]
          refine and_congr_right fun hlk => ?_
          by_cases e : x = y
          · subst e
            have h7 := lk_mem hI.nd (hI.sub _ hm)
            rw [h7] at hlk
            injection hlk with hlk; subst hlk
            exact ⟨fun _ _ => by omega, fun _ _ => by omega⟩
          · have : (y, u) ∈ delK left x ↔ (y, u) ∈ left := by
              unfold delK
              rw [List.mem_filter]
              simp [Ne.symm e]
            rw [this]
theorem forget_ok (h : MvT w a bl bw L W t) : Calls Try.prog 34 #[eP a] w fun e w' => e = .returned (.tuple #[]) ∧ ∃ W', MvT w' a bl bw L W' t ∧ Keeps (fun k => k = bw) w w' := by
  apply f_mvcc_Table_forget.ok
  unfold f_mvcc_Table_forget.wp
  refine (Horizon_mv h).mono fun e w1 he => ?_
  obtain ⟨rfl, g1⟩ := he
  refine ⟨_, rfl, al_new fun w2 B eB s2 hB g2 => hb_st0 hB (by decide) fun w3 hB3 k3 => ?_⟩
  have s1 := g1.size
  have h1 := h.below g1
  have h2 := h1.below g2
  have hlt : ∀ k, Own a bl bw L k → k < w.heap.size := fun k hk => h.own_lt hk
  have h3 := h2.keeps k3 fun k hk e => by have := hlt k hk; omega
  refine hb_ldM (j := 3) h3.tab rfl ?_
  have hB3 : HB w3 B #[.int .i64 t.hor] 2 := hB3
  have k0 : Keeps (fun _ => False) w w3 := (Keeps.of_below (g1.trans (g2.mono s1))).trans' k3 fun k hk e => by omega
  have key : Calls Try.prog 40 #[.map (some bw), .func (.func 41) #[] #[.pointer (some ⟨B, 0, none⟩)]] w3 fun e w' => e = .returned (.tuple #[]) ∧ ∃ W', MvT w' a bl bw L W' t ∧ Keeps (fun k => k = bw) w w' := by
    apply f_api_Ref_int64.ok
    unfold f_api_Ref_int64.wp
    have hBl := hB3.lt
    have hbw := h3.wr.lt
    refine h3.wr.range KTw fun w4 r er sr hI g4 => ⟨some ⟨r, 0, none⟩, rfl, _, del_loop _ _ _ none w4 (Nat.le_refl _) hI (hB3.below g4) (fun e => h3.wr.not_cells (e ▸ hB3)) (by omega) fun m' w5 hk5 hg5 hl5 _ => ⟨rfl, m', ?_, ?_⟩⟩
    · have h4 := h3.below g4
      have hs : ∀ k, Own a bl bw L k → k ≠ bw → ¬ (k = r ∨ k = bw) := by
        rintro k hk hne (e | e)
        · have := hlt k hk; have := k0.size; omega
        · exact hne e
      refine { h4 with
        tab := h4.tab.keeps hk5 (hs _ (.inl rfl) h.aw)
        lv := h4.lv.keeps hk5 (hs _ (.inr (.inl rfl)) h.lbw)
        wr := hg5
        tx := fun v hv => ⟨(h4.tx v hv).1.keeps hk5 (hs _ (.inr (.inr (.inr ⟨v, hv, .inl rfl⟩))) (h.pw hv)), (h4.tx v hv).2.keeps hk5 (hs _ (.inr (.inr (.inr ⟨v, hv, .inr rfl⟩))) (h.wq hv))⟩
        wok := h.wok.drop fun x v => ?_ }
      rw [hl5]
      refine ⟨fun h => ⟨h.1, h.2 (lk_some h.1)⟩, fun h => ⟨h.1, fun _ => h.2⟩⟩
    · have k4 : Keeps (fun k => k = bw) w w4 := (k0.mono fun k _ h => h.elim).trans' (Keeps.of_below (S := fun _ => False) g4) fun k _ h => h.elim
      refine k4.trans' hk5 fun k hk e => ?_
      rcases e with e | e
      · have := k0.size; omega
      · exact e
  exact key.mono fun e w' he => ⟨he.1, rfl, he.2⟩
/-! ### end, Abort -/
theorem map_filter_del (L : List Lv) (n : Int) : delK (L.map fun v => (v.n, v.p)) n = (L.filter fun v => !decide (v.n = n)).map fun v => (v.n, v.p) := by
  unfold delK
  rw [List.filter_map]; rfl
theorem end_ok (h : MvT w a bl bw L W t) {n : Int} {x : Tx} (hx : t.get n = some x) : Calls Try.prog 33 #[eP a, .int .i64 n] w fun e w' => e = .returned (.tuple #[]) ∧
    ∃ W', MvT w' a bl bw (L.filter fun v => !decide (v.n = n)) W' (t.put n { x with live := false }) ∧ Keeps (fun k => k = bl ∨ k = bw) w w' := by
  have hn : W64 n := by
    obtain ⟨v, hv, e⟩ := h.all n x hx
    exact e ▸ h.lv.ok (v.n, v.p) (List.mem_map.2 ⟨v, hv, rfl⟩)
  apply f_mvcc_Table_end.ok
  unfold f_mvcc_Table_end.wp
  refine hb_ldM (j := 2) h.tab rfl (h.lv.del KTl (x := n) hn fun w1 hg1 k1 => ⟨rfl, ?_⟩)
  rw [map_filter_del] at hg1
  have hsub : ∀ v ∈ L.filter fun v => !decide (v.n = n), v ∈ L ∧ v.n ≠ n := fun v hv => by
    have := List.mem_filter.1 hv
    exact ⟨this.1, by simpa using this.2⟩
  have h1 : MvT w1 a bl bw (L.filter fun v => !decide (v.n = n)) W (t.put n { x with live := false }) := by
    refine ⟨?_, hg1, h.wr.keeps k1 (Ne.symm h.lbw), fun v hv => ⟨(h.tx v (hsub v hv).1).1.keeps k1 (h.pl (hsub v hv).1), (h.tx v (hsub v hv).1).2.keeps k1 (h.lq (hsub v hv).1)⟩, ?_, h.ne, fun v hv => ?_, fun m y hy => ?_, h.ok.end_ hx, h.wok.over h.ok hx⟩
    · have := h.tab.keeps k1 h.al
      have e : (t.put n { x with live := false }).txs.length = t.txs.length := by simp [Tb.put]
      rw [e]; exact this
    · refine h.ap.sublist ?_
      exact ((List.filter_sublist.map Lv.q).cons_cons bw).cons_cons bl
    · obtain ⟨y, h2, h3⟩ := h.mem v (hsub v hv).1
      exact ⟨y, by rw [Tb.get_put hx, if_neg (hsub v hv).2]; exact h2, h3⟩
    · rw [Tb.get_put hx] at hy
      by_cases e : m = n
      · rw [if_pos e] at hy; simp at hy
      · rw [if_neg e] at hy
        obtain ⟨v, hv, e2⟩ := h.all m y hy
        exact ⟨v, List.mem_filter.2 ⟨hv, by simp [e2, e]⟩, e2⟩
  refine (forget_ok h1).mono fun e w2 he => ⟨he.1, ?_⟩
  obtain ⟨rfl, W', h2, k2⟩ := he
  exact ⟨rfl, W', h2, (k1.mono fun k _ h => .inl h).trans (k2.mono fun k _ h => .inr h)⟩
theorem Abort_ok (h : TBL w F a t) {n : Int} (hn : W64 n) : Calls Try.prog 22 #[eP a, .int .i64 n] w fun e w' => e = .returned (.int .i64 (t.abort n).2) ∧ ∃ F', TBL w' F' a (t.abort n).1 ∧ Keeps F w w' ∧ ∀ k, F' k → F k := by
  have h0 := h
  obtain ⟨bl, bw, L, W, h, hF⟩ := h
  apply f_mvcc_Table_Abort.ok
  unfold f_mvcc_Table_Abort.wp
  refine hb_ldM (j := 2) h.tab rfl (h.lv.look KTl (x := n) hn (z78 w) ?_)
  rcases h.look n with ⟨h1, h2⟩ | ⟨v, x, hv, e, h1, h2, h3, h4⟩
  · rw [h1]
    refine ⟨none, rfl, sel_t rfl ?_⟩
    unfold Tb.abort; rw [h2]; exact ⟨rfl, F, h0, .refl _ _, fun _ => id⟩
  · rw [h1]
    refine ⟨some ⟨v.p, 0, none⟩, rfl, sel_f rfl ((end_ok h h2).mono fun e w1 he => ?_)⟩
    obtain ⟨rfl, W', h5, k5⟩ := he
    refine ⟨rfl, ?_⟩
    unfold Tb.abort; rw [h2]
    refine ⟨rfl, Own a bl bw (L.filter fun v => !decide (v.n = n)), ⟨bl, bw, _, W', h5, fun _ => Iff.rfl⟩, k5.mono fun k _ hk => ?_, fun k hk => (hF k).2 ?_⟩
    · rcases hk with hk | hk
      · exact (hF k).2 (.inr (.inl hk))
      · exact (hF k).2 (.inr (.inr (.inl hk)))
    · rcases hk with hk | hk | hk | ⟨v, hv, hk⟩
      · exact .inl hk
      · exact .inr (.inl hk)
      · exact .inr (.inr (.inl hk))
      · exact .inr (.inr (.inr ⟨v, (List.mem_filter.1 hv).1, hk⟩))
end Go.Proofs.Ytbfcjnbjhpfdfaa.Rd
