/- The calls of a rope, walked: At, Seek, List, each on rows. Conditions: none. -/
import Derived.Test.YtnfgibbkfkaonaaTrH
namespace Go.Proofs.Ytnfgibbkfkaonaa.Rd
open Go.Dn Go.RowKit
set_option linter.unusedVariables false
set_option maxRecDepth 100000

/-! ### At -/
def atE (n : Nat) (rows : List (List Nat)) (a i : Int) : Int × Int := if Bd n a then (0, 150) else if i < 0 ∨ i ≥ ((rowOf rows a.toNat).length : Int) then (0, 1) else (((rowOf rows a.toNat).getD i.toNat 0 : Int), 0)
theorem at_j1 {w : World} {r : RC} {N : Nat → Nat → Int} (h : Rp w r N) (hn : r.n ≤ 65537) (hz : N 0 4 = 0) {l y : Tr} {x i : Nat} (ok : OkT N r.n (.node l x y)) (nd : (Tr.node l x y).ids.Nodup) (hi : i < (Tr.node l x y).ids.length) {Kg Kr : Int → Int → World → Prop}
    (k1 : i < l.ids.length → Kg (i : Int) (l.root : Int) w.drew) (k2 : i = l.ids.length → Kr (x : Int) 0 w.drew) (k3 : l.ids.length < i → Kg ((i - l.ids.length - 1 : Nat) : Int) (y.root : Int) w.drew) : f_treap_Sum_At.j1 ⟨r.R, 0, none⟩ (i : Int) (x : Int) w Kg Kr := by
  have ok' := ok
  obtain ⟨h1, h2, h3, h4, h5, h6, h7, h8, h9, hl, hr⟩ := ok
  have hlen : (Tr.node l x y).ids.length ≤ r.n := nodup_le _ _ nd fun i hi => (ok'.lt i hi).2
  unfold f_treap_Sum_At.j1
  refine drW_intro (ldS_intro h.drew.sl0 (nd_rd0 h.drew h2 rfl ?_))
  rw [h3]
  have hlr := hl.root_lt (show 0 < r.n by omega)
  have hls : N l.root 4 = (l.ids.length : Int) := by
    by_cases e : l.root = 0
    · rw [e, hz, hl.root_pos.1 e]; rfl
    · exact hl.sz e
  refine optB_some rfl (req_intro (by simp; omega) (nd_ld (j := 4) h.drew hlr rfl (by omega) ?_))
  rw [hls]
  by_cases c1 : i < l.ids.length
  · refine sel_t (by simpa using c1) (nd_rd0 h.drew h2 rfl ?_)
    rw [h3]; exact k1 c1
  · refine sel_f (by simpa using c1) ?_
    by_cases c2 : l.ids.length < i
    · refine sel_t (by simpa using c2) (nd_rd (j := 1) h.drew h2 rfl (by omega) ?_)
      rw [h4, w64_in (x := (i : Int) - (l.ids.length : Int)) (by omega), w64_in (by omega), show (i : Int) - (l.ids.length : Int) - 1 = ((i - l.ids.length - 1 : Nat) : Int) by omega]
      exact k3 c2
    · exact sel_f (by simpa using c2) (k2 (by omega))
theorem at_g0 {r : RC} {N : Nat → Nat → Int} (hn : r.n ≤ 65537) (hz : N 0 4 = 0) {Kr : Int → Int → World → Prop} : ∀ {t : Tr} {w : World} {i : Nat}, Rp w r N → OkT N r.n t → t.ids.Nodup → i < t.ids.length → (∀ w', Below w.heap.size w w' → Kr (t.ids.getD i 0 : Int) 0 w') →
    ∃ k, f_treap_Sum_At.g0 k ⟨r.R, 0, none⟩ (i : Int) (t.root : Int) w Kr
  | .nil, w, i, _, _, _, hi, _ => absurd hi (by simp [Tr.ids])
  | .node l x y, w, i, h, ok, nd, hi, hk => by
    have nd' := nd
    simp only [Tr.ids, List.nodup_append, List.nodup_cons, List.mem_cons] at nd
    obtain ⟨ndl, ⟨hxr, ndr⟩, hd⟩ := nd
    have hl := ok.2.2.2.2.2.2.2.2.2.1
    have hr := ok.2.2.2.2.2.2.2.2.2.2
    have hb : Below w.heap.size w w.drew := (Below.refl _ _).drew
    by_cases c1 : i < l.ids.length
    · obtain ⟨k, hk'⟩ := at_g0 hn hz (Kr := Kr) (i := i) h.drew hl ndl c1 fun w' b => by
        have := hk w' (hb.trans b)
        simp only [Tr.ids, List.getD_eq_getElem?_getD] at this ⊢
        rw [List.getElem?_append_left c1] at this; exact this
      refine ⟨k + 1, ?_⟩
      unfold f_treap_Sum_At.g0
      exact at_j1 h hn hz ok nd' hi (fun _ _ => hk') (fun e => by omega) (fun e => by omega)
    · by_cases c2 : l.ids.length < i
      · obtain ⟨k, hk'⟩ := at_g0 hn hz (Kr := Kr) (i := i - l.ids.length - 1) h.drew hr ndr (by simp only [Tr.ids, List.length_append, List.length_cons] at hi; omega) fun w' b => by
          have := hk w' (hb.trans b)
          simp only [Tr.ids, List.getD_eq_getElem?_getD] at this ⊢
          rw [List.getElem?_append_right (by omega), show i - l.ids.length = (i - l.ids.length - 1) + 1 by omega, List.getElem?_cons_succ] at this; exact this
        refine ⟨k + 1, ?_⟩
        unfold f_treap_Sum_At.g0
        exact at_j1 h hn hz ok nd' hi (fun e => by omega) (fun e => by omega) (fun _ _ => hk')
      · refine ⟨1, ?_⟩
        unfold f_treap_Sum_At.g0
        refine at_j1 h hn hz ok nd' hi (fun e => by omega) (fun e => ?_) (fun e => by omega)
        have := hk w.drew hb
        simp only [Tr.ids, List.getD_eq_getElem?_getD] at this
        rw [List.getElem?_append_right (by omega), show i - l.ids.length = 0 by omega] at this
        exact this
theorem At_ok {w : World} {r : RC} {rows : List (List Nat)} {V : Nat → Int × Int} (h : Rope w r rows V) (a i : Int) :
    Calls Try.prog 25 #[.pointer (some ⟨r.R, 0, none⟩), .int .i64 a, .int .i64 i] w fun e w' => e = .returned (.tuple #[.int .i64 (atE r.n rows a i).1, .int .i64 (atE r.n rows a i).2]) ∧ Below w.heap.size w w' := by
  obtain ⟨N, ts, hp, hf⟩ := h
  apply f_treap_Sum_At.ok
  unfold f_treap_Sum_At.wp f_treap_Sum_At.s0
  refine alW_intro ((bad1 hp a).mono ?_)
  rintro e w1 ⟨rfl, rfl⟩
  refine ⟨_, rfl, ?_⟩
  have hp1 := hp.alloc (.cells #[.int .i64 a] 3)
  have b1 := bal w (.cells #[.int .i64 a] 3)
  generalize w.alloc (.cells #[.int .i64 a] 3) = w1 at *
  cases hb : Bd r.n a with
  | true => exact sel_t rfl fun _ => ⟨by simp [atE, hb], b1⟩
  | false =>
    obtain ⟨x, rfl, ex, hx⟩ := Bd_nat hb
    obtain ⟨s, hs, xs, es, os, us, ns⟩ := hf.tree hx
    refine sel_f rfl ((root_ok hp1 os us xs).mono ?_)
    rintro e w1 ⟨rfl, rfl⟩
    refine ⟨_, rfl, ?_⟩
    by_cases hi : i < 0
    · exact sel_t (by simpa using hi) fun _ => ⟨by simp [atE, hb, hi], b1⟩
    refine sel_f (by simpa using hi) (nd_rd (j := 4) hp1 (os.root_lt hf.pos) rfl (by omega) ?_)
    rw [os.sz (root0 os xs)]
    by_cases hi2 : i ≥ (s.ids.length : Int)
    · refine sel_t (by simpa using hi2) fun _ => ⟨?_, b1⟩
      have : i ≥ ((rowOf rows x).length : Int) := by rw [← es]; exact hi2
      simp only [atE, hb, Bool.false_eq_true, if_false, ex]
      rw [if_pos (.inr this)]
    · refine sel_f (by simpa using hi2) ?_
      obtain ⟨j, rfl⟩ : ∃ j : Nat, i = (j : Int) := ⟨i.toNat, by omega⟩
      have hj : j < s.ids.length := by omega
      have fin : ∀ w', Below w1.heap.size w1 w' → (fun (x33 : Int) (x34 : Int) (w35 : World) => ∀ _ : Fr, (fun e w' => e = Ending.returned (.tuple #[.int .i64 (atE r.n rows (x : Int) (j : Int)).1, .int .i64 (atE r.n rows (x : Int) (j : Int)).2]) ∧ Below w.heap.size w w') (.returned (.tuple #[.int .i64 x33, .int .i64 x34])) w35) (s.ids.getD j 0 : Int) 0 w' := by
        intro w' b' _
        refine ⟨?_, b1.trans (b'.mono b1.size)⟩
        have : ¬ ((j : Int) < 0 ∨ (j : Int) ≥ (s.ids.length : Int)) := by omega
        simp only [atE, hb, Bool.false_eq_true, if_false, ex, ← es, if_neg this, Int.toNat_natCast]
      cases s with
      | nil => simp [Tr.ids] at hj
      | node l z y =>
        have nd' := ns
        simp only [Tr.ids, List.nodup_append, List.nodup_cons, List.mem_cons] at ns
        obtain ⟨ndl, ⟨hxr, ndr⟩, hd⟩ := ns
        have hl := os.2.2.2.2.2.2.2.2.2.1
        have hr := os.2.2.2.2.2.2.2.2.2.2
        have hbd : Below w1.heap.size w1 w1.drew := (Below.refl _ _).drew
        refine at_j1 hp1 hf.le hf.z os nd' hj (fun c1 _ => ?_) (fun c1 => ?_) (fun c1 _ => ?_)
        · refine at_g0 hf.le hf.z hp1.drew hl ndl c1 fun w' b => ?_
          have := fin w' (hbd.trans b)
          simp only [Tr.ids, List.getD_eq_getElem?_getD] at this ⊢
          rw [List.getElem?_append_left c1] at this; exact this
        · intro _
          have := fin w1.drew hbd
          simp only [Tr.ids, List.getD_eq_getElem?_getD] at this
          rw [List.getElem?_append_right (by omega), show j - l.ids.length = 0 by omega] at this
          simpa using this
        · refine at_g0 hf.le hf.z hp1.drew hr ndr (by simp only [Tr.ids, List.length_append, List.length_cons] at hj; omega) fun w' b => ?_
          have := fin w' (hbd.trans b)
          simp only [Tr.ids, List.getD_eq_getElem?_getD] at this ⊢
          rw [List.getElem?_append_right (by omega), show j - l.ids.length = (j - l.ids.length - 1) + 1 by omega, List.getElem?_cons_succ] at this; exact this

/-! ### Seek -/
def MarksOk (n : Nat) (V : Nat → Int × Int) : Prop := ∀ i, 0 < i → i < n → 0 ≤ (V i).2 ∧ (V i).2 ≤ 255
def hasM (V : Nat → Int × Int) (l : List Nat) : Bool := l.any fun i => decide ((V i).2 > 0)
def firstM (V : Nat → Int × Int) (l : List Nat) : Nat := (l.find? fun i => decide ((V i).2 > 0)).getD 0
theorem sum_marks {n : Nat} {V : Nat → Int × Int} (hm : MarksOk n V) : ∀ {l : List Nat}, (∀ i ∈ l, 0 < i ∧ i < n) → 0 ≤ (l.map fun i => (V i).2).sum ∧ (l.map fun i => (V i).2).sum ≤ 255 * l.length ∧ ((l.map fun i => (V i).2).sum > 0 ↔ hasM V l = true)
  | [], _ => by simp [hasM]
  | a :: l, h => by
    obtain ⟨h1, h2, h3⟩ := sum_marks hm (l := l) fun i hi => h i (by simp [hi])
    have ha := hm a (h a (by simp)).1 (h a (by simp)).2
    simp only [List.map_cons, List.sum_cons, List.length_cons]
    refine ⟨by omega, by omega, ?_⟩
    have e : hasM V (a :: l) = (decide ((V a).2 > 0) || hasM V l) := by simp [hasM]
    rw [e]
    simp only [Bool.or_eq_true, decide_eq_true_eq, ← h3]
    omega
theorem sm_marks {n : Nat} {V : Nat → Int × Int} (hm : MarksOk n V) (hn : n ≤ 65537) {l : List Nat} (hl : ∀ i ∈ l, 0 < i ∧ i < n) (nd : l.Nodup) : (sm V l).2 = (l.map fun i => (V i).2).sum ∧ decide ((sm V l).2 > 0) = hasM V l := by
  obtain ⟨h1, h2, h3⟩ := sum_marks hm hl
  have hlen := nodup_le n l nd fun i hi => (hl i hi).2
  have e : (sm V l).2 = (l.map fun i => (V i).2).sum := w64_in (by omega)
  refine ⟨e, ?_⟩
  rw [e]
  by_cases h : (l.map fun i => (V i).2).sum > 0
  · rw [h3.1 h]; simpa using h
  · have : hasM V l = false := by simpa using fun hh => h (h3.2 hh)
    rw [this]; simpa using h
theorem marked_ok (a b : Int) (w : World) : Calls Try.prog 14 #[.agg #[.int .i64 a, .int .i64 b]] w fun e w' => e = .returned (.bool (decide (b > 0))) ∧ Below w.heap.size w w' := by
  apply f_law15_marked.ok
  unfold f_law15_marked.wp
  exact alW_intro (ldI_intro (cnew w #[.int .i64 a, .int .i64 b] _ 1) ⟨rfl, bal _ _⟩)
theorem hasM_app (V : Nat → Int × Int) (l m : List Nat) : hasM V (l ++ m) = (hasM V l || hasM V m) := by simp [hasM]
theorem firstM_l {V : Nat → Int × Int} {l : List Nat} (m : List Nat) (h : hasM V l = true) : firstM V (l ++ m) = firstM V l := by
  unfold firstM
  rw [List.find?_append]
  cases hf : l.find? fun i => decide ((V i).2 > 0) with
  | some x => rfl
  | none =>
    rw [List.find?_eq_none] at hf
    simp only [hasM, List.any_eq_true] at h
    obtain ⟨x, hx, h⟩ := h
    exact absurd h (hf x hx)
theorem firstM_r {V : Nat → Int × Int} {l : List Nat} (m : List Nat) (h : hasM V l = false) : firstM V (l ++ m) = firstM V m := by
  unfold firstM
  rw [List.find?_append]
  have : (l.find? fun i => decide ((V i).2 > 0)) = none := by
    rw [List.find?_eq_none]
    intro x hx
    simp only [hasM, List.any_eq_false] at h
    exact h x hx
  rw [this]; rfl
def nd9 (N : Nat → Nat → Int) (x : Nat) : Nat → Int := fun j => N x j
theorem seek_l0 {r : RC} {N : Nat → Nat → Int} {rows : List (List Nat)} {V : Nat → Int × Int} {ts : List Tr} (hf : FO N r.n rows V ts) (hm : MarksOk r.n V) {Kr : Int → Int → World → Prop} : ∀ {t : Tr} {w : World}, Rp w r N → OkT N r.n t → t.ids.Nodup → hasM V t.ids = true → (∀ w', Below w.heap.size w w' → Kr (firstM V t.ids : Int) 0 w') →
    ∃ k, f_treap_Sum_Seek.l0 k ⟨r.R, 0, none⟩ (t.root : Int) w Kr := by
  intro t
  suffices h : ∀ d, ∀ {t : Tr} {w : World}, t.ids.length ≤ d → Rp w r N → OkT N r.n t → t.ids.Nodup → hasM V t.ids = true → (∀ w', Below w.heap.size w w' → Kr (firstM V t.ids : Int) 0 w') → f_treap_Sum_Seek.l0 d ⟨r.R, 0, none⟩ (t.root : Int) w Kr by
    intro w h1 h2 h3 h4 h5
    exact ⟨_, h _ (Nat.le_refl _) h1 h2 h3 h4 h5⟩
  intro d
  induction d with
  | zero =>
    intro t w hd _ _ _ hh _
    have : t.ids = [] := List.length_eq_zero_iff.1 (by omega)
    rw [this] at hh; simp [hasM] at hh
  | succ d ih =>
    intro t w hd h ok nd hh hk
    cases t with
    | nil => simp [Tr.ids, hasM] at hh
    | node l x y =>
      have ok' := ok
      obtain ⟨h1, h2, h3, h4, h5, h6, h7, h8, h9, hl, hr⟩ := ok
      have nd' := nd
      simp only [Tr.ids, List.nodup_append, List.nodup_cons, List.mem_cons] at nd
      obtain ⟨ndl, ⟨hxr, ndr⟩, hdd⟩ := nd
      simp only [Tr.ids, List.length_append, List.length_cons] at hd
      unfold f_treap_Sum_Seek.l0
      refine nd_at (K := fun q => ldI w (q.add _) _ _) h h2 rfl (nd_ld0 h h2 rfl (nd_ld (j := 1) h h2 rfl (by omega) (nd_ld (j := 2) h h2 rfl (by omega) (nd_ld (j := 3) h h2 rfl (by omega) (nd_ld (j := 4) h h2 rfl (by omega)
        (nd_ld (j := 5) h h2 rfl (by omega) (nd_ld (j := 6) h h2 rfl (by omega) (nd_ld (j := 7) h h2 rfl (by omega) (nd_ld (j := 8) h h2 rfl (by omega) (alW_intro ?_))))))))))
      have hb1 : Blk (w.alloc (.cells #[.int .i64 (0 : Int), .int .i64 (0 : Int), .int .i64 (0 : Int), .int .u64 (0 : Int), .int .i64 (0 : Int), .int .i64 (0 : Int), .int .i64 (0 : Int), .int .i64 (0 : Int), .int .i64 (0 : Int)] 76)) w.heap.size 9 (fun _ => 0) :=
        Blk.new w _ _ 9 _ rfl (by intro j hj; match j, hj with | 0, _ => rfl | 1, _ => rfl | 2, _ => rfl | 3, _ => rfl | 4, _ => rfl | 5, _ => rfl | 6, _ => rfl | 7, _ => rfl | 8, _ => rfl)
      have hp1 := h.alloc (.cells #[.int .i64 (0 : Int), .int .i64 (0 : Int), .int .i64 (0 : Int), .int .u64 (0 : Int), .int .i64 (0 : Int), .int .i64 (0 : Int), .int .i64 (0 : Int), .int .i64 (0 : Int), .int .i64 (0 : Int)] 76)
      have be1 := bal w (.cells #[.int .i64 (0 : Int), .int .i64 (0 : Int), .int .i64 (0 : Int), .int .u64 (0 : Int), .int .i64 (0 : Int), .int .i64 (0 : Int), .int .i64 (0 : Int), .int .i64 (0 : Int), .int .i64 (0 : Int)] 76)
      generalize w.alloc (.cells #[.int .i64 (0 : Int), .int .i64 (0 : Int), .int .i64 (0 : Int), .int .u64 (0 : Int), .int .i64 (0 : Int), .int .i64 (0 : Int), .int .i64 (0 : Int), .int .i64 (0 : Int), .int .i64 (0 : Int)] 76) = w1 at *
      refine bk_st0 hb1 (by omega) fun w2 hb2 k2 => bk_st (j := 1) hb2 (by omega) fun w3 hb3 k3 => bk_st (j := 2) hb3 (by omega) fun w4 hb4 k4 => bk_st (j := 3) hb4 (by omega) fun w5 hb5 k5 => bk_st (j := 4) hb5 (by omega) fun w6 hb6 k6 => bk_st (j := 5) hb6 (by omega) fun w7 hb7 k7 => bk_st (j := 6) hb7 (by omega) fun w8 hb8 k8 => bk_st (j := 7) hb8 (by omega) fun w9 hb9 k9 => bk_st (j := 8) hb9 (by omega) fun w10 hb10 k10 => drW_intro ?_
      have kk : Keeps (fun k => k = w.heap.size) w1 w10 := ((((k2.trans k3).trans (k4.trans k5)).trans (k6.trans k7)).trans (k8.trans k9)).trans k10
      have be2 : Below w.heap.size w w10.drew := (bel_blk be1 kk (Nat.le_refl _)).drew
      have hp2 : Rp w10.drew r N := h.below be2
      have hb11 := hb10.below (Below.refl _ _).drew
      clear hb1 hb2 hb3 hb4 hb5 hb6 hb7 hb8 hb9 hb10 k2 k3 k4 k5 k6 k7 k8 k9 k10 kk hp1 be1
      generalize w10.drew = wa at *
      have hF : ∀ j, j < 9 → (upd (upd (upd (upd (upd (upd (upd (upd (upd (fun _ => (0 : Int)) 0 (N x 0)) 1 (N x 1)) 2 (N x 2)) 3 (N x 3)) 4 (N x 4)) 5 (N x 5)) 6 (N x 6)) 7 (N x 7)) 8 (N x 8)) j = N x j := by
        intro j hj
        match j, hj with | 0, _ => rfl | 1, _ => rfl | 2, _ => rfl | 3, _ => rfl | 4, _ => rfl | 5, _ => rfl | 6, _ => rfl | 7, _ => rfl | 8, _ => rfl
      generalize (upd (upd (upd (upd (upd (upd (upd (upd (upd (fun _ => (0 : Int)) 0 (N x 0)) 1 (N x 1)) 2 (N x 2)) 3 (N x 3)) 4 (N x 4)) 5 (N x 5)) 6 (N x 6)) 7 (N x 7)) 8 (N x 8)) = F at *
      have hown : N x 6 = (V x).2 := (hf.v x h1 h2).2
      -- has the node itself a mark, or what is to the right
      have rest : ∀ {wb : World}, Below w.heap.size w wb → Blk wb w.heap.size 9 F → hasM V l.ids = false →
          ldI wb ((⟨w.heap.size, 0, none⟩ : Addr).add 5) .i64 fun x57 => ldI wb (((⟨w.heap.size, 0, none⟩ : Addr).add 5).add 1) .i64 fun x58 => Calls Try.prog 14 #[.agg #[.int .i64 x57, .int .i64 x58]] wb fun e59 w60 => ∃ (b61 : Bool), e59 = .returned (.bool b61) ∧ (
            sel b61 (Kr (x : Int) (0 : Int) w60) (ldI w60 ((⟨w.heap.size, 0, none⟩ : Addr).add 1) .i64 fun x62 => sel (x62 == (0 : Int)) (Kr (x : Int) (0 : Int) w60) (ldI w60 ((⟨w.heap.size, 0, none⟩ : Addr).add 1) .i64 fun x63 => f_treap_Sum_Seek.l0 d ⟨r.R, 0, none⟩ x63 w60 Kr))) := by
        intro wb bb hbb hno
        refine bk_ld (j := 5) hbb (by omega) ?_
        rw [add_add _ 5 1]
        refine bk_ld (j := 6) hbb (by omega) ((marked_ok _ _ _).mono ?_)
        rintro e wc ⟨rfl, bc⟩
        refine ⟨_, rfl, ?_⟩
        rw [hF 6 (by omega), hown]
        have bcc := bb.trans (bc.mono bb.size)
        have hbc := hbb.below bc
        by_cases hx : (V x).2 > 0
        · refine sel_t (by simpa using hx) ?_
          have := hk wc bcc
          rw [show (Tr.node l x y).ids = l.ids ++ x :: y.ids from rfl, firstM_r _ hno] at this
          simpa [firstM, hx] using this
        · refine sel_f (by simpa using hx) (bk_ld (j := 1) hbc (by omega) ?_)
          rw [hF 1 (by omega), h4]
          have e1 : (Tr.node l x y).ids = (l.ids ++ [x]) ++ y.ids := by simp [Tr.ids]
          have e2 : hasM V (l.ids ++ [x]) = false := by rw [hasM_app, hno]; simpa [hasM] using hx
          rw [e1, hasM_app, e2, Bool.false_or] at hh
          rw [e1, firstM_r _ e2] at hk
          have hy0 : y.root ≠ 0 := fun e => by rw [hr.root_pos.1 e] at hh; simp [Tr.ids, hasM] at hh
          refine sel_f (by simpa using hy0) (bk_ld (j := 1) hbc (by omega) ?_)
          rw [hF 1 (by omega), h4]
          exact ih (by omega) (h.below bcc) hr ndr hh fun w' b' => hk w' (bcc.trans (b'.mono bcc.size))
      refine bk_ld0 hb11 (by omega) ?_
      rw [hF 0 (by omega), h3]
      by_cases hl0 : l.root = 0
      · refine sel_f (by simp [hl0]) (rest be2 hb11 (by rw [hl.root_pos.1 hl0]; rfl))
      · refine sel_t (by simp; omega) (ldS_intro hp2.sl0 (bk_ld0 hb11 (by omega) ?_))
        rw [hF 0 (by omega), h3]
        have hlr := hl.root_lt hf.pos
        refine optB_some rfl (req_intro (by simp; omega) (nd_ld (j := 7) hp2 hlr rfl (by omega) ?_))
        rw [add_add _ 7 1]
        refine nd_ld (j := 8) hp2 hlr rfl (by omega) ((marked_ok _ _ _).mono ?_)
        rintro e wb ⟨rfl, bb⟩
        refine ⟨_, rfl, ?_⟩
        rw [hl.all8 hl0, (hf.sum hl.lt).2, (sm_marks hm hf.le hl.lt ndl).2]
        have bbb := be2.trans (bb.mono be2.size)
        have hbb := hb11.below bb
        cases hml : hasM V l.ids with
        | true =>
          refine sel_t rfl (bk_ld0 hbb (by omega) ?_)
          rw [hF 0 (by omega), h3]
          exact ih (by omega) (h.below bbb) hl ndl hml fun w' b' => by
            have := hk w' (bbb.trans (b'.mono bbb.size))
            rwa [show (Tr.node l x y).ids = l.ids ++ x :: y.ids from rfl, firstM_l _ hml] at this
        | false => exact sel_f rfl (rest bbb hbb hml)
def seekE (n : Nat) (rows : List (List Nat)) (V : Nat → Int × Int) (a : Int) : Int × Int := if Bd n a then (0, 150) else ((firstM V (rowOf rows a.toNat) : Int), 0)
theorem Seek_ok {w : World} {r : RC} {rows : List (List Nat)} {V : Nat → Int × Int} (h : Rope w r rows V) (hm : MarksOk r.n V) (a : Int) (Q : Ending → World → Prop)
    (hQ : ∀ w', Below w.heap.size w w' → Q (.returned (.tuple #[.int .i64 (seekE r.n rows V a).1, .int .i64 (seekE r.n rows V a).2])) w') : f_treap_Sum_Seek.wp ⟨r.R, 0, none⟩ a w Q := by
  obtain ⟨N, ts, hp, hf⟩ := h
  unfold f_treap_Sum_Seek.wp
  refine alW_intro ((bad1 hp a).mono ?_)
  rintro e w1 ⟨rfl, rfl⟩
  refine ⟨_, rfl, ?_⟩
  have hp1 := hp.alloc (.cells #[.int .i64 a] 3)
  have b1 := bal w (.cells #[.int .i64 a] 3)
  generalize w.alloc (.cells #[.int .i64 a] 3) = w1 at *
  cases hb : Bd r.n a with
  | true => exact sel_t rfl (by have := hQ w1 b1; simpa [seekE, hb] using this)
  | false =>
    obtain ⟨x, rfl, ex, hx⟩ := Bd_nat hb
    obtain ⟨s, hs, xs, es, os, us, ns⟩ := hf.tree hx
    refine sel_f rfl ((root_ok hp1 os us xs).mono ?_)
    rintro e w1 ⟨rfl, rfl⟩
    have hlr := os.root_lt hf.pos
    refine ⟨_, rfl, nd_at (K := fun q => ldI w1 ((q.add _).add 7) _ _) hp1 hlr rfl (nd_ld (j := 7) hp1 hlr rfl (by omega) ?_)⟩
    rw [add_add _ 7 1]
    refine nd_ld (j := 8) hp1 hlr rfl (by omega) ((marked_ok _ _ _).mono ?_)
    rintro e w2 ⟨rfl, b2⟩
    refine ⟨_, rfl, ?_⟩
    rw [os.all8 (root0 os xs), (hf.sum os.lt).2, (sm_marks hm hf.le os.lt ns).2]
    have b12 := b1.trans (b2.mono b1.size)
    simp only [seekE, hb, Bool.false_eq_true, if_false, ex, ← es] at hQ
    cases hh : hasM V s.ids with
    | false =>
      refine sel_t rfl ?_
      have := hQ w2 b12
      have e0 : firstM V s.ids = 0 := by have := firstM_r [] hh; rw [List.append_nil] at this; rw [this]; rfl
      rw [e0] at this; exact this
    | true =>
      refine sel_f rfl ?_
      obtain ⟨k, hk⟩ := seek_l0 hf hm (hp1.below b2) os ns hh (Kr := fun (x64 : Int) (x65 : Int) (w66 : World) => ∀ _ : Fr, Q (.returned (.tuple #[.int .i64 x64, .int .i64 x65])) w66) fun w' b' _ => hQ w' (b12.trans (b'.mono b12.size))
      exact ⟨k, hk⟩
end Go.Proofs.Ytnfgibbkfkaonaa.Rd
