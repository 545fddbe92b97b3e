/- Seek, walked, for marks of vertices and of edges (printed out of one text by a program of this work). Conditions: none. -/
import Derived.Test.YtkkobfajahmfaaaEuI
namespace Go.Proofs.Ytkkobfajahmfaaa.Rd
open Go.Dn Go.RowKit
set_option linter.unusedVariables false
set_option maxRecDepth 100000

/-! ### Seek -/
def MarksOkV (n : Nat) (V : Nat → Int × Int × Int) : Prop := ∀ i, 0 < i → i < n → 0 ≤ (V i).2.1 ∧ (V i).2.1 ≤ 255
def hasMV (V : Nat → Int × Int × Int) (l : List Nat) : Bool := l.any fun i => decide ((V i).2.1 > 0)
def firstMV (V : Nat → Int × Int × Int) (l : List Nat) : Nat := (l.find? fun i => decide ((V i).2.1 > 0)).getD 0
theorem sum_marksV {n : Nat} {V : Nat → Int × Int × Int} (hm : MarksOkV n V) : ∀ {l : List Nat}, (∀ i ∈ l, 0 < i ∧ i < n) → 0 ≤ (l.map fun i => (V i).2.1).sum ∧ (l.map fun i => (V i).2.1).sum ≤ 255 * l.length ∧ ((l.map fun i => (V i).2.1).sum > 0 ↔ hasMV V l = true)
  | [], _ => by simp [hasMV]
  | a :: l, h => by
    obtain ⟨h1, h2, h3⟩ := sum_marksV hm (l := l) fun i hi => h i (by simp [hi])
    have ha := hm a (h a (by simp)).1 (h a (by simp)).2
    simp only [List.map_cons, List.sum_cons, List.length_cons]
    refine ⟨by omega, by omega, ?_⟩
    have e : hasMV V (a :: l) = (decide ((V a).2.1 > 0) || hasMV V l) := by simp [hasMV]
    rw [e]
    simp only [Bool.or_eq_true, decide_eq_true_eq, ← h3]
    omega
theorem sm_marksV {n : Nat} {V : Nat → Int × Int × Int} (hm : MarksOkV n V) (hn : n ≤ 65537) {l : List Nat} (hl : ∀ i ∈ l, 0 < i ∧ i < n) (nd : l.Nodup) : (sm V l).2.1 = (l.map fun i => (V i).2.1).sum ∧ decide ((sm V l).2.1 > 0) = hasMV V l := by
  obtain ⟨h1, h2, h3⟩ := sum_marksV hm hl
  have hlen := nodup_le n l nd fun i hi => (hl i hi).2
  have e : (sm V l).2.1 = (l.map fun i => (V i).2.1).sum := w64_in (by omega)
  refine ⟨e, ?_⟩
  rw [e]
  by_cases h : (l.map fun i => (V i).2.1).sum > 0
  · rw [h3.1 h]; simpa using h
  · have : hasMV V l = false := by simpa using fun hh => h (h3.2 hh)
    rw [this]; simpa using h
theorem marked_okV (a b c : Int) (w : World) : Calls Try.prog 59 #[.agg #[.int .i64 a, .int .i64 b, .int .i64 c]] w fun e w' => e = .returned (.bool (decide (b > 0))) ∧ Below w.heap.size w w' := by
  apply f_euler_Forest_SomeV_1.ok
  unfold f_euler_Forest_SomeV_1.wp
  exact alW_intro (ldI_intro (cnew w #[.int .i64 a, .int .i64 b, .int .i64 c] _ 1) ⟨rfl, bal _ _⟩)
theorem hasM_appV (V : Nat → Int × Int × Int) (l m : List Nat) : hasMV V (l ++ m) = (hasMV V l || hasMV V m) := by simp [hasMV]
theorem firstM_lV {V : Nat → Int × Int × Int} {l : List Nat} (m : List Nat) (h : hasMV V l = true) : firstMV V (l ++ m) = firstMV V l := by
  unfold firstMV
  rw [List.find?_append]
  cases hf : l.find? fun i => decide ((V i).2.1 > 0) with
  | some x => rfl
  | none =>
    rw [List.find?_eq_none] at hf
    simp only [hasMV, List.any_eq_true] at h
    obtain ⟨x, hx, h⟩ := h
    exact absurd h (hf x hx)
theorem firstM_rV {V : Nat → Int × Int × Int} {l : List Nat} (m : List Nat) (h : hasMV V l = false) : firstMV V (l ++ m) = firstMV V m := by
  unfold firstMV
  rw [List.find?_append]
  have : (l.find? fun i => decide ((V i).2.1 > 0)) = none := by
    rw [List.find?_eq_none]
    intro x hx
    simp only [hasMV, List.any_eq_false] at h
    exact h x hx
  rw [this]; rfl
def nd9V (N : Nat → Nat → Int) (x : Nat) : Nat → Int := fun j => N x j
theorem seek_l0V {r : RC} {N : Nat → Nat → Int} {rows : List (List Nat)} {V : Nat → Int × Int × Int} {ts : List Tr} (hf : FO N r.n rows V ts) (hm : MarksOkV r.n V) {Kr : Int → Int → World → Prop} : ∀ {t : Tr} {w : World}, Rp w r N → OkT N r.n t → t.ids.Nodup → hasMV V t.ids = true → (∀ w', Below w.heap.size w w' → Kr (firstMV V t.ids : Int) 0 w') →
    ∃ k, f_euler_load_Seek_V.l0 k ⟨r.R, 0, none⟩ (t.root : Int) w Kr := by
  intro t
  suffices h : ∀ d, ∀ {t : Tr} {w : World}, t.ids.length ≤ d → Rp w r N → OkT N r.n t → t.ids.Nodup → hasMV V t.ids = true → (∀ w', Below w.heap.size w w' → Kr (firstMV V t.ids : Int) 0 w') → f_euler_load_Seek_V.l0 d ⟨r.R, 0, none⟩ (t.root : Int) w Kr by
    intro w h1 h2 h3 h4 h5
    exact ⟨_, h _ (Nat.le_refl _) h1 h2 h3 h4 h5⟩
  intro d
  induction d with
  | zero =>
    intro t w hd _ _ _ hh _
    have : t.ids = [] := List.length_eq_zero_iff.1 (by omega)
    rw [this] at hh; simp [hasMV] at hh
  | succ d ih =>
    intro t w hd h ok nd hh hk
    cases t with
    | nil => simp [Tr.ids, hasMV] at hh
    | node l x y =>
      have ok' := ok
      obtain ⟨h1, h2, h3, h4, h5, h6, h7, h7b, h8, h9, hl, hr⟩ := ok
      have nd' := nd
      simp only [Tr.ids, List.nodup_append, List.nodup_cons, List.mem_cons] at nd
      obtain ⟨ndl, ⟨hxr, ndr⟩, hdd⟩ := nd
      simp only [Tr.ids, List.length_append, List.length_cons] at hd
      unfold f_euler_load_Seek_V.l0
      refine nd_at (K := fun q => ldI w (q.add _) _ _) h h2 rfl (nd_ld0 h h2 rfl (nd_ld (j := 1) h h2 rfl (by omega) (nd_ld (j := 2) h h2 rfl (by omega) (nd_ld (j := 3) h h2 rfl (by omega) (nd_ld (j := 4) h h2 rfl (by omega)
        (nd_ld (j := 5) h h2 rfl (by omega) (nd_ld (j := 6) h h2 rfl (by omega) (nd_ld (j := 7) h h2 rfl (by omega) (nd_ld (j := 8) h h2 rfl (by omega) (nd_ld (j := 9) h h2 rfl (by omega) (nd_ld (j := 10) h h2 rfl (by omega) (alW_intro ?_))))))))))))
      have hb1 : Blk (w.alloc (.cells #[.int .i64 (0 : Int), .int .i64 (0 : Int), .int .i64 (0 : Int), .int .u64 (0 : Int), .int .i64 (0 : Int), .int .i64 (0 : Int), .int .i64 (0 : Int), .int .i64 (0 : Int), .int .i64 (0 : Int), .int .i64 (0 : Int), .int .i64 (0 : Int)] 112)) w.heap.size 11 (fun _ => 0) :=
        Blk.new w _ _ 11 _ rfl (by intro j hj; match j, hj with | 0, _ => rfl | 1, _ => rfl | 2, _ => rfl | 3, _ => rfl | 4, _ => rfl | 5, _ => rfl | 6, _ => rfl | 7, _ => rfl | 8, _ => rfl | 9, _ => rfl | 10, _ => rfl)
      have hp1 := h.alloc (.cells #[.int .i64 (0 : Int), .int .i64 (0 : Int), .int .i64 (0 : Int), .int .u64 (0 : Int), .int .i64 (0 : Int), .int .i64 (0 : Int), .int .i64 (0 : Int), .int .i64 (0 : Int), .int .i64 (0 : Int), .int .i64 (0 : Int), .int .i64 (0 : Int)] 112)
      have be1 := bal w (.cells #[.int .i64 (0 : Int), .int .i64 (0 : Int), .int .i64 (0 : Int), .int .u64 (0 : Int), .int .i64 (0 : Int), .int .i64 (0 : Int), .int .i64 (0 : Int), .int .i64 (0 : Int), .int .i64 (0 : Int), .int .i64 (0 : Int), .int .i64 (0 : Int)] 112)
      generalize w.alloc (.cells #[.int .i64 (0 : Int), .int .i64 (0 : Int), .int .i64 (0 : Int), .int .u64 (0 : Int), .int .i64 (0 : Int), .int .i64 (0 : Int), .int .i64 (0 : Int), .int .i64 (0 : Int), .int .i64 (0 : Int), .int .i64 (0 : Int), .int .i64 (0 : Int)] 112) = w1 at *
      refine bk_st0 hb1 (by omega) fun w2 hb2 k2 => bk_st (j := 1) hb2 (by omega) fun w3 hb3 k3 => bk_st (j := 2) hb3 (by omega) fun w4 hb4 k4 => bk_st (j := 3) hb4 (by omega) fun w5 hb5 k5 => bk_st (j := 4) hb5 (by omega) fun w6 hb6 k6 => bk_st (j := 5) hb6 (by omega) fun w7 hb7 k7 => bk_st (j := 6) hb7 (by omega) fun w8 hb8 k8 => bk_st (j := 7) hb8 (by omega) fun w9 hb9 k9 => bk_st (j := 8) hb9 (by omega) fun w10 hb10 k10 => bk_st (j := 9) hb10 (by omega) fun w11 hb11 k11 => bk_st (j := 10) hb11 (by omega) fun w12 hb12 k12 => drW_intro ?_
      have kk : Keeps (fun k => k = w.heap.size) w1 w12 := (((((k2.trans k3).trans (k4.trans k5)).trans (k6.trans k7)).trans (k8.trans k9)).trans k10).trans (k11.trans k12)
      have be2 : Below w.heap.size w w12.drew := (bel_blk be1 kk (Nat.le_refl _)).drew
      have hp2 : Rp w12.drew r N := h.below be2
      have hb13 := hb12.below (Below.refl _ _).drew
      clear hb1 hb2 hb3 hb4 hb5 hb6 hb7 hb8 hb9 hb10 hb11 hb12 k2 k3 k4 k5 k6 k7 k8 k9 k10 k11 k12 kk hp1 be1
      generalize w12.drew = wa at *
      have hF : ∀ j, j < 11 → (upd (upd (upd (upd (upd (upd (upd (upd (upd (upd (upd (fun _ => (0 : Int)) 0 (N x 0)) 1 (N x 1)) 2 (N x 2)) 3 (N x 3)) 4 (N x 4)) 5 (N x 5)) 6 (N x 6)) 7 (N x 7)) 8 (N x 8)) 9 (N x 9)) 10 (N x 10)) j = N x j := by
        intro j hj
        match j, hj with | 0, _ => rfl | 1, _ => rfl | 2, _ => rfl | 3, _ => rfl | 4, _ => rfl | 5, _ => rfl | 6, _ => rfl | 7, _ => rfl | 8, _ => rfl | 9, _ => rfl | 10, _ => rfl
      generalize (upd (upd (upd (upd (upd (upd (upd (upd (upd (upd (upd (fun _ => (0 : Int)) 0 (N x 0)) 1 (N x 1)) 2 (N x 2)) 3 (N x 3)) 4 (N x 4)) 5 (N x 5)) 6 (N x 6)) 7 (N x 7)) 8 (N x 8)) 9 (N x 9)) 10 (N x 10)) = F at *
      have hown : N x 6 = (V x).2.1 := (hf.v x h1 h2).2.1
      -- has the node itself a mark, or what is to the right
      have rest : ∀ {wb : World}, Below w.heap.size w wb → Blk wb w.heap.size 11 F → hasMV V l.ids = false →
          ldI wb ((⟨w.heap.size, 0, none⟩ : Addr).add 5) .i64 fun x57 => ldI wb (((⟨w.heap.size, 0, none⟩ : Addr).add 5).add 1) .i64 fun x58 => ldI wb (((⟨w.heap.size, 0, none⟩ : Addr).add 5).add 2) .i64 fun x59 => Calls Try.prog 59 #[.agg #[.int .i64 x57, .int .i64 x58, .int .i64 x59]] wb fun e59 w60 => ∃ (b61 : Bool), e59 = .returned (.bool b61) ∧ (
            sel b61 (Kr (x : Int) (0 : Int) w60) (ldI w60 ((⟨w.heap.size, 0, none⟩ : Addr).add 1) .i64 fun x62 => sel (x62 == (0 : Int)) (Kr (x : Int) (0 : Int) w60) (ldI w60 ((⟨w.heap.size, 0, none⟩ : Addr).add 1) .i64 fun x63 => f_euler_load_Seek_V.l0 d ⟨r.R, 0, none⟩ x63 w60 Kr))) := by
        intro wb bb hbb hno
        refine bk_ld (j := 5) hbb (by omega) ?_
        rw [add_add _ 5 1]
        refine bk_ld (j := 6) hbb (by omega) ?_
        rw [add_add _ 5 2]
        refine bk_ld (j := 7) hbb (by omega) ((marked_okV _ _ _ _).mono ?_)
        rintro e wc ⟨rfl, bc⟩
        refine ⟨_, rfl, ?_⟩
        rw [hF 6 (by omega), hown]
        have bcc := bb.trans (bc.mono bb.size)
        have hbc := hbb.below bc
        by_cases hx : (V x).2.1 > 0
        · refine sel_t (by simpa using hx) ?_
          have := hk wc bcc
          rw [show (Tr.node l x y).ids = l.ids ++ x :: y.ids from rfl, firstM_rV _ hno] at this
          simpa [firstMV, hx] using this
        · refine sel_f (by simpa using hx) (bk_ld (j := 1) hbc (by omega) ?_)
          rw [hF 1 (by omega), h4]
          have e1 : (Tr.node l x y).ids = (l.ids ++ [x]) ++ y.ids := by simp [Tr.ids]
          have e2 : hasMV V (l.ids ++ [x]) = false := by rw [hasM_appV, hno]; simpa [hasMV] using hx
          rw [e1, hasM_appV, e2, Bool.false_or] at hh
          rw [e1, firstM_rV _ e2] at hk
          have hy0 : y.root ≠ 0 := fun e => by rw [hr.root_pos.1 e] at hh; simp [Tr.ids, hasMV] at hh
          refine sel_f (by simpa using hy0) (bk_ld (j := 1) hbc (by omega) ?_)
          rw [hF 1 (by omega), h4]
          exact ih (by omega) (h.below bcc) hr ndr hh fun w' b' => hk w' (bcc.trans (b'.mono bcc.size))
      refine bk_ld0 hb13 (by omega) ?_
      rw [hF 0 (by omega), h3]
      by_cases hl0 : l.root = 0
      · refine sel_f (by simp [hl0]) (rest be2 hb13 (by rw [hl.root_pos.1 hl0]; rfl))
      · refine sel_t (by simp; omega) (ldS_intro hp2.sl0 (bk_ld0 hb13 (by omega) ?_))
        rw [hF 0 (by omega), h3]
        have hlr := hl.root_lt hf.pos
        refine optB_some rfl (req_intro (by simp; omega) (nd_ld (j := 8) hp2 hlr rfl (by omega) ?_))
        rw [add_add _ 8 1]
        refine nd_ld (j := 9) hp2 hlr rfl (by omega) ?_
        rw [add_add _ 8 2]
        refine nd_ld (j := 10) hp2 hlr rfl (by omega) ((marked_okV _ _ _ _).mono ?_)
        rintro e wb ⟨rfl, bb⟩
        refine ⟨_, rfl, ?_⟩
        rw [hl.all9 hl0, (hf.sum hl.lt).2.1, (sm_marksV hm hf.le hl.lt ndl).2]
        have bbb := be2.trans (bb.mono be2.size)
        have hbb := hb13.below bb
        cases hml : hasMV V l.ids with
        | true =>
          refine sel_t rfl (bk_ld0 hbb (by omega) ?_)
          rw [hF 0 (by omega), h3]
          exact ih (by omega) (h.below bbb) hl ndl hml fun w' b' => by
            have := hk w' (bbb.trans (b'.mono bbb.size))
            rwa [show (Tr.node l x y).ids = l.ids ++ x :: y.ids from rfl, firstM_lV _ hml] at this
        | false => exact sel_f rfl (rest bbb hbb hml)
def seekEV (n : Nat) (rows : List (List Nat)) (V : Nat → Int × Int × Int) (a : Int) : Int × Int := if Bd n a then (0, 150) else ((firstMV V (rowOf rows a.toNat) : Int), 0)
theorem Seek_okV {w : World} {r : RC} {rows : List (List Nat)} {V : Nat → Int × Int × Int} (h : Rope w r rows V) (hm : MarksOkV r.n V) (a : Int) (Q : Ending → World → Prop)
    (hQ : ∀ w', Below w.heap.size w w' → Q (.returned (.tuple #[.int .i64 (seekEV r.n rows V a).1, .int .i64 (seekEV r.n rows V a).2])) w') : f_euler_load_Seek_V.wp ⟨r.R, 0, none⟩ a w Q := by
  obtain ⟨N, ts, hp, hf⟩ := h
  unfold f_euler_load_Seek_V.wp
  refine alW_intro ((bad1 hp a).mono ?_)
  rintro e w1 ⟨rfl, rfl⟩
  refine ⟨_, rfl, ?_⟩
  have hp1 := hp.alloc (.cells #[.int .i64 a] 3)
  have b1 := bal w (.cells #[.int .i64 a] 3)
  generalize w.alloc (.cells #[.int .i64 a] 3) = w1 at *
  cases hb : Bd r.n a with
  | true => exact sel_t rfl (by have := hQ w1 b1; simpa [seekEV, hb] using this)
  | false =>
    obtain ⟨x, rfl, ex, hx⟩ := Bd_nat hb
    obtain ⟨s, hs, xs, es, os, us, ns⟩ := hf.tree hx
    refine sel_f rfl ((root_ok hp1 os us xs).mono ?_)
    rintro e w1 ⟨rfl, rfl⟩
    have hlr := os.root_lt hf.pos
    refine ⟨_, rfl, nd_at (K := fun q => ldI w1 ((q.add _).add 8) _ _) hp1 hlr rfl (nd_ld (j := 8) hp1 hlr rfl (by omega) ?_)⟩
    rw [add_add _ 8 1]
    refine nd_ld (j := 9) hp1 hlr rfl (by omega) ?_
    rw [add_add _ 8 2]
    refine nd_ld (j := 10) hp1 hlr rfl (by omega) ((marked_okV _ _ _ _).mono ?_)
    rintro e w2 ⟨rfl, b2⟩
    refine ⟨_, rfl, ?_⟩
    rw [os.all9 (root0 os xs), (hf.sum os.lt).2.1, (sm_marksV hm hf.le os.lt ns).2]
    have b12 := b1.trans (b2.mono b1.size)
    simp only [seekEV, hb, Bool.false_eq_true, if_false, ex, ← es] at hQ
    cases hh : hasMV V s.ids with
    | false =>
      refine sel_t rfl ?_
      have := hQ w2 b12
      have e0 : firstMV V s.ids = 0 := by have := firstM_rV [] hh; rw [List.append_nil] at this; rw [this]; rfl
      rw [e0] at this; exact this
    | true =>
      refine sel_f rfl ?_
      obtain ⟨k, hk⟩ := seek_l0V hf hm (hp1.below b2) os ns hh (Kr := fun (x64 : Int) (x65 : Int) (w66 : World) => ∀ _ : Fr, Q (.returned (.tuple #[.int .i64 x64, .int .i64 x65])) w66) fun w' b' _ => hQ w' (b12.trans (b'.mono b12.size))
      exact ⟨k, hk⟩
/-! ### Seek -/
def MarksOkE (n : Nat) (V : Nat → Int × Int × Int) : Prop := ∀ i, 0 < i → i < n → 0 ≤ (V i).2.2 ∧ (V i).2.2 ≤ 255
def hasME (V : Nat → Int × Int × Int) (l : List Nat) : Bool := l.any fun i => decide ((V i).2.2 > 0)
def firstME (V : Nat → Int × Int × Int) (l : List Nat) : Nat := (l.find? fun i => decide ((V i).2.2 > 0)).getD 0
theorem sum_marksE {n : Nat} {V : Nat → Int × Int × Int} (hm : MarksOkE n V) : ∀ {l : List Nat}, (∀ i ∈ l, 0 < i ∧ i < n) → 0 ≤ (l.map fun i => (V i).2.2).sum ∧ (l.map fun i => (V i).2.2).sum ≤ 255 * l.length ∧ ((l.map fun i => (V i).2.2).sum > 0 ↔ hasME V l = true)
  | [], _ => by simp [hasME]
  | a :: l, h => by
    obtain ⟨h1, h2, h3⟩ := sum_marksE hm (l := l) fun i hi => h i (by simp [hi])
    have ha := hm a (h a (by simp)).1 (h a (by simp)).2
    simp only [List.map_cons, List.sum_cons, List.length_cons]
    refine ⟨by omega, by omega, ?_⟩
    have e : hasME V (a :: l) = (decide ((V a).2.2 > 0) || hasME V l) := by simp [hasME]
    rw [e]
    simp only [Bool.or_eq_true, decide_eq_true_eq, ← h3]
    omega
theorem sm_marksE {n : Nat} {V : Nat → Int × Int × Int} (hm : MarksOkE n V) (hn : n ≤ 65537) {l : List Nat} (hl : ∀ i ∈ l, 0 < i ∧ i < n) (nd : l.Nodup) : (sm V l).2.2 = (l.map fun i => (V i).2.2).sum ∧ decide ((sm V l).2.2 > 0) = hasME V l := by
  obtain ⟨h1, h2, h3⟩ := sum_marksE hm hl
  have hlen := nodup_le n l nd fun i hi => (hl i hi).2
  have e : (sm V l).2.2 = (l.map fun i => (V i).2.2).sum := w64_in (by omega)
  refine ⟨e, ?_⟩
  rw [e]
  by_cases h : (l.map fun i => (V i).2.2).sum > 0
  · rw [h3.1 h]; simpa using h
  · have : hasME V l = false := by simpa using fun hh => h (h3.2 hh)
    rw [this]; simpa using h
theorem marked_okE (a b c : Int) (w : World) : Calls Try.prog 58 #[.agg #[.int .i64 a, .int .i64 b, .int .i64 c]] w fun e w' => e = .returned (.bool (decide (c > 0))) ∧ Below w.heap.size w w' := by
  apply f_euler_Forest_SomeE_1.ok
  unfold f_euler_Forest_SomeE_1.wp
  exact alW_intro (ldI_intro (cnew w #[.int .i64 a, .int .i64 b, .int .i64 c] _ 2) ⟨rfl, bal _ _⟩)
theorem hasM_appE (V : Nat → Int × Int × Int) (l m : List Nat) : hasME V (l ++ m) = (hasME V l || hasME V m) := by simp [hasME]
theorem firstM_lE {V : Nat → Int × Int × Int} {l : List Nat} (m : List Nat) (h : hasME V l = true) : firstME V (l ++ m) = firstME V l := by
  unfold firstME
  rw [List.find?_append]
  cases hf : l.find? fun i => decide ((V i).2.2 > 0) with
  | some x => rfl
  | none =>
    rw [List.find?_eq_none] at hf
    simp only [hasME, List.any_eq_true] at h
    obtain ⟨x, hx, h⟩ := h
    exact absurd h (hf x hx)
theorem firstM_rE {V : Nat → Int × Int × Int} {l : List Nat} (m : List Nat) (h : hasME V l = false) : firstME V (l ++ m) = firstME V m := by
  unfold firstME
  rw [List.find?_append]
  have : (l.find? fun i => decide ((V i).2.2 > 0)) = none := by
    rw [List.find?_eq_none]
    intro x hx
    simp only [hasME, List.any_eq_false] at h
    exact h x hx
  rw [this]; rfl
def nd9E (N : Nat → Nat → Int) (x : Nat) : Nat → Int := fun j => N x j
theorem seek_l0E {r : RC} {N : Nat → Nat → Int} {rows : List (List Nat)} {V : Nat → Int × Int × Int} {ts : List Tr} (hf : FO N r.n rows V ts) (hm : MarksOkE r.n V) {Kr : Int → Int → World → Prop} : ∀ {t : Tr} {w : World}, Rp w r N → OkT N r.n t → t.ids.Nodup → hasME V t.ids = true → (∀ w', Below w.heap.size w w' → Kr (firstME V t.ids : Int) 0 w') →
    ∃ k, f_euler_load_Seek_E.l0 k ⟨r.R, 0, none⟩ (t.root : Int) w Kr := by
  intro t
  suffices h : ∀ d, ∀ {t : Tr} {w : World}, t.ids.length ≤ d → Rp w r N → OkT N r.n t → t.ids.Nodup → hasME V t.ids = true → (∀ w', Below w.heap.size w w' → Kr (firstME V t.ids : Int) 0 w') → f_euler_load_Seek_E.l0 d ⟨r.R, 0, none⟩ (t.root : Int) w Kr by
    intro w h1 h2 h3 h4 h5
    exact ⟨_, h _ (Nat.le_refl _) h1 h2 h3 h4 h5⟩
  intro d
  induction d with
  | zero =>
    intro t w hd _ _ _ hh _
    have : t.ids = [] := List.length_eq_zero_iff.1 (by omega)
    rw [this] at hh; simp [hasME] at hh
  | succ d ih =>
    intro t w hd h ok nd hh hk
    cases t with
    | nil => simp [Tr.ids, hasME] at hh
    | node l x y =>
      have ok' := ok
      obtain ⟨h1, h2, h3, h4, h5, h6, h7, h7b, h8, h9, hl, hr⟩ := ok
      have nd' := nd
      simp only [Tr.ids, List.nodup_append, List.nodup_cons, List.mem_cons] at nd
      obtain ⟨ndl, ⟨hxr, ndr⟩, hdd⟩ := nd
      simp only [Tr.ids, List.length_append, List.length_cons] at hd
      unfold f_euler_load_Seek_E.l0
      refine nd_at (K := fun q => ldI w (q.add _) _ _) h h2 rfl (nd_ld0 h h2 rfl (nd_ld (j := 1) h h2 rfl (by omega) (nd_ld (j := 2) h h2 rfl (by omega) (nd_ld (j := 3) h h2 rfl (by omega) (nd_ld (j := 4) h h2 rfl (by omega)
        (nd_ld (j := 5) h h2 rfl (by omega) (nd_ld (j := 6) h h2 rfl (by omega) (nd_ld (j := 7) h h2 rfl (by omega) (nd_ld (j := 8) h h2 rfl (by omega) (nd_ld (j := 9) h h2 rfl (by omega) (nd_ld (j := 10) h h2 rfl (by omega) (alW_intro ?_))))))))))))
      have hb1 : Blk (w.alloc (.cells #[.int .i64 (0 : Int), .int .i64 (0 : Int), .int .i64 (0 : Int), .int .u64 (0 : Int), .int .i64 (0 : Int), .int .i64 (0 : Int), .int .i64 (0 : Int), .int .i64 (0 : Int), .int .i64 (0 : Int), .int .i64 (0 : Int), .int .i64 (0 : Int)] 112)) w.heap.size 11 (fun _ => 0) :=
        Blk.new w _ _ 11 _ rfl (by intro j hj; match j, hj with | 0, _ => rfl | 1, _ => rfl | 2, _ => rfl | 3, _ => rfl | 4, _ => rfl | 5, _ => rfl | 6, _ => rfl | 7, _ => rfl | 8, _ => rfl | 9, _ => rfl | 10, _ => rfl)
      have hp1 := h.alloc (.cells #[.int .i64 (0 : Int), .int .i64 (0 : Int), .int .i64 (0 : Int), .int .u64 (0 : Int), .int .i64 (0 : Int), .int .i64 (0 : Int), .int .i64 (0 : Int), .int .i64 (0 : Int), .int .i64 (0 : Int), .int .i64 (0 : Int), .int .i64 (0 : Int)] 112)
      have be1 := bal w (.cells #[.int .i64 (0 : Int), .int .i64 (0 : Int), .int .i64 (0 : Int), .int .u64 (0 : Int), .int .i64 (0 : Int), .int .i64 (0 : Int), .int .i64 (0 : Int), .int .i64 (0 : Int), .int .i64 (0 : Int), .int .i64 (0 : Int), .int .i64 (0 : Int)] 112)
      generalize w.alloc (.cells #[.int .i64 (0 : Int), .int .i64 (0 : Int), .int .i64 (0 : Int), .int .u64 (0 : Int), .int .i64 (0 : Int), .int .i64 (0 : Int), .int .i64 (0 : Int), .int .i64 (0 : Int), .int .i64 (0 : Int), .int .i64 (0 : Int), .int .i64 (0 : Int)] 112) = w1 at *
      refine bk_st0 hb1 (by omega) fun w2 hb2 k2 => bk_st (j := 1) hb2 (by omega) fun w3 hb3 k3 => bk_st (j := 2) hb3 (by omega) fun w4 hb4 k4 => bk_st (j := 3) hb4 (by omega) fun w5 hb5 k5 => bk_st (j := 4) hb5 (by omega) fun w6 hb6 k6 => bk_st (j := 5) hb6 (by omega) fun w7 hb7 k7 => bk_st (j := 6) hb7 (by omega) fun w8 hb8 k8 => bk_st (j := 7) hb8 (by omega) fun w9 hb9 k9 => bk_st (j := 8) hb9 (by omega) fun w10 hb10 k10 => bk_st (j := 9) hb10 (by omega) fun w11 hb11 k11 => bk_st (j := 10) hb11 (by omega) fun w12 hb12 k12 => drW_intro ?_
      have kk : Keeps (fun k => k = w.heap.size) w1 w12 := (((((k2.trans k3).trans (k4.trans k5)).trans (k6.trans k7)).trans (k8.trans k9)).trans k10).trans (k11.trans k12)
      have be2 : Below w.heap.size w w12.drew := (bel_blk be1 kk (Nat.le_refl _)).drew
      have hp2 : Rp w12.drew r N := h.below be2
      have hb13 := hb12.below (Below.refl _ _).drew
      clear hb1 hb2 hb3 hb4 hb5 hb6 hb7 hb8 hb9 hb10 hb11 hb12 k2 k3 k4 k5 k6 k7 k8 k9 k10 k11 k12 kk hp1 be1
      generalize w12.drew = wa at *
      have hF : ∀ j, j < 11 → (upd (upd (upd (upd (upd (upd (upd (upd (upd (upd (upd (fun _ => (0 : Int)) 0 (N x 0)) 1 (N x 1)) 2 (N x 2)) 3 (N x 3)) 4 (N x 4)) 5 (N x 5)) 6 (N x 6)) 7 (N x 7)) 8 (N x 8)) 9 (N x 9)) 10 (N x 10)) j = N x j := by
        intro j hj
        match j, hj with | 0, _ => rfl | 1, _ => rfl | 2, _ => rfl | 3, _ => rfl | 4, _ => rfl | 5, _ => rfl | 6, _ => rfl | 7, _ => rfl | 8, _ => rfl | 9, _ => rfl | 10, _ => rfl
      generalize (upd (upd (upd (upd (upd (upd (upd (upd (upd (upd (upd (fun _ => (0 : Int)) 0 (N x 0)) 1 (N x 1)) 2 (N x 2)) 3 (N x 3)) 4 (N x 4)) 5 (N x 5)) 6 (N x 6)) 7 (N x 7)) 8 (N x 8)) 9 (N x 9)) 10 (N x 10)) = F at *
      have hown : N x 7 = (V x).2.2 := (hf.v x h1 h2).2.2
      -- has the node itself a mark, or what is to the right
      have rest : ∀ {wb : World}, Below w.heap.size w wb → Blk wb w.heap.size 11 F → hasME V l.ids = false →
          ldI wb ((⟨w.heap.size, 0, none⟩ : Addr).add 5) .i64 fun x57 => ldI wb (((⟨w.heap.size, 0, none⟩ : Addr).add 5).add 1) .i64 fun x58 => ldI wb (((⟨w.heap.size, 0, none⟩ : Addr).add 5).add 2) .i64 fun x59 => Calls Try.prog 58 #[.agg #[.int .i64 x57, .int .i64 x58, .int .i64 x59]] wb fun e59 w60 => ∃ (b61 : Bool), e59 = .returned (.bool b61) ∧ (
            sel b61 (Kr (x : Int) (0 : Int) w60) (ldI w60 ((⟨w.heap.size, 0, none⟩ : Addr).add 1) .i64 fun x62 => sel (x62 == (0 : Int)) (Kr (x : Int) (0 : Int) w60) (ldI w60 ((⟨w.heap.size, 0, none⟩ : Addr).add 1) .i64 fun x63 => f_euler_load_Seek_E.l0 d ⟨r.R, 0, none⟩ x63 w60 Kr))) := by
        intro wb bb hbb hno
        refine bk_ld (j := 5) hbb (by omega) ?_
        rw [add_add _ 5 1]
        refine bk_ld (j := 6) hbb (by omega) ?_
        rw [add_add _ 5 2]
        refine bk_ld (j := 7) hbb (by omega) ((marked_okE _ _ _ _).mono ?_)
        rintro e wc ⟨rfl, bc⟩
        refine ⟨_, rfl, ?_⟩
        rw [hF 7 (by omega), hown]
        have bcc := bb.trans (bc.mono bb.size)
        have hbc := hbb.below bc
        by_cases hx : (V x).2.2 > 0
        · refine sel_t (by simpa using hx) ?_
          have := hk wc bcc
          rw [show (Tr.node l x y).ids = l.ids ++ x :: y.ids from rfl, firstM_rE _ hno] at this
          simpa [firstME, hx] using this
        · refine sel_f (by simpa using hx) (bk_ld (j := 1) hbc (by omega) ?_)
          rw [hF 1 (by omega), h4]
          have e1 : (Tr.node l x y).ids = (l.ids ++ [x]) ++ y.ids := by simp [Tr.ids]
          have e2 : hasME V (l.ids ++ [x]) = false := by rw [hasM_appE, hno]; simpa [hasME] using hx
          rw [e1, hasM_appE, e2, Bool.false_or] at hh
          rw [e1, firstM_rE _ e2] at hk
          have hy0 : y.root ≠ 0 := fun e => by rw [hr.root_pos.1 e] at hh; simp [Tr.ids, hasME] at hh
          refine sel_f (by simpa using hy0) (bk_ld (j := 1) hbc (by omega) ?_)
          rw [hF 1 (by omega), h4]
          exact ih (by omega) (h.below bcc) hr ndr hh fun w' b' => hk w' (bcc.trans (b'.mono bcc.size))
      refine bk_ld0 hb13 (by omega) ?_
      rw [hF 0 (by omega), h3]
      by_cases hl0 : l.root = 0
      · refine sel_f (by simp [hl0]) (rest be2 hb13 (by rw [hl.root_pos.1 hl0]; rfl))
      · refine sel_t (by simp; omega) (ldS_intro hp2.sl0 (bk_ld0 hb13 (by omega) ?_))
        rw [hF 0 (by omega), h3]
        have hlr := hl.root_lt hf.pos
        refine optB_some rfl (req_intro (by simp; omega) (nd_ld (j := 8) hp2 hlr rfl (by omega) ?_))
        rw [add_add _ 8 1]
        refine nd_ld (j := 9) hp2 hlr rfl (by omega) ?_
        rw [add_add _ 8 2]
        refine nd_ld (j := 10) hp2 hlr rfl (by omega) ((marked_okE _ _ _ _).mono ?_)
        rintro e wb ⟨rfl, bb⟩
        refine ⟨_, rfl, ?_⟩
        rw [hl.all10 hl0, (hf.sum hl.lt).2.2, (sm_marksE hm hf.le hl.lt ndl).2]
        have bbb := be2.trans (bb.mono be2.size)
        have hbb := hb13.below bb
        cases hml : hasME V l.ids with
        | true =>
          refine sel_t rfl (bk_ld0 hbb (by omega) ?_)
          rw [hF 0 (by omega), h3]
          exact ih (by omega) (h.below bbb) hl ndl hml fun w' b' => by
            have := hk w' (bbb.trans (b'.mono bbb.size))
            rwa [show (Tr.node l x y).ids = l.ids ++ x :: y.ids from rfl, firstM_lE _ hml] at this
        | false => exact sel_f rfl (rest bbb hbb hml)
def seekEE (n : Nat) (rows : List (List Nat)) (V : Nat → Int × Int × Int) (a : Int) : Int × Int := if Bd n a then (0, 150) else ((firstME V (rowOf rows a.toNat) : Int), 0)
theorem Seek_okE {w : World} {r : RC} {rows : List (List Nat)} {V : Nat → Int × Int × Int} (h : Rope w r rows V) (hm : MarksOkE r.n V) (a : Int) (Q : Ending → World → Prop)
    (hQ : ∀ w', Below w.heap.size w w' → Q (.returned (.tuple #[.int .i64 (seekEE r.n rows V a).1, .int .i64 (seekEE r.n rows V a).2])) w') : f_euler_load_Seek_E.wp ⟨r.R, 0, none⟩ a w Q := by
  obtain ⟨N, ts, hp, hf⟩ := h
  unfold f_euler_load_Seek_E.wp
  refine alW_intro ((bad1 hp a).mono ?_)
  rintro e w1 ⟨rfl, rfl⟩
  refine ⟨_, rfl, ?_⟩
  have hp1 := hp.alloc (.cells #[.int .i64 a] 3)
  have b1 := bal w (.cells #[.int .i64 a] 3)
  generalize w.alloc (.cells #[.int .i64 a] 3) = w1 at *
  cases hb : Bd r.n a with
  | true => exact sel_t rfl (by have := hQ w1 b1; simpa [seekEE, hb] using this)
  | false =>
    obtain ⟨x, rfl, ex, hx⟩ := Bd_nat hb
    obtain ⟨s, hs, xs, es, os, us, ns⟩ := hf.tree hx
    refine sel_f rfl ((root_ok hp1 os us xs).mono ?_)
    rintro e w1 ⟨rfl, rfl⟩
    have hlr := os.root_lt hf.pos
    refine ⟨_, rfl, nd_at (K := fun q => ldI w1 ((q.add _).add 8) _ _) hp1 hlr rfl (nd_ld (j := 8) hp1 hlr rfl (by omega) ?_)⟩
    rw [add_add _ 8 1]
    refine nd_ld (j := 9) hp1 hlr rfl (by omega) ?_
    rw [add_add _ 8 2]
    refine nd_ld (j := 10) hp1 hlr rfl (by omega) ((marked_okE _ _ _ _).mono ?_)
    rintro e w2 ⟨rfl, b2⟩
    refine ⟨_, rfl, ?_⟩
    rw [os.all10 (root0 os xs), (hf.sum os.lt).2.2, (sm_marksE hm hf.le os.lt ns).2]
    have b12 := b1.trans (b2.mono b1.size)
    simp only [seekEE, hb, Bool.false_eq_true, if_false, ex, ← es] at hQ
    cases hh : hasME V s.ids with
    | false =>
      refine sel_t rfl ?_
      have := hQ w2 b12
      have e0 : firstME V s.ids = 0 := by have := firstM_rE [] hh; rw [List.append_nil] at this; rw [this]; rfl
      rw [e0] at this; exact this
    | true =>
      refine sel_f rfl ?_
      obtain ⟨k, hk⟩ := seek_l0E hf hm (hp1.below b2) os ns hh (Kr := fun (x64 : Int) (x65 : Int) (w66 : World) => ∀ _ : Fr, Q (.returned (.tuple #[.int .i64 x64, .int .i64 x65])) w66) fun w' b' _ => hQ w' (b12.trans (b'.mono b12.size))
      exact ⟨k, hk⟩
end Go.Proofs.Ytkkobfajahmfaaa.Rd
