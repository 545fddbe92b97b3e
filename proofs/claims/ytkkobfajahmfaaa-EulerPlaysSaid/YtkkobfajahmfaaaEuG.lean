/- The calls of a rope, walked: bad, Value, All, Size, Same, Index, Join, Cut, Set, each on rows. Conditions: none. -/
import Derived.Test.YtkkobfajahmfaaaEuF
namespace Go.Proofs.Ytkkobfajahmfaaa.Rd
open Go.Dn Go.RowKit
set_option linter.unusedVariables false
set_option maxRecDepth 100000

structure FO (N : Nat → Nat → Int) (n : Nat) (rows : List (List Nat)) (V : Nat → Int × Int × Int) (ts : List Tr) : Prop where
  ids : ts.map Tr.ids = rows
  rok : RowsOk n rows
  ok : ∀ t ∈ ts, OkT N n t ∧ N t.root 2 = 0
  z : N 0 4 = 0
  vals : Vals N n
  le : n ≤ 65537
  pos : 0 < n
  v : ∀ i, 0 < i → i < n → N i 5 = (V i).1 ∧ N i 6 = (V i).2.1 ∧ N i 7 = (V i).2.2
/-- a rope that tells these rows, its nodes bearing this -/
def Rope (w : World) (r : RC) (rows : List (List Nat)) (V : Nat → Int × Int × Int) : Prop := ∃ N ts, Rp w r N ∧ FO N r.n rows V ts
theorem Rope.keeps {S : Nat → Prop} {w w' : World} {r : RC} {rows : List (List Nat)} {V : Nat → Int × Int × Int} (h : Rope w r rows V) (k : Keeps S w w') (h1 : ¬ S r.R) (h2 : ¬ S r.g) (h3 : ∀ a, r.As = some a → ¬ S a.block) : Rope w' r rows V := by
  obtain ⟨N, ts, hp, hf⟩ := h
  exact ⟨N, ts, hp.keeps k h1 h2 h3, hf⟩
theorem Rope.below {w w' : World} {r : RC} {rows : List (List Nat)} {V : Nat → Int × Int × Int} (h : Rope w r rows V) (hb : Below w.heap.size w w') : Rope w' r rows V := by
  obtain ⟨N, ts, hp, hf⟩ := h
  exact ⟨N, ts, hp.below hb, hf⟩
theorem FO.tree {N : Nat → Nat → Int} {n : Nat} {rows : List (List Nat)} {V : Nat → Int × Int × Int} {ts : List Tr} (h : FO N n rows V ts) {a : Nat} (ha : 0 < a ∧ a < n) : ∃ t ∈ ts, a ∈ t.ids ∧ t.ids = rowOf rows a ∧ OkT N n t ∧ N t.root 2 = 0 ∧ t.ids.Nodup := by
  obtain ⟨hm, hma⟩ := h.rok.rowOf_mem ha
  have hm' := hm
  rw [← h.ids] at hm
  obtain ⟨t, ht, e⟩ := List.mem_map.1 hm
  exact ⟨t, ht, by rw [e, h.ids]; exact hma, by rw [e, h.ids], (h.ok t ht).1, (h.ok t ht).2, by rw [e, h.ids]; exact h.rok.nd _ hm'⟩
theorem FO.pw {N : Nat → Nat → Int} {n : Nat} {rows : List (List Nat)} {V : Nat → Int × Int × Int} {ts : List Tr} (h : FO N n rows V ts) : ts.Pairwise (fun s t => Disj s.ids t.ids) := by
  have := h.rok.dj
  rw [← h.ids, List.pairwise_map] at this
  exact this
/-- is there no such node -/
def Bd (n : Nat) (a : Int) : Bool := decide (a < 1) || decide (a ≥ (n : Int))
theorem Bd_nat {n : Nat} {a : Int} (h : Bd n a = false) : ∃ k : Nat, a = (k : Int) ∧ a.toNat = k ∧ 0 < k ∧ k < n := by
  simp [Bd] at h
  exact ⟨a.toNat, by omega, rfl, by omega, by omega⟩
theorem bad_l0 {w : World} {r : RC} {N : Nat → Nat → Int} (h : Rp w r N) {A : Option Addr} {l : List Int} {c : Nat} (hl : RI w A l) (hlen : l.length ≤ 1000) {K0 : World → Prop} {Kr : Bool → World → Prop} : ∀ (m i : Nat), l.length - i = m → i ≤ l.length →
    ((l.drop i).any (Bd r.n) = true → Kr true w) → ((l.drop i).any (Bd r.n) = false → K0 w) → f_euler_load_bad.l0 (m + 1) ⟨r.R, 0, none⟩ A l.length c (l.length : Int) (i : Int) w K0 Kr := by
  intro m
  induction m with
  | zero =>
    intro i h1 h2 kt kf
    have : i = l.length := by omega
    subst this
    unfold f_euler_load_bad.l0
    exact sel_f (by simp) (kf (by simp))
  | succ m ih =>
    intro i h1 h2 kt kf
    have hi : i < l.length := by omega
    obtain ⟨a, rfl, hc⟩ := hl i hi
    unfold f_euler_load_bad.l0
    rw [List.drop_eq_getElem_cons hi, List.any_cons] at kt kf
    refine sel_t (by simpa using hi) (optB_some rfl (req_intro (by simp; omega) (ldI_intro (x := l[i]) (by rw [Int.toNat_natCast, Nat.mul_one]; exact hc) ?_)))
    by_cases hb1 : l[i] < 1
    · exact sel_t (by simpa using hb1) (kt (by simp [Bd, hb1]))
    · refine sel_f (by simp; omega) (ldS_intro h.sl0 ?_)
      by_cases hb2 : l[i] ≥ (r.n : Int)
      · exact sel_t (by simpa using hb2) (kt (by simp [Bd, hb2]))
      · refine sel_f (by simp; omega) ?_
        have e : Bd r.n l[i] = false := by simp [Bd]; omega
        rw [e, Bool.false_or] at kt kf
        rw [w64_in (by omega), show (i : Int) + 1 = ((i + 1 : Nat) : Int) by omega]
        exact ih (i + 1) (by omega) (by omega) kt kf
theorem bad_ok {w : World} {r : RC} {N : Nat → Nat → Int} (h : Rp w r N) {A : Option Addr} {l : List Int} {c : Nat} (hl : RI w A l) (hlen : l.length ≤ 1000) :
    Calls Try.prog 65 #[.pointer (some ⟨r.R, 0, none⟩), .slice A l.length c] w fun e w' => e = .returned (.bool (l.any (Bd r.n))) ∧ w' = w := by
  apply f_euler_load_bad.ok
  unfold f_euler_load_bad.wp
  exact ⟨_, bad_l0 h hl hlen l.length 0 rfl (by omega) (fun e _ => ⟨by rw [List.drop_zero] at e; rw [e], rfl⟩) (fun e _ => ⟨by rw [List.drop_zero] at e; rw [e], rfl⟩)⟩
theorem bad1 {w : World} {r : RC} {N : Nat → Nat → Int} (h : Rp w r N) (a : Int) :
    Calls Try.prog 65 #[.pointer (some ⟨r.R, 0, none⟩), .slice (some ⟨w.heap.size, 0, none⟩) 1 1] (w.alloc (.cells #[.int .i64 a] 3)) fun e w' => e = .returned (.bool (Bd r.n a)) ∧ w' = w.alloc (.cells #[.int .i64 a] 3) := by
  refine (bad_ok (h.alloc _) (RI.lit w [a] rfl _) (by simp)).mono ?_
  rintro e w' ⟨rfl, rfl⟩
  simp
theorem bad2 {w : World} {r : RC} {N : Nat → Nat → Int} (h : Rp w r N) (a b : Int) :
    Calls Try.prog 65 #[.pointer (some ⟨r.R, 0, none⟩), .slice (some ⟨w.heap.size, 0, none⟩) 2 2] (w.alloc (.cells #[.int .i64 a, .int .i64 b] 3)) fun e w' => e = .returned (.bool (Bd r.n a || Bd r.n b)) ∧ w' = w.alloc (.cells #[.int .i64 a, .int .i64 b] 3) := by
  refine (bad_ok (h.alloc _) (RI.lit w [a, b] rfl _) (by simp)).mono ?_
  rintro e w' ⟨rfl, rfl⟩
  simp
theorem nat_beq (a b : Nat) : ((a : Int) == (b : Int)) = decide (a = b) := by
  by_cases h : a = b
  · simp [h]
  · rw [decide_eq_false h]; simpa using fun e => h (by omega)
theorem ne_mem' {l : List Nat} {i a : Nat} (h : a ∈ l) (k : i ∉ l) : i ≠ a := fun e => k (e ▸ h)
theorem bal (w : World) (o : Obj) : Below w.heap.size w (w.alloc o) := (Below.refl _ _).alloc (Nat.le_refl _) _

/-! ### Same, Index, Size, Join, Cut -/
def sameE (n : Nat) (rows : List (List Nat)) (a b : Int) : Bool × Int := if Bd n a || Bd n b then (false, 150) else (decide (rowOf rows a.toNat = rowOf rows b.toNat), 0)
theorem root_eq {N : Nat → Nat → Int} {n : Nat} {rows : List (List Nat)} {V : Nat → Int × Int × Int} {ts : List Tr} (h : FO N n rows V ts) {s t : Tr} (hs : s ∈ ts) (ht : t ∈ ts) : s.root = t.root ↔ s.ids = t.ids := by
  have r0 : ∀ u ∈ ts, u.root ≠ 0 := fun u hu e => by
    have := ((h.ok u hu).1.root_pos).1 e
    exact h.rok.ne u.ids (by rw [← h.ids]; exact List.mem_map_of_mem hu) (by rw [this]; rfl)
  constructor
  · intro e
    have := one_of h.pw hs ht (Tr.root_mem (r0 s hs)) (e ▸ Tr.root_mem (r0 t ht))
    rw [this]
  · intro e
    have := one_of h.pw hs ht (Tr.root_mem (r0 s hs)) (e ▸ Tr.root_mem (r0 s hs))
    rw [this]
theorem Same_ok {w : World} {r : RC} {rows : List (List Nat)} {V : Nat → Int × Int × Int} (h : Rope w r rows V) (a b : Int) :
    Calls Try.prog 38 #[.pointer (some ⟨r.R, 0, none⟩), .int .i64 a, .int .i64 b] w fun e w' => e = .returned (.tuple #[.bool (sameE r.n rows a b).1, .int .i64 (sameE r.n rows a b).2]) ∧ Below w.heap.size w w' := by
  obtain ⟨N, ts, hp, hf⟩ := h
  apply f_euler_load_Same.ok
  unfold f_euler_load_Same.wp
  refine alW_intro ((bad2 hp a b).mono ?_)
  rintro e w1 ⟨rfl, rfl⟩
  refine ⟨_, rfl, ?_⟩
  cases hb : Bd r.n a || Bd r.n b with
  | true => exact sel_t rfl ⟨by simp [sameE, hb], bal _ _⟩
  | false =>
    refine sel_f rfl ?_
    simp only [Bool.or_eq_false_iff] at hb
    obtain ⟨x, rfl, ex, hx⟩ := Bd_nat hb.1
    obtain ⟨y, rfl, ey, hy⟩ := Bd_nat hb.2
    obtain ⟨s, hs, xs, es, os, us, ns⟩ := hf.tree hx
    obtain ⟨t, ht, yt, et, ot, ut, nt⟩ := hf.tree hy
    refine (root_ok (hp.alloc _) os us xs).mono ?_
    rintro e w2 ⟨rfl, rfl⟩
    refine ⟨_, rfl, (root_ok (hp.alloc _) ot ut yt).mono ?_⟩
    rintro e w2 ⟨rfl, rfl⟩
    refine ⟨_, rfl, ?_, bal _ _⟩
    simp only [sameE, hb.1, hb.2, Bool.or_self, Bool.false_eq_true, if_false, ex, ey, ← es, ← et, ← root_eq hf hs ht]
    rw [nat_beq]
def sizeE (n : Nat) (rows : List (List Nat)) (a : Int) : Int × Int := if Bd n a then (0, 150) else (((rowOf rows a.toNat).length : Int), 0)
theorem root0 {N : Nat → Nat → Int} {n : Nat} {t : Tr} (ok : OkT N n t) {a : Nat} (ha : a ∈ t.ids) : t.root ≠ 0 := fun e => by rw [ok.root_pos.1 e] at ha; simp [Tr.ids] at ha
theorem Size_ok {w : World} {r : RC} {rows : List (List Nat)} {V : Nat → Int × Int × Int} (h : Rope w r rows V) (a : Int) :
    Calls Try.prog 73 #[.pointer (some ⟨r.R, 0, none⟩), .int .i64 a] w fun e w' => e = .returned (.tuple #[.int .i64 (sizeE r.n rows a).1, .int .i64 (sizeE r.n rows a).2]) ∧ Below w.heap.size w w' := by
  obtain ⟨N, ts, hp, hf⟩ := h
  apply f_euler_load_Size.ok
  unfold f_euler_load_Size.wp
  refine alW_intro ((bad1 hp a).mono ?_)
  rintro e w1 ⟨rfl, rfl⟩
  refine ⟨_, rfl, ?_⟩
  cases hb : Bd r.n a with
  | true => exact sel_t rfl ⟨by simp [sizeE, hb], bal _ _⟩
  | false =>
    obtain ⟨x, rfl, ex, hx⟩ := Bd_nat hb
    obtain ⟨s, hs, xs, es, os, us, ns⟩ := hf.tree hx
    have h1 := (hp.alloc (.cells #[.int .i64 (x : Int)] 3)).drew
    refine sel_f rfl (drW_intro ⟨fun w' => Rp w' r N, h1, _, _, _, fun w' h' => h'.sl0, (root_ok h1 os us xs).mono ?_⟩)
    rintro e w2 ⟨rfl, rfl⟩
    have hlt := os.root_lt hf.pos
    refine ⟨_, rfl, h1, optB_some rfl (req_intro (by simp; omega) ⟨_, fun w' h' => h'.cell (j := 4) hlt rfl (by omega), ?_⟩)⟩
    rw [os.sz (root0 os xs)]
    exact ⟨by simp only [sizeE, hb, Bool.false_eq_true, if_false, ex, ← es], (bal _ _).drew⟩

/-- cells of a block of one's own -/
def Blk (w : World) (b m : Nat) (f : Nat → Int) : Prop := ∃ cs t, w.heap[b]? = some (Obj.cells cs t) ∧ cs.size = m ∧ ∀ j, j < m → cs[j]? = some (.int (kd j) (f j))
theorem Blk.keeps {S : Nat → Prop} {w w' : World} {b m : Nat} {f : Nat → Int} (h : Blk w b m f) (k : Keeps S w w') (hb : ¬ S b) : Blk w' b m f := by
  obtain ⟨cs, t, h1, h2⟩ := h
  exact ⟨cs, t, (k.block b (Array.getElem?_eq_some_iff.1 h1).1 hb).trans h1, h2⟩
theorem Blk.below {w w' : World} {b m : Nat} {f : Nat → Int} (h : Blk w b m f) (k : Below w.heap.size w w') : Blk w' b m f := h.keeps (S := fun _ => False) (.of_below k) id
theorem Blk.new (w : World) (cs : Array Value) (t : TypeId) (m : Nat) (f : Nat → Int) (h1 : cs.size = m) (h2 : ∀ j, j < m → cs[j]? = some (.int (kd j) (f j))) : Blk (w.alloc (.cells cs t)) w.heap.size m f := ⟨cs, t, heap_alloc_new w _, h1, h2⟩
theorem Blk.cell {w : World} {b m : Nat} {f : Nat → Int} (h : Blk w b m f) {j : Nat} (hj : j < m) : w.cell? ((⟨b, 0, none⟩ : Addr).add j) = some (.int (kd j) (f j)) := by
  obtain ⟨cs, t, h1, h2, h3⟩ := h
  rw [add_mk, Nat.zero_add, cell_of_row w _ _ _ _ _ h1]; exact h3 j hj
theorem bk_ld {w : World} {b m : Nat} {f : Nat → Int} (h : Blk w b m f) {j : Nat} (hj : j < m) {K : Int → Prop} (hk : K (f j)) : ldI w ((⟨b, 0, none⟩ : Addr).add j) (kd j) K := ldI_intro (h.cell hj) hk
theorem bk_ld0 {w : World} {b m : Nat} {f : Nat → Int} (h : Blk w b m f) (hj : 0 < m) {K : Int → Prop} (hk : K (f 0)) : ldI w (⟨b, 0, none⟩ : Addr) .i64 K := ldI_intro (h.cell (j := 0) hj) hk
def upd (f : Nat → Int) (j : Nat) (v : Int) : Nat → Int := fun i => if i = j then v else f i
theorem bk_st {w : World} {b m : Nat} {f : Nat → Int} (h : Blk w b m f) {j : Nat} (hj : j < m) {v : Int} {K : World → Prop} (hk : ∀ w', Blk w' b m (upd f j v) → Keeps (fun k => k = b) w w' → K w') : stW w ((⟨b, 0, none⟩ : Addr).add j) (.int (kd j) v) K := by
  have hc := h.cell hj
  obtain ⟨cs, t, h1, h2, h3⟩ := h
  rw [add_mk, Nat.zero_add] at hc ⊢
  refine stW_intro ⟨⟨_, hc⟩, frozen_of_row _ _ _ _ _ h1⟩ (hk _ ⟨_, _, heap_setCell_same w b j cs t _ h1, by simpa using h2, ?_⟩ ((Keeps.refl (fun k => k = b) _).setCell (p := ⟨b, j, none⟩) (.inl rfl) _))
  intro i hi
  rw [Array.getElem?_setIfInBounds]
  unfold upd
  by_cases e : i = j
  · subst e; simp [h2, hi]
  · rw [if_neg (by omega), if_neg e]; exact h3 i hi
theorem bk_st0 {w : World} {b m : Nat} {f : Nat → Int} (h : Blk w b m f) (hj : 0 < m) {v : Int} {K : World → Prop} (hk : ∀ w', Blk w' b m (upd f 0 v) → Keeps (fun k => k = b) w w' → K w') : stW w (⟨b, 0, none⟩ : Addr) (.int .i64 v) K := bk_st (j := 0) h hj hk

/-! ### Value, All -/
def sm (V : Nat → Int × Int × Int) (l : List Nat) : Int × Int × Int := (IntKind.i64.wrap (l.map fun i => (V i).1).sum, IntKind.i64.wrap (l.map fun i => (V i).2.1).sum, IntKind.i64.wrap (l.map fun i => (V i).2.2).sum)
def allE (n : Nat) (rows : List (List Nat)) (V : Nat → Int × Int × Int) (a : Int) : (Int × Int × Int) × Int := if Bd n a then ((0, 0, 0), 150) else (sm V (rowOf rows a.toNat), 0)
theorem FO.sum {N : Nat → Nat → Int} {n : Nat} {rows : List (List Nat)} {V : Nat → Int × Int × Int} {ts : List Tr} (h : FO N n rows V ts) {l : List Nat} (hl : ∀ i ∈ l, 0 < i ∧ i < n) : tot N 5 l = (sm V l).1 ∧ tot N 6 l = (sm V l).2.1 ∧ tot N 7 l = (sm V l).2.2 := by
  unfold tot sm
  refine ⟨?_, ?_, ?_⟩
  · rw [List.map_congr_left (fun i hi => (h.v i (hl i hi).1 (hl i hi).2).1)]
  · rw [List.map_congr_left (fun i hi => (h.v i (hl i hi).1 (hl i hi).2).2.1)]
  · rw [List.map_congr_left (fun i hi => (h.v i (hl i hi).1 (hl i hi).2).2.2)]
/-- a block that came since the start may turn -/
theorem bel_blk {w0 w w' : World} {b : Nat} (h : Below w0.heap.size w0 w) (k : Keeps (fun k => k = b) w w') (hb : w0.heap.size ≤ b) : Below w0.heap.size w0 w' :=
  h.trans (k.below h.size (fun i hi e => by omega))
theorem All_ok {w : World} {r : RC} {rows : List (List Nat)} {V : Nat → Int × Int × Int} (h : Rope w r rows V) (a : Int) :
    Calls Try.prog 54 #[.pointer (some ⟨r.R, 0, none⟩), .int .i64 a] w fun e w' => e = .returned (.tuple #[.agg #[.int .i64 (allE r.n rows V a).1.1, .int .i64 (allE r.n rows V a).1.2.1, .int .i64 (allE r.n rows V a).1.2.2], .int .i64 (allE r.n rows V a).2]) ∧ Below w.heap.size w w' := by
  obtain ⟨N, ts, hp, hf⟩ := h
  apply f_euler_load_All.ok
  unfold f_euler_load_All.wp
  refine alW_intro (alW_intro ?_)
  have hb1 : Blk (w.alloc (.cells #[.int .i64 0, .int .i64 0, .int .i64 0] 74)) w.heap.size 3 (fun _ => 0) := Blk.new w _ _ 3 _ rfl (by intro j hj; match j, hj with | 0, _ => rfl | 1, _ => rfl | 2, _ => rfl)
  have hp1 := hp.alloc (.cells #[.int .i64 0, .int .i64 0, .int .i64 0] 74)
  have be1 := bal w (.cells #[.int .i64 0, .int .i64 0, .int .i64 0] 74)
  have hs1 : w.heap.size < (w.alloc (.cells #[.int .i64 0, .int .i64 0, .int .i64 0] 74)).heap.size := by simp
  generalize w.alloc (.cells #[.int .i64 0, .int .i64 0, .int .i64 0] 74) = w1 at *
  refine (bad1 hp1 a).mono ?_
  rintro e w2 ⟨rfl, rfl⟩
  have hb2 := hb1.below (bal w1 (.cells #[.int .i64 a] 3))
  have hp2 := hp1.alloc (.cells #[.int .i64 a] 3)
  have be2 := be1.trans ((bal w1 (.cells #[.int .i64 a] 3)).mono (Nat.le_of_lt hs1))
  generalize w1.alloc (.cells #[.int .i64 a] 3) = w2 at *
  refine ⟨_, rfl, ?_⟩
  cases hb : Bd r.n a with
  | true =>
    refine sel_t rfl (bk_ld0 hb2 (by omega) (bk_ld (j := 1) hb2 (by omega) (bk_ld (j := 2) hb2 (by omega) (bk_st0 hb2 (by omega) fun w3 hb3 k3 => bk_st (j := 1) hb3 (by omega) fun w4 hb4 k4 => bk_st (j := 2) hb4 (by omega) fun w5 hb5 k5 => bk_ld0 hb5 (by omega) (bk_ld (j := 1) hb5 (by omega) (bk_ld (j := 2) hb5 (by omega) ?_))))))
    exact ⟨by simp [allE, hb, upd], bel_blk (bel_blk (bel_blk be2 k3 (Nat.le_refl _)) k4 (Nat.le_refl _)) k5 (Nat.le_refl _)⟩
  | false =>
    obtain ⟨x, rfl, ex, hx⟩ := Bd_nat hb
    obtain ⟨s, hs, xs, es, os, us, ns⟩ := hf.tree hx
    refine sel_f rfl (drW_intro ⟨fun w' => Rp w' r N, hp2.drew, _, _, _, fun w' h' => h'.sl0, (root_ok hp2.drew os us xs).mono ?_⟩)
    rintro e w2' ⟨rfl, rfl⟩
    have hlt := os.root_lt hf.pos
    have hb2 : Blk w2.drew w.heap.size 3 (fun _ => 0) := hb2.below (Below.refl _ _).drew
    have be2 := be2.drew
    refine ⟨_, rfl, hp2.drew, optB_some rfl (req_intro (by simp; omega) ⟨_, fun w' h' => h'.cell (j := 8) hlt rfl (by omega), _, fun w' h' => by rw [add_add]; exact h'.cell (j := 9) hlt rfl (by omega), _, fun w' h' => by rw [add_add]; exact h'.cell (j := 10) hlt rfl (by omega), ?_⟩)⟩
    refine (bk_st0 hb2 (by omega) fun w3 hb3 k3 => bk_st (j := 1) hb3 (by omega) fun w4 hb4 k4 => bk_st (j := 2) hb4 (by omega) fun w5 hb5 k5 => bk_ld0 hb5 (by omega) (bk_ld (j := 1) hb5 (by omega) (bk_ld (j := 2) hb5 (by omega) ?_)))
    refine ⟨?_, bel_blk (bel_blk (bel_blk be2 k3 (Nat.le_refl _)) k4 (Nat.le_refl _)) k5 (Nat.le_refl _)⟩
    have hsum := hf.sum os.lt
    have e8 := os.all8 (root0 os xs); have e9 := os.all9 (root0 os xs); have e10 := os.all10 (root0 os xs)
    rw [hsum.1, es] at e8
    rw [hsum.2.1, es] at e9
    rw [hsum.2.2, es] at e10
    simp only [allE, hb, Bool.false_eq_true, if_false, ex, upd, e8, e9, e10]
    rfl

/-! ### Join, Cut -/
def joinE (n : Nat) (rows : List (List Nat)) (a b : Int) : Int := if Bd n a || Bd n b then 150 else if rowOf rows a.toNat = rowOf rows b.toNat then 151 else 0
def joinS (n : Nat) (rows : List (List Nat)) (a b : Int) : List (List Nat) := if Bd n a || Bd n b then rows else if rowOf rows a.toNat = rowOf rows b.toNat then rows else joinR rows a.toNat b.toNat
theorem FO.v' {N N' : Nat → Nat → Int} {n : Nat} {rows : List (List Nat)} {V : Nat → Int × Int × Int} {ts : List Tr} (h : FO N n rows V ts) (hc : ∀ i j, j = 5 ∨ j = 6 ∨ j = 7 → N' i j = N i j) : Vals N' n ∧ ∀ i, 0 < i → i < n → N' i 5 = (V i).1 ∧ N' i 6 = (V i).2.1 ∧ N' i 7 = (V i).2.2 :=
  ⟨fun i hi => by rw [hc i 5 (by simp), hc i 6 (by simp), hc i 7 (by simp)]; exact h.vals i hi, fun i h1 h2 => by rw [hc i 5 (by simp), hc i 6 (by simp), hc i 7 (by simp)]; exact h.v i h1 h2⟩
theorem Join_ok {w : World} {r : RC} {rows : List (List Nat)} {V : Nat → Int × Int × Int} (h : Rope w r rows V) (a b : Int) :
    Calls Try.prog 41 #[.pointer (some ⟨r.R, 0, none⟩), .int .i64 a, .int .i64 b] w fun e w' => e = .returned (.int .i64 (joinE r.n rows a b)) ∧ Rope w' r (joinS r.n rows a b) V ∧ Keeps (Sr r) w w' := by
  obtain ⟨N, ts, hp, hf⟩ := h
  apply f_euler_load_Join.ok
  unfold f_euler_load_Join.wp
  refine alW_intro ((bad2 hp a b).mono ?_)
  rintro e w1 ⟨rfl, rfl⟩
  refine ⟨_, rfl, ?_⟩
  have hp1 := hp.alloc (.cells #[.int .i64 a, .int .i64 b] 3)
  have k1 : Keeps (Sr r) w (w.alloc (.cells #[.int .i64 a, .int .i64 b] 3)) := .of_below (bal _ _)
  generalize w.alloc (.cells #[.int .i64 a, .int .i64 b] 3) = w1 at *
  cases hb : Bd r.n a || Bd r.n b with
  | true => exact sel_t rfl ⟨by simp [joinE, hb], by simp only [joinS, hb, if_true]; exact ⟨N, ts, hp1, hf⟩, k1⟩
  | false =>
    refine sel_f rfl ?_
    have hb' := hb
    simp only [Bool.or_eq_false_iff] at hb
    obtain ⟨x, rfl, ex, hx⟩ := Bd_nat hb.1
    obtain ⟨y, rfl, ey, hy⟩ := Bd_nat hb.2
    obtain ⟨s, hs, xs, es, os, us, ns⟩ := hf.tree hx
    obtain ⟨t, ht, yt, et, ot, ut, nt⟩ := hf.tree hy
    refine (root_ok hp1 os us xs).mono ?_
    rintro e w2 ⟨rfl, rfl⟩
    refine ⟨_, rfl, (root_ok hp1 ot ut yt).mono ?_⟩
    rintro e w2 ⟨rfl, rfl⟩
    refine ⟨_, rfl, ?_⟩
    by_cases hst : s.ids = t.ids
    · have : s.root = t.root := (root_eq hf hs ht).2 hst
      refine sel_t (by simp [this]) ⟨by simp [joinE, hb', ex, ey, ← es, ← et, hst], ?_, k1⟩
      have e : joinS r.n rows (x : Int) (y : Int) = rows := by simp [joinS, hb', ← es, ← et, hst]
      rw [e]; exact ⟨N, ts, hp1, hf⟩
    · have hne : s.root ≠ t.root := fun e => hst ((root_eq hf hs ht).1 e)
      have hdj : Disj s.ids t.ids := fun i hi hj => hst (by rw [one_of hf.pw hs ht hi hj])
      have hnd : (s.ids ++ t.ids).Nodup := List.nodup_append.2 ⟨ns, nt, fun i hi j hj e => hdj i hi (e ▸ hj)⟩
      refine sel_f (by rw [nat_beq]; simpa using hne) ((merge_ok _ (Nat.le_refl _) hp1 hf.le os ot hnd hf.vals).mono ?_)
      rintro e w3 ⟨u, N3, rfl, ⟨h3, k3⟩, ou, eu, c3⟩
      have ulen : u.root ≠ 0 := root0 ou (a := x) (by rw [eu]; simp [xs])
      refine ⟨_, rfl, (free_ok h3 (ou.root_lt hf.pos)).mono ?_⟩
      rintro e w4 ⟨rfl, h4, k4⟩
      rw [if_neg ulen] at h4
      refine ⟨rfl, by simp [joinE, hb', ex, ey, ← es, ← et, hst], ?_, (k1.trans k3).trans k4⟩
      have ej : joinS r.n rows (x : Int) (y : Int) = joinR rows x y := by simp [joinS, hb', ← es, ← et, hst]
      rw [ej]
      have hc5 : ∀ i j, j = 5 ∨ j = 6 ∨ j = 7 → Dn.st N3 u.root 2 0 i j = N i j := fun i j hj => by rw [st_j _ _ _ _ (by omega)]; exact c3.own i j (by omega)
      refine ⟨_, ts.filter (fun q => decide (x ∉ q.ids ∧ y ∉ q.ids)) ++ [u], h4, ?_, hf.rok.join hx hy (by rw [← es, ← et]; exact hst), ?_, ?_, (hf.v' hc5).1, hf.le, hf.pos, (hf.v' hc5).2⟩
      · rw [joinR, ← es, ← et, ← eu, List.map_append, List.map_cons, List.map_nil, ← hf.ids, List.filter_map]
        rfl
      · intro q hq
        rcases List.mem_append.1 hq with hq | hq
        · simp only [List.mem_filter, decide_eq_true_eq] at hq
          obtain ⟨hq, q1, q2⟩ := hq
          obtain ⟨oq, uq⟩ := hf.ok q hq
          have qout : ∀ i ∈ q.ids, i ∉ s.ids ++ t.ids := by
            intro i hi hh
            rcases List.mem_append.1 hh with hh | hh
            · exact q1 (by rw [one_of hf.pw hq hs hi hh]; exact xs)
            · exact q2 (by rw [one_of hf.pw hq ht hi hh]; exact yt)
          have hroot : q.root ≠ 0 := fun e => hf.rok.ne q.ids (by rw [← hf.ids]; exact List.mem_map_of_mem hq) (by rw [oq.root_pos.1 e]; rfl)
          have ur : u.root ∈ s.ids ++ t.ids := by rw [← eu]; exact Tr.root_mem ulen
          have qn : q.ids.Nodup := hf.rok.nd _ (by rw [← hf.ids]; exact List.mem_map_of_mem hq)
          refine ⟨oq.congr (Nat.le_refl _) qn fun i hi j _ _ => ?_, ?_⟩
          · rw [st_i _ _ _ _ (ne_mem' ur (qout i hi)), c3.out i (qout i hi)]
          · have := qout _ (Tr.root_mem hroot)
            rw [st_i _ _ _ _ (ne_mem' ur this), c3.out _ this]; exact uq
        · simp only [List.mem_singleton] at hq; subst hq
          refine ⟨ou.congr (Nat.le_refl _) (eu ▸ hnd) fun i hi j _ hj => ?_, st_same _ _ _ _⟩
          rcases hj with hj | hj
          · exact st_j _ _ _ _ hj
          · exact st_i _ _ _ _ hj
      · have : (0 : Nat) ∉ s.ids ++ t.ids := fun hh => by
          rcases List.mem_append.1 hh with hh | hh
          · have := (os.lt 0 hh).1; omega
          · have := (ot.lt 0 hh).1; omega
        rw [st_j _ _ _ _ (by omega), c3.out 0 this]; exact hf.z
end Go.Proofs.Ytkkobfajahmfaaa.Rd
