/- Rows of nodes, in plain terms: each node stands in one row; what a join, a cut and a new node make of the rows · The calls of a rope, walked: bad, All, Join, each on rows · The calls of a rope, walked: Cut, At, each on rows · The call of a rope that sets what a node bears, walked over a row of one · The calls of a rope, walked: Make, New · The call that makes a rope, walked: New · Tours: rows of places as closed walks along the edges of trees, in plain terms; rows up to their order · A forest that tells how far its trees reach, in memory: its rope, its paths, two maps, spare places; turn, make -/
import Derived.Test.YtklnlnjgaadjbaaZ3G
set_option linter.unusedSimpArgs false
set_option linter.unusedVariables false
namespace Go.Dn
def Disj (s t : List Nat) : Prop := ∀ x, x ∈ s → x ∉ t
theorem one_of {α : Type} {f : α → List Nat} : ∀ {L : List α}, L.Pairwise (fun s t => Disj (f s) (f t)) → ∀ {s t : α} {x : Nat}, s ∈ L → t ∈ L → x ∈ f s → x ∈ f t → s = t
 | [], _, s, t, x, hs, _, _, _ => absurd hs (by simp)
 | u :: L, h, s, t, x, hs, ht, xs, xt => by
  rw [List.pairwise_cons] at h
  rcases List.mem_cons.1 hs with e1 | hs <;> rcases List.mem_cons.1 ht with e2 | ht
  ·rw [e1, e2]
  ·rw [e1] at xs; exact absurd xt (h.1 t ht x xs)
  ·rw [e2] at xt; exact absurd xs (h.1 s hs x xt)
  ·exact one_of h.2 hs ht xs xt
structure RowsOk (n : Nat) (rows : List (List Nat)) : Prop where
 nd : ∀ l ∈ rows, l.Nodup
 ne : ∀ l ∈ rows, l ≠ []
 dj : rows.Pairwise Disj
 mem : ∀ i, (∃ l ∈ rows, i ∈ l) ↔ 0 < i ∧ i < n
def rowOf (rows : List (List Nat)) (a : Nat) : List Nat := (rows.find? fun l => decide (a ∈ l)).getD []
theorem RowsOk.one {n : Nat} {rows : List (List Nat)} (h : RowsOk n rows) {s t : List Nat} {x : Nat} (hs : s ∈ rows) (ht : t ∈ rows) (xs : x ∈ s) (xt : x ∈ t) : s = t := one_of (f := id) h.dj hs ht xs xt
theorem RowsOk.rowOf_mem {n : Nat} {rows : List (List Nat)} (h : RowsOk n rows) {a : Nat} (ha : 0 < a ∧ a < n) : rowOf rows a ∈ rows ∧ a ∈ rowOf rows a := by
 obtain ⟨l, hl, hal⟩ := (h.mem a).2 ha
 unfold rowOf
 cases hf : rows.find? fun l => decide (a ∈ l) with
 | none => rw [List.find?_eq_none] at hf; exact absurd (hf l hl) (by simpa using hal)
 | some m => exact ⟨List.mem_of_find?_eq_some hf, by simpa using List.find?_some hf⟩
theorem RowsOk.rowOf_eq {n : Nat} {rows : List (List Nat)} (h : RowsOk n rows) {a : Nat} {l : List Nat} (hl : l ∈ rows) (ha : a ∈ l) : rowOf rows a = l := by
 have hm := h.rowOf_mem ((h.mem a).1 ⟨l, hl, ha⟩)
 exact h.one hm.1 hl hm.2 ha
def joinR (rows : List (List Nat)) (a b : Nat) : List (List Nat) := rows.filter (fun l => decide (a ∉ l ∧ b ∉ l)) ++ [rowOf rows a ++ rowOf rows b]
def pieces (a : Nat) (l : List Nat) : List (List Nat) := if a ∈ l then (if l.idxOf a = 0 then [l] else [l.take (l.idxOf a), l.drop (l.idxOf a)]) else [l]
def cutR (rows : List (List Nat)) (a : Nat) : List (List Nat) := rows.flatMap (pieces a)
theorem RowsOk.join {n : Nat} {rows : List (List Nat)} (h : RowsOk n rows) {a b : Nat} (ha : 0 < a ∧ a < n) (hb : 0 < b ∧ b < n) (hab : rowOf rows a ≠ rowOf rows b) : RowsOk n (joinR rows a b) := by
 obtain ⟨ma, aa⟩ := h.rowOf_mem ha
 obtain ⟨mb, bb⟩ := h.rowOf_mem hb
 have dj : Disj (rowOf rows a) (rowOf rows b) := fun x h1 h2 => hab (h.one ma mb h1 h2)
 have mf : ∀ l, l ∈ joinR rows a b ↔ (l ∈ rows ∧ a ∉ l ∧ b ∉ l) ∨ l = rowOf rows a ++ rowOf rows b := fun l => by simp [joinR]
 refine ⟨?_, ?_, ?_, ?_⟩
 ·intro l hl
  rcases (mf l).1 hl with ⟨hl, -⟩ | rfl
  ·exact h.nd l hl
  ·exact List.nodup_append.2 ⟨h.nd _ ma, h.nd _ mb, fun x h1 y h2 e => dj x h1 (e ▸ h2)⟩
 ·intro l hl
  rcases (mf l).1 hl with ⟨hl, -⟩ | rfl
  ·exact h.ne l hl
  ·intro e; rw [List.append_eq_nil_iff] at e; exact h.ne _ ma e.1
 ·refine List.pairwise_append.2 ⟨h.dj.filter _, List.pairwise_singleton _ _, ?_⟩
  intro s hs t ht
  simp only [List.mem_singleton] at ht; subst ht
  simp only [List.mem_filter, decide_eq_true_eq] at hs
  intro x xs xt
  rcases List.mem_append.1 xt with xt | xt
  ·exact hs.2.1 (h.one hs.1 ma xs xt ▸ aa)
  ·exact hs.2.2 (h.one hs.1 mb xs xt ▸ bb)
 ·intro i
  rw [← h.mem i]
  constructor
  ·rintro ⟨l, hl, hi⟩
   rcases (mf l).1 hl with ⟨hl, -⟩ | rfl
   ·exact ⟨l, hl, hi⟩
   ·rcases List.mem_append.1 hi with hi | hi
    ·exact ⟨_, ma, hi⟩
    ·exact ⟨_, mb, hi⟩
  ·rintro ⟨l, hl, hi⟩
   by_cases h1 : a ∈ l
   ·exact ⟨_, (mf _).2 (.inr rfl), List.mem_append.2 (.inl (by rw [h.rowOf_eq hl h1]; exact hi))⟩
   by_cases h2 : b ∈ l
   ·exact ⟨_, (mf _).2 (.inr rfl), List.mem_append.2 (.inr (by rw [h.rowOf_eq hl h2]; exact hi))⟩
   exact ⟨l, (mf l).2 (.inl ⟨hl, h1, h2⟩), hi⟩
theorem pieces_flat (a : Nat) (l : List Nat) : (pieces a l).flatten = l := by
 unfold pieces
 split
 ·split <;> simp
 ·simp
theorem pieces_ne {a : Nat} {l p : List Nat} (hl : l ≠ []) (hp : p ∈ pieces a l) : p ≠ [] := by
 unfold pieces at hp
 split at hp
 ·rename_i ha
  have := idxOf_lt ha
  split at hp
  ·simp at hp; subst hp; exact hl
  ·simp at hp
   rcases hp with rfl | rfl
   ·intro e; have := congrArg List.length e; rw [List.length_take, List.length_nil] at this; omega
   ·intro e; have := congrArg List.length e; rw [List.length_drop, List.length_nil] at this; omega
 ·simp at hp; subst hp; exact hl
where idxOf_lt {a : Nat} {l : List Nat} (h : a ∈ l) : l.idxOf a < l.length := List.idxOf_lt_length_of_mem h
theorem RowsOk.cut {n : Nat} {rows : List (List Nat)} (h : RowsOk n rows) (a : Nat) : RowsOk n (cutR rows a) := by
 have sub : ∀ l p, p ∈ pieces a l → p.Sublist l := fun l p hp => by
  unfold pieces at hp
  split at hp
  ·split at hp
   ·simp at hp; subst hp; exact List.Sublist.refl _
   ·simp at hp
    rcases hp with rfl | rfl
    ·exact List.take_sublist _ _
    ·exact List.drop_sublist _ _
  ·simp at hp; subst hp; exact List.Sublist.refl _
 refine ⟨?_, ?_, ?_, ?_⟩
 ·intro p hp
  obtain ⟨l, hl, hp⟩ := List.mem_flatMap.1 hp
  exact (h.nd l hl).sublist (sub l p hp)
 ·intro p hp
  obtain ⟨l, hl, hp⟩ := List.mem_flatMap.1 hp
  exact pieces_ne (h.ne l hl) hp
 ·refine List.pairwise_flatMap.2 ⟨?_, ?_⟩
  ·intro l hl
   unfold pieces
   split
   ·split
    ·exact List.pairwise_singleton _ _
    ·rw [List.pairwise_cons]
     refine ⟨fun t ht => ?_, List.pairwise_singleton _ _⟩
     simp only [List.mem_singleton] at ht; subst ht
     intro x hx hy
     have hz := h.nd l hl
     rw [← List.take_append_drop (l.idxOf a) l, List.nodup_append] at hz
     exact hz.2.2 x hx x hy rfl
   ·exact List.pairwise_singleton _ _
  ·exact h.dj.imp fun hd p hp q hq x hx hy => hd x ((sub _ _ hp).subset hx) ((sub _ _ hq).subset hy)
 ·intro i
  rw [← h.mem i]
  constructor
  ·rintro ⟨p, hp, hi⟩
   obtain ⟨l, hl, hp⟩ := List.mem_flatMap.1 hp
   exact ⟨l, hl, (sub l p hp).subset hi⟩
  ·rintro ⟨l, hl, hi⟩
   rw [← pieces_flat a l, List.mem_flatten] at hi
   obtain ⟨p, hp, hi⟩ := hi
   exact ⟨p, List.mem_flatMap.2 ⟨l, hl, hp⟩, hi⟩
theorem RowsOk.make {n : Nat} {rows : List (List Nat)} (h : RowsOk n rows) (hn : 0 < n) : RowsOk (n + 1) (rows ++ [[n]]) := by
 refine ⟨?_, ?_, ?_, ?_⟩
 ·intro l hl
  rcases List.mem_append.1 hl with hl | hl
  ·exact h.nd l hl
  ·simp at hl; subst hl; simp
 ·intro l hl
  rcases List.mem_append.1 hl with hl | hl
  ·exact h.ne l hl
  ·simp at hl; subst hl; simp
 ·refine List.pairwise_append.2 ⟨h.dj, List.pairwise_singleton _ _, fun s hs t ht => ?_⟩
  simp only [List.mem_singleton] at ht; subst ht
  intro x hx hy
  simp at hy; subst hy
  have := (h.mem x).1 ⟨s, hs, hx⟩; omega
 ·intro i
  constructor
  ·rintro ⟨l, hl, hi⟩
   rcases List.mem_append.1 hl with hl | hl
   ·have := (h.mem i).1 ⟨l, hl, hi⟩; omega
   ·simp at hl; subst hl; simp at hi; omega
  ·rintro ⟨h1, h2⟩
   by_cases e : i = n
   ·exact ⟨[n], by simp, by simp [e]⟩
   ·obtain ⟨l, hl, hi⟩ := (h.mem i).2 ⟨h1, by omega⟩
    exact ⟨l, by simp [hl], hi⟩
end Go.Dn
namespace Go.Proofs.Ytklnlnjgaadjbaa.Rd
open Go.Dn Go.RowKit
set_option maxRecDepth 100000
section
variable {D : Int → Int → Int} {F : Nat}
structure FO (D : Int → Int → Int) (N : Nat → Nat → Int) (n : Nat) (rows : List (List Nat)) (V : Nat → Int) (ts : List Tp) : Prop where
 ids : ts.map Tp.ids = rows
 rok : RowsOk n rows
 ok : ∀ t ∈ ts, OkT D N n t ∧ N t.root 2 = 0
 z : N 0 4 = 0
 vals : Vals N n
 le : n ≤ 65537
 pos : 0 < n
 v : ∀ i, 0 < i → i < n → N i 6 = V i
 m4 : ∀ l ∈ rows, M4 D (vxs V l)
def Rope (D : Int → Int → Int) (w : World) (r : RC) (rows : List (List Nat)) (V : Nat → Int) : Prop := ∃ N ts, Rp w r N ∧ FO D N r.n rows V ts
theorem Rope.keeps {S : Nat → Prop} {w w' : World} {r : RC} {rows : List (List Nat)} {V : Nat → Int} (h : Rope D w r rows V) (k : Keeps S w w') (h1 : ¬ S r.R) (h2 : ¬ S r.g) (h3 : ∀ a, r.As = some a → ¬ S a.block) : Rope D w' r rows V := by
 obtain ⟨N, ts, hp, hf⟩ := h
 exact ⟨N, ts, hp.keeps k h1 h2 h3, hf⟩
theorem Rope.below {w w' : World} {r : RC} {rows : List (List Nat)} {V : Nat → Int} (h : Rope D w r rows V) (hb : Below w.heap.size w w') : Rope D w' r rows V := by
 obtain ⟨N, ts, hp, hf⟩ := h
 exact ⟨N, ts, hp.below hb, hf⟩
theorem FO.vx {N : Nat → Nat → Int} {n : Nat} {rows : List (List Nat)} {V : Nat → Int} {ts : List Tp} (h : FO D N n rows V ts) {l : List Nat} (hl : ∀ i ∈ l, 0 < i ∧ i < n) : Dn.vx N l = vxs V l := by
 unfold Dn.vx
 exact vxs_congr fun i hi => h.v i (hl i hi).1 (hl i hi).2
theorem FO.in_ {N : Nat → Nat → Int} {n : Nat} {rows : List (List Nat)} {V : Nat → Int} {ts : List Tp} (h : FO D N n rows V ts) {l : List Nat} (hl : l ∈ rows) : ∀ i ∈ l, 0 < i ∧ i < n := fun i hi => (h.rok.mem i).1 ⟨l, hl, hi⟩
theorem Rope.dist {D' : Int → Int → Int} {w : World} {r : RC} {rows : List (List Nat)} {V : Nat → Int} (h : Rope D w r rows V) (hd : ∀ l ∈ rows, ∀ x ∈ vxs V l, ∀ y ∈ vxs V l, D' x y = D x y) : Rope D' w r rows V := by
 obtain ⟨N, ts, hp, hf⟩ := h
 refine ⟨N, ts, hp, hf.ids, hf.rok, fun t ht => ⟨(hf.ok t ht).1.dist ?_, (hf.ok t ht).2⟩, hf.z, hf.vals, hf.le, hf.pos, hf.v, fun l hl => (hf.m4 l hl).congr (hd l hl)⟩
 have ht' : t.ids ∈ rows := by rw [← hf.ids]; exact List.mem_map_of_mem ht
 rw [hf.vx (hf.in_ ht')]
 exact hd _ ht'
theorem FO.tree {N : Nat → Nat → Int} {n : Nat} {rows : List (List Nat)} {V : Nat → Int} {ts : List Tp} (h : FO D N n rows V ts) {a : Nat} (ha : 0 < a ∧ a < n) : ∃ t ∈ ts, a ∈ t.ids ∧ t.ids = rowOf rows a ∧ OkT D N n t ∧ N t.root 2 = 0 ∧ t.ids.Nodup := by
 obtain ⟨hm, hma⟩ := h.rok.rowOf_mem ha
 have hm' := hm
 rw [← h.ids] at hm
 obtain ⟨t, ht, e⟩ := List.mem_map.1 hm
 exact ⟨t, ht, by rw [e, h.ids]; exact hma, by rw [e, h.ids], (h.ok t ht).1, (h.ok t ht).2, by rw [e, h.ids]; exact h.rok.nd _ hm'⟩
theorem FO.pw {N : Nat → Nat → Int} {n : Nat} {rows : List (List Nat)} {V : Nat → Int} {ts : List Tp} (h : FO D N n rows V ts) : ts.Pairwise (fun s t => Disj s.ids t.ids) := by
 have := h.rok.dj
 rw [← h.ids, List.pairwise_map] at this
 exact this
def Bd (n : Nat) (a : Int) : Bool := decide (a < 1) || decide (a ≥ (n : Int))
theorem Bd_nat {n : Nat} {a : Int} (h : Bd n a = false) : ∃ k : Nat, a = (k : Int) ∧ a.toNat = k ∧ 0 < k ∧ k < n := by
 simp [Bd] at h
 exact ⟨a.toNat, by omega, rfl, by omega, by omega⟩
theorem bad_l0 {w : World} {r : RC} {N : Nat → Nat → Int} (h : Rp w r N) {A : Option Addr} {l : List Int} {c : Nat} (hl : RI w A l) (hlen : l.length ≤ 1000) {K0 : World → Prop} {Kr : Bool → World → Prop} : ∀ (m i : Nat), l.length - i = m → i ≤ l.length →
  ((l.drop i).any (Bd r.n) = true → Kr true w) → ((l.drop i).any (Bd r.n) = false → K0 w) → f_span_reach_bad.l0 (m + 1) ⟨r.R, 0, none⟩ A l.length c (l.length : Int) (i : Int) w K0 Kr := by
 intro m
 induction m with
 | zero =>
  intro i h1 h2 kt kf
  have : i = l.length := by omega
  subst this
  unfold f_span_reach_bad.l0
  exact sel_f (by simp) (kf (by simp))
 | succ m ih =>
  intro i h1 h2 kt kf
  have hi : i < l.length := by omega
  obtain ⟨a, rfl, hc⟩ := hl i hi
  unfold f_span_reach_bad.l0
  rw [List.drop_eq_getElem_cons hi, List.any_cons] at kt kf
  refine sel_t (by simpa using hi) (optB_some rfl (req_intro (by simp; omega) (ldI_intro (x := l[i]) (by rw [Int.toNat_natCast, Nat.mul_one]; exact hc) ?_)))
  by_cases hb1 : l[i] < 1
  ·exact sel_t (by simpa using hb1) (kt (by simp [Bd, hb1]))
  ·refine sel_f (by simp; omega) (ldS_intro h.sl0 ?_)
   by_cases hb2 : l[i] ≥ (r.n : Int)
   ·exact sel_t (by simpa using hb2) (kt (by simp [Bd, hb2]))
   ·refine sel_f (by simp; omega) ?_
    have e : Bd r.n l[i] = false := by simp [Bd]; omega
    rw [e, Bool.false_or] at kt kf
    rw [w64_in (by omega), show (i : Int) + 1 = ((i + 1 : Nat) : Int) by omega]
    exact ih (i + 1) (by omega) (by omega) kt kf
theorem bad_ok {w : World} {r : RC} {N : Nat → Nat → Int} (h : Rp w r N) {A : Option Addr} {l : List Int} {c : Nat} (hl : RI w A l) (hlen : l.length ≤ 1000) :
  Calls Try.prog 61 #[.pointer (some ⟨r.R, 0, none⟩), .slice A l.length c] w fun e w' => e = .returned (.bool (l.any (Bd r.n))) ∧ w' = w := by
 apply f_span_reach_bad.ok
 unfold f_span_reach_bad.wp
 exact ⟨_, bad_l0 h hl hlen l.length 0 rfl (by omega) (fun e _ => ⟨by rw [List.drop_zero] at e; rw [e], rfl⟩) (fun e _ => ⟨by rw [List.drop_zero] at e; rw [e], rfl⟩)⟩
theorem bad1 {w : World} {r : RC} {N : Nat → Nat → Int} (h : Rp w r N) (a : Int) :
  Calls Try.prog 61 #[.pointer (some ⟨r.R, 0, none⟩), .slice (some ⟨w.heap.size, 0, none⟩) 1 1] (w.alloc (.cells #[.int .i64 a] 3)) fun e w' => e = .returned (.bool (Bd r.n a)) ∧ w' = w.alloc (.cells #[.int .i64 a] 3) := by
 refine (bad_ok (h.alloc _) (RI.lit w [a] rfl _) (by simp)).mono ?_
 rintro e w' ⟨rfl, rfl⟩
 simp
theorem bad2 {w : World} {r : RC} {N : Nat → Nat → Int} (h : Rp w r N) (a b : Int) :
  Calls Try.prog 61 #[.pointer (some ⟨r.R, 0, none⟩), .slice (some ⟨w.heap.size, 0, none⟩) 2 2] (w.alloc (.cells #[.int .i64 a, .int .i64 b] 3)) fun e w' => e = .returned (.bool (Bd r.n a || Bd r.n b)) ∧ w' = w.alloc (.cells #[.int .i64 a, .int .i64 b] 3) := by
 refine (bad_ok (h.alloc _) (RI.lit w [a, b] rfl _) (by simp)).mono ?_
 rintro e w' ⟨rfl, rfl⟩
 simp
theorem nat_beq (a b : Nat) : ((a : Int) == (b : Int)) = decide (a = b) := by
 by_cases h : a = b
 ·simp [h]
 ·rw [decide_eq_false h]; simpa using fun e => h (by omega)
theorem ne_mem' {l : List Nat} {i a : Nat} (h : a ∈ l) (k : i ∉ l) : i ≠ a := fun e => k (e ▸ h)
theorem bal (w : World) (o : Obj) : Below w.heap.size w (w.alloc o) := (Below.refl _ _).alloc (Nat.le_refl _) _
theorem root_eq {N : Nat → Nat → Int} {n : Nat} {rows : List (List Nat)} {V : Nat → Int} {ts : List Tp} (h : FO D N n rows V ts) {s t : Tp} (hs : s ∈ ts) (ht : t ∈ ts) : s.root = t.root ↔ s.ids = t.ids := by
 have r0 : ∀ u ∈ ts, u.root ≠ 0 := fun u hu e => by
  have := ((h.ok u hu).1.root_pos).1 e
  exact h.rok.ne u.ids (by rw [← h.ids]; exact List.mem_map_of_mem hu) (by rw [this]; rfl)
 constructor
 ·intro e
  have := one_of h.pw hs ht (Tp.root_mem (r0 s hs)) (e ▸ Tp.root_mem (r0 t ht))
  rw [this]
 ·intro e
  have := one_of h.pw hs ht (Tp.root_mem (r0 s hs)) (e ▸ Tp.root_mem (r0 s hs))
  rw [this]
theorem root0 {N : Nat → Nat → Int} {n : Nat} {t : Tp} (ok : OkT D N n t) {a : Nat} (ha : a ∈ t.ids) : t.root ≠ 0 := fun e => by rw [ok.root_pos.1 e] at ha; simp [Tp.ids] at ha
theorem bel_blk {w0 w w' : World} {b : Nat} (h : Below w0.heap.size w0 w) (k : Keeps (fun k => k = b) w w') (hb : w0.heap.size ≤ b) : Below w0.heap.size w0 w' :=
 h.trans (k.below h.size (fun i hi e => by omega))
theorem All_ok {w : World} {r : RC} {rows : List (List Nat)} {V : Nat → Int} (h : Rope D w r rows V) (a : Int) :
  Calls Try.prog 52 #[.pointer (some ⟨r.R, 0, none⟩), .int .i64 a] w fun e w' => (∃ m, e = .returned (.tuple #[.agg (rcC r.F m), .int .i64 (if Bd r.n a then 150 else 0)]) ∧ (Bd r.n a = true → m = zR) ∧ (Bd r.n a = false → Fa D (vxs V (rowOf rows a.toNat)) m)) ∧ Below w.heap.size w w' := by
 obtain ⟨N, ts, hp, hf⟩ := h
 apply f_span_reach_All.ok
 unfold f_span_reach_All.wp
 refine al_new fun w1 b1 e1 s1 h1 g1 => alW_intro ?_
 have h1 : HB w1 b1 (rcC r.F zR) 60 := h1
 have hp1 := hp.below g1
 refine (bad1 hp1 a).mono ?_
 rintro e w2 ⟨rfl, rfl⟩
 have g2 := bal w1 (.cells #[.int .i64 a] 3)
 have h12 := h1.below g2
 have hp2 := hp1.alloc (.cells #[.int .i64 a] 3)
 generalize w1.alloc (.cells #[.int .i64 a] 3) = w2 at *
 have g02 := g1.trans (g2.mono g1.size)
 refine ⟨_, rfl, ?_⟩
 cases hb : Bd r.n a with
 | true => exact sel_t rfl (getR4 h12 (putR4 h12 rfl (F := r.F) zR fun w3 h3 k3 => getR4 h3 ⟨⟨zR, rfl, fun _ => rfl, fun h => by cases h⟩, bel_blk g02 k3 (by omega)⟩))
 | false =>
  obtain ⟨x, rfl, ex, hx⟩ := Bd_nat hb
  obtain ⟨s, hs, xs, es, os, us, ns⟩ := hf.tree hx
  refine sel_f rfl (drW_intro ⟨fun w' => Rp w' r N, hp2.drew, _, _, _, fun w' h' => h'.sl0, (rootT_ok hp2.drew os us xs).mono ?_⟩)
  rintro e w2' ⟨rfl, rfl⟩
  have hlt := os.root_lt hf.pos
  have h12 : HB w2.drew b1 (rcC r.F zR) 60 := h12
  have g02 := g02.drew
  refine ⟨_, rfl, hp2.drew, optB_some rfl (req_intro (by simp; omega) (hdR hlt rfl (fun w hw => hw) (putR4 h12 rfl (F := r.F) (allR N s.root) fun w3 h3 k3 => getR4 h3 ⟨⟨allR N s.root, rfl, (fun h => by cases h), fun _ => ?_⟩, bel_blk g02 k3 (by omega)⟩)))⟩
  have := os.all (root0 os xs)
  rw [hf.vx os.lt, es] at this
  rw [ex]; exact this
def joinE (n : Nat) (rows : List (List Nat)) (a b : Int) : Int := if Bd n a || Bd n b then 150 else if rowOf rows a.toNat = rowOf rows b.toNat then 151 else 0
def joinS (n : Nat) (rows : List (List Nat)) (a b : Int) : List (List Nat) := if Bd n a || Bd n b then rows else if rowOf rows a.toNat = rowOf rows b.toNat then rows else joinR rows a.toNat b.toNat
theorem FO.v' {N N' : Nat → Nat → Int} {n : Nat} {rows : List (List Nat)} {V : Nat → Int} {ts : List Tp} (h : FO D N n rows V ts) (hc : ∀ i j, j = 5 ∨ j = 6 ∨ j = 7 ∨ j = 8 → N' i j = N i j) : Vals N' n ∧ ∀ i, 0 < i → i < n → N' i 6 = V i :=
 ⟨fun i hi => by
  have e : ownR N' i = ownR N i := by unfold ownR; rw [hc i 5 (by simp), hc i 6 (by simp), hc i 7 (by simp), hc i 8 (by simp)]
  rw [e, hc i 6 (by simp)]; exact h.vals i hi, fun i h1 h2 => by rw [hc i 6 (by simp)]; exact h.v i h1 h2⟩
theorem Join_ok {I : Sv D F} {w : World} {r : RC} (ap : Ap I r) (hP : I.P w) {rows : List (List Nat)} {V : Nat → Int} (h : Rope D w r rows V) (a b : Int) (hM : M4 D (vxs V (rowOf rows a.toNat ++ rowOf rows b.toNat))) :
  Calls Try.prog 36 #[.pointer (some ⟨r.R, 0, none⟩), .int .i64 a, .int .i64 b] w fun e w' => e = .returned (.int .i64 (joinE r.n rows a b)) ∧ Rope D w' r (joinS r.n rows a b) V ∧ I.P w' ∧ Keeps (Sq I r) w w' := by
 obtain ⟨N, ts, hp, hf⟩ := h
 apply f_span_reach_Join.ok
 unfold f_span_reach_Join.wp
 refine alW_intro ((bad2 hp a b).mono ?_)
 rintro e w1 ⟨rfl, rfl⟩
 refine ⟨_, rfl, ?_⟩
 have hp1 := hp.alloc (.cells #[.int .i64 a, .int .i64 b] 3)
 have hP1 : I.P (w.alloc (.cells #[.int .i64 a, .int .i64 b] 3)) := I.below hP (bal _ _)
 have k1 : Keeps (Sq I r) w (w.alloc (.cells #[.int .i64 a, .int .i64 b] 3)) := .of_below (bal _ _)
 generalize w.alloc (.cells #[.int .i64 a, .int .i64 b] 3) = w1 at *
 cases hb : Bd r.n a || Bd r.n b with
 | true => exact sel_t rfl ⟨by simp [joinE, hb], by simp only [joinS, hb, if_true]; exact ⟨N, ts, hp1, hf⟩, hP1, k1⟩
 | false =>
  refine sel_f rfl ?_
  have hb' := hb
  simp only [Bool.or_eq_false_iff] at hb
  obtain ⟨x, rfl, ex, hx⟩ := Bd_nat hb.1
  obtain ⟨y, rfl, ey, hy⟩ := Bd_nat hb.2
  obtain ⟨s, hs, xs, es, os, us, ns⟩ := hf.tree hx
  obtain ⟨t, ht, yt, et, ot, ut, nt⟩ := hf.tree hy
  refine (rootT_ok hp1 os us xs).mono ?_
  rintro e w2 ⟨rfl, rfl⟩
  refine ⟨_, rfl, (rootT_ok hp1 ot ut yt).mono ?_⟩
  rintro e w2 ⟨rfl, rfl⟩
  refine ⟨_, rfl, ?_⟩
  by_cases hst : s.ids = t.ids
  ·have : s.root = t.root := (root_eq hf hs ht).2 hst
   refine sel_t (by simp [this]) ⟨by simp [joinE, hb', ex, ey, ← es, ← et, hst], ?_, hP1, k1⟩
   have e : joinS r.n rows (x : Int) (y : Int) = rows := by simp [joinS, hb', ← es, ← et, hst]
   rw [e]; exact ⟨N, ts, hp1, hf⟩
  ·have hne : s.root ≠ t.root := fun e => hst ((root_eq hf hs ht).1 e)
   have hdj : Disj s.ids t.ids := fun i hi hj => hst (by rw [one_of hf.pw hs ht hi hj])
   have hnd : (s.ids ++ t.ids).Nodup := List.nodup_append.2 ⟨ns, nt, fun i hi j hj e => hdj i hi (e ▸ hj)⟩
   have hm4 : M4 D (vx N (s.ids ++ t.ids)) := by
    rw [hf.vx fun i hi => (List.mem_append.1 hi).elim (os.lt i) (ot.lt i), es, et]
    simpa only [ex, ey] using hM
   refine sel_f (by rw [nat_beq]; simpa using hne) ((merge_ok ap _ (Nat.le_refl _) hp1 hf.le os ot hnd hf.vals hP1 hm4).mono ?_)
   rintro e w3 ⟨u, N3, rfl, ⟨h3, p3, k3⟩, ou, eu, c3⟩
   have ulen : u.root ≠ 0 := root0 ou (a := x) (by rw [eu]; simp [xs])
   refine ⟨_, rfl, (free_ok h3 (ou.root_lt hf.pos)).mono ?_⟩
   rintro e w4 ⟨rfl, h4, k4⟩
   rw [if_neg ulen] at h4
   refine ⟨rfl, by simp [joinE, hb', ex, ey, ← es, ← et, hst], ?_, I.st ap p3 k4, (k1.trans k3).trans (k4.mono fun k _ h => .inl h)⟩
   have ej : joinS r.n rows (x : Int) (y : Int) = joinR rows x y := by simp [joinS, hb', ← es, ← et, hst]
   rw [ej]
   have hc5 : ∀ i j, j = 5 ∨ j = 6 ∨ j = 7 ∨ j = 8 → Dn.st N3 u.root 2 0 i j = N i j := fun i j hj => by rw [st_j _ _ _ _ (by omega)]; exact c3.own i j (by omega)
   refine ⟨_, ts.filter (fun q => decide (x ∉ q.ids ∧ y ∉ q.ids)) ++ [u], h4, ?_, hf.rok.join hx hy (by rw [← es, ← et]; exact hst), ?_, ?_, (hf.v' hc5).1, hf.le, hf.pos, (hf.v' hc5).2, ?_⟩
   ·rw [joinR, ← es, ← et, ← eu, List.map_append, List.map_cons, List.map_nil, ← hf.ids, List.filter_map]
    rfl
   ·intro q hq
    rcases List.mem_append.1 hq with hq | hq
    ·simp only [List.mem_filter, decide_eq_true_eq] at hq
     obtain ⟨hq, q1, q2⟩ := hq
     obtain ⟨oq, uq⟩ := hf.ok q hq
     have qout : ∀ i ∈ q.ids, i ∉ s.ids ++ t.ids := by
      intro i hi hh
      rcases List.mem_append.1 hh with hh | hh
      ·exact q1 (by rw [one_of hf.pw hq hs hi hh]; exact xs)
      ·exact q2 (by rw [one_of hf.pw hq ht hi hh]; exact yt)
     have hroot : q.root ≠ 0 := fun e => hf.rok.ne q.ids (by rw [← hf.ids]; exact List.mem_map_of_mem hq) (by rw [oq.root_pos.1 e]; rfl)
     have ur : u.root ∈ s.ids ++ t.ids := by rw [← eu]; exact Tp.root_mem ulen
     have qn : q.ids.Nodup := hf.rok.nd _ (by rw [← hf.ids]; exact List.mem_map_of_mem hq)
     refine ⟨oq.congr (Nat.le_refl _) qn fun i hi j _ _ => ?_, ?_⟩
     ·rw [st_i _ _ _ _ (ne_mem' ur (qout i hi)), c3.out i (qout i hi)]
     ·have := qout _ (Tp.root_mem hroot)
      rw [st_i _ _ _ _ (ne_mem' ur this), c3.out _ this]; exact uq
    ·simp only [List.mem_singleton] at hq; subst hq
     refine ⟨ou.congr (Nat.le_refl _) (eu ▸ hnd) fun i hi j _ hj => ?_, st_same _ _ _ _⟩
     rcases hj with hj | hj
     ·exact st_j _ _ _ _ hj
     ·exact st_i _ _ _ _ hj
   ·have : (0 : Nat) ∉ s.ids ++ t.ids := fun hh => by
     rcases List.mem_append.1 hh with hh | hh
     ·have := (os.lt 0 hh).1; omega
     ·have := (ot.lt 0 hh).1; omega
    rw [st_j _ _ _ _ (by omega), c3.out 0 this]; exact hf.z
   ·intro l hl
    rcases List.mem_append.1 hl with hl | hl
    ·exact hf.m4 l ((List.mem_filter.1 hl).1)
    ·simp only [List.mem_singleton] at hl; subst hl
     simpa only [ex, ey] using hM
end
section
variable {D : Int → Int → Int} {F : Nat}
theorem flatMap_congr' {α β : Type} {f g : α → List β} : ∀ {l : List α}, (∀ a ∈ l, f a = g a) → l.flatMap f = l.flatMap g
 | [], _ => rfl
 | a :: l, h => by
  rw [List.flatMap_cons, List.flatMap_cons, h a (by simp), flatMap_congr' (l := l) fun b hb => h b (by simp [hb])]
theorem pieces_sub {a : Nat} {l p : List Nat} (hp : p ∈ pieces a l) : ∀ i ∈ p, i ∈ l := fun i hi => by
 rw [← pieces_flat a l, List.mem_flatten]; exact ⟨p, hp, hi⟩
def cutT (n : Nat) (a : Int) : Int := if Bd n a then 150 else 0
def cutS (n : Nat) (rows : List (List Nat)) (a : Int) : List (List Nat) := if Bd n a then rows else cutR rows a.toNat
theorem CutT_ok {I : Sv D F} {w : World} {r : RC} (ap : Ap I r) (hP : I.P w) {rows : List (List Nat)} {V : Nat → Int} (h : Rope D w r rows V) (a : Int) :
  Calls Try.prog 38 #[.pointer (some ⟨r.R, 0, none⟩), .int .i64 a] w fun e w' => e = .returned (.int .i64 (cutT r.n a)) ∧ Rope D w' r (cutS r.n rows a) V ∧ I.P w' ∧ Keeps (Sq I r) w w' := by
 obtain ⟨N, ts, hp, hf⟩ := h
 apply f_span_reach_Cut.ok
 unfold f_span_reach_Cut.wp
 refine alW_intro ((bad1 hp a).mono ?_)
 rintro e w1 ⟨rfl, rfl⟩
 refine ⟨_, rfl, ?_⟩
 have hp1 := hp.alloc (.cells #[.int .i64 a] 3)
 have hP1 : I.P (w.alloc (.cells #[.int .i64 a] 3)) := I.below hP (bal _ _)
 have k1 : Keeps (Sq I r) w (w.alloc (.cells #[.int .i64 a] 3)) := .of_below (bal _ _)
 generalize w.alloc (.cells #[.int .i64 a] 3) = w1 at *
 cases hb : Bd r.n a with
 | true => exact sel_t rfl ⟨by simp [cutT, hb], by simp only [cutS, hb, if_true]; exact ⟨N, ts, hp1, hf⟩, hP1, k1⟩
 | false =>
  refine sel_f rfl ?_
  obtain ⟨x, rfl, ex, hx⟩ := Bd_nat hb
  obtain ⟨s, hs, xs, es, os, us, ns⟩ := hf.tree hx
  refine (rootT_ok hp1 os us xs).mono ?_
  rintro e w2 ⟨rfl, rfl⟩
  refine ⟨_, rfl, (index_ok hp1 hf.le hf.z os ns us xs).mono ?_⟩
  rintro e w3 ⟨rfl, b3⟩
  have hp3 := hp1.below b3
  have hidx : s.ids.idxOf x < s.ids.length := idx_lt xs
  have hm4 : M4 D (vx N s.ids) := by rw [hf.vx os.lt]; exact hf.m4 _ (by rw [← hf.ids]; exact List.mem_map_of_mem hs)
  refine ⟨_, rfl, (split_ok ap (Nat.le_of_lt hidx) hp3 hf.le os ns hf.vals (I.below hP1 b3) hm4).mono ?_⟩
  rintro e w4 ⟨tx, ty, N4, rfl, ⟨h4, p4, k4⟩, ox, oy, ex', ey', c4⟩
  refine ⟨_, _, rfl, (free_ok h4 (ox.root_lt hf.pos)).mono ?_⟩
  rintro e w5 ⟨rfl, h5, k5⟩
  refine ⟨rfl, (free_ok h5 (oy.root_lt hf.pos)).mono ?_⟩
  rintro e w6 ⟨rfl, h6, k6⟩
  have kk : Keeps (Sq I r) w w6 := (k1.trans (.of_below b3)).trans ((k4.trans (k5.mono fun k _ h => .inl h)).trans (k6.mono fun k _ h => .inl h))
  refine ⟨rfl, by simp [cutT, hb], ?_, I.st ap (I.st ap p4 k5) k6, kk⟩
  have e : cutS r.n rows (x : Int) = cutR rows x := by simp [cutS, hb]
  rw [e]
  have nds := ns
  rw [← List.take_append_drop (s.ids.idxOf x) s.ids, ← ex', ← ey'] at nds
  rw [List.nodup_append] at nds
  obtain ⟨ndx, ndy, dxy⟩ := nds
  have sub : ∀ i, i ∈ tx.ids ∨ i ∈ ty.ids ↔ i ∈ s.ids := fun i => by
   rw [← List.mem_append, ex', ey', List.take_append_drop]
  have ry : ty.root ≠ 0 := fun h0 => by
   have := congrArg List.length ey'
   rw [oy.root_pos.1 h0, List.length_drop] at this
   simp [Tp.ids] at this; omega
  have rym := Tp.root_mem ry
  rw [if_neg ry] at h6
  have fin : ∀ i j, j ≠ 2 → Dn.st (if tx.root = 0 then N4 else Dn.st N4 tx.root 2 0) ty.root 2 0 i j = N4 i j := fun i j hj => by
   rw [st_j _ _ _ _ hj]; split
   ·rfl
   ·exact st_j _ _ _ _ hj
  have fin2 : ∀ i, i ≠ ty.root → (tx.root = 0 ∨ i ≠ tx.root) → ∀ j, Dn.st (if tx.root = 0 then N4 else Dn.st N4 tx.root 2 0) ty.root 2 0 i j = N4 i j := fun i h1 h2 j => by
   rw [st_i _ _ _ _ h1]; split
   ·rfl
   ·rename_i h; rcases h2 with h2 | h2
    ·exact absurd h2 h
    ·exact st_i _ _ _ _ h2
  generalize hN6 : Dn.st (if tx.root = 0 then N4 else Dn.st N4 tx.root 2 0) ty.root 2 0 = N6 at *
  have hc5 : ∀ i j, j = 5 ∨ j = 6 ∨ j = 7 ∨ j = 8 → N6 i j = N i j := fun i j hj => by rw [fin i j (by omega)]; exact c4.own i j (by omega)
  refine ⟨N6, ts.flatMap (fun q => if x ∈ q.ids then (if s.ids.idxOf x = 0 then [ty] else [tx, ty]) else [q]), h6, ?_, hf.rok.cut x, ?_, ?_, (hf.v' hc5).1, hf.le, hf.pos, (hf.v' hc5).2, fun l hl => ?_⟩
  ·rw [cutR, ← hf.ids, List.flatMap_map, List.map_flatMap]
   refine flatMap_congr' fun q hq => ?_
   by_cases hxq : x ∈ q.ids
   ·have : q = s := one_of hf.pw hq hs hxq xs
    subst this
    simp only [pieces, if_pos hxq]
    split
    ·rename_i h0; rw [h0, List.drop_zero] at ey'; simp [ey']
    ·simp [ex', ey']
   ·simp [pieces, hxq]
  ·intro q hq
   obtain ⟨q0, hq0, hq⟩ := List.mem_flatMap.1 hq
   have okx : tx.root ≠ 0 → OkT D N6 r.n tx ∧ N6 tx.root 2 = 0 := fun h0 => by
    have hx0 := Tp.root_mem h0
    have hne : tx.root ≠ ty.root := fun e => dxy _ hx0 _ rym e
    refine ⟨ox.congr (Nat.le_refl _) ndx fun i hi j _ hj => ?_, ?_⟩
    ·rcases hj with hj | hj
     ·exact fin i j hj
     ·exact fin2 i (fun e => dxy i hi _ rym e) (.inr hj) j
    ·rw [← hN6, st_i _ _ _ _ hne, if_neg h0, st_same]
   have oky : OkT D N6 r.n ty ∧ N6 ty.root 2 = 0 := by
    refine ⟨oy.congr (Nat.le_refl _) ndy fun i hi j _ hj => ?_, by rw [← hN6, st_same]⟩
    rcases hj with hj | hj
    ·exact fin i j hj
    ·exact fin2 i hj (by
      by_cases h0 : tx.root = 0
      ·exact .inl h0
      ·exact .inr fun e => dxy _ (Tp.root_mem h0) i hi e.symm) j
   by_cases hxq : x ∈ q0.ids
   ·rw [if_pos hxq] at hq
    split at hq
    ·simp only [List.mem_singleton] at hq; subst hq; exact oky
    ·rename_i hk
     have rx : tx.root ≠ 0 := fun h0 => by
      have := congrArg List.length ex'
      rw [ox.root_pos.1 h0, List.length_take] at this
      simp [Tp.ids] at this; omega
     simp only [List.mem_cons, List.not_mem_nil, or_false] at hq
     rcases hq with rfl | rfl
     ·exact okx rx
     ·exact oky
   ·rw [if_neg hxq] at hq
    simp only [List.mem_singleton] at hq; subst hq
    obtain ⟨oq, uq⟩ := hf.ok q hq0
    have qout : ∀ i ∈ q.ids, i ∉ s.ids := fun i hi hh => hxq (by rw [one_of hf.pw hq0 hs hi hh]; exact xs)
    have hroot : q.root ≠ 0 := fun e => hf.rok.ne q.ids (by rw [← hf.ids]; exact List.mem_map_of_mem hq0) (by rw [oq.root_pos.1 e]; rfl)
    have qn : q.ids.Nodup := hf.rok.nd _ (by rw [← hf.ids]; exact List.mem_map_of_mem hq0)
    have same : ∀ i ∈ q.ids, ∀ j, N6 i j = N i j := fun i hi j => by
     rw [fin2 i (fun e => qout i hi ((sub i).1 (.inr (e ▸ rym)))) (by
      by_cases h0 : tx.root = 0
      ·exact .inl h0
      ·exact .inr fun e => qout i hi ((sub i).1 (.inl (e ▸ Tp.root_mem h0)))), c4.out i (qout i hi)]
    exact ⟨oq.congr (Nat.le_refl _) qn fun i hi j _ _ => same i hi j, by rw [same _ (Tp.root_mem hroot)]; exact uq⟩
  ·have h0s : (0 : Nat) ∉ s.ids := fun hh => by have := (os.lt 0 hh).1; omega
   rw [fin 0 4 (by omega), c4.out 0 h0s]; exact hf.z
  ·obtain ⟨q, hq, hl⟩ := List.mem_flatMap.1 hl
   refine (hf.m4 q hq).mono fun y hy => ?_
   rw [vxs_mem] at hy ⊢
   obtain ⟨y1, i, hi, e⟩ := hy
   exact ⟨y1, i, pieces_sub hl i hi, e⟩
def atE (n : Nat) (rows : List (List Nat)) (a i : Int) : Int × Int := if Bd n a then (0, 150) else if i < 0 ∨ i ≥ ((rowOf rows a.toNat).length : Int) then (0, 1) else (((rowOf rows a.toNat).getD i.toNat 0 : Int), 0)
theorem at_j1 {w : World} {r : RC} {N : Nat → Nat → Int} (h : Rp w r N) (hn : r.n ≤ 65537) (hz : N 0 4 = 0) {l y : Tp} {x i : Nat} (ok : OkT D N r.n (.node l x y)) (nd : (Tp.node l x y).ids.Nodup) (hi : i < (Tp.node l x y).ids.length) {Kg Kr : Int → Int → World → Prop}
  (k1 : i < l.ids.length → Kg (i : Int) (l.root : Int) w.drew) (k2 : i = l.ids.length → Kr (x : Int) 0 w.drew) (k3 : l.ids.length < i → Kg ((i - l.ids.length - 1 : Nat) : Int) (y.root : Int) w.drew) : f_span_reach_At.j1 ⟨r.R, 0, none⟩ (i : Int) (x : Int) w Kg Kr := by
 have ok' := ok
 obtain ⟨h1, h2, h3, h4, h5, h6, h8, h9, hl, hr⟩ := ok
 have hlen : (Tp.node l x y).ids.length ≤ r.n := nodup_le _ _ nd fun i hi => (ok'.lt i hi).2
 unfold f_span_reach_At.j1
 refine drW_intro (ldS_intro h.drew.sl0 (nd_rd0 h.drew h2 rfl ?_))
 rw [h3]
 have hlr := hl.root_lt (show 0 < r.n by omega)
 have hls : N l.root 4 = (l.ids.length : Int) := by
  by_cases e : l.root = 0
  ·rw [e, hz, hl.root_pos.1 e]; rfl
  ·exact hl.sz e
 refine optB_some rfl (req_intro (by simp; omega) (nd_ld (j := 4) h.drew hlr rfl (by omega) ?_))
 rw [hls]
 by_cases c1 : i < l.ids.length
 ·refine sel_t (by simpa using c1) (nd_rd0 h.drew h2 rfl ?_)
  rw [h3]; exact k1 c1
 ·refine sel_f (by simpa using c1) ?_
  by_cases c2 : l.ids.length < i
  ·refine sel_t (by simpa using c2) (nd_rd (j := 1) h.drew h2 rfl (by omega) ?_)
   rw [h4, w64_in (x := (i : Int) - (l.ids.length : Int)) (by omega), w64_in (by omega), show (i : Int) - (l.ids.length : Int) - 1 = ((i - l.ids.length - 1 : Nat) : Int) by omega]
   exact k3 c2
  ·exact sel_f (by simpa using c2) (k2 (by omega))
theorem at_g0 {r : RC} {N : Nat → Nat → Int} (hn : r.n ≤ 65537) (hz : N 0 4 = 0) {Kr : Int → Int → World → Prop} : ∀ {t : Tp} {w : World} {i : Nat}, Rp w r N → OkT D N r.n t → t.ids.Nodup → i < t.ids.length → (∀ w', Below w.heap.size w w' → Kr (t.ids.getD i 0 : Int) 0 w') →
  ∃ k, f_span_reach_At.g0 k ⟨r.R, 0, none⟩ (i : Int) (t.root : Int) w Kr
 | .nil, w, i, _, _, _, hi, _ => absurd hi (by simp [Tp.ids])
 | .node l x y, w, i, h, ok, nd, hi, hk => by
  have nd' := nd
  simp only [Tp.ids, List.nodup_append, List.nodup_cons, List.mem_cons] at nd
  obtain ⟨ndl, ⟨hxr, ndr⟩, hd⟩ := nd
  have hl := ok.2.2.2.2.2.2.2.2.1
  have hr := ok.2.2.2.2.2.2.2.2.2
  have hb : Below w.heap.size w w.drew := (Below.refl _ _).drew
  by_cases c1 : i < l.ids.length
  ·obtain ⟨k, hk'⟩ := at_g0 hn hz (Kr := Kr) (i := i) h.drew hl ndl c1 fun w' b => by
    have := hk w' (hb.trans b)
    simp only [Tp.ids, List.getD_eq_getElem?_getD] at this ⊢
    rw [List.getElem?_append_left c1] at this; exact this
   refine ⟨k + 1, ?_⟩
   unfold f_span_reach_At.g0
   exact at_j1 h hn hz ok nd' hi (fun _ _ => hk') (fun e => by omega) (fun e => by omega)
  ·by_cases c2 : l.ids.length < i
   ·obtain ⟨k, hk'⟩ := at_g0 hn hz (Kr := Kr) (i := i - l.ids.length - 1) h.drew hr ndr (by simp only [Tp.ids, List.length_append, List.length_cons] at hi; omega) fun w' b => by
     have := hk w' (hb.trans b)
     simp only [Tp.ids, List.getD_eq_getElem?_getD] at this ⊢
     rw [List.getElem?_append_right (by omega), show i - l.ids.length = (i - l.ids.length - 1) + 1 by omega, List.getElem?_cons_succ] at this; exact this
    refine ⟨k + 1, ?_⟩
    unfold f_span_reach_At.g0
    exact at_j1 h hn hz ok nd' hi (fun e => by omega) (fun e => by omega) (fun _ _ => hk')
   ·refine ⟨1, ?_⟩
    unfold f_span_reach_At.g0
    refine at_j1 h hn hz ok nd' hi (fun e => by omega) (fun e => ?_) (fun e => by omega)
    have := hk w.drew hb
    simp only [Tp.ids, List.getD_eq_getElem?_getD] at this
    rw [List.getElem?_append_right (by omega), show i - l.ids.length = 0 by omega] at this
    exact this
theorem At_ok {w : World} {r : RC} {rows : List (List Nat)} {V : Nat → Int} (h : Rope D w r rows V) (a i : Int) :
  Calls Try.prog 39 #[.pointer (some ⟨r.R, 0, none⟩), .int .i64 a, .int .i64 i] w fun e w' => e = .returned (.tuple #[.int .i64 (atE r.n rows a i).1, .int .i64 (atE r.n rows a i).2]) ∧ Below w.heap.size w w' := by
 obtain ⟨N, ts, hp, hf⟩ := h
 apply f_span_reach_At.ok
 unfold f_span_reach_At.wp f_span_reach_At.s0
 refine alW_intro ((bad1 hp a).mono ?_)
 rintro e w1 ⟨rfl, rfl⟩
 refine ⟨_, rfl, ?_⟩
 have hp1 := hp.alloc (.cells #[.int .i64 a] 3)
 have b1 := bal w (.cells #[.int .i64 a] 3)
 generalize w.alloc (.cells #[.int .i64 a] 3) = w1 at *
 cases hb : Bd r.n a with
 | true => exact sel_t rfl fun _ => ⟨by simp [atE, hb], b1⟩
 | false =>
  obtain ⟨x, rfl, ex, hx⟩ := Bd_nat hb
  obtain ⟨s, hs, xs, es, os, us, ns⟩ := hf.tree hx
  refine sel_f rfl ((rootT_ok hp1 os us xs).mono ?_)
  rintro e w1 ⟨rfl, rfl⟩
  refine ⟨_, rfl, ?_⟩
  by_cases hi : i < 0
  ·exact sel_t (by simpa using hi) fun _ => ⟨by simp [atE, hb, hi], b1⟩
  refine sel_f (by simpa using hi) (nd_rd (j := 4) hp1 (os.root_lt hf.pos) rfl (by omega) ?_)
  rw [os.sz (root0 os xs)]
  by_cases hi2 : i ≥ (s.ids.length : Int)
  ·refine sel_t (by simpa using hi2) fun _ => ⟨?_, b1⟩
   have : i ≥ ((rowOf rows x).length : Int) := by rw [← es]; exact hi2
   simp only [atE, hb, Bool.false_eq_true, if_false, ex]
   rw [if_pos (.inr this)]
  ·refine sel_f (by simpa using hi2) ?_
   obtain ⟨j, rfl⟩ : ∃ j : Nat, i = (j : Int) := ⟨i.toNat, by omega⟩
   have hj : j < s.ids.length := by omega
   have fin : ∀ w', Below w1.heap.size w1 w' → (fun (x33 : Int) (x34 : Int) (w35 : World) => ∀ _ : Fr, (fun e w' => e = Ending.returned (.tuple #[.int .i64 (atE r.n rows (x : Int) (j : Int)).1, .int .i64 (atE r.n rows (x : Int) (j : Int)).2]) ∧ Below w.heap.size w w') (.returned (.tuple #[.int .i64 x33, .int .i64 x34])) w35) (s.ids.getD j 0 : Int) 0 w' := by
    intro w' b' _
    refine ⟨?_, b1.trans (b'.mono b1.size)⟩
    have : ¬ ((j : Int) < 0 ∨ (j : Int) ≥ (s.ids.length : Int)) := by omega
    simp only [atE, hb, Bool.false_eq_true, if_false, ex, ← es, if_neg this, Int.toNat_natCast]
   cases s with
   | nil => simp [Tp.ids] at hj
   | node l z y =>
    have nd' := ns
    simp only [Tp.ids, List.nodup_append, List.nodup_cons, List.mem_cons] at ns
    obtain ⟨ndl, ⟨hxr, ndr⟩, hd⟩ := ns
    have hl := os.2.2.2.2.2.2.2.2.1
    have hr := os.2.2.2.2.2.2.2.2.2
    have hbd : Below w1.heap.size w1 w1.drew := (Below.refl _ _).drew
    refine at_j1 hp1 hf.le hf.z os nd' hj (fun c1 _ => ?_) (fun c1 => ?_) (fun c1 _ => ?_)
    ·refine at_g0 hf.le hf.z hp1.drew hl ndl c1 fun w' b => ?_
     have := fin w' (hbd.trans b)
     simp only [Tp.ids, List.getD_eq_getElem?_getD] at this ⊢
     rw [List.getElem?_append_left c1] at this; exact this
    ·intro _
     have := fin w1.drew hbd
     simp only [Tp.ids, List.getD_eq_getElem?_getD] at this
     rw [List.getElem?_append_right (by omega), show j - l.ids.length = 0 by omega] at this
     simpa using this
    ·refine at_g0 hf.le hf.z hp1.drew hr ndr (by simp only [Tp.ids, List.length_append, List.length_cons] at hj; omega) fun w' b => ?_
     have := fin w' (hbd.trans b)
     simp only [Tp.ids, List.getD_eq_getElem?_getD] at this ⊢
     rw [List.getElem?_append_right (by omega), show j - l.ids.length = (j - l.ids.length - 1) + 1 by omega, List.getElem?_cons_succ] at this; exact this
end
end Go.Proofs.Ytklnlnjgaadjbaa.Rd
namespace Go.Dn
theorem M4.one {D : Int → Int → Int} {v : Int} (h : v ≠ 0) (hz : D v v = 0) : M4 D [v] := by
 refine ⟨fun x hx => ?_, fun x hx => ?_, fun x hx y hy => ?_, fun x hx y hy z hz' t ht => ?_⟩
 ·rw [List.mem_singleton] at hx; subst hx; exact h
 ·rw [List.mem_singleton] at hx; subst hx; exact hz
 ·rw [List.mem_singleton] at hx hy; subst hx; subst hy; rfl
 ·rw [List.mem_singleton] at hx hy hz' ht; subst hx; subst hy; subst hz'; subst ht; exact .inl (Int.le_refl _)
theorem M4.nil (D : Int → Int → Int) : M4 D [] := ⟨fun x h => (by cases h), fun x h => (by cases h), fun x h => (by cases h), fun x h => (by cases h)⟩
theorem M4.own {D : Int → Int → Int} {V : Nat → Int} {a : Nat} (hz : V a ≠ 0 → D (V a) (V a) = 0) : M4 D (vxs V [a]) := by
 rw [vxs_one]
 by_cases e : V a = 0
 ·rw [if_pos e]; exact M4.nil D
 ·rw [if_neg e]; exact M4.one e (hz e)
end Go.Dn
namespace Go.Proofs.Ytklnlnjgaadjbaa.Rd
open Go.Dn Go.RowKit
set_option maxRecDepth 100000
section
variable {D : Int → Int → Int} {F : Nat}
def stO (N : Nat → Nat → Int) (a : Nat) (m : Rc) : Nat → Nat → Int := Dn.st (Dn.st (Dn.st (Dn.st N a 5 m.f) a 6 m.a) a 7 m.b) a 8 m.d
theorem stO_i {N : Nat → Nat → Int} {a i j : Nat} {m : Rc} (h : i ≠ a ∨ j < 5 ∨ 8 < j) : stO N a m i j = N i j := by
 unfold stO Dn.st
 rw [if_neg (by omega), if_neg (by omega), if_neg (by omega), if_neg (by omega)]
theorem stO_at (N : Nat → Nat → Int) (a : Nat) (m : Rc) : ownR (stO N a m) a = m := by simp [ownR, stO, Dn.st]
theorem nd_stO {w : World} {r : RC} {N : Nat → Nat → Int} (h : Rp w r N) {i : Nat} (hi : i < r.n) {x : Int} (hx : x = (i : Int)) (m : Rc) {K : World → Prop} (hk : ∀ w', Rp w' r (stO N i m) → Keeps (Sr r) w w' → K w') :
  stW w (((⟨r.g, 0, none⟩ : Addr).add (x.toNat * 13)).add 5) (.pointer (pF r.F m.f)) fun w1 => stW w1 ((((⟨r.g, 0, none⟩ : Addr).add (x.toNat * 13)).add 5).add 1) (.int .i64 m.a) fun w2 => stW w2 ((((⟨r.g, 0, none⟩ : Addr).add (x.toNat * 13)).add 5).add 2) (.int .i64 m.b) fun w3 => stW w3 ((((⟨r.g, 0, none⟩ : Addr).add (x.toNat * 13)).add 5).add 3) (.int .i64 m.d) K := by
 refine nd_stP (j := 5) h hi hx (.inl rfl) fun w1 h1 k1 => ?_
 rw [add_add]
 refine nd_st (j := 6) h1 hi hx (by omega) fun w2 h2 k2 => ?_
 rw [add_add]
 refine nd_st (j := 7) h2 hi hx (by omega) fun w3 h3 k3 => ?_
 rw [add_add]
 exact nd_st (j := 8) h3 hi hx (by omega) fun w4 h4 k4 => hk w4 h4 ((k1.trans k2).trans (k3.trans k4))
theorem one_a (v : Int) : (oneR v).a = v := by
 unfold oneR
 split
 ·rename_i h; exact h.symm
 ·rfl
theorem Set1_ok {I : Sv D F} {w : World} {r : RC} (ap : Ap I r) (hP : I.P w) {rows : List (List Nat)} {V : Nat → Int} (h : Rope D w r rows V) {a : Nat} (hr : [a] ∈ rows) {v : Int} (hv : W64 v) (hz : v ≠ 0 → D v v = 0) :
  Calls Try.prog 59 #[.pointer (some ⟨r.R, 0, none⟩), .int .i64 (a : Int), .agg (rcC r.F (oneR v))] w fun e w' => e = .returned (.int .i64 0) ∧ Rope D w' r rows (fun i => if i = a then v else V i) ∧ I.P w' ∧ Keeps (Sq I r) w w' := by
 obtain ⟨N, ts, hp, hf⟩ := h
 have hx := hf.in_ hr a (by simp)
 obtain ⟨s, hs, xs, es, os, us, ns⟩ := hf.tree hx
 have hrow : rowOf rows a = [a] := hf.rok.rowOf_eq hr (by simp)
 rw [hrow] at es
 obtain rfl : s = .node .nil a .nil := by
  cases s with
  | nil => simp [Tp.ids] at es
  | node l b y =>
   have hl : l.ids = [] := by
    cases l with
    | nil => rfl
    | node l1 b1 y1 =>
     have := congrArg List.length es
     simp [Tp.ids] at this; omega
   have hy : y.ids = [] := by
    cases y with
    | nil => rfl
    | node l1 b1 y1 =>
     have := congrArg List.length es
     simp [Tp.ids] at this; omega
   have nl : l = .nil := by cases l with | nil => rfl | node _ _ _ => simp [Tp.ids] at hl
   have ny : y = .nil := by cases y with | nil => rfl | node _ _ _ => simp [Tp.ids] at hy
   subst nl; subst ny
   simp [Tp.ids] at es
   rw [es]
 have hb : Bd r.n (a : Int) = false := by simp [Bd]; omega
 apply f_span_reach_Set.ok
 unfold f_span_reach_Set.wp
 refine al_new fun w1 b1 e1 s1 h1 g1 => alW_intro ?_
 have h1 : HB w1 b1 (rcC r.F (oneR v)) 60 := h1
 have hp1 := hp.below g1
 refine (bad1 hp1 (a : Int)).mono ?_
 rintro e w2 ⟨rfl, rfl⟩
 have g2 := bal w1 (.cells #[.int .i64 (a : Int)] 3)
 have h12 := h1.below g2
 have hp2 := hp1.alloc (.cells #[.int .i64 (a : Int)] 3)
 generalize w1.alloc (.cells #[.int .i64 (a : Int)] 3) = w2 at *
 have g02 := (g1.trans (g2.mono g1.size)).drew
 refine ⟨_, rfl, ?_⟩
 rw [hb]
 have hp3 := hp2.drew
 have h13 : HB w2.drew b1 (rcC r.F (oneR v)) 60 := h12
 refine sel_f rfl (drW_intro (ldS_intro hp3.sl0 (getR4 h13 (optB_some rfl (req_intro (by simp; omega) (nd_stO hp3 hx.2 rfl (oneR v) fun w4 h4 k4 => ?_))))))
 have hown : ownR (stO N a (oneR v)) a = oneR v := stO_at N a (oneR v)
 have h6 : stO N a (oneR v) a 6 = v := (congrArg Rc.a hown).trans (one_a v)
 have hlow : ∀ i j, (i ≠ a ∨ j < 5 ∨ 8 < j) → stO N a (oneR v) i j = N i j := fun i j h => stO_i h
 generalize stO N a (oneR v) = M at *
 have vM : Vals M r.n := fun i hi => by
  by_cases e : i = a
  ·subst e; rw [hown, h6]; exact ⟨rfl, hv⟩
  ·have eo : ownR M i = ownR N i := by unfold ownR; rw [hlow i 5 (.inl e), hlow i 6 (.inl e), hlow i 7 (.inl e), hlow i 8 (.inl e)]
   rw [eo, hlow i 6 (.inl e)]; exact hf.vals i hi
 have p4 : I.P w4 := I.st ap (I.below hP g02) k4
 have hm4 : M4 D (vx M [a]) := M4.own (V := fun i => M i 6) fun h => by
  have h : M a 6 ≠ 0 := h
  show D (M a 6) (M a 6) = 0
  rw [h6] at h ⊢; exact hz h
 obtain ⟨o1, o2, o3, o4, o5, _⟩ := os
 refine ⟨2, ?_⟩
 unfold f_span_reach_Set.l0
 refine sel_t (by simp; omega) ((pull_t ap h4 hf.le (tl := .nil) (tr := .nil) hx trivial trivial (by simp [Tp.ids]) (by rw [hlow a 0 (by omega)]; exact o3) (by rw [hlow a 1 (by omega)]; exact o4) vM p4 hm4).mono ?_)
 rintro e w5 ⟨rfl, N', ⟨h5, p5, k5⟩, ok2, c2, u2⟩
 refine ⟨rfl, nd_rd (j := 2) h5 hx.2 rfl (by omega) ?_⟩
 have hu : N' a 2 = 0 := by rw [u2, hlow a 2 (by omega)]; exact us
 rw [hu]
 unfold f_span_reach_Set.l0
 refine sel_f (by simp) fun _ => ⟨rfl, ?_, p5, ((Keeps.of_below g02).trans (k4.mono fun k _ h => .inl h)).trans k5⟩
 have c2 : Chg [a] M N' := c2
 have same : ∀ i, i ≠ a → ∀ j, N' i j = N i j := fun i hi j => by rw [c2.out i (by simpa using hi), hlow i j (.inl hi)]
 have nin : ∀ {l}, l ∈ rows → l ≠ [a] → a ∉ l := fun hl hne hal => hne (hf.rok.one hl hr hal (by simp))
 refine ⟨N', ts, h5, hf.ids, hf.rok, fun q hq => ?_, ?_, vM.chg c2, hf.le, hf.pos, fun i h1 h2 => ?_, fun l hl => ?_⟩
 ·by_cases hxq : a ∈ q.ids
  ·have : q = .node .nil a .nil := one_of hf.pw hq hs hxq xs
   subst this
   exact ⟨ok2, hu⟩
  ·obtain ⟨oq, uq⟩ := hf.ok q hq
   have hroot : q.root ≠ 0 := fun e => hf.rok.ne q.ids (by rw [← hf.ids]; exact List.mem_map_of_mem hq) (by rw [oq.root_pos.1 e]; rfl)
   have qn : q.ids.Nodup := hf.rok.nd _ (by rw [← hf.ids]; exact List.mem_map_of_mem hq)
   exact ⟨oq.congr (Nat.le_refl _) qn fun i hi j _ _ => same i (fun e => hxq (e ▸ hi)) j, by rw [same _ fun e => hxq (e ▸ Tp.root_mem hroot)]; exact uq⟩
 ·rw [same 0 (by omega)]; exact hf.z
 ·by_cases e : i = a
  ·subst e; rw [if_pos rfl, c2.own i 6 (by omega), h6]
  ·rw [if_neg e, same i e]; exact hf.v i h1 h2
 ·by_cases e : l = [a]
  ·subst e
   refine M4.own fun h => ?_
   simp only [if_true] at h ⊢
   exact hz h
  ·rw [vxs_congr (V := V) fun i hi => if_neg fun (e2 : i = a) => nin hl e (e2 ▸ hi)]
   exact hf.m4 l hl
end
section
variable {D : Int → Int → Int} {F : Nat}
def zT13 : Value := .agg #[.int .i64 0, .int .i64 0, .int .i64 0, .int .u64 0, .int .i64 0, .pointer none, .int .i64 0, .int .i64 0, .int .i64 0, .pointer none, .int .i64 0, .int .i64 0, .int .i64 0]
theorem TNdT : Try.prog.underlying 92 = some (.slice 120) := by kernel_rfl
theorem TNdTI : (Try.prog.info? 120).map (fun i => (i.zero, i.size, i.bytes)) = some (some zT13, 13, 104) := by kernel_rfl
theorem TNdT_info : ∃ i, Try.prog.info? 120 = some i ∧ i.zero = some zT13 ∧ i.size = 13 ∧ i.bytes = 104 := by
 have := TNdTI
 cases hi : Try.prog.info? 120 with
 | none => rw [hi] at this; cases this
 | some i =>
  rw [hi] at this
  simp only [Option.map_some, Option.some.injEq, Prod.mk.injEq] at this
  exact ⟨i, rfl, this.1, this.2.1, this.2.2⟩
theorem own_prefix {w : World} {B e sz n g c : Nat} {xs ys : List Value} (h : w.ownsRow B e sz (.slice (some ⟨g, 0, none⟩) (n + 1) c) (n + 1) (xs ++ ys)) (hx : xs.length = n * sz) : w.ownsRow B e sz (.slice (some ⟨g, 0, none⟩) n c) n xs := by
 refine ⟨hx, ?_⟩
 rcases h.2 with ⟨h, _⟩ | ⟨g', cap, cur, hv, hb, hg, hn, hm, hs, ht⟩
 ·cases h
 ·injection hv with h1 h2 h3
  injection h1 with h1; injection h1 with h1; subst h1; subst h3
  refine .inr ⟨g, c, cur, rfl, hb, hg, by omega, hm, hs, ?_⟩
  have := congrArg (List.take (n * sz)) ht
  rw [List.take_take, Nat.min_eq_left (Nat.mul_le_mul_right _ (by omega)), ← hx, List.take_left] at this
  rw [hx] at this; exact this
theorem appT_node {w : World} {r : RC} {N : Nat → Nat → Int} (h : Rp w r N) (hn : r.n ≤ 65536) (h1n : 0 < r.n) {b : Nat} {cs : Array Value} {t : TypeId} (hb : w.heap[b]? = some (Obj.cells cs t)) (hcs : cs.size = 13) (hone : ∀ u ∈ cs.toList, u.oneCell' = true) {K : Value → World → Prop}
  (hK : ∀ w' g' c', Rp w' r N → w'.ownsRow r.B 120 13 (.slice (some ⟨g', 0, none⟩) (r.n + 1) c') (r.n + 1) ((enc 13 r.n fun i j => vd r.F j (N i j)) ++ cs.toList) → (g' = r.g ∨ w.heap.size ≤ g') → Keeps (fun k => k = r.g) w w' → K (.slice (some ⟨g', 0, none⟩) (r.n + 1) c') w') :
  Runs Try.prog (Builtin.append_ #[92, 92] 92 #[.slice (some ⟨r.g, 0, none⟩) r.n r.c, .slice (some (⟨b, 0, none⟩ : Addr)) 1 1]) w K := by
 obtain ⟨i, hi, hz, hs, hby⟩ := TNdT_info
 have hnews : ∀ j u, cs.toList[j]? = some u → w.cell? ((⟨b, 0, none⟩ : Addr).add j) = some u := fun j u hj => by
  rw [add_mk, Nat.zero_add, cell_of_row w _ _ _ _ _ hb, ← Array.getElem?_toList]; exact hj
 have hl : cs.toList.length = 1 * 13 := by rw [Array.length_toList, hcs]
 have hB : r.B ≤ w.heap.size := by have := h.hB; have := h.R_lt; omega
 by_cases hroom : r.n + 1 ≤ r.c
 ·obtain ⟨w', hrun, ho', hg⟩ := run_append_fits (P := Try.prog) w r.B _ 92 _ i 13 TNdT hi hs r.g r.n r.c _ h.own ⟨b, 0, none⟩ 1 1 cs.toList hl hnews hone hroom
  have hk : Keeps (fun k => k = r.g) w w' := ⟨hg.os, hg.tape, hg.output, hg.size, fun k hk hn => hg.block k hk (by simpa using hn)⟩
  refine runs_of hrun (hK w' r.g r.c ?_ ho' (.inl rfl) hk)
  exact ⟨(hk.block _ h.R_lt (fun e => h.gR e.symm)).trans h.obj, own_prefix ho' (by rw [enc_len]), h.hB, h.gR, h.sds.keeps hk (fun a ha => (h.sap a ha).2.2.2), fun a ha => let ⟨x1, x2, x3⟩ := h.sap a ha; ⟨x1, Nat.lt_of_lt_of_le x2 hk.size, x3⟩⟩
 ·have hr2 := run_append_grow (P := Try.prog) w _ 92 _ i zT13 TNdT hi hz ⟨r.g, 0, none⟩ r.n r.c (enc 13 r.n fun i j => vd r.F j (N i j)) (by rw [enc_len, hs]) (h.own.cells (g := r.g) rfl) ⟨b, 0, none⟩ 1 1 cs.toList (by rw [hs]; exact hl) hnews (by omega) (by omega)
   (by rw [hby]; exact growslice_fits (by omega) (by omega))
  obtain ⟨v', w', hrun, ho', hg, _⟩ := run_append_own (P := Try.prog) w r.B _ 92 _ i zT13 13 104 TNdT hi hz hs hby rfl (by decide) _ _ _ h.own ⟨b, 0, none⟩ 1 1 cs.toList hl hnews hone (by unfold maxLen; omega) (by omega) hB
  rw [hr2] at hrun
  injection hrun with hv hw
  refine runs_of hr2 ?_
  have hbel : Below w.heap.size w w' := by rw [← hw]; exact (Below.refl w.heap.size w).drew.alloc (Nat.le_refl _) _
  rw [hw]
  rw [← hv] at ho'
  exact hK w' _ _ (h.below hbel) ho' (.inr (Nat.le_refl _)) (.of_below hbel)
theorem Rp.setSt {w : World} {r : RC} {N : Nat → Nat → Int} (h : Rp w r N) (v : Int) : Rp (w.setCell ((⟨r.R, 0, none⟩ : Addr).add 2) (.int .u64 v)) { r with st := v } N ∧ Keeps (fun k => k = r.R) w (w.setCell ((⟨r.R, 0, none⟩ : Addr).add 2) (.int .u64 v)) ∧ Wr w ((⟨r.R, 0, none⟩ : Addr).add 2) := by
 have hk : Keeps (fun k => k = r.R) w (w.setCell ((⟨r.R, 0, none⟩ : Addr).add 2) (.int .u64 v)) := (Keeps.refl (fun k => k = r.R) w).setCell (p := (⟨r.R, 0, none⟩ : Addr).add 2) (.inl (by rw [add_block])) _
 refine ⟨⟨?_, Keeps.own h.own hk (fun i hi => by injection hi with hi; subst hi; exact h.gR), h.hB, h.gR, h.sds.keeps hk (fun a ha => (h.sap a ha).2.2.1), fun a ha => let ⟨x1, x2, x3⟩ := h.sap a ha; ⟨x1, Nat.lt_of_lt_of_le x2 hk.size, x3⟩⟩, hk, ⟨_, h.sl2⟩, ?_⟩
 ·rw [add_mk, heap_setCell_same w r.R _ _ _ _ h.obj]; rfl
 ·rw [add_mk, frozen_of_row _ _ _ _ _ h.obj]
theorem chance_j0 {w : World} {r : RC} {N : Nat → Nat → Int} (h : Rp w r N) (x : Int) {Kr : Int → World → Prop} (hK : ∀ v w', Rp w' { r with st := v } N → Keeps (fun k => k = r.R) w w' → Kr v w') : f_span_reach_chance.j0 ⟨r.R, 0, none⟩ x w Kr := by
 unfold f_span_reach_chance.j0
 refine ldI_intro h.sl2 (stW_intro (h.setSt 0).2.2 ?_)
 obtain ⟨h1, k1, _⟩ := h.setSt (IntKind.u64.wrap ((bxor .u64 r.st (IntKind.u64.wrap x)) * (15074714826142052245 : Int)))
 generalize w.setCell _ _ = w1 at *
 have h2 := h1.drew
 refine drW_intro (ldI_intro h2.sl2 (ldI_intro h2.sl2 (stW_intro (h2.setSt 0).2.2 ?_)))
 obtain ⟨h3, k3, _⟩ := h2.setSt (bxor .u64 (IntKind.u64.wrap ((bxor .u64 r.st (IntKind.u64.wrap x)) * (15074714826142052245 : Int))) ((IntKind.u64.wrap ((bxor .u64 r.st (IntKind.u64.wrap x)) * (15074714826142052245 : Int))).fdiv (2 ^ 29)))
 exact ldI_intro h3.sl2 (hK _ _ h3 (k1.drew.trans k3))
theorem chance_ok {w : World} {r : RC} {N : Nat → Nat → Int} (h : Rp w r N) (hn : r.n ≤ 65537) (h1n : 0 < r.n) : Calls Try.prog 77 #[.pointer (some ⟨r.R, 0, none⟩)] w fun e w' => ∃ v, e = .returned (.int .u64 v) ∧ Rp w' { r with st := v } N ∧ Keeps (fun k => k = r.R) w w' := by
 apply f_span_reach_chance.ok
 unfold f_span_reach_chance.wp
 refine ldS_intro h.sl1 ?_
 by_cases h0 : r.sl.length = 0
 ·exact sel_f (by simp [h0]) (chance_j0 h 0 fun v w' h' k _ => ⟨v, rfl, h', k⟩)
 ·have hd := h.drew
  have hm : (IntKind.i64.wrap ((r.n : Int) - 1)).tmod (r.sl.length : Int) = (((r.n - 1) % r.sl.length : Nat) : Int) := by
   rw [w64_in (by omega), show (r.n : Int) - 1 = ((r.n - 1 : Nat) : Int) by omega]; rfl
  have hlt : (r.n - 1) % r.sl.length < r.sl.length := Nat.mod_lt _ (by omega)
  obtain ⟨a, ha, hc⟩ := hd.sds _ hlt
  refine sel_t (by simp; omega) (drW_intro (ldS_intro hd.sl1 (ldS_intro hd.sl0 (req_intro (by simpa using h0) ?_))))
  rw [hm]
  refine optB_some ha (req_intro (by simp; omega) (ldI_intro (by rw [Int.toNat_natCast, Nat.mul_one]; exact hc) ?_))
  exact chance_j0 hd _ fun v w' h' k _ => ⟨v, rfl, h', (Keeps.of_below (Below.refl _ _).drew).trans k⟩
def makeE (n : Nat) : Int × Int := if n ≤ 65536 then ((n : Int), 0) else (0, 55)
def makeS (n : Nat) (rows : List (List Nat)) : List (List Nat) := if n ≤ 65536 then rows ++ [[n]] else rows
def makeV (n : Nat) (V : Nat → Int) (v : Int) : Nat → Int := if n ≤ 65536 then (fun i => if i = n then v else V i) else V
def makeN (n : Nat) : Nat := if n ≤ 65536 then n + 1 else n
structure Mv (w : World) (r r' : RC) : Prop where
 R : r'.R = r.R
 F : r'.F = r.F
 As : r'.As = r.As
 B : r'.B = r.B
 g : r'.g = r.g ∨ w.heap.size ≤ r'.g
theorem Make_ok {w : World} {r : RC} {rows : List (List Nat)} {V : Nat → Int} (h : Rope D w r rows V) {v : Int} (hv : W64 v) (hz : v ≠ 0 → D v v = 0) :
  Calls Try.prog 60 #[.pointer (some ⟨r.R, 0, none⟩), .agg (rcC r.F (oneR v))] w fun e w' => ∃ r', e = .returned (.tuple #[.int .i64 (makeE r.n).1, .int .i64 (makeE r.n).2]) ∧ Rope D w' r' (makeS r.n rows) (makeV r.n V v) ∧ r'.n = makeN r.n ∧ Mv w r r' ∧ Keeps (Sr r) w w' := by
 obtain ⟨N, ts, hp, hf⟩ := h
 apply f_span_reach_Make.ok
 unfold f_span_reach_Make.wp
 refine al_new fun w1 bx ex sx hb1 b1 => ?_
 have hb1 : HB w1 bx (rcC r.F (oneR v)) 60 := hb1
 have hp1 := hp.below b1
 have hRw := hp.R_lt
 have hgw := hp.g_lt.2
 obtain ⟨m, hm⟩ : ∃ m, oneR v = m := ⟨_, rfl⟩
 rw [hm] at hb1
 have hma : m.a = v := by rw [← hm]; exact one_a v
 refine ldS_intro hp1.sl0 ?_
 by_cases hn : r.n ≤ 65536
 ·refine sel_f (by simp; omega) (drW_intro ?_)
  have hp2 := hp1.drew
  have hb2 := hb1.below (Below.refl _ _).drew
  have b2 := b1.drew
  generalize w1.drew = w2 at *
  have hbR : bx ≠ r.R := by omega
  have hbg : bx ≠ r.g := by omega
  refine ⟨fun w' => (∃ st', Rp w' { r with st := st' } N) ∧ HB w' bx (rcC r.F m) 60, ⟨⟨r.st, hp2⟩, hb2⟩, some ⟨r.g, 0, none⟩, r.n, r.c, fun w' ⟨⟨st', h'⟩, _⟩ => h'.sl0, pF r.F m.f, fun w' ⟨_, h'⟩ => (h'.cell 0).trans rfl, m.a, fun w' ⟨_, h'⟩ => (h'.cell 1).trans rfl, m.b, fun w' ⟨_, h'⟩ => (h'.cell 2).trans rfl, m.d, fun w' ⟨_, h'⟩ => (h'.cell 3).trans rfl, pF r.F m.f, fun w' ⟨_, h'⟩ => (h'.cell 0).trans rfl, m.a, fun w' ⟨_, h'⟩ => (h'.cell 1).trans rfl, m.b, fun w' ⟨_, h'⟩ => (h'.cell 2).trans rfl, m.d, fun w' ⟨_, h'⟩ => (h'.cell 3).trans rfl, ?_⟩
  refine (chance_ok hp2 hf.le hf.pos).mono ?_
  rintro e w3 ⟨p, rfl, hp3, k3⟩
  have hb3 := hb2.keeps k3 hbR
  refine ⟨p, rfl, ⟨⟨p, hp3⟩, hb3⟩, al_new fun w4 bn en sn hnew b4 => ?_⟩
  have hp4 := hp3.below b4
  have hb4 := hb3.below b4
  refine ⟨⟨⟨p, hp4⟩, hb4⟩, appT_node hp4 hn hf.pos hnew rfl (by intro u hu; simp at hu; rcases hu with rfl | rfl | rfl | rfl | rfl | rfl | rfl | rfl | rfl | rfl | rfl | rfl | rfl <;> rfl) fun w5 g' c' hp5 ho5 hg5 k5 => ?_⟩
  have hs24 : w.heap.size ≤ w4.heap.size := by have := b2.size; have := k3.size; have := b4.size; omega
  refine ⟨_, _, _, rfl, ⟨⟨p, hp5⟩, hb4.keeps k5 hbg⟩, stW_intro ⟨⟨_, hp5.sl0⟩, frozen_of_row _ _ _ _ _ hp5.obj⟩ ?_⟩
  have hR5 := hp5.R_lt
  have hg'R : g' ≠ r.R := by
   rcases hg5 with e | e
   ·rw [e]; exact hp.gR
   ·omega
  have k6 : Keeps (fun k => k = r.R) w5 (w5.setCell ⟨r.R, 0, none⟩ (.slice (some ⟨g', 0, none⟩) (r.n + 1) c')) := (Keeps.refl (fun k => k = r.R) w5).setCell (p := ⟨r.R, 0, none⟩) (.inl rfl) _
  have hobj := heap_setCell_same w5 r.R 0 _ _ (.slice (some ⟨g', 0, none⟩) (r.n + 1) c') hp5.obj
  generalize w5.setCell ⟨r.R, 0, none⟩ (.slice (some ⟨g', 0, none⟩) (r.n + 1) c') = w6 at *
  have hAs : ∀ a, r.As = some a → a.block ≠ g' := fun a ha e => by
   rcases hg5 with e' | e'
   ·exact (hp.sap a ha).2.2.2 (e.trans e')
   ·have := (hp.sap a ha).2.1; omega
  let N' : Nat → Nat → Int := fun i j => if i = r.n then (match j with | 3 => p | 4 => 1 | 5 => m.f | 6 => m.a | 7 => m.b | 8 => m.d | 9 => m.f | 10 => m.a | 11 => m.b | 12 => m.d | _ => 0) else N i j
  have hN' : ∀ i, i ≠ r.n → ∀ j, N' i j = N i j := fun i hi j => by simp only [N', if_neg hi]
  have hp6 : Rp w6 { r with g := g', c := c', n := r.n + 1, st := p } N' := by
   refine ⟨hobj, ?_, hp.hB, hg'R, (hp5.sds).keeps k6 (fun a ha => (hp.sap a ha).2.2.1), fun a ha => ?_⟩
   ·have ho6 := Keeps.own ho5 k6 (fun i hi => by injection hi with hi; subst hi; exact hg'R)
    have hE := enc_app (sz := 13) (n := r.n) (F := fun i j => vd r.F j (N i j)) (F' := fun i j => vd r.F j (N' i j)) [.int .i64 (0 : Int), .int .i64 (0 : Int), .int .i64 (0 : Int), .int .u64 p, .int .i64 (1 : Int), .pointer (pF r.F m.f), .int .i64 m.a, .int .i64 m.b, .int .i64 m.d, .pointer (pF r.F m.f), .int .i64 m.a, .int .i64 m.b, .int .i64 m.d] rfl (fun i hi j _ => by rw [hN' i (by omega)]) (fun j hj => by
     simp only [N', if_true]
     match j, hj with | 0, _ => rfl | 1, _ => rfl | 2, _ => rfl | 3, _ => rfl | 4, _ => rfl | 5, _ => rfl | 6, _ => rfl | 7, _ => rfl | 8, _ => rfl | 9, _ => rfl | 10, _ => rfl | 11, _ => rfl | 12, _ => rfl)
    show w6.ownsRow r.B 120 13 (.slice (some ⟨g', 0, none⟩) (r.n + 1) c') (r.n + 1) (enc 13 (r.n + 1) fun i j => vd r.F j (N' i j))
    rw [← hE]
    exact ho6
   ·obtain ⟨x1, x2, x3, x4⟩ := hp5.sap a ha
    exact ⟨x1, Nat.lt_of_lt_of_le x2 k6.size, x3, hAs a ha⟩
  have own' : ownR N' r.n = m := by simp [ownR, N']
  have all' : allR N' r.n = m := by simp [allR, N']
  have n6 : N' r.n 6 = v := by rw [← hma]; simp [N']
  refine ldS_intro hp6.sl0 ⟨_, ?_, ⟨N', ts ++ [.node .nil r.n .nil], hp6, ?_⟩, ?_, ⟨rfl, rfl, rfl, rfl, ?_⟩, ?_⟩
  ·simp only [makeE, if_pos hn]
   rw [w64_in (by simp; omega)]
   congr 5
   simp
  ·have fl := hf.le
   have e1 : makeS r.n rows = rows ++ [[r.n]] := by simp [makeS, hn]
   have e2 : makeV r.n V v = fun i => if i = r.n then v else V i := by simp [makeV, hn]
   rw [e1, e2]
   have vN : Vals N' (r.n + 1) := fun i hi => by
    by_cases e : i = r.n
    ·subst e; rw [own', n6]; exact ⟨hm.symm, hv⟩
    ·have eo : ownR N' i = ownR N i := by unfold ownR; rw [hN' i e, hN' i e, hN' i e, hN' i e]
     rw [eo, hN' i e]; exact hf.vals i (by omega)
   refine ⟨by rw [List.map_append, hf.ids]; rfl, hf.rok.make hf.pos, ?_, ?_, vN, by show r.n + 1 ≤ 65537; omega, by show 0 < r.n + 1; omega, ?_, ?_⟩
   ·intro q hq
    rcases List.mem_append.1 hq with hq | hq
    ·obtain ⟨oq, uq⟩ := hf.ok q hq
     have hroot : q.root ≠ 0 := fun e => hf.rok.ne q.ids (by rw [← hf.ids]; exact List.mem_map_of_mem hq) (by rw [oq.root_pos.1 e]; rfl)
     have qn : q.ids.Nodup := hf.rok.nd _ (by rw [← hf.ids]; exact List.mem_map_of_mem hq)
     refine ⟨oq.congr (Nat.le_succ _) qn fun i hi j _ _ => hN' i (by have := (oq.lt i hi).2; omega) j, ?_⟩
     rw [hN' _ (by have := (oq.lt _ (Tp.root_mem hroot)).2; omega)]; exact uq
    ·simp only [List.mem_singleton] at hq; subst hq
     refine ⟨⟨hf.pos, Nat.lt_succ_self _, by simp [N', Tp.root], by simp [N', Tp.root], by simp [N', Tp.ids], ?_, by simp [Tp.root], by simp [Tp.root], trivial, trivial⟩, by simp [N', Tp.root]⟩
     show Fa D (vx N' [r.n]) (allR N' r.n)
     have := Fa.own (D := D) (V := fun i => N' i 6) (a := r.n) (by show N' r.n 6 ≠ 0 → D (N' r.n 6) (N' r.n 6) = 0; rw [n6]; exact hz)
     rw [all', ← hm]
     have e6 : oneR (N' r.n 6) = oneR v := by rw [n6]
     rw [← e6]; exact this
   ·rw [hN' 0 (by have := hf.pos; omega)]; exact hf.z
   ·intro i h1 h2
    by_cases e : i = r.n
    ·subst e; rw [if_pos rfl]; exact n6
    ·rw [hN' i e, if_neg e]; exact hf.v i h1 (by have : i < r.n + 1 := h2; omega)
   ·intro l hl
    rcases List.mem_append.1 hl with hl | hl
    ·rw [vxs_congr (V := V) fun i hi => if_neg (by have := (hf.in_ hl i hi).2; omega)]
     exact hf.m4 l hl
    ·simp only [List.mem_singleton] at hl; subst hl
     refine M4.own fun h => ?_
     simp only [if_true] at h ⊢
     exact hz h
  ·simp [makeN, hn]
  ·rcases hg5 with e | e
   ·exact .inl e
   ·exact .inr (by show w.heap.size ≤ g'; omega)
  ·refine (Keeps.of_below b2).trans ?_
   refine (k3.mono (fun k _ e => .inl e)).trans ((Keeps.of_below b4).trans ?_)
   exact (k5.mono (fun k _ e => .inr e)).trans (k6.mono (fun k _ e => .inl e))
 ·refine sel_t (by simp; omega) ⟨r, by simp [makeE, hn], ?_, by simp [makeN, hn], ⟨rfl, rfl, rfl, rfl, .inl rfl⟩, .of_below b1⟩
  have e1 : makeS r.n rows = rows := by simp [makeS, hn]
  have e2 : makeV r.n V v = V := by simp [makeV, hn]
  rw [e1, e2]; exact ⟨N, ts, hp1, hf⟩
end
theorem app_empty {P : Program} {t e : TypeId} (hT : IntTy P t e) {w : World} {B b : Nat} (hb : w.heap[b]? = some (Obj.cells #[] e)) (hBb : B ≤ b) {A2 : Option Addr} {m c2 : Nat} {l2 : List Int} {ty : TypeId}
  {K : Value → World → Prop} (hr : RI w A2 l2) (hm : m = l2.length) (hc0 : A2 = none → m = 0 ∧ c2 = 0) (hlen : l2.length ≤ 17592186044416)
  (hK : ∀ A' c' w', OwnI w' B e (some A') c' l2 → Below w.heap.size w w' → K (.slice (some A') l2.length c') w') :
  Runs P (Builtin.append_ #[t, t] ty #[.slice (some ⟨b, 0, none⟩) 0 0, .slice A2 m c2]) w K := by
 obtain ⟨i, hi, hz, hs, hby⟩ := hT.info
 subst hm
 have hbl : b < w.heap.size := (Array.getElem?_eq_some_iff.1 hb).1
 have ho : OwnI w B e (some ⟨b, 0, none⟩) 0 [] := ⟨rfl, .inr ⟨b, 0, #[], rfl, hBb, hb, Nat.le_refl _, Nat.zero_le _, rfl, rfl⟩⟩
 have hB : B ≤ w.heap.size := by omega
 cases A2 with
 | none =>
  obtain ⟨h0, hc⟩ := hc0 rfl
  have hl2 : l2 = [] := List.length_eq_zero_iff.mp h0
  subst hl2; subst hc
  exact runs_of (run_append_owned_none w B t ty e i 1 hT.und hi _ _ _ ho) (hK _ _ w ho (Below.refl _ _))
 | some a =>
  by_cases hl : l2 = []
  ·subst hl
   have hrun := run_append_room (P := P) w t ty e i hT.und hi b 0 0 #[] hb a 0 c2 [] (by simp) (by simp) (by simp) (by omega) (by simp)
   refine runs_of hrun ?_
   have hhp := setRow_heap w b #[] ((#[] : Array Value).toList.take (0 * i.size) ++ ([] : List Value) ++ (#[] : Array Value).toList.drop (0 * i.size + ([] : List Value).length)).toArray e (0, 0) hb
   have hot := setRow_other w b
   have hcell : ((#[] : Array Value).toList.take (0 * i.size) ++ ([] : List Value) ++ (#[] : Array Value).toList.drop (0 * i.size + ([] : List Value).length)).toArray = #[] := by simp
   refine hK ⟨b, 0, none⟩ 0 _ ⟨rfl, .inr ⟨b, 0, #[], rfl, hBb, ?_, Nat.le_refl _, Nat.zero_le _, rfl, rfl⟩⟩ ⟨rfl, rfl, rfl, by simp, fun k hk => ?_⟩
   ·rw [hhp, hcell]
   ·by_cases e : k = b
    ·subst e; rw [hhp, hcell, hb]
    ·exact hot k _ e
  ·have hpos : 0 < l2.length := List.length_pos_iff.2 hl
   have hr2 := run_append_grow (P := P) w t ty e i (.int .i64 0) hT.und hi hz ⟨b, 0, none⟩ 0 0 [] (by simp) (by simp) a l2.length c2 (l2.map (.int .i64)) (by rw [hs]; simp) hr.news (by omega) (by omega)
    (by rw [hby]; exact growslice_fits (by omega) (by omega))
   obtain ⟨v', w', hrun, ho', hg, _⟩ := run_append_own (P := P) w B t ty e i (.int .i64 0) 1 8 hT.und hi hz hs hby rfl (by decide) _ _ _ ho a l2.length c2 (l2.map (.int .i64)) (by simp) hr.news (int_one _) (by unfold maxLen; simp; omega) (by simp; omega) hB
   have hr2' : (Builtin.append_ #[t, t] ty #[Value.slice (some ⟨b, 0, none⟩) ([] : List Int).length 0, .slice (some a) l2.length c2]).run P w = _ := hr2
   rw [hr2'] at hrun
   injection hrun with hv hw
   refine runs_of hr2 ?_
   have hbel : Below w.heap.size w w' := by rw [← hw]; exact (Below.refl w.heap.size w).drew.alloc (Nat.le_refl _) _
   rw [hw]
   rw [← hv] at ho'
   simp only [List.length_nil, Nat.zero_add, List.map_nil, List.nil_append] at ho' ⊢
   exact hK _ _ w' ho' hbel
theorem zT13_enc : (madeCells zT13.cells (1 * 13)).toList = enc 13 1 (fun _ j => vd 0 j 0) := by
 apply List.ext_getElem
 ·simp [madeCells, enc]
 ·intro j h1 h2
  have hj : j < 13 := by simpa [enc] using h2
  simp only [madeCells, enc, Array.getElem_toList, Array.getElem_map, Array.getElem_range, List.getElem_map, List.getElem_range]
  match j, hj with | 0, _ => rfl | 1, _ => rfl | 2, _ => rfl | 3, _ => rfl | 4, _ => rfl | 5, _ => rfl | 6, _ => rfl | 7, _ => rfl | 8, _ => rfl | 9, _ => rfl | 10, _ => rfl | 11, _ => rfl | 12, _ => rfl
def fNd (B : Nat) (v : Value) (w : World) : Prop := ∃ g, v = .slice (some ⟨g, 0, none⟩) 1 1 ∧ w.ownsRow B 120 13 (.slice (some ⟨g, 0, none⟩) 1 1) 1 (enc 13 1 fun _ j => vd 0 j 0)
def fEm (B : Nat) (v : Value) (w : World) : Prop := ∃ b, v = .slice (some ⟨b, 0, none⟩) 0 0 ∧ B ≤ b ∧ w.heap[b]? = some (Obj.cells #[] 3)
def fSd (B : Nat) (sl : List Int) (v : Value) (w : World) : Prop := ∃ A c, v = .slice (some A) sl.length c ∧ OwnI w B 3 (some A) c sl
def fRp (B : Nat) (sl : List Int) (v : Value) (w : World) : Prop := ∃ r : RC, v = .pointer (some ⟨r.R, 0, none⟩) ∧ r.n = 1 ∧ r.B = B ∧ r.F = 0 ∧ Rp w r (fun _ _ => 0)
def fN (B : Nat) (sl : List Int) (i : Nat) (v : Value) (w : World) : Prop := match i with
 | 0 => fNd B v w | 1 => fEm B v w | 3 => fSd B sl v w | 5 => fRp B sl v w
 | _ => True
theorem fN.keep {B : Nat} {sl : List Int} {i : Nat} {v : Value} {w w' : World} (h : fN B sl i v w) (hb : Below w.heap.size w w') : fN B sl i v w' := by
 unfold fN at h ⊢
 split at h
 ·obtain ⟨g, e, ho⟩ := h
  exact ⟨g, e, Keeps.own ho (Keeps.of_below (S := fun _ => False) hb) (fun _ _ => id)⟩
 ·obtain ⟨b, e, h1, h2⟩ := h
  exact ⟨b, e, h1, (hb.block b (Array.getElem?_eq_some_iff.1 h2).1).trans h2⟩
 ·obtain ⟨A, c, e, ho⟩ := h
  exact ⟨A, c, e, ho.keeps (Keeps.of_below (S := fun _ => False) hb) (fun _ _ => id)⟩
 ·obtain ⟨r, e, h1, h2, h0, h3⟩ := h
  exact ⟨r, e, h1, h2, h0, h3.below hb⟩
 ·trivial
theorem NewT_ok {w : World} {A : Option Addr} {sl : List Int} {c : Nat} (hr : RI w A sl) (hc0 : A = none → sl.length = 0 ∧ c = 0) (hlen : sl.length ≤ 17592186044416) :
  Calls Try.prog 23 #[.slice A sl.length c] w fun e w' => ∃ r : RC, e = .returned (.pointer (some ⟨r.R, 0, none⟩)) ∧ (∀ D V F, Rope D w' { r with F := F } [] V) ∧ r.n = 1 ∧ r.B = w.heap.size ∧ Below w.heap.size w w' := by
 apply f_span_reach.ok
 unfold f_span_reach.wp
 refine drW_intro ?_
 have b0 : Below w.heap.size w w.drew := (Below.refl _ _).drew
 have hr1 := hr.below b0 (Nat.le_refl _)
 have hsz : w.drew.heap.size = w.heap.size := rfl
 generalize w.drew = w1 at *
 refine ⟨f_span_reach.h1_ok .., fun x y => Below x.heap.size x y, fN w.heap.size sl, fun _ => Below.refl _ _, fun x y z h1 h2 => h1.trans (h2.mono h1.size), fun i v x y _ h1 h2 => fN.keep h2 h1, ?_, ?_⟩
 ·refine ⟨fun _ w4 g => ?_, fun _ w8 g => alW_intro ⟨bal _ _, _, rfl, by have := g.size; omega, heap_alloc_new _ _⟩, fun _ w11 g A1 n1 c1 f1 => ?_, fun _ w15 g A0 n0 c0 f0 A1 n1 c1 f1 A3 n3 c3 f3 => ?_, trivial⟩
  ·obtain ⟨i, hi, hz, hs, hby⟩ := TNdT_info
   obtain ⟨w', hrun, ho, hg⟩ := run_make_full (P := Try.prog) w4 w.heap.size _ 120 i zT13 13 TNdT hi hz hs .i64 .i64 1 (by rw [hby]; omega) (by unfold maxLen; omega) (by have := g.size; omega)
   rw [zT13_enc] at ho
   exact runs_of hrun ⟨_, _, _, rfl, ⟨hg.os, hg.tape, hg.output, hg.size, fun k hk => hg.block k hk (by simp)⟩, _, rfl, ho⟩
  ·obtain ⟨b, e, h1, h2⟩ := f1
   injection e with e1 e2 e3; subst e1; subst e2; subst e3
   refine app_empty TIn h2 h1 (hr1.below g (Nat.le_refl _)) rfl hc0 hlen fun A' c' w' ho hb => ?_
   exact ⟨_, _, _, rfl, hb, _, _, rfl, ho⟩
  ·obtain ⟨g0, e, ho⟩ := f0
   injection e with e1 e2 e3; subst e1; subst e2; subst e3
   obtain ⟨A, cc, e, hs⟩ := f3
   injection e with e1 e2 e3; subst e1; subst e2; subst e3
   refine alW_intro ⟨bal _ _, ⟨0, w.heap.size, w15.heap.size, g0, 1, 1, some A, sl, c3, 11400714819323198485⟩, rfl, rfl, rfl, rfl, ?_⟩
   have hg0 := World.ownsRow.lt ho g0 rfl
   have hA := hs.block A rfl
   have bl := bal w15 (.cells #[.slice (some ⟨g0, 0, none⟩) 1 1, .slice (some A) sl.length c3, .int .u64 (11400714819323198485 : Int)] 95)
   refine ⟨heap_alloc_new _ _, Keeps.own ho (Keeps.of_below (S := fun _ => False) bl) (fun _ _ => id), by have := g.size; show w.heap.size ≤ w15.heap.size; omega, by show g0 ≠ w15.heap.size; omega, hs.reads.below bl (Nat.le_refl _), ?_⟩
   intro a ha
   injection ha with ha; subst ha
   refine ⟨hA.1, by simp; omega, by show A.block ≠ w15.heap.size; omega, ?_⟩
   show A.block ≠ g0
   intro e
   obtain ⟨_, h1⟩ := ho
   rcases h1 with ⟨h1, _⟩ | ⟨g', cap, cur, hv, _, hh, _⟩
   ·cases h1
   ·injection hv with hv; injection hv with hv; injection hv with hv; subst hv
    obtain ⟨_, h2⟩ := hs
    rcases h2 with ⟨h2, _⟩ | ⟨g2, cap2, cur2, hv2, _, hh2, _⟩
    ·cases h2
    ·injection hv2 with hv2; injection hv2 with hv2; subst hv2
     simp only at e
     subst e
     rw [hh] at hh2
     injection hh2 with hh2; injection hh2 with _ hh2; cases hh2
 ·intro w18 g A0 n0 c0 f0 A1 n1 c1 f1 A3 n3 c3 f3 a5 f5
  obtain ⟨r, e, h1, h2, h0, h3⟩ := f5
  injection e with e; injection e with e; subst e
  refine ⟨r, rfl, fun D V F => ⟨fun _ _ => 0, [], ⟨h3.obj, ?_, h3.hB, h3.gR, h3.sds, h3.sap⟩, ?_⟩, h1, h2, b0.trans (g.mono (Nat.le_of_eq hsz.symm))⟩
  ·have e : (enc 13 r.n fun i j => vd F j 0) = enc 13 r.n fun i j => vd r.F j 0 := enc_congr fun i _ j _ => by
    unfold vd pF; simp
   show w18.ownsRow r.B 120 13 (.slice (some ⟨r.g, 0, none⟩) r.n r.c) r.n (enc 13 r.n fun i j => vd F j 0)
   rw [e]; exact h3.own
  ·show FO D (fun _ _ => 0) r.n [] V []
   rw [h1]
   refine ⟨rfl, ⟨by simp, by simp, List.Pairwise.nil, fun i => ?_⟩, by simp, rfl, fun i _ => ⟨rfl, by decide⟩, by omega, by omega, fun i h1 h2 => by omega, by simp⟩
   constructor
   ·rintro ⟨l, hl, _⟩; simp at hl
   ·omega
end Go.Proofs.Ytklnlnjgaadjbaa.Rd
namespace Go.Dn
def Rot (l m : List Nat) : Prop := ∃ a b, l = a ++ b ∧ m = b ++ a
theorem Rot.refl (l : List Nat) : Rot l l := ⟨[], l, by simp, by simp⟩
theorem Rot.symm {l m : List Nat} (h : Rot l m) : Rot m l := by obtain ⟨a, b, h1, h2⟩ := h; exact ⟨b, a, h2, h1⟩
theorem Rot.trans {l m n : List Nat} (h : Rot l m) (k : Rot m n) : Rot l n := by
 obtain ⟨a, b, rfl, h2⟩ := h
 obtain ⟨c, d, h3, rfl⟩ := k
 rw [h2] at h3
 rcases List.append_eq_append_iff.1 h3 with ⟨e, rfl, rfl⟩ | ⟨e, rfl, rfl⟩
 ·exact ⟨e, d ++ b, by simp, by simp⟩
 ·exact ⟨a ++ c, e, by simp, by simp⟩
theorem Rot.perm {l m : List Nat} (h : Rot l m) : l.Perm m := by obtain ⟨a, b, rfl, rfl⟩ := h; exact List.perm_append_comm
theorem Rot.mem {l m : List Nat} (h : Rot l m) {x : Nat} : x ∈ l ↔ x ∈ m := h.perm.mem_iff
theorem Rot.uniq {t : Nat} {p q : List Nat} (nd : (t :: p).Nodup) (h : Rot (t :: p) (t :: q)) : p = q := by
 obtain ⟨a, b, h1, h2⟩ := h
 cases a with
 | nil => rw [List.nil_append] at h1; rw [List.append_nil, ← h1] at h2; injection h2 with _ h2; exact h2.symm
 | cons t' a' =>
  rw [List.cons_append] at h1
  injection h1 with h0 h1
  subst h0; subst h1
  cases b with
  | nil => rw [List.nil_append] at h2; injection h2 with _ h2; rw [List.append_nil]; exact h2.symm
  | cons t2 b' =>
   rw [List.cons_append] at h2
   injection h2 with h0 h2
   subst h0
   rw [List.nodup_cons] at nd
   exact absurd (by simp) nd.1
inductive Pl where
 | v (i : Int)
 | t (i : Int)
 | b (i : Int)
def okP (vs : List Int) (es : List E) : Pl → Prop
 | .v i => i ∈ vs
 | .t i => i ∈ es.map E.id
 | .b i => i ∈ es.map E.id
inductive Tour (vs : List Int) (es : List E) (nm : Pl → Nat) : List Nat → Prop
 | one {v : Int} (h : v ∈ vs) : Tour vs es nm [nm (.v v)]
 | rot {a b : List Nat} (h : Tour vs es nm (a ++ b)) : Tour vs es nm (b ++ a)
 | link {e : E} {A B : List Nat} (he : e ∈ es) (h1 : Tour vs es nm (nm (.v e.u) :: A)) (h2 : Tour vs es nm (nm (.v e.v) :: B)) : Tour vs es nm ((nm (.v e.u) :: A) ++ nm (.t e.id) :: ((nm (.v e.v) :: B) ++ [nm (.b e.id)]))
structure Nm (vs : List Int) (es : List E) (nm : Pl → Nat) : Prop where
 inj : ∀ p q, okP vs es p → okP vs es q → nm p = nm q → p = q
 ids : (es.map E.id).Nodup
 ends : ∀ e ∈ es, e.u ∈ vs ∧ e.v ∈ vs
theorem ids_inj2 {es : List E} (h : (es.map E.id).Nodup) : ∀ {e e' : E}, e ∈ es → e' ∈ es → e.id = e'.id → e = e' := by
 induction es with
 | nil => intro e e' h; cases h
 | cons c p ih =>
  intro e e' h1 h2 hid
  rw [List.map_cons, List.nodup_cons] at h
  rcases List.mem_cons.1 h1 with e1 | h1 <;> rcases List.mem_cons.1 h2 with e2 | h2
  ·rw [e1, e2]
  ·exact absurd (by rw [← e1, hid]; exact List.mem_map_of_mem h2) h.1
  ·exact absurd (by rw [← e2, ← hid]; exact List.mem_map_of_mem h1) h.1
  ·exact ih h.2 h1 h2 hid
section
variable {vs : List Int} {es : List E} {nm : Pl → Nat}
theorem okV {i : Int} (h : i ∈ vs) : okP vs es (.v i) := h
theorem okT {e : E} (h : e ∈ es) : okP vs es (.t e.id) := List.mem_map_of_mem h
theorem okB {e : E} (h : e ∈ es) : okP vs es (.b e.id) := List.mem_map_of_mem h
theorem Nm.vt (N : Nm vs es nm) {i : Int} {e : E} (hi : i ∈ vs) (he : e ∈ es) : nm (.v i) ≠ nm (.t e.id) := fun h => by cases N.inj _ _ (okV hi) (okT he) h
theorem Nm.vb (N : Nm vs es nm) {i : Int} {e : E} (hi : i ∈ vs) (he : e ∈ es) : nm (.v i) ≠ nm (.b e.id) := fun h => by cases N.inj _ _ (okV hi) (okB he) h
theorem Nm.tb (N : Nm vs es nm) {e e' : E} (he : e ∈ es) (he' : e' ∈ es) : nm (.t e.id) ≠ nm (.b e'.id) := fun h => by cases N.inj _ _ (okT he) (okB he') h
theorem Nm.tt (N : Nm vs es nm) {e e' : E} (he : e ∈ es) (he' : e' ∈ es) (h : nm (.t e.id) = nm (.t e'.id)) : e = e' := by
 have := N.inj _ _ (okT he) (okT he') h
 injection this with this
 exact ids_inj2 N.ids he he' this
theorem Nm.bb (N : Nm vs es nm) {e e' : E} (he : e ∈ es) (he' : e' ∈ es) (h : nm (.b e.id) = nm (.b e'.id)) : e = e' := by
 have := N.inj _ _ (okB he) (okB he') h
 injection this with this
 exact ids_inj2 N.ids he he' this
theorem Nm.vv (N : Nm vs es nm) {i j : Int} (hi : i ∈ vs) (hj : j ∈ vs) (h : nm (.v i) = nm (.v j)) : i = j := by
 have := N.inj _ _ (okV hi) (okV hj) h
 injection this
theorem link_mem {p q r s : Nat} {A B : List Nat} {x : Nat} : x ∈ (p :: A) ++ q :: ((r :: B) ++ [s]) ↔ x ∈ p :: A ∨ x = q ∨ x ∈ r :: B ∨ x = s := by simp only [List.mem_append, List.mem_cons, List.not_mem_nil, or_false]
theorem Tour.ne {l : List Nat} (h : Tour vs es nm l) : l ≠ [] := by
 induction h with
 | one => simp
 | rot h ih => intro e; apply ih; rw [List.append_eq_nil_iff] at e ⊢; exact ⟨e.2, e.1⟩
 | link => simp
theorem Tour.of_rot {l m : List Nat} (h : Tour vs es nm l) (r : Rot l m) : Tour vs es nm m := by
 obtain ⟨a, b, rfl, rfl⟩ := r; exact h.rot
theorem Tour.ok {l : List Nat} (N : Nm vs es nm) (h : Tour vs es nm l) : ∀ x ∈ l, ∃ p, okP vs es p ∧ x = nm p := by
 induction h with
 | one h => intro x hx; simp only [List.mem_singleton] at hx; exact ⟨_, okV h, hx⟩
 | rot h ih => intro x hx; exact ih x (by rw [List.mem_append] at hx ⊢; exact hx.symm)
 | link he h1 h2 i1 i2 =>
  intro x hx
  rcases link_mem.1 hx with hx | rfl | hx | rfl
  ·exact i1 x hx
  ·exact ⟨_, okT he, rfl⟩
  ·exact i2 x hx
  ·exact ⟨_, okB he, rfl⟩
theorem Tour.closed {l : List Nat} (N : Nm vs es nm) (h : Tour vs es nm l) {e : E} (he : e ∈ es) : nm (.t e.id) ∈ l ∨ nm (.b e.id) ∈ l → nm (.t e.id) ∈ l ∧ nm (.b e.id) ∈ l ∧ nm (.v e.u) ∈ l ∧ nm (.v e.v) ∈ l := by
 induction h with
 | one h =>
  intro hx
  simp only [List.mem_singleton] at hx
  rcases hx with hx | hx
  ·exact absurd hx.symm (N.vt h he)
  ·exact absurd hx.symm (N.vb h he)
 | rot h ih => intro hx; simp only [List.mem_append, or_comm] at hx ih ⊢; exact ih hx
 | @link e0 A B he0 h1 h2 i1 i2 =>
  intro hx
  simp only [link_mem] at hx ⊢
  have key : e = e0 → ((nm (.t e.id) ∈ nm (.v e0.u) :: A ∨ nm (.t e.id) = nm (.t e0.id) ∨ nm (.t e.id) ∈ nm (.v e0.v) :: B ∨ nm (.t e.id) = nm (.b e0.id)) ∧ (nm (.b e.id) ∈ nm (.v e0.u) :: A ∨ nm (.b e.id) = nm (.t e0.id) ∨ nm (.b e.id) ∈ nm (.v e0.v) :: B ∨ nm (.b e.id) = nm (.b e0.id)) ∧ (nm (.v e.u) ∈ nm (.v e0.u) :: A ∨ nm (.v e.u) = nm (.t e0.id) ∨ nm (.v e.u) ∈ nm (.v e0.v) :: B ∨ nm (.v e.u) = nm (.b e0.id)) ∧ (nm (.v e.v) ∈ nm (.v e0.u) :: A ∨ nm (.v e.v) = nm (.t e0.id) ∨ nm (.v e.v) ∈ nm (.v e0.v) :: B ∨ nm (.v e.v) = nm (.b e0.id))) := by
   rintro rfl; exact ⟨.inr (.inl rfl), .inr (.inr (.inr rfl)), .inl (by simp), .inr (.inr (.inl (by simp)))⟩
  have inA : nm (.t e.id) ∈ nm (.v e0.u) :: A ∨ nm (.b e.id) ∈ nm (.v e0.u) :: A → _ := fun hh => i1 hh
  have inB : nm (.t e.id) ∈ nm (.v e0.v) :: B ∨ nm (.b e.id) ∈ nm (.v e0.v) :: B → _ := fun hh => i2 hh
  rcases hx with (hx | hx | hx | hx) | (hx | hx | hx | hx)
  ·obtain ⟨a, b, c, d⟩ := inA (.inl hx); exact ⟨.inl a, .inl b, .inl c, .inl d⟩
  ·exact key (N.tt he he0 hx)
  ·obtain ⟨a, b, c, d⟩ := inB (.inl hx); exact ⟨.inr (.inr (.inl a)), .inr (.inr (.inl b)), .inr (.inr (.inl c)), .inr (.inr (.inl d))⟩
  ·exact absurd hx (N.tb he he0)
  ·obtain ⟨a, b, c, d⟩ := inA (.inr hx); exact ⟨.inl a, .inl b, .inl c, .inl d⟩
  ·exact absurd hx.symm (N.tb he0 he)
  ·obtain ⟨a, b, c, d⟩ := inB (.inr hx); exact ⟨.inr (.inr (.inl a)), .inr (.inr (.inl b)), .inr (.inr (.inl c)), .inr (.inr (.inl d))⟩
  ·exact key (N.bb he he0 hx)
theorem Tour.conn {l : List Nat} (N : Nm vs es nm) (h : Tour vs es nm l) : ∀ {u v : Int}, u ∈ vs → v ∈ vs → nm (.v u) ∈ l → nm (.v v) ∈ l → Cn es u v := by
 induction h with
 | one h =>
  intro u v hu hv h1 h2
  simp only [List.mem_singleton] at h1 h2
  rw [N.vv hu h h1, N.vv hv h h2]; exact Cn.refl _ _
 | rot h ih => intro u v hu hv h1 h2; simp only [List.mem_append, or_comm] at h1 h2 ih; exact ih hu hv h1 h2
 | @link e0 A B he0 h1 h2 i1 i2 =>
  intro u v hu hv m1 m2
  obtain ⟨eu, ev⟩ := N.ends _ he0
  have side : ∀ {w : Int}, w ∈ vs → nm (.v w) ∈ (nm (.v e0.u) :: A) ++ nm (.t e0.id) :: ((nm (.v e0.v) :: B) ++ [nm (.b e0.id)]) → Cn es w e0.u := by
   intro w hw m
   rcases link_mem.1 m with m | m | m | m
   ·exact i1 hw eu m (by simp)
   ·exact absurd m (N.vt hw he0)
   ·exact (i2 hw ev m (by simp)).trans (Cn.edge he0).symm
   ·exact absurd m (N.vb hw he0)
  exact (side hu m1).trans (side hv m2).symm
theorem Tour.mono {vs' : List Int} {es' : List E} {nm' : Pl → Nat} {l : List Nat} (N : Nm vs es nm) (h : Tour vs es nm l) : (∀ v ∈ vs, nm (.v v) ∈ l → v ∈ vs' ∧ nm' (.v v) = nm (.v v)) → (∀ e ∈ es, nm (.t e.id) ∈ l → e ∈ es' ∧ nm' (.t e.id) = nm (.t e.id) ∧ nm' (.b e.id) = nm (.b e.id)) → Tour vs' es' nm' l := by
 induction h with
 | one h =>
  intro hv he
  obtain ⟨a, b⟩ := hv _ h (by simp)
  rw [← b]; exact .one a
 | rot h ih =>
  intro hv he
  refine .rot (ih (fun v h m => hv v h ?_) fun e h m => he e h ?_)
  ·rw [List.mem_append] at m ⊢; exact m.symm
  ·rw [List.mem_append] at m ⊢; exact m.symm
 | @link e0 A B he0 h1 h2 i1 i2 =>
  intro hv he
  obtain ⟨eu, ev⟩ := N.ends _ he0
  obtain ⟨a1, a2, a3⟩ := he _ he0 (link_mem.2 (.inr (.inl rfl)))
  have j1 := i1 (fun v h m => hv v h (link_mem.2 (.inl m))) fun e h m => he e h (link_mem.2 (.inl m))
  have j2 := i2 (fun v h m => hv v h (link_mem.2 (.inr (.inr (.inl m))))) fun e h m => he e h (link_mem.2 (.inr (.inr (.inl m))))
  have b1 := (hv _ eu (link_mem.2 (.inl (by simp)))).2
  have b2 := (hv _ ev (link_mem.2 (.inr (.inr (.inl (by simp)))))).2
  rw [← b1] at j1
  rw [← b2] at j2
  have := Tour.link a1 j1 j2
  rw [a2, a3, b1, b2] at this
  exact this
theorem ins_cut {T : List Nat → Prop} (hrot : ∀ a b, T (a ++ b) → T (b ++ a)) {z t b : Nat} {A X Y Z : List Nat} (hT : ∀ P, T (z :: P) → T ((z :: P) ++ Z)) (zt : z ≠ t) (zb : z ≠ b) (hr : Rot (z :: A) (t :: (X ++ b :: Y))) (hX : T X) (hY : T Y) :
  ∃ X' Y', Rot ((z :: A) ++ Z) (t :: (X' ++ b :: Y')) ∧ T X' ∧ T Y' ∧ (∀ x ∈ X, x ∈ X') ∧ (∀ y ∈ Y, y ∈ Y') := by
 obtain ⟨p, q, h1, h2⟩ := hr
 cases p with
 | nil =>
  rw [List.nil_append] at h1; rw [List.append_nil, ← h1] at h2
  injection h2 with h2 _; exact absurd h2.symm zt
 | cons z' p' =>
  rw [List.cons_append] at h1
  injection h1 with h0 h1
  subst h0; subst h1
  cases q with
  | nil => rw [List.nil_append] at h2; injection h2 with h2 _; exact absurd h2.symm zt
  | cons t' q' =>
   rw [List.cons_append] at h2
   injection h2 with h0 h2
   subst h0
   rcases List.append_eq_append_iff.1 h2 with ⟨c, hc1, hc2⟩ | ⟨c, hc1, hc2⟩
   ·cases c with
    | nil => rw [List.nil_append] at hc2; injection hc2 with hc2 _; exact absurd hc2.symm zb
    | cons b' c' =>
     rw [List.cons_append] at hc2
     injection hc2 with h0 hc2
     subst h0; subst hc1; subst hc2
     refine ⟨X, (c' ++ Z) ++ z :: p', ⟨z :: p', t :: (X ++ b :: (c' ++ Z)), by simp, by simp⟩, hX, ?_, fun x h => h, fun y h => ?_⟩
     ·have := hT (p' ++ c') (by rw [← List.cons_append]; exact hrot _ _ hY)
      exact hrot (z :: p') (c' ++ Z) (by simpa using this)
     ·simp only [List.mem_append, List.mem_cons] at h ⊢
      rcases h with h | h
      ·exact .inl (.inl h)
      ·exact .inr h
   ·cases c with
    | nil => rw [List.nil_append] at hc2; injection hc2 with hc2 _; exact absurd hc2 zb
    | cons z2 c' =>
     rw [List.cons_append] at hc2
     injection hc2 with h0 hc2
     subst h0; subst hc1; subst hc2
     refine ⟨(q' ++ Z) ++ z :: c', Y, ⟨z :: (c' ++ b :: Y), t :: (q' ++ Z), by simp, by simp⟩, ?_, hY, fun x h => ?_, fun y h => h⟩
     ·have := hT (c' ++ q') (by rw [← List.cons_append]; exact hrot _ _ hX)
      exact hrot (z :: c') (q' ++ Z) (by simpa using this)
     ·simp only [List.mem_append, List.mem_cons] at h ⊢
      rcases h with h | h
      ·exact .inl (.inl h)
      ·exact .inr h
theorem Tour.cut {l : List Nat} (N : Nm vs es nm) (h : Tour vs es nm l) {e : E} (he : e ∈ es) : nm (.t e.id) ∈ l → ∃ X Y, Rot l (nm (.t e.id) :: (X ++ nm (.b e.id) :: Y)) ∧ Tour vs es nm X ∧ Tour vs es nm Y ∧ nm (.v e.v) ∈ X ∧ nm (.v e.u) ∈ Y := by
 induction h with
 | one h => intro m; simp only [List.mem_singleton] at m; exact absurd m.symm (N.vt h he)
 | @rot a b h ih =>
  intro m
  obtain ⟨X, Y, r, x⟩ := ih (by rw [List.mem_append] at m ⊢; exact m.symm)
  exact ⟨X, Y, Rot.trans ⟨b, a, rfl, rfl⟩ r, x⟩
 | @link e0 A B he0 h1 h2 i1 i2 =>
  intro m
  obtain ⟨eu, ev⟩ := N.ends _ he0
  rcases link_mem.1 m with m | m | m | m
  ·obtain ⟨X, Y, r, tX, tY, mv, mu⟩ := i1 m
   obtain ⟨X', Y', r', tX', tY', sX, sY⟩ := ins_cut (T := Tour vs es nm) (fun _ _ h => h.rot) (Z := nm (.t e0.id) :: ((nm (.v e0.v) :: B) ++ [nm (.b e0.id)])) (fun P h => Tour.link he0 h h2) (N.vt eu he) (N.vb eu he) r tX tY
   exact ⟨X', Y', r', tX', tY', sX _ mv, sY _ mu⟩
  ·have := N.tt he he0 m
   subst this
   exact ⟨nm (.v e.v) :: B, nm (.v e.u) :: A, ⟨nm (.v e.u) :: A, nm (.t e.id) :: ((nm (.v e.v) :: B) ++ [nm (.b e.id)]), by simp, by simp⟩, h2, h1, by simp, by simp⟩
  ·obtain ⟨X, Y, r, tX, tY, mv, mu⟩ := i2 m
   obtain ⟨X', Y', r', tX', tY', sX, sY⟩ := ins_cut (T := Tour vs es nm) (fun _ _ h => h.rot) (Z := nm (.b e0.id) :: ((nm (.v e0.u) :: A) ++ [nm (.t e0.id)])) (fun P h => by
    have := Tour.link he0 h1 h
    have h3 := Tour.rot (a := (nm (.v e0.u) :: A) ++ [nm (.t e0.id)]) (b := (nm (.v e0.v) :: P) ++ [nm (.b e0.id)]) (by simpa using this)
    simpa using h3) (N.vt ev he) (N.vb ev he) r tX tY
   refine ⟨X', Y', Rot.trans ⟨(nm (.v e0.u) :: A) ++ [nm (.t e0.id)], (nm (.v e0.v) :: B) ++ [nm (.b e0.id)], by simp, rfl⟩ (by simpa using r'), tX', tY', sX _ mv, sY _ mu⟩
  ·exact absurd m (N.tb he he0)
end
theorem Disj.symm {s t : List Nat} (h : Disj s t) : Disj t s := fun x h1 h2 => h x h2 h1
theorem RowsOk.perm {n : Nat} {rows R : List (List Nat)} (h : RowsOk n rows) (p : rows.Perm R) : RowsOk n R :=
 ⟨fun l hl => h.nd l (p.mem_iff.2 hl), fun l hl => h.ne l (p.mem_iff.2 hl), (p.pairwise_iff (fun h => Disj.symm h)).1 h.dj, fun i => by
  rw [← h.mem i]
  exact ⟨fun ⟨l, hl, hi⟩ => ⟨l, p.mem_iff.2 hl, hi⟩, fun ⟨l, hl, hi⟩ => ⟨l, p.mem_iff.1 hl, hi⟩⟩⟩
theorem join_perm {n : Nat} {rows R : List (List Nat)} {la lb : List Nat} {a b : Nat} (h : RowsOk n rows) (p : rows.Perm (la :: lb :: R)) (ha : a ∈ la) (hb : b ∈ lb) : (joinR rows a b).Perm ((la ++ lb) :: R) := by
 have h' := h.perm p
 have hd := h'.dj
 rw [List.pairwise_cons, List.pairwise_cons] at hd
 obtain ⟨d1, d2, d3⟩ := hd
 unfold joinR
 rw [h.rowOf_eq (p.mem_iff.2 (by simp)) ha, h.rowOf_eq (l := lb) (p.mem_iff.2 (by simp)) hb]
 have f : (rows.filter fun l => decide (a ∉ l ∧ b ∉ l)).Perm R := by
  refine (p.filter _).trans ?_
  rw [List.filter_cons_of_neg (by simp [ha]), List.filter_cons_of_neg (by simp [hb]), List.filter_eq_self.2]
  intro l hl
  have n1 : a ∉ l := d1 l (by simp [hl]) a ha
  have n2 : b ∉ l := d2 l hl b hb
  simp [n1, n2]
 exact (List.perm_append_comm).trans (f.cons _)
theorem cut_perm {n : Nat} {rows R : List (List Nat)} {l : List Nat} {a : Nat} (h : RowsOk n rows) (p : rows.Perm (l :: R)) (ha : a ∈ l) : (cutR rows a).Perm (pieces a l ++ R) := by
 have h' := h.perm p
 have hd := h'.dj
 rw [List.pairwise_cons] at hd
 unfold cutR
 refine (p.flatMap_right _).trans ?_
 rw [List.flatMap_cons]
 refine List.Perm.append_left _ ?_
 have : R.flatMap (pieces a) = R := by
  have key : ∀ {L : List (List Nat)}, (∀ m ∈ L, a ∉ m) → L.flatMap (pieces a) = L := by
   intro L
   induction L with
   | nil => intro _; rfl
   | cons m L ih =>
    intro hm
    rw [List.flatMap_cons, ih fun x hx => hm x (by simp [hx])]
    unfold pieces
    rw [if_neg (hm m (by simp))]; rfl
  exact key fun m hm => hd.1 m hm a ha
 rw [this]
theorem split_at {l : List Nat} {a : Nat} (ha : a ∈ l) : ∃ P, l.drop (l.idxOf a) = a :: P ∧ Rot l (a :: (P ++ l.take (l.idxOf a))) := by
 have hlt := List.idxOf_lt_length_of_mem ha
 refine ⟨l.drop (l.idxOf a + 1), ?_, l.take (l.idxOf a), l.drop (l.idxOf a), (List.take_append_drop _ _).symm, ?_⟩
 ·rw [List.drop_eq_getElem_cons hlt, List.getElem_idxOf]
 ·rw [List.drop_eq_getElem_cons hlt, List.getElem_idxOf]; rfl
end Go.Dn
namespace Go.Proofs.Ytklnlnjgaadjbaa.Rd
open Go.Dn Go.RowKit Go.Maps
set_option maxRecDepth 100000
theorem hb_ldM {w : World} {b : Nat} {cs : Array Value} {t : TypeId} (h : HB w b cs t) {j : Nat} {x : Option Nat} (hj : cs[j]? = some (.map x)) {K : Option Nat → Prop} (hk : K x) : ldM w ((⟨b, 0, none⟩ : Addr).add j) K := ⟨_, (h.cell j).trans hj, hk⟩
theorem hb_ldP {w : World} {b : Nat} {cs : Array Value} {t : TypeId} (h : HB w b cs t) {j : Nat} {x : Option Addr} (hj : cs[j]? = some (.pointer x)) {K : Option Addr → Prop} (hk : K x) : ldP w ((⟨b, 0, none⟩ : Addr).add j) K := ⟨_, (h.cell j).trans hj, hk⟩
def eI (i : Int) : Value := .int .i64 i
theorem eI_inj (x y : Int) (h : eI x = eI y) : x = y := by injection h
def eN (n : Nat) : Value := .int .i64 (n : Int)
def eA (p : Nat × Nat) : Value := .agg #[.int .i64 (p.1 : Int), .int .i64 (p.2 : Int)]
abbrev TF : TypeId := 66
theorem Kint : Try.prog.underlying 3 = some (.int .i64) := by kernel_rfl
theorem KTv : KT Try.prog 63 3 3 eI W64 := ⟨by kernel_rfl, Maps.int_keyed Kint, fun x h => ⟨_, Maps.keyOf_int_mk Kint h.wf⟩, eI_inj⟩
theorem KTe : KT Try.prog 64 3 82 eI W64 := ⟨by kernel_rfl, Maps.int_keyed Kint, fun x h => ⟨_, Maps.keyOf_int_mk Kint h.wf⟩, eI_inj⟩
theorem zI (w : World) : (zeroValue 3).run Try.prog w = .ok (.int .i64 0) w := by kernel_rfl
theorem zA (w : World) : (zeroValue 82).run Try.prog w = .ok (.agg #[.int .i64 0, .int .i64 0]) w := by kernel_rfl
def zs (l : List Nat) : List Int := l.map fun (i : Nat) => (i : Int)
theorem zs_len (l : List Nat) : (zs l).length = l.length := by simp [zs]
theorem zs_app (l m : List Nat) : zs (l ++ m) = zs l ++ zs m := by simp [zs]
section
variable {D : Int → Int → Int}
theorem Rope.rok {w : World} {r : RC} {rows : List (List Nat)} {V : Nat → Int} (h : Rope D w r rows V) : RowsOk r.n rows := by obtain ⟨N, ts, hp, hf⟩ := h; exact hf.rok
theorem Rope.m4 {w : World} {r : RC} {rows : List (List Nat)} {V : Nat → Int} (h : Rope D w r rows V) : ∀ l ∈ rows, M4 D (vxs V l) := by obtain ⟨N, ts, hp, hf⟩ := h; exact hf.m4
theorem Rope.sap {w : World} {r : RC} {rows : List (List Nat)} {V : Nat → Int} (h : Rope D w r rows V) : ∀ a, r.As = some a → r.B ≤ a.block ∧ a.block < w.heap.size ∧ a.block ≠ r.R ∧ a.block ≠ r.g := by obtain ⟨N, ts, hp, hf⟩ := h; exact hp.sap
theorem Rope.lt {w : World} {r : RC} {rows : List (List Nat)} {V : Nat → Int} (h : Rope D w r rows V) : r.R < w.heap.size ∧ r.g < w.heap.size ∧ r.B ≤ r.R ∧ r.g ≠ r.R := by obtain ⟨N, ts, hp, hf⟩ := h; exact ⟨hp.R_lt, hp.g_lt.2, hp.hB, hp.gR⟩
theorem Rope.pos {w : World} {r : RC} {rows : List (List Nat)} {V : Nat → Int} (h : Rope D w r rows V) : 0 < r.n := by obtain ⟨N, ts, hp, hf⟩ := h; exact hf.pos
end
structure EB where
 F : Nat
 r : RC
 L : Nat
 mv : Nat
 me : Nat
 A : Option Addr
 c : Nat
def fC (b : EB) (n : Nat) : Array Value := #[.pointer (some ⟨b.r.R, 0, none⟩), .pointer (some ⟨b.L, 0, none⟩), .map (some b.mv), .map (some b.me), .slice b.A n b.c]
def EB.ix (b : EB) : List Nat := [b.F, b.r.R, b.r.g, b.mv, b.me]
structure EM (w : World) (b : EB) (rows : List (List Nat)) (V : Nat → Int) (vl : List (Int × Nat)) (el : List (Int × (Nat × Nat))) (sp : List Nat) (Fl : Nat → Prop) (vs : List Int) (es : List E) : Prop where
 hf : HB w b.F (fC b sp.length) TF
 rope : Rope (dS es) w b.r rows V
 gv : GM w eI eN W64 b.mv vl
 ge : GM w eI eA W64 b.me el
 so : OwnI w b.r.B TI b.A b.c (zs sp)
 lc : Rep w Fl b.L vs es
 d : b.ix.Nodup
 da : ∀ a, b.A = some a → a.block ∉ b.ix ∧ ∀ a', b.r.As = some a' → a'.block ≠ a.block
 ds : ∀ a, b.r.As = some a → a.block ∉ b.ix
 fl : ∀ k ∈ b.ix, ¬ Fl k
 fa : ∀ a, b.A = some a → ¬ Fl a.block
 fs : ∀ a, b.r.As = some a → ¬ Fl a.block
 rF : b.r.F = b.F
def Fe (b : EB) (Fl : Nat → Prop) (k : Nat) : Prop := k ∈ b.ix ∨ (∃ a, b.A = some a ∧ a.block = k) ∨ (∃ a, b.r.As = some a ∧ a.block = k) ∨ Fl k
def sv (F L : Nat) (Fl : Nat → Prop) (vs : List Int) (es : List E) : Sv (dS es) F where
 S := Fl
 Z := fun k => k = F ∨ Fl k
 P := fun w => ¬ Fl F ∧ (∃ cs t, HB w F cs t ∧ cs[1]? = some (.pointer (some ⟨L, 0, none⟩))) ∧ Rep w Fl L vs es
 sub := fun k h => .inr h
 lt := by
  rintro w ⟨h0, ⟨cs, t, h1, h2⟩, h3⟩ k (rfl | hk)
  ·exact h1.lt
  ·exact h3.lt k hk
 keep := by
  rintro w w' Q ⟨h0, ⟨cs, t, h1, h2⟩, h3⟩ k hQ
  exact ⟨h0, ⟨cs, t, h1.keeps k fun h => hQ _ h (.inl rfl), h2⟩, h3.other k fun k hk hf => hQ k hk (.inr hf)⟩
 dist := by
  rintro w u v ⟨h0, ⟨cs, t, h1, h2⟩, h3⟩ hu hv
  apply f_span_Forest_distance.ok
  unfold f_span_Forest_distance.wp
  refine hb_ldP (j := 1) h1 h2 ((Along_ok h3 hu hv).mono ?_)
  rintro _ w1 ⟨⟨mx, W, K, code, rfl, ha⟩, r1, u1⟩
  refine ⟨_, _, _, _, _, _, _, rfl, agg5 (mx := mx) (W := W) (K := K) fun w2 b e2 hb2 g2 => ?_⟩
  refine hb_ldC (j := 4) hb2 rfl (fl_int (ha.in53 h3.ve).1 ⟨_, rfl, ?_, ⟨h0, ⟨cs, t, (h1.keeps u1.kp h0).below g2, h2⟩, r1.below g2⟩, u1.kp.trans (.of_below g2)⟩)
  rw [h3.ve.along0 ha]
section
variable {w w' : World} {b : EB} {rows : List (List Nat)} {V : Nat → Int} {vl : List (Int × Nat)} {el : List (Int × (Nat × Nat))} {sp : List Nat} {Fl Fl' : Nat → Prop} {vs vs' : List Int} {es es' : List E}
theorem EM.dd (h : EM w b rows V vl el sp Fl vs es) : (b.F ≠ b.r.R ∧ b.F ≠ b.r.g ∧ b.F ≠ b.mv ∧ b.F ≠ b.me) ∧ (b.r.R ≠ b.r.g ∧ b.r.R ≠ b.mv ∧ b.r.R ≠ b.me) ∧ (b.r.g ≠ b.mv ∧ b.r.g ≠ b.me) ∧ b.mv ≠ b.me := by
 have := h.d
 simp only [EB.ix, List.nodup_cons, List.mem_cons, List.not_mem_nil, or_false, not_or, not_false_eq_true, List.nodup_nil, and_true] at this
 exact this
theorem nix {b : EB} {k : Nat} (h : k ∉ b.ix) : k ≠ b.F ∧ k ≠ b.r.R ∧ k ≠ b.r.g ∧ k ≠ b.mv ∧ k ≠ b.me := by
 simp only [EB.ix, List.mem_cons, List.not_mem_nil, or_false, not_or] at h
 exact h
theorem inF (b : EB) : b.F ∈ b.ix := by simp [EB.ix]
theorem inR (b : EB) : b.r.R ∈ b.ix := by simp [EB.ix]
theorem inG (b : EB) : b.r.g ∈ b.ix := by simp [EB.ix]
theorem inV (b : EB) : b.mv ∈ b.ix := by simp [EB.ix]
theorem inE (b : EB) : b.me ∈ b.ix := by simp [EB.ix]
theorem EM.P (h : EM w b rows V vl el sp Fl vs es) : (sv b.F b.L Fl vs es).P w := ⟨h.fl _ (inF b), ⟨_, _, h.hf, rfl⟩, h.lc⟩
theorem EM.ap (h : EM w b rows V vl el sp Fl vs es) : Ap (sv b.F b.L Fl vs es) b.r := by
 obtain ⟨⟨f1, f2, f3, f4⟩, _⟩ := h.dd
 refine ⟨h.rF, ?_, ?_, fun a ha => ?_⟩
 ·rintro (e | e); exact f1 e.symm; exact h.fl _ (inR b) e
 ·rintro (e | e); exact f2 e.symm; exact h.fl _ (inG b) e
 ·rintro (e | e); exact (nix (h.ds a ha)).1 e; exact h.fs a ha e
theorem EM.lt (h : EM w b rows V vl el sp Fl vs es) : ∀ k, Fe b Fl k → k < w.heap.size := by
 rintro k (hk | ⟨a, ha, rfl⟩ | ⟨a, ha, rfl⟩ | hk)
 ·simp only [EB.ix, List.mem_cons, List.not_mem_nil, or_false] at hk
  rcases hk with rfl | rfl | rfl | rfl | rfl
  ·exact h.hf.lt
  ·exact h.rope.lt.1
  ·exact h.rope.lt.2.1
  ·exact h.gv.lt
  ·exact h.ge.lt
 ·exact (h.so.block a ha).2
 ·exact (h.rope.sap a ha).2.1
 ·exact h.lc.lt k hk
theorem EM.other (h : EM w b rows V vl el sp Fl vs es) {Q : Nat → Prop} (k : Keeps Q w w') (hQ : ∀ k, Q k → ¬ Fe b Fl k) : EM w' b rows V vl el sp Fl vs es := by
 have n : ∀ k, k ∈ b.ix → ¬ Q k := fun k hk hq => hQ k hq (.inl hk)
 exact ⟨h.hf.keeps k (n _ (inF b)), h.rope.keeps k (n _ (inR b)) (n _ (inG b)) (fun a ha hq => hQ _ hq (.inr (.inr (.inl ⟨a, ha, rfl⟩)))), h.gv.keeps k (n _ (inV b)), h.ge.keeps k (n _ (inE b)), h.so.keeps k (fun a ha hq => hQ _ hq (.inr (.inl ⟨a, ha, rfl⟩))), h.lc.other k fun k hk hf => hQ k hk (.inr (.inr (.inr hf))), h.d, h.da, h.ds, h.fl, h.fa, h.fs, h.rF⟩
theorem EM.below (h : EM w b rows V vl el sp Fl vs es) (k : Below w.heap.size w w') : EM w' b rows V vl el sp Fl vs es := h.other (Q := fun _ => False) (.of_below k) fun _ h => h.elim
theorem Upd.below {F : Nat → Prop} {w w' : World} (h : Below w.heap.size w w') : Upd F w w' F := ⟨.of_below h, fun k hk => .inl hk⟩
theorem EM.ropeS (h : EM w b rows V vl el sp Fl vs es) {r' : RC} {rows' : List (List Nat)} {V' : Nat → Int} (hr : Rope (dS es) w' r' rows' V') (hP : (sv b.F b.L Fl vs es).P w') (m : Mv w b.r r') (k : Keeps (Sq (sv b.F b.L Fl vs es) b.r) w w') : EM w' { b with r := r' } rows' V' vl el sp Fl vs es ∧ Upd (Fe b Fl) w w' (Fe { b with r := r' } Fl) := by
 obtain ⟨⟨f1, f2, f3, f4⟩, ⟨r1, r2, r3⟩, ⟨g1, g2⟩, v1⟩ := h.dd
 have ns : ∀ {k}, k ≠ b.r.R → k ≠ b.r.g → ¬ Fl k → ¬ Sq (sv b.F b.L Fl vs es) b.r k := fun h1 h2 h3 hs => hs.elim (fun hs => hs.elim h1 h2) h3
 have lF := h.hf.lt; have lv := h.gv.lt; have le := h.ge.lt; have lR := h.rope.lt.1
 have lk' : Rep w' Fl b.L vs es := hP.2.2
 have ng : ∀ {k}, k < w.heap.size → k ≠ b.r.g → k ≠ r'.g := fun h1 h2 e => by rcases m.g with h3 | h3 <;> omega
 have nlg : ¬ Fl r'.g := fun hf => by
  rcases m.g with h3 | h3
  ·exact h.fl _ (inG b) (h3 ▸ hf)
  ·have := h.lc.lt _ hf; omega
 have ixe : ∀ {k}, k < w.heap.size → k ∉ b.ix → k ∉ ({ b with r := r' } : EB).ix := fun {k} hk hn => by
  obtain ⟨n1, n2, n3, n4, n5⟩ := nix hn
  have n3' := ng hk n3
  have n2' : k ≠ r'.R := by rw [m.R]; exact n2
  simp only [EB.ix, List.mem_cons, List.not_mem_nil, or_false, not_or]
  exact ⟨n1, n2', n3', n4, n5⟩
 refine ⟨⟨?_, hr, h.gv.keeps k (ns (by omega) (by omega) (h.fl _ (inV b))), h.ge.keeps k (ns (by omega) (by omega) (h.fl _ (inE b))), ?_, lk', ?_, ?_, ?_, ?_, h.fa, fun a ha => h.fs a (by rw [← m.As]; exact ha), ?_⟩, k.mono ?_, ?_⟩
 ·have := h.hf.keeps k (ns f1 f2 (h.fl _ (inF b)))
  have e : fC { b with r := r' } sp.length = fC b sp.length := by unfold fC; rw [show ({ b with r := r' } : EB).r.R = b.r.R from m.R]
  show HB w' b.F (fC { b with r := r' } sp.length) TF
  rw [e]; exact this
 ·show OwnI w' r'.B TI b.A b.c (zs sp)
  rw [m.B]
  exact h.so.keeps k fun a ha => ns (nix (h.da a ha).1).2.1 (nix (h.da a ha).1).2.2.1 (h.fa a ha)
 ·have g1' := ng lF f2; have g2' := ng lv (Ne.symm g1); have g3' := ng le (Ne.symm g2); have g5' := ng lR r1
  have eR : r'.R = b.r.R := m.R
  simp only [EB.ix, List.nodup_cons, List.mem_cons, List.not_mem_nil, or_false, not_or, not_false_eq_true, List.nodup_nil, and_true]
  rw [eR]
  exact ⟨⟨f1, g1', f3, f4⟩, ⟨g5', r2, r3⟩, ⟨Ne.symm g2', Ne.symm g3'⟩, v1⟩
 ·intro a ha
  refine ⟨ixe (h.so.block a ha).2 (h.da a ha).1, fun a' ha' => (h.da a ha).2 a' ?_⟩
  rw [← m.As]; exact ha'
 ·intro a ha
  have ha' : b.r.As = some a := by rw [← m.As]; exact ha
  exact ixe (h.rope.sap a ha').2.1 (h.ds a ha')
 ·intro k hk
  simp only [EB.ix, List.mem_cons, List.not_mem_nil, or_false] at hk
  rcases hk with rfl | hk | rfl | rfl | rfl
  ·exact h.fl _ (inF b)
  ·rw [hk, m.R]; exact h.fl _ (inR b)
  ·exact nlg
  ·exact h.fl _ (inV b)
  ·exact h.fl _ (inE b)
 ·show r'.F = b.F
  rw [m.F]; exact h.rF
 ·intro k hk hs
  rcases hs with (rfl | rfl) | hs
  ·exact .inl (inR b)
  ·exact .inl (inG b)
  ·exact .inr (.inr (.inr hs))
 ·rintro k (hk | hk | ⟨a, ha, hk⟩ | hk)
  ·simp only [EB.ix, List.mem_cons, List.not_mem_nil, or_false] at hk
   rcases hk with rfl | hk | hk | rfl | rfl
   ·exact .inl (.inl (inF b))
   ·have hk : k = b.r.R := hk.trans m.R
    exact .inl (.inl (by rw [hk]; exact inR b))
   ·rcases m.g with e | e
    ·have hk : k = b.r.g := hk.trans e
     exact .inl (.inl (by rw [hk]; exact inG b))
    ·exact .inr (by omega)
   ·exact .inl (.inl (inV b))
   ·exact .inl (.inl (inE b))
  ·exact .inl (.inr (.inl hk))
  ·exact .inl (.inr (.inr (.inl ⟨a, by rw [← m.As]; exact ha, hk⟩)))
  ·exact .inl (.inr (.inr (.inr hk)))
theorem EM.ropeT (h : EM w b rows V vl el sp Fl vs es) {rows' : List (List Nat)} {V' : Nat → Int} (hr : Rope (dS es) w' b.r rows' V') (hP : (sv b.F b.L Fl vs es).P w') (k : Keeps (Sq (sv b.F b.L Fl vs es) b.r) w w') : EM w' b rows' V' vl el sp Fl vs es ∧ Upd (Fe b Fl) w w' (Fe b Fl) := h.ropeS hr hP ⟨rfl, rfl, rfl, rfl, .inl rfl⟩ k
theorem EM.pathS (h : EM w b rows V vl el sp Fl vs es) (r : Rep w' Fl' b.L vs' es') (u : Upd Fl w w' Fl') (hd : ∀ l ∈ rows, ∀ x ∈ vxs V l, ∀ y ∈ vxs V l, dS es' x y = dS es x y) : EM w' b rows V vl el sp Fl' vs' es' ∧ Upd (Fe b Fl) w w' (Fe b Fl') := by
 have nf : ∀ {k}, k < w.heap.size → ¬ Fl k → ¬ Fl' k := fun {k} hk hn hf => by
  rcases u.fr k hf with h1 | h1
  ·exact hn h1
  ·omega
 have lt := h.lt
 refine ⟨⟨h.hf.keeps u.kp (h.fl _ (inF b)), (h.rope.keeps u.kp (h.fl _ (inR b)) (h.fl _ (inG b)) h.fs).dist hd, h.gv.keeps u.kp (h.fl _ (inV b)), h.ge.keeps u.kp (h.fl _ (inE b)), h.so.keeps u.kp h.fa, r, h.d, h.da, h.ds, fun k hk => nf (lt k (.inl hk)) (h.fl k hk), fun a ha => nf (h.so.block a ha).2 (h.fa a ha), fun a ha => nf (h.rope.sap a ha).2.1 (h.fs a ha), h.rF⟩, u.kp.mono fun k _ hk => .inr (.inr (.inr hk)), ?_⟩
 rintro k (hk | hk | hk | hk)
 ·exact .inl (.inl hk)
 ·exact .inl (.inr (.inl hk))
 ·exact .inl (.inr (.inr (.inl hk)))
 ·exact (u.fr k hk).imp (fun h => .inr (.inr (.inr h))) id
theorem EM.one (h : EM w b rows V vl el sp Fl vs es) {x : Nat} (k : Keeps (fun k => k = x) w w') (hx : x ∈ b.ix) : Upd (Fe b Fl) w w' (Fe b Fl) ∧ (b.F ≠ x → HB w' b.F (fC b sp.length) TF) ∧ (b.r.R ≠ x → b.r.g ≠ x → Rope (dS es) w' b.r rows V) ∧ (b.mv ≠ x → GM w' eI eN W64 b.mv vl) ∧ (b.me ≠ x → GM w' eI eA W64 b.me el) ∧ OwnI w' b.r.B TI b.A b.c (zs sp) ∧ Rep w' Fl b.L vs es :=
 ⟨⟨k.mono fun i _ e => .inl (by rw [e]; exact hx), fun i hi => .inl hi⟩, fun n => h.hf.keeps k n, fun n1 n2 => h.rope.keeps k n1 n2 (fun a ha e => h.ds a ha (by rw [e]; exact hx)), fun n => h.gv.keeps k n, fun n => h.ge.keeps k n, h.so.keeps k (fun a ha e => (h.da a ha).1 (by rw [e]; exact hx)), h.lc.other k fun k hk hf => h.fl _ (hk ▸ hx) hf⟩
theorem EM.mapV (h : EM w b rows V vl el sp Fl vs es) {vl' : List (Int × Nat)} (g : GM w' eI eN W64 b.mv vl') (k : Keeps (fun k => k = b.mv) w w') : EM w' b rows V vl' el sp Fl vs es ∧ Upd (Fe b Fl) w w' (Fe b Fl) := by
 obtain ⟨⟨f1, f2, f3, f4⟩, ⟨r1, r2, r3⟩, ⟨g1, g2⟩, v1⟩ := h.dd
 obtain ⟨u, a1, a2, a3, a4, a6, a7⟩ := h.one k (inV b)
 exact ⟨⟨a1 f3, a2 r2 g1, g, a4 (Ne.symm v1), a6, a7, h.d, h.da, h.ds, h.fl, h.fa, h.fs, h.rF⟩, u⟩
theorem EM.mapE (h : EM w b rows V vl el sp Fl vs es) {el' : List (Int × (Nat × Nat))} (g : GM w' eI eA W64 b.me el') (k : Keeps (fun k => k = b.me) w w') : EM w' b rows V vl el' sp Fl vs es ∧ Upd (Fe b Fl) w w' (Fe b Fl) := by
 obtain ⟨⟨f1, f2, f3, f4⟩, ⟨r1, r2, r3⟩, ⟨g1, g2⟩, v1⟩ := h.dd
 obtain ⟨u, a1, a2, a3, a4, a6, a7⟩ := h.one k (inE b)
 exact ⟨⟨a1 f4, a2 r3 g2, a3 v1, g, a6, a7, h.d, h.da, h.ds, h.fl, h.fa, h.fs, h.rF⟩, u⟩
theorem rows_in (h : EM w b rows V vl el sp Fl vs es) {l : List Nat} {R : List (List Nat)} (p : rows.Perm (l :: R)) {x : Nat} (hx : x ∈ l) : 0 < x ∧ x < b.r.n ∧ rowOf rows x = l ∧ Bd b.r.n (x : Int) = false := by
 have hl : l ∈ rows := p.mem_iff.2 (by simp)
 have h1 := (h.rope.rok.mem x).1 ⟨l, hl, hx⟩
 exact ⟨h1.1, h1.2, h.rope.rok.rowOf_eq hl hx, by simp [Bd]; omega⟩
theorem nodup_in (h : EM w b rows V vl el sp Fl vs es) {l : List Nat} {R : List (List Nat)} (p : rows.Perm (l :: R)) : l.Nodup := h.rope.rok.nd l (p.mem_iff.2 (by simp))
theorem vxs_mono {V : Nat → Int} {l m : List Nat} (h : ∀ i ∈ l, i ∈ m) : ∀ x ∈ vxs V l, x ∈ vxs V m := fun x hx => by
 rw [vxs_mem] at hx ⊢
 obtain ⟨h1, i, hi, e⟩ := hx
 exact ⟨h1, i, h i hi, e⟩
theorem join_st (h : EM w b rows V vl el sp Fl vs es) {l m : List Nat} {R : List (List Nat)} (p : rows.Perm (l :: m :: R)) {x y : Nat} (hx : x ∈ l) (hy : y ∈ m) (h4 : M4 (dS es) (vxs V (l ++ m))) {Q : World → Prop}
  (hQ : ∀ w' rows', EM w' b rows' V vl el sp Fl vs es → rows'.Perm ((l ++ m) :: R) → Upd (Fe b Fl) w w' (Fe b Fl) → Q w') :
  Calls Try.prog 36 #[.pointer (some ⟨b.r.R, 0, none⟩), .int .i64 (x : Int), .int .i64 (y : Int)] w fun e w' => ∃ c : Int, e = .returned (.int .i64 c) ∧ Q w' := by
 have p' : rows.Perm (m :: l :: R) := p.trans (.swap _ _ _)
 obtain ⟨x0, xn, rx, bx⟩ := rows_in h p hx
 obtain ⟨y0, yn, ry, by_⟩ := rows_in h p' hy
 have dj := (h.rope.rok.perm p).dj
 rw [List.pairwise_cons] at dj
 have hne : rowOf rows x ≠ rowOf rows y := by
  rw [rx, ry]; intro e
  exact dj.1 m (by simp) x hx (e ▸ hx)
 refine (Join_ok h.ap h.P h.rope (x : Int) (y : Int) (by rw [Int.toNat_natCast, Int.toNat_natCast, rx, ry]; exact h4)).mono ?_
 rintro e w1 ⟨rfl, hr1, p1, k1⟩
 obtain ⟨h1, u1⟩ := h.ropeT hr1 p1 k1
 have ej : joinS b.r.n rows (x : Int) (y : Int) = joinR rows x y := by
  unfold joinS
  rw [bx, by_]
  simp only [Bool.or_self, Bool.false_eq_true, if_false, Int.toNat_natCast]
  rw [if_neg hne]
 rw [ej] at h1
 exact ⟨_, rfl, hQ w1 _ h1 (join_perm h.rope.rok p hx hy) u1⟩
theorem cut_st (h : EM w b rows V vl el sp Fl vs es) {l : List Nat} {R : List (List Nat)} (p : rows.Perm (l :: R)) {x : Nat} (hx : x ∈ l) {Q : World → Prop}
  (hQ : ∀ w' rows', EM w' b rows' V vl el sp Fl vs es → rows'.Perm (pieces x l ++ R) → Upd (Fe b Fl) w w' (Fe b Fl) → Q w') :
  Calls Try.prog 38 #[.pointer (some ⟨b.r.R, 0, none⟩), .int .i64 (x : Int)] w fun e w' => ∃ c : Int, e = .returned (.int .i64 c) ∧ Q w' := by
 obtain ⟨x0, xn, rx, bx⟩ := rows_in h p hx
 refine (CutT_ok h.ap h.P h.rope (x : Int)).mono ?_
 rintro e w1 ⟨rfl, hr1, p1, k1⟩
 obtain ⟨h1, u1⟩ := h.ropeT hr1 p1 k1
 have ec : cutS b.r.n rows (x : Int) = cutR rows x := by unfold cutS; rw [bx]; simp
 rw [ec] at h1
 exact ⟨_, rfl, hQ w1 _ h1 (cut_perm h.rope.rok p hx) u1⟩
theorem turn_ok (h : EM w b rows V vl el sp Fl vs es) {l : List Nat} {R : List (List Nat)} (p : rows.Perm (l :: R)) {x : Nat} (hx : x ∈ l) :
  Calls Try.prog 35 #[.pointer (some ⟨b.F, 0, none⟩), .int .i64 (x : Int)] w fun e w' => e = .returned (.tuple #[]) ∧ ∃ P rows', EM w' b rows' V vl el sp Fl vs es ∧ Rot l (x :: P) ∧ rows'.Perm ((x :: P) :: R) ∧ Upd (Fe b Fl) w w' (Fe b Fl) := by
 apply f_span_Forest_turn.ok
 unfold f_span_Forest_turn.wp
 obtain ⟨x0, xn, rx, bx⟩ := rows_in h p hx
 have hpos : 0 < l.length := List.length_pos_of_mem hx
 have a0 : atE b.r.n rows (x : Int) 0 = ((l.getD 0 0 : Int), 0) := by
  unfold atE
  rw [bx]
  simp only [Bool.false_eq_true, if_false, Int.toNat_natCast, rx]
  rw [if_neg (by omega)]; rfl
 refine hb_ldP0 h.hf rfl ((At_ok h.rope (x : Int) 0).mono ?_)
 rintro e w1 ⟨rfl, b1⟩
 rw [a0]
 have h1 := h.below b1
 refine ⟨_, _, rfl, ?_⟩
 by_cases hz : l.getD 0 0 = x
 ·refine sel_f (by rw [hz]; simp) ⟨rfl, ?_⟩
  cases l with
  | nil => simp at hpos
  | cons y P =>
   have : y = x := hz
   subst this
   exact ⟨P, rows, h1, .refl _, p, .below b1⟩
 ·have m4 := h.rope.m4 l (p.mem_iff.2 (by simp))
  refine sel_t (by simp only [bne_iff_ne, ne_eq]; omega) (hb_ldP0 h1.hf rfl (cut_st h1 p hx fun w2 rows2 h2 p2 u2 => ?_))
  obtain ⟨P, e1, rt⟩ := split_at hx
  have i0 : l.idxOf x ≠ 0 := fun e => by
   rw [e, List.drop_zero] at e1
   rw [e1] at hz; exact hz rfl
  unfold pieces at p2
  rw [if_pos hx, if_neg i0, e1] at p2
  have hm0 : l.getD 0 0 ∈ l.take (l.idxOf x) := by
   cases l with
   | nil => simp at hpos
   | cons y l' =>
    obtain ⟨j, hj⟩ : ∃ j, (y :: l').idxOf x = j + 1 := ⟨(y :: l').idxOf x - 1, by omega⟩
    rw [hj, List.take_succ_cons]; simp
  have pc' : rows2.Perm ((x :: P) :: (l.take (l.idxOf x)) :: R) := p2.trans (.swap _ _ _)
  have hm4 : M4 (dS es) (vxs V ((x :: P) ++ l.take (l.idxOf x))) := m4.mono (vxs_mono fun i hi => by
   have := rt.mem.2 (show i ∈ x :: (P ++ l.take (l.idxOf x)) from hi)
   exact this)
  exact hb_ldP0 h2.hf rfl (join_st h2 pc' (by simp) hm0 hm4 fun w3 rows3 h3 p3 u3 => ⟨rfl, _, rows3, h3, rt, p3, ((Upd.below b1).trans u2).trans u3⟩)
structure MkS (w w' : World) (b b' : EB) (rows rows' : List (List Nat)) (V V' : Nat → Int) (vl : List (Int × Nat)) (el : List (Int × (Nat × Nat))) (sp sp' : List Nat) (Fl : Nat → Prop) (vs : List Int) (es : List E) (x : Nat) (v : Int) : Prop where
 em : EM w' b' rows' V' vl el sp' Fl vs es
 F : b'.F = b.F
 ms : b'.mv = b.mv ∧ b'.me = b.me ∧ b'.L = b.L
 upd : Upd (Fe b Fl) w w' (Fe b' Fl)
 V : V' = fun i => if i = x then v else V i
 it : (sp = sp' ++ [x] ∧ rows' = rows ∧ b'.r.n = b.r.n) ∨ (sp = [] ∧ sp' = [] ∧ x = b.r.n ∧ rows' = rows ++ [[x]] ∧ b'.r.n = b.r.n + 1)
theorem makeS_ok (h : EM w b rows V vl el sp Fl vs es) (hn : b.r.n ≤ 65536) (hsp : ∀ x ∈ sp, [x] ∈ rows) {v : Int} (hv : W64 v) (hz : v ≠ 0 → dS es v v = 0) :
  Calls Try.prog 34 #[.pointer (some ⟨b.F, 0, none⟩), .agg (rcC b.F (oneR v))] w fun e w' => ∃ b' rows' V' sp' x, e = .returned (.int .i64 ((x : Nat) : Int)) ∧ MkS w w' b b' rows rows' V V' vl el sp sp' Fl vs es x v := by
 apply f_span_Forest_make.ok
 unfold f_span_Forest_make.wp
 refine al_new fun w1 b1 e1 s1 hb1 g1 => ?_
 have hb1 : HB w1 b1 (rcC b.F (oneR v)) 60 := hb1
 have h1 := h.below g1
 have nF : ∀ {k}, Fe b Fl k → k ≠ b1 := fun hk => by have := h.lt _ hk; omega
 refine hb_ldS (j := 4) h1.hf rfl ?_
 rcases List.eq_nil_or_concat sp with rfl | ⟨sp0, i, rfl⟩
 ·refine sel_f (by simp) (drW_intro ?_)
  have h2 := h1.below (Below.refl _ _).drew
  have hb2 : HB w1.drew b1 (rcC b.F (oneR v)) 60 := hb1
  have hmk := Make_ok h2.rope hv hz
  rw [h2.rF] at hmk
  refine hb_ldP0 h2.hf rfl (getR4 hb2 (hmk.mono ?_))
  rintro e w4 ⟨r', rfl, hr4, n4, m4, k4⟩
  obtain ⟨h4, u4⟩ := h2.ropeS hr4 ((sv b.F b.L Fl vs es).st h2.ap h2.P k4) m4 (k4.mono fun k _ h => .inl h)
  simp only [makeE, makeS, makeV, makeN, if_pos hn] at h4 n4 ⊢
  exact ⟨_, _, rfl, { b with r := r' }, _, _, [], b.r.n, rfl, h4, rfl, ⟨rfl, rfl, rfl⟩, ((Upd.below g1).trans (Upd.below (Below.refl _ _).drew)).trans u4, rfl, .inr ⟨rfl, rfl, rfl, rfl, n4⟩⟩
 ·have e0 : sp0.concat i = sp0 ++ [i] := List.concat_eq_append
  rw [e0] at h h1 hsp ⊢
  have hlen : (sp0 ++ [i]).length = sp0.length + 1 := by simp
  rw [hlen]
  have hsl : sp0.length + 1 ≤ 9223372036854775807 := by
   have h1 := h.so.le
   rw [zs_len, hlen] at h1
   rcases h.so.2 with ⟨hv, _⟩ | ⟨g, cap, cur, hv, _, _, _, hm, _⟩
   ·injection hv with _ _ h3; omega
   ·injection hv with _ _ h3
    unfold maxLen at hm; omega
  have hw : IntKind.i64.wrap (((sp0.length + 1 : Nat) : Int) - 1) = (sp0.length : Int) := by rw [w64_in (by omega)]; omega
  rw [hw]
  have c4 : (fC b (sp0 ++ [i]).length)[4]? = some (.slice b.A (sp0.length + 1) b.c) := by unfold fC; rw [hlen]; rfl
  obtain ⟨a, ha, hc⟩ := h1.so.reads sp0.length (by rw [zs_len, hlen]; omega)
  have hget : (zs (sp0 ++ [i]))[sp0.length]'(by rw [zs_len, hlen]; omega) = (i : Int) := by simp [zs]
  rw [hget] at hc
  refine sel_t (by simp) (hb_ldS (j := 4) h1.hf c4 (optB_some ha (req_intro (by simp; omega) (ldI_intro (by rw [Int.toNat_natCast, Nat.mul_one]; exact hc) ?_))))
  have hcap : sp0.length + 1 ≤ b.c := by have := h1.so.le; rw [zs_len, hlen] at this; exact this
  refine hb_ldS (j := 4) h1.hf c4 (req_intro (by simp; omega) ?_)
  rw [slA0, Nat.sub_zero, Nat.sub_zero, Int.toNat_natCast]
  refine hb_st h1.hf (j := 4) (by simp [fC]) fun w4 hf4 k4 => ?_
  have hf4 : HB w4 b.F (fC b sp0.length) TF := hf4
  obtain ⟨⟨f1, f2, f3, f4⟩, _⟩ := h1.dd
  obtain ⟨u4, _, a2, a3, a4, a6, a7⟩ := h1.one k4 (inF b)
  have h4 : EM w4 b rows V vl el sp0 Fl vs es := ⟨hf4, a2 (Ne.symm f1) (Ne.symm f2), a3 (Ne.symm f3), a4 (Ne.symm f4), OwnI.pop (x := (i : Int)) (by rw [zs_app] at a6; exact a6), a7, h.d, h.da, h.ds, h.fl, h.fa, h.fs, h.rF⟩
  have h5 := h4.below (Below.refl _ _).drew
  have nF1 := nF (k := b.F) (.inl (inF b))
  have hb4' : HB w4 b1 (rcC b.F (oneR v)) 60 := hb1.keeps k4 fun e => nF1 e.symm
  have hb4 : HB w4.drew b1 (rcC b.F (oneR v)) 60 := hb4'
  have hst := Set1_ok h5.ap h5.P h5.rope (hsp i (by simp)) hv hz
  rw [h5.rF] at hst
  refine drW_intro (hb_ldP0 h5.hf rfl (getR4 hb4 (hst.mono ?_)))
  rintro e w6 ⟨rfl, hr6, p6, k6⟩
  obtain ⟨h6, u6⟩ := h5.ropeT hr6 p6 k6
  exact ⟨_, rfl, b, _, _, sp0, i, rfl, h6, rfl, ⟨rfl, rfl, rfl⟩, (((Upd.below g1).trans u4).trans (Upd.below (Below.refl _ _).drew)).trans u6, rfl, .inl ⟨rfl, rfl, rfl⟩⟩
theorem EM.spareS (h : EM w b rows V vl el sp Fl vs es) {A' : Option Addr} {c' : Nat} {sp' : List Nat} {w1 : World} (o : OwnI w1 b.r.B TI A' c' (zs sp')) (k : Keeps (Ob b.A) w w1) (hA : ∀ a, A' = some a → b.A = some a ∨ w.heap.size ≤ a.block) {Q : World → Prop}
  (hQ : ∀ w', EM w' { b with A := A', c := c' } rows V vl el sp' Fl vs es → Upd (Fe b Fl) w w' (Fe { b with A := A', c := c' } Fl) → Q w') : stW w1 ((⟨b.F, 0, none⟩ : Addr).add 4) (.slice A' sp'.length c') Q := by
 have nA : ∀ {k}, k ∈ b.ix → ¬ Ob b.A k := fun hk ⟨a, ha, e⟩ => (h.da a ha).1 (by rw [e]; exact hk)
 have hf1 := h.hf.keeps k (nA (inF b))
 refine hb_st hf1 (j := 4) (by simp [fC]) fun w3 hf3 k3 => ?_
 obtain ⟨⟨f1, f2, f3, f4⟩, _⟩ := h.dd
 have kk : Keeps (fun k => Ob b.A k ∨ k = b.F) w w3 := (k.mono fun k _ h => .inl h).trans (k3.mono fun k _ h => .inr h)
 have nk : ∀ {k}, k ∈ b.ix → k ≠ b.F → ¬ (Ob b.A k ∨ k = b.F) := fun h1 h2 h3 => h3.elim (nA h1) h2
 have nA' : ∀ a, A' = some a → a.block ∉ b.ix ∧ (∀ a', b.r.As = some a' → a'.block ≠ a.block) ∧ ¬ Fl a.block := fun a ha => by
  rcases hA a ha with e | e
  ·exact ⟨(h.da a e).1, (h.da a e).2, h.fa a e⟩
  ·exact ⟨fun hm => by have := h.lt _ (.inl hm); omega, fun a' ha' e' => by have := (h.rope.sap a' ha').2.1; omega, fun hf => by have := h.lc.lt _ hf; omega⟩
 refine hQ w3 ⟨hf3, ?_, h.gv.keeps kk (nk (inV b) (Ne.symm f3)), h.ge.keeps kk (nk (inE b) (Ne.symm f4)), ?_, h.lc.other kk ?_, h.d, fun a ha => ⟨(nA' a ha).1, (nA' a ha).2.1⟩, h.ds, h.fl, fun a ha => (nA' a ha).2.2, h.fs, h.rF⟩ ⟨kk.mono fun k _ hk => ?_, ?_⟩
 ·exact h.rope.keeps kk (nk (inR b) (Ne.symm f1)) (nk (inG b) (Ne.symm f2)) fun a ha hh => by
   rcases hh with ⟨a', ha', e⟩ | e
   ·exact (h.da a' ha').2 a ha e.symm
   ·exact h.ds a ha (by rw [e]; exact inF b)
 ·exact o.keeps k3 fun a ha e => (nA' a ha).1 (by rw [e]; exact inF b)
 ·rintro k (⟨a, ha, e⟩ | e) hf
  ·exact h.fa a ha (e ▸ hf)
  ·exact h.fl _ (inF b) (e ▸ hf)
 ·rcases hk with hk | rfl
  ·exact .inr (.inl hk)
  ·exact .inl (inF b)
 ·rintro k (hk | ⟨a, ha, e⟩ | hk | hk)
  ·exact .inl (.inl hk)
  ·rcases hA a ha with e' | e'
   ·exact .inl (.inr (.inl ⟨a, e', e⟩))
   ·exact .inr (by omega)
  ·exact .inl (.inr (.inr (.inl hk)))
  ·exact .inl (.inr (.inr (.inr hk)))
end
end Go.Proofs.Ytklnlnjgaadjbaa.Rd
