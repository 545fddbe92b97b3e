/- The document's rope in memory: a row of rows and what the nodes bear; what is asked of it: Has, Row, Index, Sums, First. Conditions: none. -/
import Derived.Test.YtnfgibbkfkaonaaTrS
namespace Go.Dn
open Go.RowKit
set_option linter.unusedVariables false
/-- no block of this type is one of these -/
def Sf (S : Nat → Prop) (w : World) (e : TypeId) : Prop := ∀ k cs, w.heap[k]? = some (Obj.cells cs e) → ¬ S k
theorem OwnW.sf {S : Nat → Prop} {w w' : World} {B e : Nat} {A : Option Addr} {c : Nat} {l : List Value} (h : OwnW w B e A c l) (hk : Keeps S w w') (hs : Sf S w e) : OwnW w' B e A c l :=
  h.keeps hk fun a ha => by
    subst ha
    rcases h.2 with ⟨h1, _⟩ | ⟨g, cap, cur, hv, _, hh, _⟩
    · cases h1
    · injection hv with hv; injection hv with hv; subst hv; exact hs _ _ hh
theorem Sf.hb {w : World} {b : Nat} {cs : Array Value} {t e : TypeId} (h : HB w b cs t) (ht : t ≠ e) : Sf (fun k => k = b) w e := fun k cs' hk e' => by
  subst e'
  rw [show w.heap[k]? = _ from h] at hk; injection hk with hk; injection hk with _ hk; exact ht hk
theorem Sf.none (w : World) (e : TypeId) : Sf (fun _ => False) w e := fun _ _ _ => id
theorem OwnW.mono {w : World} {B B' e : Nat} {A : Option Addr} {c : Nat} {l : List Value} (h : OwnW w B e A c l) (hB : B' ≤ B) : OwnW w B' e A c l := by
  obtain ⟨hl, h⟩ := h
  refine ⟨hl, ?_⟩
  rcases h with h | ⟨g, cap, cur, hv, hg, r⟩
  · exact .inl h
  · exact .inr ⟨g, cap, cur, hv, Nat.le_trans hB hg, r⟩
theorem OwnW.le {w : World} {B e : Nat} {A : Option Addr} {c : Nat} {l : List Value} (h : OwnW w B e A c l) : l.length ≤ c := by
  obtain ⟨_, h⟩ := h
  rcases h with ⟨_, h⟩ | ⟨g, cap, cur, hv, hg, hh, hn, _⟩
  · omega
  · injection hv with _ _ hv; omega
end Go.Dn
namespace Go.Proofs.Ytnfgibbkfkaonaa.Rd
open Go.Dn Go.RowKit
set_option linter.unusedVariables false
set_option maxRecDepth 100000

theorem Rope.sf {w : World} {r : RC} {rows : List (List Nat)} {V : Nat → Int × Int} (h : Rope w r rows V) {e : TypeId} (h1 : e ≠ 64) (h2 : e ≠ 76) : Sf (Sr r) w e := by
  obtain ⟨N, ts, hp, hf⟩ := h
  intro k cs hk
  rintro (rfl | rfl)
  · rw [hp.obj] at hk; injection hk with hk; injection hk with _ hk; exact h1 hk.symm
  · rcases hp.own.2 with ⟨h1', _⟩ | ⟨g, cap, cur, hv, _, hh, _⟩
    · cases h1'
    · injection hv with hv; injection hv with hv; injection hv with hv
      rw [hv, hh] at hk; injection hk with hk; injection hk with _ hk; exact h2 hk.symm
/-- what the nodes 1 .. bear, in the document's order -/
def nL (n : Nat) (V : Nat → Int × Int) : List Value := (List.range (n - 1)).map fun i => .int .i64 (V (i + 1)).1
def mL (n : Nat) (V : Nat → Int × Int) : List Value := (List.range (n - 1)).map fun i => .int .i64 (V (i + 1)).2
def RowsV (w : World) (vs : List Value) (rows : List (List Nat)) : Prop := vs.length = rows.length ∧ ∀ i (h : i < rows.length), ∃ A c, vs[i]? = some (.slice A rows[i].length c) ∧ LI w A c (zs rows[i])
/-- the document's rope: three rows -/
structure Doc where
  A0 : Option Addr
  c0 : Nat
  A1 : Option Addr
  c1 : Nat
  A2 : Option Addr
  c2 : Nat
structure RefAt (w : World) (d : Doc) (m : MS) : Prop where
  rows : ∃ vs, OwnW w 0 22 d.A0 d.c0 vs ∧ RowsV w vs m.rows
  n : OwnW w 0 2 d.A1 d.c1 (nL m.n m.V)
  m : OwnW w 0 3 d.A2 d.c2 (mL m.n m.V)
def Doc.cs (d : Doc) (m : MS) : Array Value := #[.slice d.A0 m.rows.length d.c0, .slice d.A1 (m.n - 1) d.c1, .slice d.A2 (m.n - 1) d.c2]
theorem RefAt.keeps {S : Nat → Prop} {w w' : World} {d : Doc} {m : MS} (h : RefAt w d m) (k : Keeps S w w') (s1 : Sf S w 22) (s2 : Sf S w 2) (s3 : Sf S w 3) : RefAt w' d m := by
  obtain ⟨⟨vs, h1, h2, h3⟩, h4, h5⟩ := h
  refine ⟨⟨vs, h1.sf k s1, h2, fun i hi => ?_⟩, h4.sf k s2, h5.sf k s3⟩
  obtain ⟨A, c, e, hl⟩ := h3 i hi
  refine ⟨A, c, e, ?_⟩
  have : OwnW w 0 3 A c ((zs m.rows[i]).map (.int .i64)) := by
    unfold OwnW; rw [List.length_map]; exact hl
  have := this.sf k s3
  unfold OwnW at this; rw [List.length_map] at this; exact this
theorem RefAt.below {w w' : World} {d : Doc} {m : MS} (h : RefAt w d m) (hb : Below w.heap.size w w') : RefAt w' d m := h.keeps (S := fun _ => False) (.of_below hb) (Sf.none _ _) (Sf.none _ _) (Sf.none _ _)
theorem RefAt.rope {w w' w0 : World} {r : RC} {m' : MS} {d : Doc} {m : MS} (h : RefAt w d m) (hL : LS w0 w r m') (k : Keeps (Sr r) w w') : RefAt w' d m := h.keeps k (hL.rope.sf (by decide) (by decide)) (hL.rope.sf (by decide) (by decide)) (hL.rope.sf (by decide) (by decide))
theorem RefAt.st {w w' : World} {d : Doc} {m : MS} {b : Nat} {cs : Array Value} {t : TypeId} (h : RefAt w d m) (k : Keeps (fun k => k = b) w w') (hb : HB w b cs t) (h1 : t ≠ 22) (h2 : t ≠ 2) (h3 : t ≠ 3) : RefAt w' d m := h.keeps k (Sf.hb hb h1) (Sf.hb hb h2) (Sf.hb hb h3)
theorem RefAt.len {w : World} {d : Doc} {m : MS} (h : RefAt w d m) : (nL m.n m.V).length = m.n - 1 ∧ (mL m.n m.V).length = m.n - 1 := by simp [nL, mL]
theorem RefAt.row {w : World} {d : Doc} {m : MS} (h : RefAt w d m) {i : Nat} (hi : i < m.rows.length) : ∃ a A c, d.A0 = some a ∧ w.cell? (a.add i) = some (.slice A m.rows[i].length c) ∧ LI w A c (zs m.rows[i]) := by
  obtain ⟨⟨vs, h1, h2, h3⟩, h4, h5⟩ := h
  obtain ⟨A, c, e, hl⟩ := h3 i hi
  obtain ⟨a, ha, hc⟩ := h1.cellAt (show i < vs.length by omega)
  rw [List.getElem?_eq_getElem (by omega)] at e
  injection e with e
  exact ⟨a, A, c, ha, by rw [hc, e], hl⟩
theorem RefAt.nAt {w : World} {d : Doc} {m : MS} (h : RefAt w d m) {i : Nat} (hi : 0 < i ∧ i < m.n) : ∃ a, d.A1 = some a ∧ w.cell? (a.add (i - 1)) = some (.int .i64 (m.V i).1) := by
  obtain ⟨a, ha, hc⟩ := h.n.cellAt (show i - 1 < _ by rw [h.len.1]; omega)
  refine ⟨a, ha, ?_⟩
  rw [hc]; simp only [nL, List.getElem_map, List.getElem_range]
  rw [show i - 1 + 1 = i by omega]
theorem RefAt.mAt {w : World} {d : Doc} {m : MS} (h : RefAt w d m) {i : Nat} (hi : 0 < i ∧ i < m.n) : ∃ a, d.A2 = some a ∧ w.cell? (a.add (i - 1)) = some (.int .i64 (m.V i).2) := by
  obtain ⟨a, ha, hc⟩ := h.m.cellAt (show i - 1 < _ by rw [h.len.2]; omega)
  refine ⟨a, ha, ?_⟩
  rw [hc]; simp only [mL, List.getElem_map, List.getElem_range]
  rw [show i - 1 + 1 = i by omega]
theorem rows_lt {n : Nat} {rows : List (List Nat)} (h : RowsOk n rows) (hn : 0 < n) : rows.length < n := by
  have h1 := rows_len h hn
  have h2 : ∀ {L : List (List Nat)}, (∀ l ∈ L, l ≠ []) → L.length ≤ (L.map List.length).sum := by
    intro L
    induction L with
    | nil => simp
    | cons l L ih =>
      intro hh
      have := ih fun m hm => hh m (List.mem_cons_of_mem _ hm)
      have := List.length_pos_iff.2 (hh l (List.mem_cons_self ..))
      simp only [List.length_cons, List.map_cons, List.sum_cons]; omega
  have := h2 h.ne
  omega

/-! ### Has, Row, Index -/
theorem Has_l0 {w : World} {A : Option Addr} {l : List Nat} {c : Nat} (hl : RI w A (zs l)) (x : Int) (hlen : l.length ≤ 65537) {K0 : World → Prop} {Kr : Bool → World → Prop} : ∀ (d i : Nat), l.length - i = d → i ≤ l.length →
    (x ∈ zs (l.drop i) → Kr true w) → (x ∉ zs (l.drop i) → K0 w) → f_ref01_Has.l0 (d + 1) A l.length c x (i : Int) w K0 Kr := by
  intro d
  induction d with
  | zero =>
    intro i h1 h2 k1 k2
    have : i = l.length := by omega
    subst this
    unfold f_ref01_Has.l0
    exact sel_f (by simp) (k2 (by simp [zs]))
  | succ d ih =>
    intro i h1 h2 k1 k2
    have hi : i < l.length := by omega
    obtain ⟨a, rfl, hc⟩ := hl i (by rw [zs_len]; exact hi)
    have hz : (zs l)[i]'(by rw [zs_len]; exact hi) = (l[i] : Int) := by simp [zs]
    rw [hz] at hc
    have e : zs (l.drop i) = (l[i] : Int) :: zs (l.drop (i + 1)) := by rw [List.drop_eq_getElem_cons hi]; rfl
    rw [e] at k1 k2
    unfold f_ref01_Has.l0
    refine sel_t (by simp; omega) (optB_some rfl (req_intro (by simp; omega) (ldI_intro (by rw [Int.toNat_natCast, Nat.mul_one]; exact hc) ?_)))
    by_cases hx : (l[i] : Int) = x
    · exact sel_t (by simp [hx]) (k1 (by simp [hx]))
    · refine sel_f (by simp [hx]) ?_
      rw [w64_in (by omega), show (i : Int) + 1 = ((i + 1 : Nat) : Int) by omega]
      exact ih (i + 1) (by omega) (by omega) (fun h => k1 (List.mem_cons_of_mem _ h)) (fun h => k2 (by simp only [List.mem_cons, not_or]; exact ⟨fun e => hx e.symm, h⟩))
theorem Has_ok {w : World} {A : Option Addr} {l : List Nat} {n c : Nat} (hl : RI w A (zs l)) (hn : n = l.length) (x : Int) (hlen : l.length ≤ 65537) :
    Calls Try.prog 43 #[.slice A n c, .int .i64 x] w fun e w' => e = .returned (.bool (decide (x ∈ zs l))) ∧ w' = w := by
  subst hn
  apply f_ref01_Has.ok
  unfold f_ref01_Has.wp
  refine ⟨_, Has_l0 hl x hlen l.length 0 rfl (by omega) (fun h _ => ?_) (fun h _ => ?_)⟩
  · rw [List.drop_zero] at h; exact ⟨by simp [h], rfl⟩
  · rw [List.drop_zero] at h; exact ⟨by simp [h], rfl⟩
theorem mem_zs {x : Nat} {l : List Nat} : (x : Int) ∈ zs l ↔ x ∈ l := by
  simp only [zs, List.mem_map]
  constructor
  · rintro ⟨a, h, e⟩; have : a = x := by omega
    subst this; exact h
  · intro h; exact ⟨x, h, rfl⟩
theorem Row_l0 {w0 w : World} {d : Doc} {m : MS} {b : Nat} {x : Nat} (h : RefAt w d m) (hb : HB w b (d.cs m) 34) (rok : RowsOk m.n m.rows) (hn : m.n ≤ 65537) (hpos : 0 < m.n) (hx : 0 < x ∧ x < m.n) {K0 : World → Prop} {Kr : Int → World → Prop}
    (hK : ∀ (ix : Nat) (hi : ix < m.rows.length), m.rows[ix] = rowOf m.rows x → Kr (ix : Int) w) : ∀ (t i : Nat), m.rows.length - i = t → i ≤ m.rows.length → (∀ j (hj : j < m.rows.length), j < i → x ∉ m.rows[j]) → f_ref15_Row.l0 (t + 1) (x : Int) (⟨b, 0, none⟩ : Addr) (i : Int) w K0 Kr := by
  have hrl := rows_lt rok hpos
  intro t
  induction t with
  | zero =>
    intro i h1 h2 hno
    exfalso
    obtain ⟨m1, m2⟩ := rok.rowOf_mem hx
    obtain ⟨j, hj, e⟩ := List.getElem_of_mem m1
    exact hno j hj (by omega) (e ▸ m2)
  | succ t ih =>
    intro i h1 h2 hno
    have hi : i < m.rows.length := by omega
    obtain ⟨a, A, c, ha, hc, hl⟩ := h.row hi
    have hlen : m.rows[i].length ≤ 65537 := by
      have := nodup_le m.n m.rows[i] (rok.nd _ (List.getElem_mem _)) fun j hj => ((rok.mem j).1 ⟨_, List.getElem_mem _, hj⟩).2
      omega
    unfold f_ref15_Row.l0
    refine hb_ldS0 hb rfl (sel_t (by simp; omega) (hb_ldS0 hb rfl (optB_some ha (req_intro (by simp; omega) (ldS_intro (by rw [Int.toNat_natCast, Nat.mul_one]; exact hc) ((Has_ok hl.reads rfl _ hlen).mono ?_))))))
    rintro e w1 ⟨rfl, rfl⟩
    refine ⟨_, rfl, ?_⟩
    by_cases hm : x ∈ m.rows[i]
    · exact sel_t (by simpa [mem_zs] using hm) (hK i hi (rok.rowOf_eq (List.getElem_mem _) hm).symm)
    · refine sel_f (by simpa [mem_zs] using hm) ?_
      rw [w64_in (by omega), show (i : Int) + 1 = ((i + 1 : Nat) : Int) by omega]
      refine ih (i + 1) (by omega) (by omega) fun j hj hji => ?_
      by_cases e : j = i
      · subst e; exact hm
      · exact hno j hj (by omega)
def docV (d : Doc) (m : MS) : Value := .agg (d.cs m)
theorem Row_ok {w : World} {d : Doc} {m : MS} {x : Nat} (h : RefAt w d m) (rok : RowsOk m.n m.rows) (hn : m.n ≤ 65537) (hpos : 0 < m.n) (hx : 0 < x ∧ x < m.n) :
    Calls Try.prog 30 #[docV d m, .int .i64 (x : Int)] w fun e w' => ∃ ix : Nat, e = .returned (.int .i64 (ix : Int)) ∧ (∃ hi : ix < m.rows.length, m.rows[ix] = rowOf m.rows x) ∧ Below w.heap.size w w' := by
  apply f_ref15_Row.ok
  unfold f_ref15_Row.wp
  refine al_new fun w1 b e z hb q => ?_
  exact ⟨_, Row_l0 (w0 := w) (h.below q) hb rok hn hpos hx (fun ix hi e _ => ⟨ix, rfl, ⟨hi, e⟩, q⟩) m.rows.length 0 rfl (by omega) (fun j hj h => by omega)⟩
theorem row_ix {n : Nat} {rows : List (List Nat)} (h : RowsOk n rows) {i j : Nat} (hi : i < rows.length) (hj : j < rows.length) : rows[i] = rows[j] ↔ i = j := by
  constructor
  · intro e
    have hp := List.pairwise_iff_getElem.1 h.dj
    have hne := h.ne _ (List.getElem_mem hi)
    obtain ⟨x, hx⟩ := List.exists_mem_of_ne_nil _ hne
    rcases Nat.lt_trichotomy i j with hlt | hlt | hlt
    · exact absurd (e ▸ hx) (hp i j hi hj hlt x hx)
    · exact hlt
    · exact absurd hx (hp j i hj hi hlt x (e ▸ hx))
  · rintro rfl; rfl
theorem Index_l0 {w : World} {A : Option Addr} {l : List Nat} {c : Nat} {x : Nat} (hl : RI w A (zs l)) (hx : x ∈ l) (hlen : l.length ≤ 65537) {K0 : World → Prop} {Kr : Int → World → Prop} (hK : Kr (l.idxOf x : Int) w) : ∀ (d i : Nat), l.length - i = d → i ≤ l.idxOf x →
    f_ref15_Index.l0 (d + 1) (x : Int) A l.length c (i : Int) w K0 Kr := by
  have hix := idx_lt hx
  intro d
  induction d with
  | zero => intro i h1 h2; omega
  | succ d ih =>
    intro i h1 h2
    have hi : i < l.length := by omega
    obtain ⟨a, rfl, hc⟩ := hl i (by rw [zs_len]; exact hi)
    have hz : (zs l)[i]'(by rw [zs_len]; exact hi) = (l[i] : Int) := by simp [zs]
    rw [hz] at hc
    unfold f_ref15_Index.l0
    refine sel_t (by simp; omega) (optB_some rfl (req_intro (by simp; omega) (ldI_intro (by rw [Int.toNat_natCast, Nat.mul_one]; exact hc) ?_)))
    by_cases e : l[i] = x
    · have : i = l.idxOf x := by
        rcases Nat.lt_or_ge i (l.idxOf x) with hlt | hge
        · have := List.not_of_lt_findIdx (p := fun y => y == x) (xs := l) hlt
          simp [e] at this
        · omega
      rw [← this] at hK
      exact sel_t (by simp [e]) hK
    · refine sel_f (by rw [nat_beq]; simpa using e) ?_
      rw [w64_in (by omega), show (i : Int) + 1 = ((i + 1 : Nat) : Int) by omega]
      refine ih (i + 1) (by omega) ?_
      rcases Nat.lt_or_ge i (l.idxOf x) with hlt | hge
      · exact hlt
      · have : i = l.idxOf x := by omega
        subst this
        exact absurd (List.getElem_idxOf hix) e
theorem RIndex_ok {w : World} {d : Doc} {m : MS} {x : Nat} (h : RefAt w d m) (rok : RowsOk m.n m.rows) (hn : m.n ≤ 65537) (hpos : 0 < m.n) (hx : 0 < x ∧ x < m.n) :
    Calls Try.prog 44 #[docV d m, .int .i64 (x : Int)] w fun e w' => e = .returned (.int .i64 ((rowOf m.rows x).idxOf x : Int)) ∧ Below w.heap.size w w' := by
  obtain ⟨len1, nd1, xm, rng⟩ := rok.rlen hx
  apply f_ref15_Index.ok
  unfold f_ref15_Index.wp
  refine al_new fun w1 b e z hb q => drW_intro ?_
  have bd : Below w1.heap.size w1 w1.drew := (Below.refl _ _).drew
  have h1 := (h.below q).below bd
  have hb1 := hb.below bd
  have q1 := q.trans (bd.mono q.size)
  have hbs : ∀ w', Below w1.drew.heap.size w1.drew w' → HB w' b (d.cs m) 34 := fun w' h => hb1.below h
  refine ⟨fun w' => Below w1.drew.heap.size w1.drew w', Below.refl _ _, _, _, _, fun w' h' => (hbs w' h').cell 0, _, _, _, fun w' h' => (hbs w' h').cell 0, _, _, _, fun w' h' => (hbs w' h').cell 1, _, _, _, fun w' h' => (hbs w' h').cell 2, ?_⟩
  refine (Row_ok h1 rok hn hpos hx).mono ?_
  rintro e w2 ⟨ix, rfl, ⟨hi, er⟩, q2⟩
  obtain ⟨a, A, c, ha, hc, hl⟩ := h1.row hi
  refine ⟨_, rfl, q2, optB_some ha (req_intro (by simp; omega) ⟨A, _, c, fun w' h' => by rw [Int.toNat_natCast, Nat.mul_one, h'.cell (World.block_lt_of_cell? _ _ hc)]; exact hc, ?_⟩)⟩
  have hl := hl.below q2
  rw [er] at hl ⊢
  exact ⟨_, Index_l0 hl.reads xm (by omega) (fun _ => ⟨rfl, q1.trans (q2.mono q1.size)⟩) (rowOf m.rows x).length 0 rfl (by omega)⟩

/-! ### Sums, First -/
theorem Sums2_l0 {w0 : World} {d : Doc} {m : MS} {A : Option Addr} {l : List Nat} {c b : Nat} (hlen : l.length ≤ 65537) (hn : m.n ≤ 65537) (rng : ∀ i ∈ l, 0 < i ∧ i < m.n) {K0 : Int → Int → World → Prop} (hK : ∀ w', Below w0.heap.size w0 w' → K0 (sm m.V l).1 (sm m.V l).2 w') :
    ∀ (t i : Nat) (w : World), l.length - i = t → i ≤ l.length → RI w A (zs l) → RefAt w d m → HB w b (d.cs m) 34 → Below w0.heap.size w0 w → f_ref15_Sums.l0 (t + 1) A l.length c (⟨b, 0, none⟩ : Addr) (sm m.V (l.take i)).1 (sm m.V (l.take i)).2 (i : Int) w K0 := by
  intro t
  induction t with
  | zero =>
    intro i w h1 h2 hl hd hb hw
    have : i = l.length := by omega
    subst this
    unfold f_ref15_Sums.l0
    rw [List.take_length]
    exact sel_f (by simp) (hK w hw)
  | succ t ih =>
    intro i w h1 h2 hl hd hb hw
    have hi : i < l.length := by omega
    have hr := rng l[i] (List.getElem_mem _)
    have bd : Below w.heap.size w w.drew := (Below.refl _ _).drew
    have bd2 : Below w.drew.heap.size w.drew w.drew.drew := (Below.refl _ _).drew
    have hl1 := hl.below bd (Nat.le_refl _); have hd1 := hd.below bd; have hb1 := hb.below bd
    have hl2 := hl1.below bd2 (Nat.le_refl _); have hd2 := hd1.below bd2; have hb2 := hb1.below bd2
    have hz : (zs l)[i]'(by rw [zs_len]; exact hi) = (l[i] : Int) := by simp [zs]
    obtain ⟨a1, ha1, hc1⟩ := hl1 i (by rw [zs_len]; exact hi)
    obtain ⟨a2, ha2, hc2⟩ := hl2 i (by rw [zs_len]; exact hi)
    rw [hz] at hc1 hc2
    obtain ⟨p1, hp1, hn1⟩ := hd1.nAt hr
    obtain ⟨p2, hp2, hm2⟩ := hd2.mAt hr
    have ew : IntKind.i64.wrap ((l[i] : Int) - 1) = ((l[i] - 1 : Nat) : Int) := by rw [w64_in (by omega)]; omega
    unfold f_ref15_Sums.l0
    refine sel_t (by simp; omega) (drW_intro (hb_ldS (j := 1) hb1 rfl (optB_some ha1 (req_intro (by simp; omega) (ldI_intro (by rw [Int.toNat_natCast, Nat.mul_one]; exact hc1) ?_)))))
    rw [ew]
    refine optB_some hp1 (req_intro (by simp; omega) (ldI_intro (by rw [Int.toNat_natCast, Nat.mul_one]; exact hn1) (drW_intro (hb_ldS (j := 2) hb2 rfl (optB_some ha2 (req_intro (by simp; omega) (ldI_intro (by rw [Int.toNat_natCast, Nat.mul_one]; exact hc2) ?_)))))))
    rw [ew]
    refine optB_some hp2 (req_intro (by simp; omega) (ldI_intro (by rw [Int.toNat_natCast, Nat.mul_one]; exact hm2) ?_))
    rw [w64_in (x := (i : Int) + 1) (by omega), show (i : Int) + 1 = ((i + 1 : Nat) : Int) by omega]
    have := ih (i + 1) w.drew.drew (by omega) (by omega) hl2 hd2 hb2 (hw.trans ((bd.trans (bd2.mono bd.size)).mono hw.size))
    rw [List.take_succ_eq_append_getElem hi, sm_snoc] at this
    exact this
theorem RSums_ok {w : World} {d : Doc} {m : MS} {A : Option Addr} {l : List Nat} {n c : Nat} (h : RefAt w d m) (hl : RI w A (zs l)) (e1 : n = l.length) (hlen : l.length ≤ 65537) (hn : m.n ≤ 65537) (rng : ∀ i ∈ l, 0 < i ∧ i < m.n) :
    Calls Try.prog 42 #[docV d m, .slice A n c] w fun e w' => e = .returned (.tuple #[.int .i64 (sm m.V l).1, .int .i64 (sm m.V l).2]) ∧ Below w.heap.size w w' := by
  subst e1
  apply f_ref15_Sums.ok
  unfold f_ref15_Sums.wp
  refine al_new fun w1 b e z hb q => ?_
  have := Sums2_l0 (w0 := w1) (d := d) (m := m) (A := A) (l := l) (c := c) (b := b) hlen hn rng (K0 := fun (x17 : Int) (x18 : Int) (w19 : World) => ∀ _ : Fr, (fun e w' => e = Ending.returned (.tuple #[.int .i64 (sm m.V l).1, .int .i64 (sm m.V l).2]) ∧ Below w.heap.size w w') (.returned (.tuple #[.int .i64 x17, .int .i64 x18])) w19) (fun w' hw _ => ⟨rfl, q.trans (hw.mono q.size)⟩) l.length 0 w1 rfl (by omega) (hl.below q (Nat.le_refl _)) (h.below q) hb (Below.refl _ _)
  rw [List.take_zero, sm_nil] at this
  exact ⟨_, this⟩
theorem First_l0 {w0 : World} {d : Doc} {m : MS} {A : Option Addr} {l : List Nat} {c b : Nat} (hlen : l.length ≤ 65537) (hn : m.n ≤ 65537) (rng : ∀ i ∈ l, 0 < i ∧ i < m.n) {K0 : World → Prop} {Kr : Int → World → Prop} (hK : ∀ w', Below w0.heap.size w0 w' → hasM m.V l = false → K0 w') (hKr : ∀ w', Below w0.heap.size w0 w' → Kr (firstM m.V l : Int) w') :
    ∀ (t i : Nat) (w : World), l.length - i = t → i ≤ l.length → hasM m.V (l.take i) = false → RI w A (zs l) → RefAt w d m → HB w b (d.cs m) 34 → Below w0.heap.size w0 w → f_ref15_First.l0 (t + 1) A l.length c (⟨b, 0, none⟩ : Addr) (i : Int) w K0 Kr := by
  intro t
  induction t with
  | zero =>
    intro i w h1 h2 hno hl hd hb hw
    have : i = l.length := by omega
    subst this
    unfold f_ref15_First.l0
    rw [List.take_length] at hno
    exact sel_f (by simp) (hK w hw hno)
  | succ t ih =>
    intro i w h1 h2 hno hl hd hb hw
    have hi : i < l.length := by omega
    have hr := rng l[i] (List.getElem_mem _)
    have bd : Below w.heap.size w w.drew := (Below.refl _ _).drew
    have hl1 := hl.below bd (Nat.le_refl _); have hd1 := hd.below bd; have hb1 := hb.below bd
    have hw1 := hw.trans (bd.mono hw.size)
    have hz : (zs l)[i]'(by rw [zs_len]; exact hi) = (l[i] : Int) := by simp [zs]
    obtain ⟨a1, ha1, hc1⟩ := hl1 i (by rw [zs_len]; exact hi)
    rw [hz] at hc1
    obtain ⟨p2, hp2, hm2⟩ := hd1.mAt hr
    have ew : IntKind.i64.wrap ((l[i] : Int) - 1) = ((l[i] - 1 : Nat) : Int) := by rw [w64_in (by omega)]; omega
    unfold f_ref15_First.l0
    refine sel_t (by simp; omega) (drW_intro (hb_ldS (j := 2) hb1 rfl (optB_some ha1 (req_intro (by simp; omega) (ldI_intro (by rw [Int.toNat_natCast, Nat.mul_one]; exact hc1) ?_)))))
    rw [ew]
    refine optB_some hp2 (req_intro (by simp; omega) (ldI_intro (by rw [Int.toNat_natCast, Nat.mul_one]; exact hm2) ?_))
    by_cases hv : (m.V l[i]).2 > 0
    · refine sel_t (by simpa using hv) (optB_some ha1 (req_intro (by simp; omega) (ldI_intro (by rw [Int.toNat_natCast, Nat.mul_one]; exact hc1) ?_)))
      have : firstM m.V l = l[i] := by
        have e := firstM_r (l.drop i) hno
        rw [List.take_append_drop] at e
        rw [e]
        unfold firstM
        rw [List.drop_eq_getElem_cons hi, List.find?_cons_of_pos (by simpa using hv)]; rfl
      rw [← this]; exact hKr _ hw1
    · refine sel_f (by simpa using hv) ?_
      rw [w64_in (x := (i : Int) + 1) (by omega), show (i : Int) + 1 = ((i + 1 : Nat) : Int) by omega]
      refine ih (i + 1) w.drew (by omega) (by omega) ?_ hl1 hd1 hb1 hw1
      rw [List.take_succ_eq_append_getElem hi, hasM_app, hno]; simpa [hasM] using hv
theorem RFirst_ok {w : World} {d : Doc} {m : MS} {A : Option Addr} {l : List Nat} {n c : Nat} (h : RefAt w d m) (hl : RI w A (zs l)) (e1 : n = l.length) (hlen : l.length ≤ 65537) (hn : m.n ≤ 65537) (rng : ∀ i ∈ l, 0 < i ∧ i < m.n) :
    Calls Try.prog 45 #[docV d m, .slice A n c] w fun e w' => e = .returned (.int .i64 (firstM m.V l : Int)) ∧ Below w.heap.size w w' := by
  subst e1
  apply f_ref15_First.ok
  unfold f_ref15_First.wp
  refine al_new fun w1 b e z hb q => ?_
  refine ⟨_, First_l0 (w0 := w1) hlen hn rng (fun w' hw hno _ => ⟨?_, q.trans (hw.mono q.size)⟩) (fun w' hw _ => ⟨rfl, q.trans (hw.mono q.size)⟩) l.length 0 w1 rfl (by omega) (by simp [hasM]) (hl.below q (Nat.le_refl _)) (h.below q) hb (Below.refl _ _)⟩
  have := firstM_r [] hno
  rw [List.append_nil] at this
  rw [this]; rfl
end Go.Proofs.Ytnfgibbkfkaonaa.Rd
