/- What the document makes of its rope: Make, Set. Conditions: none. -/
import Derived.Test.YtnfgibbkfkaonaaTrT
namespace Go.Dn
open Go.RowKit
set_option linter.unusedVariables false
theorem OwnW.ty {w : World} {B e : Nat} {A : Option Addr} {c : Nat} {l : List Value} (h : OwnW w B e A c l) : ∀ a, A = some a → ∃ cs, w.heap[a.block]? = some (Obj.cells cs e) := by
  intro a ha; subst ha
  rcases h.2 with ⟨h1, _⟩ | ⟨g, cap, cur, hv, _, hh, _⟩
  · cases h1
  · injection hv with hv; injection hv with hv; subst hv; exact ⟨cur, hh⟩
theorem Sf.own {w : World} {B e e' : Nat} {A : Option Addr} {n c c' : Nat} {l : List Value} (h : OwnW w B e A c l) (he : e ≠ e') : Sf (fun k => some k = (Value.slice A n c').ownBlock) w e' := by
  intro k cs hk hS
  cases A with
  | none => cases hS
  | some a =>
    injection hS with hS; subst hS
    obtain ⟨cs', hc⟩ := h.ty a rfl
    rw [hk] at hc; injection hc with hc; injection hc with _ hc; exact he hc.symm
theorem HB.sf {S : Nat → Prop} {w w' : World} {b : Nat} {cs : Array Value} {t : TypeId} (h : HB w b cs t) (k : Keeps S w w') (hs : Sf S w t) : HB w' b cs t := h.keeps k (hs b cs h)
theorem own_below {w0 w w' : World} {e : Nat} {A : Option Addr} {n c c' : Nat} {l : List Value} (h : OwnW w w0.heap.size e A c l) (k : Keeps (fun k => some k = (Value.slice A n c').ownBlock) w w') (hb : Below w0.heap.size w0 w) : Below w0.heap.size w0 w' :=
  hb.trans (k.below hb.size fun i hi e => by
    cases A with
    | none => cases e
    | some a => injection e with e; have := (h.block a rfl).1; omega)
theorem hb_below {w0 w w' : World} {b : Nat} (k : Keeps (fun k => k = b) w w') (hb : Below w0.heap.size w0 w) (h : w0.heap.size ≤ b) : Below w0.heap.size w0 w' := hb.trans (k.below hb.size fun i hi e => by omega)
theorem al_below {w0 w w' : World} (k : Below w.heap.size w w') (hb : Below w0.heap.size w0 w) : Below w0.heap.size w0 w' := hb.trans (k.mono hb.size)
end Go.Dn
namespace Go.Proofs.Ytnfgibbkfkaonaa.Rd
open Go.Dn Go.RowKit
set_option linter.unusedVariables false
set_option maxRecDepth 100000

theorem LI.lit {w : World} {b : Nat} {x : Int} (h : HB w b #[.int .i64 x] 3) : LI w (some ⟨b, 0, none⟩) 1 [x] :=
  ⟨rfl, .inr ⟨b, 1, _, rfl, Nat.zero_le _, h, Nat.le_refl _, by decide, rfl, rfl⟩⟩
theorem RowsV.keeps {S : Nat → Prop} {w w' : World} {vs : List Value} {rows : List (List Nat)} (h : RowsV w vs rows) (k : Keeps S w w') (s3 : Sf S w 3) : RowsV w' vs rows := by
  refine ⟨h.1, fun i hi => ?_⟩
  obtain ⟨A, c, e, hl⟩ := h.2 i hi
  refine ⟨A, c, e, ?_⟩
  have : OwnW w 0 3 A c ((zs rows[i]).map (.int .i64)) := by
    unfold OwnW; rw [List.length_map]; exact hl
  have := this.sf k s3
  unfold OwnW at this; rw [List.length_map] at this; exact this
theorem RowsV.below {w w' : World} {vs : List Value} {rows : List (List Nat)} (h : RowsV w vs rows) (k : Below w.heap.size w w') : RowsV w' vs rows := h.keeps (S := fun _ => False) (.of_below k) (Sf.none _ _)
theorem RowsV.snoc {w : World} {vs : List Value} {rows : List (List Nat)} (h : RowsV w vs rows) {l : List Nat} {A : Option Addr} {n c : Nat} (hl : LI w A c (zs l)) (hn : n = l.length) : RowsV w (vs ++ [.slice A n c]) (rows ++ [l]) := by
  subst hn
  refine ⟨by simp [h.1], fun i hi => ?_⟩
  by_cases e : i < rows.length
  · obtain ⟨A', c', e1, e2⟩ := h.2 i e
    refine ⟨A', c', ?_, ?_⟩
    · rw [List.getElem?_append_left (by rw [h.1]; exact e), List.getElem_append_left e]; exact e1
    · rw [List.getElem_append_left e]; exact e2
  · have : i = rows.length := by simp at hi; omega
    subst this
    refine ⟨A, c, ?_, ?_⟩
    · rw [List.getElem?_append_right (by rw [h.1]; exact Nat.le_refl _)]; simp [h.1]
    · simpa using hl
theorem RowsV.nil (w : World) : RowsV w [] [] := ⟨rfl, fun i hi => absurd hi (by simp)⟩
theorem LI.sf {S : Nat → Prop} {w w' : World} {A : Option Addr} {c : Nat} {l : List Int} (h : LI w A c l) (k : Keeps S w w') (s3 : Sf S w 3) : LI w' A c l :=
  OwnI.keeps h k fun a ha => by obtain ⟨cs, hc⟩ := h.ty a ha; exact s3 _ _ hc
theorem RefAt.vals {w : World} {d : Doc} {m : MS} (h : RefAt w d m) {i : Nat} (hi : i < m.n - 1) : (∃ a, d.A1 = some a ∧ w.cell? (a.add i) = some (.int .i64 (m.V (i + 1)).1)) ∧ ∃ a, d.A2 = some a ∧ w.cell? (a.add i) = some (.int .i64 (m.V (i + 1)).2) := by
  have h1 := h.nAt (i := i + 1) (by omega); have h2 := h.mAt (i := i + 1) (by omega)
  exact ⟨h1, h2⟩
theorem nL_take (n : Nat) (V : Nat → Int × Int) {i : Nat} (hi : i < n - 1) : (nL n V).take i ++ [.int .i64 (V (i + 1)).1] = (nL n V).take (i + 1) := by
  rw [List.take_succ_eq_append_getElem (by simp [nL]; omega)]; simp [nL]
theorem mL_take (n : Nat) (V : Nat → Int × Int) {i : Nat} (hi : i < n - 1) : (mL n V).take i ++ [.int .i64 (V (i + 1)).2] = (mL n V).take (i + 1) := by
  rw [List.take_succ_eq_append_getElem (by simp [mL]; omega)]; simp [mL]
theorem nL_len (n : Nat) (V : Nat → Int × Int) (i : Nat) (hi : i ≤ n - 1) : ((nL n V).take i).length = i := by simp [nL]; omega
theorem mL_len (n : Nat) (V : Nat → Int × Int) (i : Nat) (hi : i ≤ n - 1) : ((mL n V).take i).length = i := by simp [mL]; omega
/-- a number appended to a field of a local record -/
theorem app_field {P : Program} {t e : TypeId} {z : Value} {by_ : Nat} (hT : ElTy P t e z by_) (hz1 : z.cells.size = 1) {ws w : World} {A : Option Addr} {c : Nat} {l l' : List Value} {b : Nat} {x : Value} {tb ty : TypeId} {n : Nat}
    {K : Value → World → Prop} (ho : OwnW w ws.heap.size e A c l) (hn : n = l.length) (hb : HB w b #[x] tb) (hx : x.oneCell' = true) (hw : Below ws.heap.size ws w) (hlen : (l.length + 1) * by_ ≤ 140737488355328) (hlen2 : l.length + 1 ≤ 140737488355328) (el : l ++ [x] = l')
    (hK : ∀ A' c' w', OwnW w' ws.heap.size e (some A') c' l' → Below ws.heap.size ws w' → (∀ e', e' ≠ e → Sf (fun k => some k = (Value.slice A n c).ownBlock) w e') → Keeps (fun k => some k = (Value.slice A n c).ownBlock) w w' → K (.slice (some A') l'.length c') w') :
    Runs P (Builtin.append_ #[t, t] ty #[.slice A n c, .slice (some (⟨b, 0, none⟩ : Addr)) 1 1]) w K := by
  subst el
  exact appW_runs hT hz1 ho hn hb hx hw.size hlen hlen2 fun A' c' w' h1 h2 _ => hK A' c' w' h1 (own_below ho h2 hw) (fun e' he => Sf.own ho he.symm) h2

/-! ### Make -/
theorem RMake_l0 {ws : World} {d : Doc} {m : MS} {b1 b5 : Nat} (hd : RefAt ws d m) (hb1 : HB ws b1 (d.cs m) 34) (hn : m.n ≤ 65537) (h5 : ws.heap.size ≤ b5) {K0 : World → Prop}
    (hK : ∀ w A1 c1 A2 c2, HB w b5 #[.slice none 0 0, .slice A1 (m.n - 1) c1, .slice A2 (m.n - 1) c2] 34 → OwnW w ws.heap.size 2 A1 c1 (nL m.n m.V) → OwnW w ws.heap.size 3 A2 c2 (mL m.n m.V) → Below ws.heap.size ws w → K0 w) :
    ∀ (t i : Nat) (w : World) (A1 : Option Addr) (c1 : Nat) (A2 : Option Addr) (c2 : Nat), (m.n - 1) - i = t → i ≤ m.n - 1 → HB w b5 #[.slice none 0 0, .slice A1 i c1, .slice A2 i c2] 34 → OwnW w ws.heap.size 2 A1 c1 ((nL m.n m.V).take i) → OwnW w ws.heap.size 3 A2 c2 ((mL m.n m.V).take i) → Below ws.heap.size ws w →
    f_ref15_Make.l0 (t + 1) (⟨b1, 0, none⟩ : Addr) (⟨b5, 0, none⟩ : Addr) (i : Int) w K0 := by
  intro t
  induction t with
  | zero =>
    intro i w A1 c1 A2 c2 h1 h2 hb ho1 ho2 hw
    have : i = m.n - 1 := by omega
    subst this
    have e1 : (nL m.n m.V).take (m.n - 1) = nL m.n m.V := List.take_of_length_le (by simp [nL])
    have e2 : (mL m.n m.V).take (m.n - 1) = mL m.n m.V := List.take_of_length_le (by simp [mL])
    rw [e1] at ho1; rw [e2] at ho2
    unfold f_ref15_Make.l0
    exact hb_ldS (j := 1) (hb1.below hw) rfl (sel_f (by simp) (hK w _ _ _ _ hb ho1 ho2 hw))
  | succ t ih =>
    intro i w A1 c1 A2 c2 h1 h2 hb ho1 ho2 hw
    have hi : i < m.n - 1 := by omega
    unfold f_ref15_Make.l0
    refine hb_ldS (j := 1) (hb1.below hw) rfl (sel_t (by simp; omega) (drW_intro ?_))
    have bd : Below w.heap.size w w.drew := (Below.refl _ _).drew
    have hb := hb.below bd; have ho1 := ho1.below bd; have ho2 := ho2.below bd; have hw := al_below bd hw
    generalize w.drew = w at *
    have hbl := hb.lt
    obtain ⟨⟨a, ha, hca⟩, ⟨a', ha', hca'⟩⟩ := hd.vals hi
    have tr : ∀ {w' : World} {p : Addr} {v : Value}, ws.cell? p = some v → Below ws.heap.size ws w' → w'.cell? p = some v := fun h k => by rw [k.cell (World.block_lt_of_cell? _ _ h)]; exact h
    refine ⟨fun w' => HB w' b5 #[.slice none 0 0, .slice A1 i c1, .slice A2 i c2] 34 ∧ Below ws.heap.size ws w', ⟨hb, hw⟩, _, _, _, fun w' h => h.1.cell 1, _, _, _, fun w' h => (hb1.below h.2).cell 1, optB_some ha (req_intro (by simp; omega) ⟨_, fun w' h => by rw [Int.toNat_natCast, Nat.mul_one]; exact tr hca h.2, al_new fun w2 bx ex zx hx q2 => ?_⟩)⟩
    have hb := hb.below q2; have ho1 := ho1.below q2; have ho2 := ho2.below q2; have hw := al_below q2 hw
    refine ⟨⟨hb, hw⟩, app_field TI64 rfl ho1 (nL_len _ _ _ (by omega)).symm hx rfl hw (by rw [nL_len _ _ _ (by omega)]; omega) (by rw [nL_len _ _ _ (by omega)]; omega) (nL_take _ _ hi) fun A1' c1' w3 ho1 hw sf k3 => ⟨_, _, _, rfl, ?_⟩⟩
    have hb := hb.sf k3 (sf _ (by decide)); have ho2 := ho2.sf k3 (sf _ (by decide))
    rw [nL_len _ _ _ (by omega)]
    refine hb_st (j := 1) hb (by simp) fun w4 hb4 k4 => ?_
    have ho1 := ho1.sf k4 (Sf.hb hb (by decide)); have ho2 := ho2.sf k4 (Sf.hb hb (by decide)); have hw := hb_below k4 hw h5
    refine drW_intro ?_
    have bd : Below w4.heap.size w4 w4.drew := (Below.refl _ _).drew
    have hb : HB w4.drew b5 #[.slice none 0 0, .slice (some A1') (i + 1) c1', .slice A2 i c2] 34 := hb4.below bd
    have ho1 := ho1.below bd; have ho2 := ho2.below bd; have hw := al_below bd hw
    generalize w4.drew = w5 at *
    refine ⟨fun w' => HB w' b5 #[.slice none 0 0, .slice (some A1') (i + 1) c1', .slice A2 i c2] 34 ∧ Below ws.heap.size ws w', ⟨hb, hw⟩, _, _, _, fun w' h => h.1.cell 2, _, _, _, fun w' h => (hb1.below h.2).cell 2, optB_some ha' (req_intro (by simp; omega) ⟨_, fun w' h => by rw [Int.toNat_natCast, Nat.mul_one]; exact tr hca' h.2, al_new fun w6 bx ex zx hx q2 => ?_⟩)⟩
    have hb := hb.below q2; have ho1 := ho1.below q2; have ho2 := ho2.below q2; have hw := al_below q2 hw
    refine ⟨⟨hb, hw⟩, app_field TIn' rfl ho2 (mL_len _ _ _ (by omega)).symm hx rfl hw (by rw [mL_len _ _ _ (by omega)]; omega) (by rw [mL_len _ _ _ (by omega)]; omega) (mL_take _ _ hi) fun A2' c2' w7 ho2 hw sf k3 => ⟨_, _, _, rfl, ?_⟩⟩
    have hb := hb.sf k3 (sf _ (by decide)); have ho1 := ho1.sf k3 (sf _ (by decide))
    rw [mL_len _ _ _ (by omega)]
    refine hb_st (j := 2) hb (by simp) fun w8 hb8 k8 => ?_
    have ho1 := ho1.sf k8 (Sf.hb hb (by decide)); have ho2 := ho2.sf k8 (Sf.hb hb (by decide)); have hw := hb_below k8 hw h5
    rw [w64_in (by omega), show (i : Int) + 1 = ((i + 1 : Nat) : Int) by omega]
    exact ih (i + 1) w8 _ _ _ _ (by omega) (by omega) hb8 ho1 ho2 hw
theorem RMake_l1 {ws : World} {d : Doc} {m : MS} {b1 b5 : Nat} (hd : RefAt ws d m) (hb1 : HB ws b1 (d.cs m) 34) (hn : m.rows.length ≤ 65537) (h5 : ws.heap.size ≤ b5) {s1 s2 : Value} {K2 : World → Prop} {l1 l2 : List Value} {A1 A2 : Option Addr} {c1 c2 : Nat}
    (hK : ∀ w A0 c0 vs, HB w b5 #[.slice A0 m.rows.length c0, s1, s2] 34 → OwnW w ws.heap.size 22 A0 c0 vs → RowsV w vs m.rows → OwnW w ws.heap.size 2 A1 c1 l1 → OwnW w ws.heap.size 3 A2 c2 l2 → Below ws.heap.size ws w → K2 w) :
    ∀ (t i : Nat) (w : World) (A0 : Option Addr) (c0 : Nat) (vs : List Value), m.rows.length - i = t → i ≤ m.rows.length → HB w b5 #[.slice A0 i c0, s1, s2] 34 → OwnW w ws.heap.size 22 A0 c0 vs → RowsV w vs (m.rows.take i) → OwnW w ws.heap.size 2 A1 c1 l1 → OwnW w ws.heap.size 3 A2 c2 l2 → Below ws.heap.size ws w →
    f_ref15_Make.l1 (t + 1) (⟨b1, 0, none⟩ : Addr) (⟨b5, 0, none⟩ : Addr) (i : Int) w K2 := by
  intro t
  induction t with
  | zero =>
    intro i w A0 c0 vs h1 h2 hb ho hv ho1 ho2 hw
    have : i = m.rows.length := by omega
    subst this
    rw [List.take_length] at hv
    unfold f_ref15_Make.l1
    exact hb_ldS0 (hb1.below hw) rfl (sel_f (by simp) (hK w _ _ _ hb ho hv ho1 ho2 hw))
  | succ t ih =>
    intro i w A0 c0 vs h1 h2 hb ho hv ho1 ho2 hw
    have hi : i < m.rows.length := by omega
    unfold f_ref15_Make.l1
    refine hb_ldS0 (hb1.below hw) rfl (sel_t (by simp; omega) (drW_intro ?_))
    have bd : Below w.heap.size w w.drew := (Below.refl _ _).drew
    have hb := hb.below bd; have ho := ho.below bd; have ho1 := ho1.below bd; have ho2 := ho2.below bd; have hv := hv.below bd; have hw := al_below bd hw
    generalize w.drew = w at *
    obtain ⟨a, A, c, ha, hc, hl⟩ := hd.row hi
    have tr : ∀ {w' : World} {p : Addr} {v : Value}, ws.cell? p = some v → Below ws.heap.size ws w' → w'.cell? p = some v := fun h k => by rw [k.cell (World.block_lt_of_cell? _ _ h)]; exact h
    refine ⟨fun w' => HB w' b5 #[.slice A0 i c0, s1, s2] 34 ∧ Below ws.heap.size ws w', ⟨hb, hw⟩, _, _, _, fun w' h => h.1.cell 0, _, _, _, fun w' h => (hb1.below h.2).cell 0, optB_some ha (req_intro (by simp; omega) ⟨_, _, _, fun w' h => by rw [Int.toNat_natCast, Nat.mul_one]; exact tr hc h.2, al_new fun w2 bx ex zx hx q2 => ?_⟩)⟩
    have hb := hb.below q2; have ho := ho.below q2; have ho1 := ho1.below q2; have ho2 := ho2.below q2; have hv := hv.below q2; have hw := al_below q2 hw
    have hvl : vs.length = i := by rw [hv.1, List.length_take]; omega
    refine ⟨⟨hb, hw⟩, app_field TRw rfl ho hvl.symm hx rfl hw (by omega) (by omega) rfl fun A0' c0' w3 ho hw sf k3 => ⟨_, _, _, rfl, ?_⟩⟩
    have hb := hb.sf k3 (sf _ (by decide)); have ho1 := ho1.sf k3 (sf _ (by decide)); have ho2 := ho2.sf k3 (sf _ (by decide)); have hv := hv.keeps k3 (sf _ (by decide))
    have hv := hv.snoc (hl.below hw) rfl
    rw [← List.take_succ_eq_append_getElem hi] at hv
    rw [List.length_append, hvl]
    refine hb_st0 hb (by simp) fun w4 hb4 k4 => ?_
    have ho := ho.sf k4 (Sf.hb hb (by decide)); have ho1 := ho1.sf k4 (Sf.hb hb (by decide)); have ho2 := ho2.sf k4 (Sf.hb hb (by decide)); have hv := hv.keeps k4 (Sf.hb hb (by decide)); have hw := hb_below k4 hw h5
    rw [w64_in (by omega), show (i : Int) + 1 = ((i + 1 : Nat) : Int) by omega]
    exact ih (i + 1) w4 _ _ _ (by omega) (by omega) hb4 ho hv ho1 ho2 hw
theorem RMake_ok {w : World} {d : Doc} {m : MS} (h : RefAt w d m) (rok : RowsOk m.n m.rows) (hn : m.n ≤ 65537) (hpos : 0 < m.n) (v k : Int) :
    Calls Try.prog 29 #[docV d m, .int .i64 v, .int .i64 k] w fun e w' => ∃ d', e = .returned (docV d' ⟨m.n + 1, m.rows ++ [[m.n]], fun i => if i = m.n then (v, k) else m.V i⟩) ∧ RefAt w' d' ⟨m.n + 1, m.rows ++ [[m.n]], fun i => if i = m.n then (v, k) else m.V i⟩ ∧ Below w.heap.size w w' := by
  have hrl := rows_lt rok hpos
  apply f_ref15_Make.ok
  unfold f_ref15_Make.wp
  refine al_new fun wa b1 e1 z1 h1 q1 => al_new fun ws b3 e3 z3 h3 q3 => al_new fun wc b5 e5 z5 hb5 q5 => ?_
  have hd := (h.below q1).below q3
  have h1 := h1.below q3
  have bl : Below w.heap.size w ws := al_below q3 q1
  refine hb_st0 hb5 (by simp) fun w7 h7 k7 => hb_st (j := 1) h7 (by simp) fun w8 h8 k8 => hb_st (j := 2) h8 (by simp) fun w9 h9 k9 => ?_
  have hw : Below ws.heap.size ws w9 := hb_below ((k7.trans k8).trans k9) q5 (by omega)
  have n0 : m.n - 1 + 1 = m.n := by omega
  refine ⟨_, RMake_l0 hd h1 hn (by omega) ?_ (m.n - 1) 0 w9 none 0 none 0 rfl (by omega) h9 (OwnW.none _ _ _) (OwnW.none _ _ _) hw⟩
  intro w A1 c1 A2 c2 hb ho1 ho2 hw _
  refine hb_ldS (j := 1) hb rfl (al_new fun wA bx ex zx hx q2 => ?_)
  have hb := hb.below q2; have ho1 := ho1.below q2; have ho2 := ho2.below q2; have hw := al_below q2 hw
  have l1 : (nL m.n m.V).length = m.n - 1 := by simp [nL]
  have l2 : (mL m.n m.V).length = m.n - 1 := by simp [mL]
  have en : nL m.n m.V ++ [.int .i64 v] = nL (m.n + 1) (fun i => if i = m.n then (v, k) else m.V i) := by
    obtain ⟨n', hn'⟩ : ∃ n', m.n = n' + 1 := ⟨m.n - 1, by omega⟩
    rw [hn']
    simp only [nL, Nat.add_sub_cancel, List.range_succ, List.map_append, List.map_cons, List.map_nil, if_true]
    congr 1
    apply List.map_congr_left
    intro i hi
    rw [if_neg (by simp at hi; omega)]
  have em : mL m.n m.V ++ [.int .i64 k] = mL (m.n + 1) (fun i => if i = m.n then (v, k) else m.V i) := by
    obtain ⟨n', hn'⟩ : ∃ n', m.n = n' + 1 := ⟨m.n - 1, by omega⟩
    rw [hn']
    simp only [mL, Nat.add_sub_cancel, List.range_succ, List.map_append, List.map_cons, List.map_nil, if_true]
    congr 1
    apply List.map_congr_left
    intro i hi
    rw [if_neg (by simp at hi; omega)]
  have l1' : (nL (m.n + 1) (fun i => if i = m.n then (v, k) else m.V i)).length = m.n := by simp [nL]
  have l2' : (mL (m.n + 1) (fun i => if i = m.n then (v, k) else m.V i)).length = m.n := by simp [mL]
  refine app_field TI64 rfl ho1 l1.symm hx rfl hw (by rw [l1]; omega) (by rw [l1]; omega) en fun A1' c1' wB ho1 hw sf k3 => ⟨_, _, _, rfl, ?_⟩
  have hb := hb.sf k3 (sf _ (by decide)); have ho2 := ho2.sf k3 (sf _ (by decide))
  rw [l1']
  refine hb_st (j := 1) hb (by simp) fun wC hbC k4 => ?_
  have ho1 := ho1.sf k4 (Sf.hb hb (by decide)); have ho2 := ho2.sf k4 (Sf.hb hb (by decide)); have hw := hb_below k4 hw (by omega)
  refine hb_ldS (j := 2) hbC rfl (al_new fun wD bx ex zx hx q2 => ?_)
  have hb := hbC.below q2; have ho1 := ho1.below q2; have ho2 := ho2.below q2; have hw := al_below q2 hw
  refine app_field TIn' rfl ho2 l2.symm hx rfl hw (by rw [l2]; omega) (by rw [l2]; omega) em fun A2' c2' wE ho2 hw sf k3 => ⟨_, _, _, rfl, ?_⟩
  have hb := hb.sf k3 (sf _ (by decide)); have ho1 := ho1.sf k3 (sf _ (by decide))
  rw [l2']
  refine hb_st (j := 2) hb (by simp) fun wF hbF k4 => ?_
  have ho1 := ho1.sf k4 (Sf.hb hb (by decide)); have ho2 := ho2.sf k4 (Sf.hb hb (by decide)); have hw := hb_below k4 hw (by omega)
  refine ⟨_, RMake_l1 hd h1 (by omega) (by omega) ?_ m.rows.length 0 wF none 0 [] rfl (by omega) hbF (OwnW.none _ _ _) (by rw [List.take_zero]; exact RowsV.nil _) ho1 ho2 hw⟩
  intro w A0 c0 vs hb ho hv ho1 ho2 hw _
  refine hb_ldS0 hb rfl (hb_ldS (j := 1) hb rfl (al_new fun wX by_ ey zy hy qy => al_new fun wG bx ex zx hx qx => ?_))
  have hb := (hb.below qy).below qx; have ho := (ho.below qy).below qx; have ho1 := (ho1.below qy).below qx; have ho2 := (ho2.below qy).below qx; have hv := (hv.below qy).below qx; have hw := al_below qx (al_below qy hw)
  have hy := hy.below qx
  refine app_field TRw rfl ho hv.1.symm hx rfl hw (by rw [hv.1]; omega) (by rw [hv.1]; omega) rfl fun A0' c0' wH ho hw sf k3 => ⟨_, _, _, rfl, ?_⟩
  have hb := hb.sf k3 (sf _ (by decide)); have ho1 := ho1.sf k3 (sf _ (by decide)); have ho2 := ho2.sf k3 (sf _ (by decide)); have hv := hv.keeps k3 (sf _ (by decide))
  have hlr := LI.lit (hy.sf k3 (sf _ (by decide)))
  have hv := hv.snoc (l := [m.n]) hlr rfl
  rw [show (vs ++ [Value.slice (some (⟨by_, 0, none⟩ : Addr)) 1 1]).length = m.rows.length + 1 by have := hv.1; simp at this ⊢; exact this]
  refine hb_st0 hb (by simp) fun wI hbI k4 => ?_
  have ho := ho.sf k4 (Sf.hb hb (by decide)); have ho1 := ho1.sf k4 (Sf.hb hb (by decide)); have ho2 := ho2.sf k4 (Sf.hb hb (by decide)); have hv := hv.keeps k4 (Sf.hb hb (by decide)); have hw := hb_below k4 hw (by omega)
  have h3 : HB wI b3 #[.slice none 0 0, .slice none 0 0, .slice none 0 0] 34 := h3.below hw
  refine hb_ldS0 hbI rfl (hb_ldS (j := 1) hbI rfl (hb_ldS (j := 2) hbI rfl (ret3 h3 fun w' k' => ⟨⟨some A0', c0', some A1', c1', some A2', c2'⟩, ?_, ⟨⟨_, (ho.sf k' (Sf.hb h3 (by decide))).mono (Nat.zero_le _), hv.keeps k' (Sf.hb h3 (by decide))⟩, (ho1.sf k' (Sf.hb h3 (by decide))).mono (Nat.zero_le _), (ho2.sf k' (Sf.hb h3 (by decide))).mono (Nat.zero_le _)⟩, ?_⟩)))
  · simp only [docV, Doc.cs, List.length_append, List.length_cons, List.length_nil, Nat.add_sub_cancel]
  · exact hb_below k' (bl.trans (hw.mono bl.size)) (by omega)
end Go.Proofs.Ytnfgibbkfkaonaa.Rd
