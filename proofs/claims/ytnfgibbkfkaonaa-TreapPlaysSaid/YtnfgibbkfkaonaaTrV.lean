/- What the document makes of its rope: Set, Join, Cut. Conditions: none. -/
import Derived.Test.YtnfgibbkfkaonaaTrU
namespace Go.Proofs.Ytnfgibbkfkaonaa.Rd
open Go.Dn Go.RowKit
set_option linter.unusedVariables false
set_option maxRecDepth 100000

theorem cell_tr {ws w' : World} {p : Addr} {v : Value} (h : ws.cell? p = some v) (k : Below ws.heap.size ws w') : w'.cell? p = some v := by rw [k.cell (World.block_lt_of_cell? _ _ h)]; exact h
theorem slA_zero (A : Option Addr) (m z : Nat) : slA A 0 m z = A := by
  unfold slA
  split
  · rfl
  · cases A with
    | none => rfl
    | some a => simp [add_zero]

/-! ### Set -/
theorem RSet_l0 {ws : World} {d : Doc} {m : MS} {b1 b6 x : Nat} {v k : Int} {s0 : Value} (hd : RefAt ws d m) (hb1 : HB ws b1 (d.cs m) 34) (hn : m.n ≤ 65537) (hx : 0 < x ∧ x < m.n) (h5 : ws.heap.size ≤ b6) {V' : Nat → Int × Int} (hV : V' = fun i => if i = x then (v, k) else m.V i) {K0 : World → Prop}
    (hK : ∀ w A1 c1 A2 c2, HB w b6 #[s0, .slice A1 (m.n - 1) c1, .slice A2 (m.n - 1) c2] 34 → OwnW w ws.heap.size 2 A1 c1 (nL m.n V') → OwnW w ws.heap.size 3 A2 c2 (mL m.n V') → Below ws.heap.size ws w → K0 w) :
    ∀ (t i : Nat) (w : World) (A1 : Option Addr) (c1 : Nat) (A2 : Option Addr) (c2 : Nat), (m.n - 1) - i = t → i ≤ m.n - 1 → HB w b6 #[s0, .slice A1 i c1, .slice A2 i c2] 34 → OwnW w ws.heap.size 2 A1 c1 ((nL m.n V').take i) → OwnW w ws.heap.size 3 A2 c2 ((mL m.n V').take i) → Below ws.heap.size ws w →
    f_ref15_Set.l0 (t + 1) (x : Int) v k (⟨b1, 0, none⟩ : Addr) (⟨b6, 0, none⟩ : Addr) (i : Int) w K0 := by
  intro t
  induction t with
  | zero =>
    intro i w A1 c1 A2 c2 h1 h2 hb ho1 ho2 hw
    have : i = m.n - 1 := by omega
    subst this
    have e1 : (nL m.n V').take (m.n - 1) = nL m.n V' := List.take_of_length_le (by simp [nL])
    have e2 : (mL m.n V').take (m.n - 1) = mL m.n V' := List.take_of_length_le (by simp [mL])
    rw [e1] at ho1; rw [e2] at ho2
    unfold f_ref15_Set.l0
    exact hb_ldS (j := 1) (hb1.below hw) rfl (sel_f (by simp) (hK w _ _ _ _ hb ho1 ho2 hw))
  | succ t ih =>
    intro i w A1 c1 A2 c2 h1 h2 hb ho1 ho2 hw
    have hi : i < m.n - 1 := by omega
    have ew : IntKind.i64.wrap ((x : Int) - 1) = ((x - 1 : Nat) : Int) := by rw [w64_in (by omega)]; omega
    have eln : (nL m.n V').take i ++ [.int .i64 (V' (i + 1)).1] = (nL m.n V').take (i + 1) := nL_take _ _ hi
    have elm : (mL m.n V').take i ++ [.int .i64 (V' (i + 1)).2] = (mL m.n V').take (i + 1) := mL_take _ _ hi
    unfold f_ref15_Set.l0
    refine hb_ldS (j := 1) (hb1.below hw) rfl (sel_t (by simp; omega) ?_)
    rw [ew]
    by_cases hix : i = x - 1
    · have ev : V' (i + 1) = (v, k) := by rw [hV]; simp; omega
      rw [ev] at eln elm
      refine sel_t (by simp [hix]) (hb_ldS (j := 1) hb rfl (al_new fun w2 bx ex zx hx' q2 => ?_))
      have hb := hb.below q2; have ho1 := ho1.below q2; have ho2 := ho2.below q2; have hw := al_below q2 hw
      refine app_field TI64 rfl ho1 (nL_len _ _ _ (by omega)).symm hx' rfl hw (by rw [nL_len _ _ _ (by omega)]; omega) (by rw [nL_len _ _ _ (by omega)]; omega) eln fun A1' c1' w3 ho1 hw sf k3 => ⟨_, _, _, rfl, ?_⟩
      have hb := hb.sf k3 (sf _ (by decide)); have ho2 := ho2.sf k3 (sf _ (by decide))
      rw [nL_len _ _ _ (by omega)]
      refine hb_st (j := 1) hb (by simp) fun w4 hb4 k4 => ?_
      have ho1 := ho1.sf k4 (Sf.hb hb (by decide)); have ho2 := ho2.sf k4 (Sf.hb hb (by decide)); have hw := hb_below k4 hw h5
      have hb : HB w4 b6 #[s0, .slice (some A1') (i + 1) c1', .slice A2 i c2] 34 := hb4
      refine hb_ldS (j := 2) hb rfl (al_new fun w6 bx ex zx hx' q2 => ?_)
      have hb := hb.below q2; have ho1 := ho1.below q2; have ho2 := ho2.below q2; have hw := al_below q2 hw
      refine app_field TIn' rfl ho2 (mL_len _ _ _ (by omega)).symm hx' rfl hw (by rw [mL_len _ _ _ (by omega)]; omega) (by rw [mL_len _ _ _ (by omega)]; omega) elm fun A2' c2' w7 ho2 hw sf k3 => ⟨_, _, _, rfl, ?_⟩
      have hb := hb.sf k3 (sf _ (by decide)); have ho1 := ho1.sf k3 (sf _ (by decide))
      rw [mL_len _ _ _ (by omega)]
      refine hb_st (j := 2) hb (by simp) fun w8 hb8 k8 => ?_
      have ho1 := ho1.sf k8 (Sf.hb hb (by decide)); have ho2 := ho2.sf k8 (Sf.hb hb (by decide)); have hw := hb_below k8 hw h5
      rw [w64_in (by omega), show (i : Int) + 1 = ((i + 1 : Nat) : Int) by omega]
      exact ih (i + 1) w8 _ _ _ _ (by omega) (by omega) hb8 ho1 ho2 hw
    · have ev : V' (i + 1) = m.V (i + 1) := by rw [hV]; simp; omega
      rw [ev] at eln elm
      refine sel_f (by rw [nat_beq]; simpa using hix) (drW_intro ?_)
      have bd : Below w.heap.size w w.drew := (Below.refl _ _).drew
      have hb := hb.below bd; have ho1 := ho1.below bd; have ho2 := ho2.below bd; have hw := al_below bd hw
      generalize w.drew = w at *
      obtain ⟨⟨a, ha, hca⟩, ⟨a', ha', hca'⟩⟩ := hd.vals hi
      refine ⟨fun w' => HB w' b6 #[s0, .slice A1 i c1, .slice A2 i c2] 34 ∧ Below ws.heap.size ws w', ⟨hb, hw⟩, _, _, _, fun w' h => h.1.cell 1, _, _, _, fun w' h => (hb1.below h.2).cell 1, optB_some ha (req_intro (by simp; omega) ⟨_, fun w' h => by rw [Int.toNat_natCast, Nat.mul_one]; exact cell_tr hca h.2, al_new fun w2 bx ex zx hx' q2 => ?_⟩)⟩
      have hb := hb.below q2; have ho1 := ho1.below q2; have ho2 := ho2.below q2; have hw := al_below q2 hw
      refine ⟨⟨hb, hw⟩, app_field TI64 rfl ho1 (nL_len _ _ _ (by omega)).symm hx' rfl hw (by rw [nL_len _ _ _ (by omega)]; omega) (by rw [nL_len _ _ _ (by omega)]; omega) eln fun A1' c1' w3 ho1 hw sf k3 => ⟨_, _, _, rfl, ?_⟩⟩
      have hb := hb.sf k3 (sf _ (by decide)); have ho2 := ho2.sf k3 (sf _ (by decide))
      rw [nL_len _ _ _ (by omega)]
      refine hb_st (j := 1) hb (by simp) fun w4 hb4 k4 => ?_
      have ho1 := ho1.sf k4 (Sf.hb hb (by decide)); have ho2 := ho2.sf k4 (Sf.hb hb (by decide)); have hw := hb_below k4 hw h5
      refine drW_intro ?_
      have bd : Below w4.heap.size w4 w4.drew := (Below.refl _ _).drew
      have hb : HB w4.drew b6 #[s0, .slice (some A1') (i + 1) c1', .slice A2 i c2] 34 := hb4.below bd
      have ho1 := ho1.below bd; have ho2 := ho2.below bd; have hw := al_below bd hw
      generalize w4.drew = w5 at *
      refine ⟨fun w' => HB w' b6 #[s0, .slice (some A1') (i + 1) c1', .slice A2 i c2] 34 ∧ Below ws.heap.size ws w', ⟨hb, hw⟩, _, _, _, fun w' h => h.1.cell 2, _, _, _, fun w' h => (hb1.below h.2).cell 2, optB_some ha' (req_intro (by simp; omega) ⟨_, fun w' h => by rw [Int.toNat_natCast, Nat.mul_one]; exact cell_tr hca' h.2, al_new fun w6 bx ex zx hx' q2 => ?_⟩)⟩
      have hb := hb.below q2; have ho1 := ho1.below q2; have ho2 := ho2.below q2; have hw := al_below q2 hw
      refine ⟨⟨hb, hw⟩, app_field TIn' rfl ho2 (mL_len _ _ _ (by omega)).symm hx' rfl hw (by rw [mL_len _ _ _ (by omega)]; omega) (by rw [mL_len _ _ _ (by omega)]; omega) elm fun A2' c2' w7 ho2 hw sf k3 => ⟨_, _, _, rfl, ?_⟩⟩
      have hb := hb.sf k3 (sf _ (by decide)); have ho1 := ho1.sf k3 (sf _ (by decide))
      rw [mL_len _ _ _ (by omega)]
      refine hb_st (j := 2) hb (by simp) fun w8 hb8 k8 => ?_
      have ho1 := ho1.sf k8 (Sf.hb hb (by decide)); have ho2 := ho2.sf k8 (Sf.hb hb (by decide)); have hw := hb_below k8 hw h5
      rw [w64_in (by omega), show (i : Int) + 1 = ((i + 1 : Nat) : Int) by omega]
      exact ih (i + 1) w8 _ _ _ _ (by omega) (by omega) hb8 ho1 ho2 hw
theorem RSet_ok {w : World} {d : Doc} {m : MS} (h : RefAt w d m) (hn : m.n ≤ 65537) {x : Nat} (hx : 0 < x ∧ x < m.n) (v k : Int) :
    Calls Try.prog 33 #[docV d m, .int .i64 (x : Int), .int .i64 v, .int .i64 k] w fun e w' => ∃ d', e = .returned (docV d' ⟨m.n, m.rows, fun i => if i = x then (v, k) else m.V i⟩) ∧ RefAt w' d' ⟨m.n, m.rows, fun i => if i = x then (v, k) else m.V i⟩ ∧ Below w.heap.size w w' := by
  apply f_ref15_Set.ok
  unfold f_ref15_Set.wp
  refine al_new fun wa b1 e1 z1 h1 q1 => al_new fun ws b3 e3 z3 h3 q3 => ?_
  have hd := (h.below q1).below q3
  have h1 : HB ws b1 (d.cs m) 34 := h1.below q3
  have bl : Below w.heap.size w ws := al_below q3 q1
  refine hb_ldS0 h1 rfl (al_new fun wc b6 e6 z6 hb6 q6 => hb_st0 hb6 (by simp) fun w7 h7 k7 => hb_st (j := 1) h7 (by simp) fun w8 h8 k8 => hb_st (j := 2) h8 (by simp) fun w9 h9 k9 => ?_)
  have hw : Below ws.heap.size ws w9 := hb_below ((k7.trans k8).trans k9) q6 (by omega)
  refine ⟨_, RSet_l0 (v := v) (k := k) hd h1 hn hx (by omega) rfl ?_ (m.n - 1) 0 w9 none 0 none 0 rfl (by omega) h9 (OwnW.none _ _ _) (OwnW.none _ _ _) hw⟩
  intro w A1 c1 A2 c2 hb ho1 ho2 hw _
  have hd := hd.below hw
  have h3 : HB w b3 #[.slice none 0 0, .slice none 0 0, .slice none 0 0] 34 := h3.below hw
  refine hb_ldS0 hb rfl (hb_ldS (j := 1) hb rfl (hb_ldS (j := 2) hb rfl (ret3 h3 fun w' k' => ⟨⟨d.A0, d.c0, A1, c1, A2, c2⟩, rfl, ⟨?_, (ho1.sf k' (Sf.hb h3 (by decide))).mono (Nat.zero_le _), (ho2.sf k' (Sf.hb h3 (by decide))).mono (Nat.zero_le _)⟩, hb_below k' (bl.trans (hw.mono bl.size)) (by omega)⟩)))
  exact (hd.st k' h3 (by decide) (by decide) (by decide)).rows

/-! ### Join -/
theorem OwnW.lit0 {w : World} {B b e : Nat} (h : HB w b #[] e) (hb : B ≤ b) : OwnW w B e (some ⟨b, 0, none⟩) 0 [] := ⟨rfl, .inr ⟨b, 0, _, rfl, hb, h, Nat.le_refl _, Nat.zero_le _, rfl, rfl⟩⟩
theorem RJoin_l0 {ws : World} {d : Doc} {m : MS} {b1 x y ix iy : Nat} (hd : RefAt ws d m) (hb1 : HB ws b1 (d.cs m) 34) (rok : RowsOk m.n m.rows) (hn : m.rows.length ≤ 65537) (hx : 0 < x ∧ x < m.n) (hy : 0 < y ∧ y < m.n) (hix : ∃ h : ix < m.rows.length, m.rows[ix] = rowOf m.rows x) (hiy : ∃ h : iy < m.rows.length, m.rows[iy] = rowOf m.rows y)
    {K0 : Option Addr → Nat → Nat → World → Prop} (hK : ∀ w A c vs, OwnW w ws.heap.size 22 A c vs → RowsV ws vs (m.rows.filter fun l => decide (x ∉ l ∧ y ∉ l)) → Below ws.heap.size ws w → K0 A vs.length c w) :
    ∀ (t i : Nat) (w : World) (A : Option Addr) (c : Nat) (vs : List Value), m.rows.length - i = t → i ≤ m.rows.length → OwnW w ws.heap.size 22 A c vs → RowsV ws vs ((m.rows.take i).filter fun l => decide (x ∉ l ∧ y ∉ l)) → Below ws.heap.size ws w →
    f_ref15_Join.l0 (t + 1) (⟨b1, 0, none⟩ : Addr) (ix : Int) (iy : Int) A vs.length c (i : Int) w K0 := by
  intro t
  induction t with
  | zero =>
    intro i w A c vs h1 h2 ho hv hw
    have : i = m.rows.length := by omega
    subst this
    rw [List.take_length] at hv
    unfold f_ref15_Join.l0
    exact hb_ldS0 (hb1.below hw) rfl (sel_f (by simp) (hK w _ _ _ ho hv hw))
  | succ t ih =>
    intro i w A c vs h1 h2 ho hv hw
    have hi : i < m.rows.length := by omega
    obtain ⟨lix, eix⟩ := hix
    obtain ⟨liy, eiy⟩ := hiy
    have xm := (rok.rowOf_mem hx).2
    have ym := (rok.rowOf_mem hy).2
    have hvl : vs.length ≤ i := by
      rw [hv.1]
      exact Nat.le_trans (List.length_filter_le _ _) (by rw [List.length_take]; omega)
    unfold f_ref15_Join.l0
    refine hb_ldS0 (hb1.below hw) rfl (sel_t (by simp; omega) ?_)
    rw [w64_in (by omega), show (i : Int) + 1 = ((i + 1 : Nat) : Int) by omega]
    have et : m.rows.take (i + 1) = m.rows.take i ++ [m.rows[i]] := List.take_succ_eq_append_getElem hi
    have drop : (x ∈ m.rows[i] ∨ y ∈ m.rows[i]) → (m.rows.take (i + 1)).filter (fun l => decide (x ∉ l ∧ y ∉ l)) = (m.rows.take i).filter fun l => decide (x ∉ l ∧ y ∉ l) := fun h => by
      rw [et, List.filter_append, List.filter_cons_of_neg (by simp only [decide_eq_true_eq]; rintro ⟨h1, h2⟩; rcases h with h | h; exact h1 h; exact h2 h)]; simp
    by_cases e1 : i = ix
    · subst e1
      refine sel_f (by simp) (ih (i + 1) w A c vs (by omega) (by omega) ho ?_ hw)
      rw [drop (.inl (eix ▸ xm))]; exact hv
    · refine sel_t (by simp only [bne_iff_ne, ne_eq]; omega) ?_
      by_cases e2 : i = iy
      · subst e2
        refine sel_f (by simp) (ih (i + 1) w A c vs (by omega) (by omega) ho ?_ hw)
        rw [drop (.inr (eiy ▸ ym))]; exact hv
      · refine sel_t (by simp only [bne_iff_ne, ne_eq]; omega) ?_
        obtain ⟨a, A', c', ha, hc, hl⟩ := hd.row hi
        have nx : x ∉ m.rows[i] := fun h => e1 ((row_ix rok hi lix).1 (by rw [eix]; exact (rok.rowOf_eq (List.getElem_mem _) h).symm))
        have ny : y ∉ m.rows[i] := fun h => e2 ((row_ix rok hi liy).1 (by rw [eiy]; exact (rok.rowOf_eq (List.getElem_mem _) h).symm))
        refine hb_ldS0 (hb1.below hw) rfl (optB_some ha (req_intro (by simp; omega) (ldS_intro (by rw [Int.toNat_natCast, Nat.mul_one]; exact cell_tr hc hw) (al_new fun w2 bx ex zx hx' q2 => ?_))))
        have ho := ho.below q2; have hw := al_below q2 hw
        refine app_field TRw rfl ho rfl hx' rfl hw (by omega) (by omega) rfl fun A0' c0' w3 ho hw sf k3 => ⟨_, _, _, rfl, ?_⟩
        have hv := hv.snoc hl rfl
        refine ih (i + 1) w3 _ _ _ (by omega) (by omega) ho ?_ hw
        rw [et, List.filter_append, List.filter_cons_of_pos (by simp [nx, ny]), List.filter_nil]; exact hv
theorem RJoin_l1 {ws : World} {d : Doc} {m : MS} {b1 iy : Nat} {p : List Nat} (hd : RefAt ws d m) (hb1 : HB ws b1 (d.cs m) 34) (hiy : iy < m.rows.length) (hp : p.length ≤ 65537) (hl : m.rows[iy].length ≤ 65537) {Ao : Option Addr} {co : Nat} {vs : List Value} {rows : List (List Nat)}
    {K2 : Option Addr → Nat → Nat → World → Prop} (hK : ∀ w A c, LI w A c (zs (p ++ m.rows[iy])) → OwnW w ws.heap.size 22 Ao co vs → RowsV w vs rows → Below ws.heap.size ws w → K2 A (p ++ m.rows[iy]).length c w) :
    ∀ (t i : Nat) (w : World) (A : Option Addr) (c : Nat), m.rows[iy].length - i = t → i ≤ m.rows[iy].length → OwnW w ws.heap.size 3 A c ((zs (p ++ m.rows[iy].take i)).map (.int .i64)) → OwnW w ws.heap.size 22 Ao co vs → RowsV ws vs rows → Below ws.heap.size ws w →
    f_ref15_Join.l1 (t + 1) (⟨b1, 0, none⟩ : Addr) (iy : Int) A (p ++ m.rows[iy].take i).length c (i : Int) w K2 := by
  obtain ⟨a, A', c', ha, hc, hli⟩ := hd.row hiy
  intro t
  induction t with
  | zero =>
    intro i w A c h1 h2 ho hoo hv hw
    have : i = m.rows[iy].length := by omega
    subst this
    rw [List.take_length] at ho ⊢
    unfold f_ref15_Join.l1
    refine hb_ldS0 (hb1.below hw) rfl (optB_some ha (req_intro (by simp; omega) (ldS_intro (by rw [Int.toNat_natCast, Nat.mul_one]; exact cell_tr hc hw) (sel_f (by simp) (hK w A c ?_ hoo (hv.below hw) hw)))))
    have := ho.mono (Nat.zero_le _)
    unfold OwnW at this; rw [List.length_map] at this; exact this
  | succ t ih =>
    intro i w A c h1 h2 ho hoo hv hw
    have hi : i < m.rows[iy].length := by omega
    obtain ⟨a2, ha2, hc2⟩ := (hli.below hw).reads i (by rw [zs_len]; exact hi)
    have hz : (zs m.rows[iy])[i]'(by rw [zs_len]; exact hi) = (m.rows[iy][i] : Int) := by simp [zs]
    rw [hz] at hc2
    have hcw := cell_tr hc hw
    have el : (zs (p ++ m.rows[iy].take i)).map (Value.int .i64) ++ [.int .i64 (m.rows[iy][i] : Int)] = (zs (p ++ m.rows[iy].take (i + 1))).map (Value.int .i64) := by
      rw [List.take_succ_eq_append_getElem hi, ← List.append_assoc, zs_app (p ++ m.rows[iy].take i), List.map_append]; rfl
    have ln : ∀ j, j ≤ m.rows[iy].length → ((zs (p ++ m.rows[iy].take j)).map (Value.int .i64)).length = p.length + j := fun j hj => by simp [zs]; omega
    have ln2 : ∀ j, j ≤ m.rows[iy].length → (p ++ m.rows[iy].take j).length = p.length + j := fun j hj => by simp; omega
    unfold f_ref15_Join.l1
    refine hb_ldS0 (hb1.below hw) rfl (optB_some ha (req_intro (by simp; omega) (ldS_intro (by rw [Int.toNat_natCast, Nat.mul_one]; exact hcw) (sel_t (by simp; omega) ?_))))
    refine hb_ldS0 (hb1.below hw) rfl (optB_some ha (req_intro (by simp; omega) (ldS_intro (by rw [Int.toNat_natCast, Nat.mul_one]; exact hcw) (optB_some ha2 (req_intro (by simp; omega) (ldI_intro (by rw [Int.toNat_natCast, Nat.mul_one]; exact hc2) (al_new fun w2 bx ex zx hx' q2 => ?_)))))))
    have ho := ho.below q2; have hoo := hoo.below q2; have hw := al_below q2 hw
    refine app_field TIn' rfl ho (by rw [ln i (by omega), ln2 i (by omega)]) hx' rfl hw (by rw [ln i (by omega)]; omega) (by rw [ln i (by omega)]; omega) el fun A0' c0' w3 ho hw sf k3 => ⟨_, _, _, rfl, ?_⟩
    have hoo := hoo.sf k3 (sf _ (by decide))
    rw [w64_in (by omega), show (i : Int) + 1 = ((i + 1 : Nat) : Int) by omega, ln (i + 1) (by omega)]
    have := ih (i + 1) w3 _ _ (by omega) (by omega) ho hoo hv hw
    rw [ln2 (i + 1) (by omega)] at this
    exact this
theorem RJoin_ok {w : World} {d : Doc} {m : MS} (h : RefAt w d m) (rok : RowsOk m.n m.rows) (hn : m.n ≤ 65537) (hpos : 0 < m.n) {x y : Nat} (hx : 0 < x ∧ x < m.n) (hy : 0 < y ∧ y < m.n) :
    Calls Try.prog 31 #[docV d m, .int .i64 (x : Int), .int .i64 (y : Int)] w fun e w' => ∃ d', e = .returned (docV d' ⟨m.n, joinR m.rows x y, m.V⟩) ∧ RefAt w' d' ⟨m.n, joinR m.rows x y, m.V⟩ ∧ Below w.heap.size w w' := by
  have hrl := rows_lt rok hpos
  obtain ⟨lx, ndx, xm, rngx⟩ := rok.rlen hx
  obtain ⟨ly, ndy, ym, rngy⟩ := rok.rlen hy
  apply f_ref15_Join.ok
  unfold f_ref15_Join.wp
  refine al_new fun wa b1 e1 z1 h1 q1 => al_new fun wb b3 e3 z3 h3 q3 => drW_intro ?_
  have bd : Below wb.heap.size wb wb.drew := (Below.refl _ _).drew
  have hd := ((h.below q1).below q3).below bd
  have h1 : HB wb.drew b1 (d.cs m) 34 := (h1.below q3).below bd
  have h3 := h3.below bd
  have bl : Below w.heap.size w wb.drew := al_below bd (al_below q3 q1)
  have zs3 : wb.drew.heap.size = b3 + 1 := z3
  generalize wb.drew = ws at *
  refine ⟨fun w' => Below ws.heap.size ws w', Below.refl _ _, _, _, _, fun w' h => (h1.below h).cell 0, _, _, _, fun w' h => (h1.below h).cell 1, _, _, _, fun w' h => (h1.below h).cell 2, _, _, _, fun w' h => (h1.below h).cell 0, _, _, _, fun w' h => (h1.below h).cell 1, _, _, _, fun w' h => (h1.below h).cell 2, ?_⟩
  refine (Row_ok hd rok hn hpos hx).mono ?_
  rintro e w1 ⟨ix, rfl, hix, k1⟩
  refine ⟨_, rfl, k1, (Row_ok (hd.below k1) rok hn hpos hy).mono ?_⟩
  rintro e w2 ⟨iy, rfl, hiy, k2⟩
  have hw := al_below k2 k1
  refine ⟨_, rfl, al_new fun w3 b19 e19 z19 h19 q19 => ?_⟩
  have hw := al_below q19 hw
  have hs2 := (al_below k2 k1).size
  refine ⟨_, RJoin_l0 hd h1 rok (by omega) hx hy hix hiy ?_ m.rows.length 0 w3 _ 0 [] rfl (by omega) (OwnW.lit0 h19 (by omega)) (by rw [List.take_zero]; exact RowsV.nil _) hw⟩
  intro w4 A c vs ho hv hw _
  obtain ⟨lix, eix⟩ := hix
  obtain ⟨liy, eiy⟩ := hiy
  obtain ⟨a, A', c', ha, hc, hl⟩ := hd.row lix
  rw [eix] at hc hl
  refine hb_ldS0 (h1.below hw) rfl (optB_some ha (req_intro (by simp; omega) (ldS_intro (by rw [Int.toNat_natCast, Nat.mul_one]; exact cell_tr hc hw) ((CopyInts_ok (hl.below hw).reads (by rw [zs_len]) (by rw [zs_len]; omega)).mono ?_))))
  rintro e w5 ⟨A5, c5, rfl, o5, k5⟩
  have ho := ho.below k5
  have hw5 := al_below k5 hw
  have o5' : OwnW w5 ws.heap.size 3 (some A5) c5 ((zs (rowOf m.rows x ++ m.rows[iy].take 0)).map (.int .i64)) := by
    rw [List.take_zero, List.append_nil]
    unfold OwnW; rw [List.length_map]; exact OwnI.mono o5 hw.size
  have hlen0 : (rowOf m.rows x ++ m.rows[iy].take 0).length = (zs (rowOf m.rows x)).length := by simp [zs]
  have L1 := RJoin_l1 (iy := iy) (p := rowOf m.rows x) hd h1 liy (by omega) (by rw [eiy]; omega) (Ao := A) (co := c) (vs := vs) (rows := m.rows.filter fun l => decide (x ∉ l ∧ y ∉ l))
    (K2 := fun (A51 : Option Addr) (n51 : Nat) (c51 : Nat) (w52 : World) => ∀ _ : Fr,
      alW w52 (.cells #[.slice A51 n51 c51] 22) fun B53 w54 =>
      Runs Try.prog (Builtin.append_ #[31, 31] 31 #[.slice A vs.length c, .slice (some (⟨B53, 0, Option.none⟩ : Addr)) 1 1]) w54 fun v56 w55 => ∃ (A57 : Option Addr) (n57 : Nat) (c57 : Nat), v56 = (.slice A57 n57 c57) ∧ (
      stW w55 (⟨b1, 0, Option.none⟩ : Addr) (.slice A57 n57 c57) fun w58 =>
      ldS w58 (⟨b1, 0, Option.none⟩ : Addr) fun A59 n59 c59 =>
      ldS w58 ((⟨b1, 0, Option.none⟩ : Addr).add 1) fun A60 n60 c60 =>
      ldS w58 ((⟨b1, 0, Option.none⟩ : Addr).add 2) fun A61 n61 c61 =>
      stW w58 (⟨b3, 0, Option.none⟩ : Addr) (.slice A59 n59 c59) fun w62 =>
      stW w62 ((⟨b3, 0, Option.none⟩ : Addr).add 1) (.slice A60 n60 c60) fun w63 =>
      stW w63 ((⟨b3, 0, Option.none⟩ : Addr).add 2) (.slice A61 n61 c61) fun w64 =>
      ldS w64 (⟨b3, 0, Option.none⟩ : Addr) fun A65 n65 c65 =>
      ldS w64 ((⟨b3, 0, Option.none⟩ : Addr).add 1) fun A66 n66 c66 =>
      ldS w64 ((⟨b3, 0, Option.none⟩ : Addr).add 2) fun A67 n67 c67 =>
      (fun e w' => ∃ d', e = Ending.returned (docV d' ⟨m.n, joinR m.rows x y, m.V⟩) ∧ RefAt w' d' ⟨m.n, joinR m.rows x y, m.V⟩ ∧ Below w.heap.size w w') (.returned (.agg #[.slice A65 n65 c65, .slice A66 n66 c66, .slice A67 n67 c67])) w64)) ?_ m.rows[iy].length 0 w5 (some A5) c5 rfl (by omega) o5' ho hv hw5
  · rw [hlen0] at L1; exact ⟨_, _, _, rfl, _, L1⟩
  · intro w6 A6 c6 hl6 ho hv hw _
    refine al_new fun w7 bx ex zx hx' q2 => ?_
    have ho := ho.below q2; have hv := hv.below q2; have hl6 := hl6.below q2; have hw := al_below q2 hw
    have hvl : vs.length ≤ m.rows.length := by rw [hv.1]; exact List.length_filter_le _ _
    refine app_field TRw rfl ho rfl hx' rfl hw (by omega) (by omega) rfl fun A0' c0' w8 ho hw sf k3 => ⟨_, _, _, rfl, ?_⟩
    have hv := (hv.keeps k3 (sf _ (by decide))).snoc (hl6.sf k3 (sf _ (by decide))) rfl
    have hb1 := h1.below hw
    refine hb_st0 hb1 (by simp [Doc.cs]) fun w9 hb9 k9 => ?_
    have hR : RefAt w9 ⟨some A0', c0', d.A1, d.c1, d.A2, d.c2⟩ ⟨m.n, joinR m.rows x y, m.V⟩ := by
      refine ⟨⟨_, (ho.sf k9 (Sf.hb hb1 (by decide))).mono (Nat.zero_le _), ?_⟩, (hd.below hw).n.sf k9 (Sf.hb hb1 (by decide)), (hd.below hw).m.sf k9 (Sf.hb hb1 (by decide))⟩
      show RowsV w9 _ (joinR m.rows x y)
      unfold joinR
      rw [← eiy]
      exact hv.keeps k9 (Sf.hb hb1 (by decide))
    have hb3 : HB w9 b3 #[.slice none 0 0, .slice none 0 0, .slice none 0 0] 34 := (h3.below hw).keeps k9 (by omega)
    have hlj : (vs ++ [Value.slice A6 (rowOf m.rows x ++ m.rows[iy]).length c6]).length = (joinR m.rows x y).length := by
      have := hv.1; rw [eiy] at this ⊢; exact this
    have hw9 : Below w.heap.size w w9 := hb_below k9 (bl.trans (hw.mono bl.size)) (by omega)
    rw [hlj] at hb9
    refine hb_ldS0 hb9 rfl (hb_ldS (j := 1) hb9 rfl (hb_ldS (j := 2) hb9 rfl (ret3 hb3 fun w' k' => ⟨⟨some A0', c0', d.A1, d.c1, d.A2, d.c2⟩, rfl, hR.st k' hb3 (by decide) (by decide) (by decide), hb_below k' hw9 (by omega)⟩)))

/-! ### Cut -/
theorem RCut_l0 {ws : World} {d : Doc} {m : MS} {b1 x ix : Nat} (hd : RefAt ws d m) (hb1 : HB ws b1 (d.cs m) 34) (rok : RowsOk m.n m.rows) (hn : m.rows.length ≤ 65537) (hn2 : m.n ≤ 65537) (hx : 0 < x ∧ x < m.n) (hix : ∃ h : ix < m.rows.length, m.rows[ix] = rowOf m.rows x) (hk : (rowOf m.rows x).idxOf x ≠ 0)
    {K0 : Option Addr → Nat → Nat → World → Prop} (hK : ∀ w A c vs, OwnW w ws.heap.size 22 A c vs → RowsV w vs (cutR m.rows x) → Below ws.heap.size ws w → K0 A vs.length c w) :
    ∀ (t i : Nat) (w : World) (A : Option Addr) (c : Nat) (vs : List Value), m.rows.length - i = t → i ≤ m.rows.length → OwnW w ws.heap.size 22 A c vs → vs.length ≤ i + (if ix < i then 1 else 0) → RowsV w vs (cutR (m.rows.take i) x) → Below ws.heap.size ws w →
    f_ref15_Cut.l0 (t + 1) (⟨b1, 0, none⟩ : Addr) (ix : Int) ((rowOf m.rows x).idxOf x : Int) A vs.length c (i : Int) w K0 := by
  obtain ⟨lix, eix⟩ := hix
  obtain ⟨lx, ndx, xm, rngx⟩ := rok.rlen hx
  have hki := idx_lt xm
  intro t
  induction t with
  | zero =>
    intro i w A c vs h1 h2 ho hvl hv hw
    have : i = m.rows.length := by omega
    subst this
    rw [List.take_length] at hv
    unfold f_ref15_Cut.l0
    exact hb_ldS0 (hb1.below hw) rfl (sel_f (by simp) (hK w _ _ _ ho hv hw))
  | succ t ih =>
    intro i w A c vs h1 h2 ho hvl hv hw
    have hi : i < m.rows.length := by omega
    have hvl1 : vs.length ≤ i + 1 := by split at hvl <;> omega
    have et : cutR (m.rows.take (i + 1)) x = cutR (m.rows.take i) x ++ pieces x m.rows[i] := by
      unfold cutR; rw [List.take_succ_eq_append_getElem hi, List.flatMap_append, List.flatMap_cons, List.flatMap_nil, List.append_nil]
    unfold f_ref15_Cut.l0
    refine hb_ldS0 (hb1.below hw) rfl (sel_t (by simp; omega) ?_)
    rw [w64_in (x := (i : Int) + 1) (by omega), show (i : Int) + 1 = ((i + 1 : Nat) : Int) by omega]
    obtain ⟨a, A', c', ha, hc, hl⟩ := hd.row hi
    by_cases e1 : i = ix
    · subst e1
      rw [eix] at hc hl et
      have ep : pieces x (rowOf m.rows x) = [(rowOf m.rows x).take ((rowOf m.rows x).idxOf x), (rowOf m.rows x).drop ((rowOf m.rows x).idxOf x)] := by unfold pieces; rw [if_pos xm, if_neg hk]
      rw [ep] at et
      have hlc := OwnI.le hl
      rw [zs_len] at hlc
      refine sel_t (by simp) (hb_ldS0 (hb1.below hw) rfl (optB_some ha (req_intro (by simp; omega) (ldS_intro (by rw [Int.toNat_natCast, Nat.mul_one]; exact cell_tr hc hw) (req_intro (by simp; omega) ?_)))))
      rw [slA_zero, Int.toNat_natCast, Nat.sub_zero, Nat.sub_zero]
      have r1 : RI w A' (zs ((rowOf m.rows x).take ((rowOf m.rows x).idxOf x))) := by
        have := (hl.below hw).reads.take ((rowOf m.rows x).idxOf x)
        rwa [show (zs (rowOf m.rows x)).take ((rowOf m.rows x).idxOf x) = zs ((rowOf m.rows x).take ((rowOf m.rows x).idxOf x)) by simp [zs]] at this
      have lt1 : ((rowOf m.rows x).take ((rowOf m.rows x).idxOf x)).length = (rowOf m.rows x).idxOf x := by rw [List.length_take]; omega
      have ld1 : ((rowOf m.rows x).drop ((rowOf m.rows x).idxOf x)).length = (rowOf m.rows x).length - (rowOf m.rows x).idxOf x := by rw [List.length_drop]
      refine (CopyInts_ok r1 (by rw [zs_len, lt1]) (by rw [zs_len, lt1]; omega)).mono ?_
      rintro e w2 ⟨A2, c2, rfl, o2, k2⟩
      have l2 : LI w2 (some A2) c2 (zs ((rowOf m.rows x).take ((rowOf m.rows x).idxOf x))) := OwnI.mono o2 (Nat.zero_le _)
      have ho := ho.below k2; have hv := hv.below k2; have hw := al_below k2 hw
      refine ⟨_, _, _, rfl, al_new fun w3 bx ex zx hx' q3 => ?_⟩
      have ho := ho.below q3; have hv := hv.below q3; have l2 := l2.below q3; have hw := al_below q3 hw
      refine app_field TRw rfl ho rfl hx' rfl hw (by omega) (by omega) rfl fun A4 c4 w4 ho hw sf k4 => ⟨_, _, _, rfl, ?_⟩
      have hv := (hv.keeps k4 (sf _ (by decide))).snoc (n := (zs ((rowOf m.rows x).take ((rowOf m.rows x).idxOf x))).length) (l2.sf k4 (sf _ (by decide))) (by rw [zs_len])
      refine hb_ldS0 (hb1.below hw) rfl (optB_some ha (req_intro (by simp; omega) (ldS_intro (by rw [Int.toNat_natCast, Nat.mul_one]; exact cell_tr hc hw) (req_intro (by simp; omega) ?_))))
      have r2 := (LI.reads (hl.below hw)).slA (OwnI.le (hl.below hw)) ((rowOf m.rows x).idxOf x)
      rw [show (zs (rowOf m.rows x)).drop ((rowOf m.rows x).idxOf x) = zs ((rowOf m.rows x).drop ((rowOf m.rows x).idxOf x)) by simp [zs]] at r2
      refine (CopyInts_ok r2 (by rw [zs_len, ld1]) (by rw [zs_len, ld1]; omega)).mono ?_
      rintro e w5 ⟨A5, c5, rfl, o5, k5⟩
      have l5 : LI w5 (some A5) c5 (zs ((rowOf m.rows x).drop ((rowOf m.rows x).idxOf x))) := OwnI.mono o5 (Nat.zero_le _)
      have ho := ho.below k5; have hv := hv.below k5; have hw := al_below k5 hw
      refine ⟨_, _, _, rfl, al_new fun w6 bx ex zx hx' q6 => ?_⟩
      have ho := ho.below q6; have hv := hv.below q6; have l5 := l5.below q6; have hw := al_below q6 hw
      refine app_field TRw rfl ho rfl hx' rfl hw (by simp; omega) (by simp; omega) rfl fun A7 c7 w7 ho hw sf k7 => ⟨_, _, _, rfl, ?_⟩
      have hv := (hv.keeps k7 (sf _ (by decide))).snoc (n := (zs ((rowOf m.rows x).drop ((rowOf m.rows x).idxOf x))).length) (l5.sf k7 (sf _ (by decide))) (by rw [zs_len])
      refine ih (i + 1) w7 _ _ _ (by omega) (by omega) ho (by rw [if_neg (by omega)] at hvl; rw [if_pos (by omega)]; simp; omega) (by rw [et]; simpa only [List.append_assoc, List.cons_append, List.nil_append] using hv) hw
    · refine sel_f (by rw [nat_beq]; simpa using e1) (hb_ldS0 (hb1.below hw) rfl (optB_some ha (req_intro (by simp; omega) (ldS_intro (by rw [Int.toNat_natCast, Nat.mul_one]; exact cell_tr hc hw) (al_new fun w2 bx ex zx hx' q2 => ?_)))))
      have nx : x ∉ m.rows[i] := fun h => e1 ((row_ix rok hi lix).1 (by rw [eix]; exact (rok.rowOf_eq (List.getElem_mem _) h).symm))
      have ep : pieces x m.rows[i] = [m.rows[i]] := by unfold pieces; rw [if_neg nx]
      rw [ep] at et
      have ho := ho.below q2; have hv := hv.below q2; have hw := al_below q2 hw
      refine app_field TRw rfl ho rfl hx' rfl hw (by omega) (by omega) rfl fun A0' c0' w3 ho hw sf k3 => ⟨_, _, _, rfl, ?_⟩
      have hv := (hv.keeps k3 (sf _ (by decide))).snoc (hl.below hw) rfl
      exact ih (i + 1) w3 _ _ _ (by omega) (by omega) ho (by simp only [List.length_append, List.length_cons, List.length_nil]; split at hvl <;> split <;> omega) (by rw [et]; exact hv) hw
theorem RCut_ok {w : World} {d : Doc} {m : MS} (h : RefAt w d m) (rok : RowsOk m.n m.rows) (hn : m.n ≤ 65537) (hpos : 0 < m.n) {x : Nat} (hx : 0 < x ∧ x < m.n) :
    Calls Try.prog 32 #[docV d m, .int .i64 (x : Int)] w fun e w' => ∃ d', e = .returned (docV d' ⟨m.n, cutR m.rows x, m.V⟩) ∧ RefAt w' d' ⟨m.n, cutR m.rows x, m.V⟩ ∧ Below w.heap.size w w' := by
  have hrl := rows_lt rok hpos
  obtain ⟨lx, ndx, xm, rngx⟩ := rok.rlen hx
  apply f_ref15_Cut.ok
  unfold f_ref15_Cut.wp
  refine al_new fun wa b1 e1 z1 h1 q1 => al_new fun wb b3 e3 z3 h3 q3 => drW_intro ?_
  have bd : Below wb.heap.size wb wb.drew := (Below.refl _ _).drew
  have hd := ((h.below q1).below q3).below bd
  have h1 : HB wb.drew b1 (d.cs m) 34 := (h1.below q3).below bd
  have h3 := h3.below bd
  have bl : Below w.heap.size w wb.drew := al_below bd (al_below q3 q1)
  have zs3 : wb.drew.heap.size = b3 + 1 := z3
  generalize wb.drew = ws at *
  refine ⟨fun w' => Below ws.heap.size ws w', Below.refl _ _, _, _, _, fun w' h => (h1.below h).cell 0, _, _, _, fun w' h => (h1.below h).cell 1, _, _, _, fun w' h => (h1.below h).cell 2, _, _, _, fun w' h => (h1.below h).cell 0, _, _, _, fun w' h => (h1.below h).cell 1, _, _, _, fun w' h => (h1.below h).cell 2, ?_⟩
  refine (Row_ok hd rok hn hpos hx).mono ?_
  rintro e w1 ⟨ix, rfl, hix, k1⟩
  refine ⟨_, rfl, k1, (RIndex_ok (hd.below k1) rok hn hpos hx).mono ?_⟩
  rintro e w2 ⟨rfl, k2⟩
  have hw := al_below k2 k1
  refine ⟨_, rfl, ?_⟩
  by_cases hk : (rowOf m.rows x).idxOf x = 0
  · refine sel_t (by simp [hk]) (hb_ldS0 (h1.below hw) rfl (hb_ldS (j := 1) (h1.below hw) rfl (hb_ldS (j := 2) (h1.below hw) rfl (ret3 (h3.below hw) fun w' k' => ⟨d, ?_, ?_, hb_below k' (bl.trans (hw.mono bl.size)) (by omega)⟩))))
    all_goals
      have ec : cutR m.rows x = m.rows := by
        have : ∀ l ∈ m.rows, pieces x l = [l] := fun l hl => by
          unfold pieces
          by_cases hxl : x ∈ l
          · rw [if_pos hxl, ← rok.rowOf_eq hl hxl, if_pos hk]
          · rw [if_neg hxl]
        unfold cutR
        rw [flatMap_congr' this]; simp
    · simp only [ec]; rfl
    · simp only [ec]; exact (hd.below hw).st k' (h3.below hw) (by decide) (by decide) (by decide)
  · refine sel_f (by simpa using hk) (al_new fun w3 b28 e28 z28 h28 q28 => ?_)
    have hs2 := (al_below k2 k1).size
    have hw := al_below q28 hw
    refine ⟨_, RCut_l0 hd h1 rok (by omega) hn hx hix hk ?_ m.rows.length 0 w3 _ 0 [] rfl (by omega) (OwnW.lit0 h28 (by omega)) (by simp) (by rw [List.take_zero]; exact RowsV.nil _) hw⟩
    intro w4 A c vs ho hv hw _
    have hb1 := h1.below hw
    refine hb_st0 hb1 (by simp [Doc.cs]) fun w9 hb9 k9 => ?_
    have hR : RefAt w9 ⟨A, c, d.A1, d.c1, d.A2, d.c2⟩ ⟨m.n, cutR m.rows x, m.V⟩ := ⟨⟨_, (ho.sf k9 (Sf.hb hb1 (by decide))).mono (Nat.zero_le _), hv.keeps k9 (Sf.hb hb1 (by decide))⟩, (hd.below hw).n.sf k9 (Sf.hb hb1 (by decide)), (hd.below hw).m.sf k9 (Sf.hb hb1 (by decide))⟩
    have hb3 : HB w9 b3 #[.slice none 0 0, .slice none 0 0, .slice none 0 0] 34 := (h3.below hw).keeps k9 (by omega)
    have hw9 : Below w.heap.size w w9 := hb_below k9 (bl.trans (hw.mono bl.size)) (by omega)
    have hlj : vs.length = (cutR m.rows x).length := hv.1
    rw [hlj] at hb9
    refine hb_ldS0 hb9 rfl (hb_ldS (j := 1) hb9 rfl (hb_ldS (j := 2) hb9 rfl (ret3 hb3 fun w' k' => ⟨⟨A, c, d.A1, d.c1, d.A2, d.c2⟩, rfl, hR.st k' hb3 (by decide) (by decide) (by decide), hb_below k' hw9 (by omega)⟩)))
end Go.Proofs.Ytnfgibbkfkaonaa.Rd
