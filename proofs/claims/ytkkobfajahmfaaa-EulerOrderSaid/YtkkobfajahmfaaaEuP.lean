/- What holds of a forest of closed walks, in plain terms: an edge that comes and goes, marks. Conditions: none. -/
import Derived.Test.YtkkobfajahmfaaaEuO
namespace Go.Proofs.Ytkkobfajahmfaaa.Rd
open Go.Dn Go.RowKit
set_option linter.unusedVariables false
set_option maxRecDepth 100000
theorem insE_mem {l : List E} {e y : E} : y ∈ insE l e ↔ y = e ∨ y ∈ l := by rw [(insE_perm l e).mem_iff, List.mem_cons]
theorem insE_ids {l : List E} {e : E} {i : Int} : i ∈ (insE l e).map E.id ↔ i = e.id ∨ i ∈ l.map E.id := by rw [((insE_perm l e).map E.id).mem_iff, List.map_cons, List.mem_cons]
theorem insE_sorted {l : List E} {e : E} (h : (l.map E.id).Pairwise (· < ·)) (hx : e.id ∉ l.map E.id) : ((insE l e).map E.id).Pairwise (· < ·) := by
  induction l with
  | nil => simp [insE]
  | cons y l ih =>
    rw [List.map_cons, List.pairwise_cons] at h
    rw [insE_cons]
    split
    · rename_i hlt
      rw [List.map_cons, List.map_cons, List.pairwise_cons, List.pairwise_cons]
      exact ⟨fun z hz => by rcases List.mem_cons.1 hz with rfl | hz; exact hlt; have := h.1 z hz; omega, h⟩
    · rename_i hge
      have hne : e.id ≠ y.id := fun e => hx (by simp [e])
      rw [List.map_cons, List.pairwise_cons]
      refine ⟨fun z hz => ?_, ih h.2 fun hh => hx (List.mem_cons_of_mem _ hh)⟩
      rcases insE_ids.1 hz with rfl | hz
      · omega
      · exact h.1 z hz
theorem noE_sorted {l : List E} (i : Int) (h : (l.map E.id).Pairwise (· < ·)) : ((noE l i).map E.id).Pairwise (· < ·) := h.sublist (List.Sublist.map _ List.filter_sublist)
section
variable {rows : List (List Nat)} {V : Nat → Int × Int × Int} {n : Nat} {vl : List (Int × Nat)} {el : List (Int × (Nat × Nat))} {wl : List (Nat × (Bool × Int))} {sp : List Nat} {T : List (List Nat)} {vs : List Int} {es : List E} {kv ke : Int → Bool} {nm : Pl → Nat}
/-- a row split off the others -/
theorem FI.off (f : FI rows V n vl el wl sp T vs es kv ke nm) {l : List Nat} (hl : l ∈ T) : ∃ T0, T.Perm (l :: T0) ∧ rows.Perm (l :: (sp.map one1 ++ T0)) := by
  obtain ⟨T0, pT⟩ := mem_perm hl
  exact ⟨T0, pT, (f.fr.rw.trans (pT.append_left _)).trans List.perm_middle⟩
theorem FI.link (f : FI rows V n vl el wl sp T vs es kv ke nm) (rok : RowsOk n rows) (hpos : 0 < n) {e : E} (hb : ¬ badI e.id) (hi : e.id ∉ es.map E.id) (hu : e.u ∈ vs) (hv : e.v ∈ vs) (hne : rowOf rows (nm (.v e.u)) ≠ rowOf rows (nm (.v e.v))) {x1 x2 n1 n2 : Nat} {sp1 sp2 : List Nat} {rows1 rows2 : List (List Nat)}
    (it1 : (sp = sp1 ++ [x1] ∧ rows1 = rows ∧ n1 = n) ∨ (sp = [] ∧ sp1 = [] ∧ x1 = n ∧ rows1 = rows ++ [[x1]] ∧ n1 = n + 1)) (rok1 : RowsOk n1 rows1)
    (it2 : (sp1 = sp2 ++ [x2] ∧ rows2 = rows1 ∧ n2 = n1) ∨ (sp1 = [] ∧ sp2 = [] ∧ x2 = n1 ∧ rows2 = rows1 ++ [[x2]] ∧ n2 = n1 + 1)) :
    ∃ T0, rows2.Perm (rowOf rows (nm (.v e.u)) :: rowOf rows (nm (.v e.v)) :: [x1] :: [x2] :: (sp2.map one1 ++ T0)) ∧
      ∀ A B rows3, Rot (rowOf rows (nm (.v e.u))) (nm (.v e.u) :: A) → Rot (rowOf rows (nm (.v e.v))) (nm (.v e.v) :: B) → rows3.Perm (((nm (.v e.u) :: A) ++ x1 :: ((nm (.v e.v) :: B) ++ [x2])) :: (sp2.map one1 ++ T0)) →
        FI rows3 (fun i => if i = x2 then (0, 0, 0) else if i = x1 then (0, 0, 0) else V i) n2 vl (putK el e.id (x1, x2)) (putK (putK wl x1 (true, e.id)) x2 (true, e.id)) sp2 (((nm (.v e.u) :: A) ++ x1 :: ((nm (.v e.v) :: B) ++ [x2])) :: T0) vs (insE es e) kv (fun i => if i = e.id then false else ke i) (setN (setN nm (.t e.id) x1) (.b e.id) x2) := by
  obtain ⟨fr1, nk1, p1, l1, nn1, cnt1, cnb1, sub1⟩ := f.fr.make rok hpos it1
  obtain ⟨fr2, nk2, p2, l2, nn2, cnt2, cnb2, sub2⟩ := fr1.make rok1 (by omega) it2
  obtain ⟨mu, uu, tu⟩ := f.row rok (okV (es := es) hu)
  obtain ⟨mv, vv, tv⟩ := f.row rok (okV (es := es) hv)
  generalize hlu : rowOf rows (nm (.v e.u)) = lu at *
  generalize hlv : rowOf rows (nm (.v e.v)) = lv at *
  obtain ⟨Ta, pa⟩ := mem_perm mu
  have mv' : lv ∈ Ta := by
    have := pa.mem_iff.1 mv
    rcases List.mem_cons.1 this with h | h
    · exact absurd h.symm hne
    · exact h
  obtain ⟨T0, pb⟩ := mem_perm mv'
  have pT : T.Perm (lu :: lv :: T0) := pa.trans (pb.cons _)
  refine ⟨T0, ?_, ?_⟩
  · refine fr2.rw.trans ?_
    have h1 : ([x2] :: [x1] :: T).Perm (lu :: lv :: [x1] :: [x2] :: T0) := by
      refine ((pT.cons _).cons _).trans ?_
      have e1 : [x2] :: [x1] :: lu :: lv :: T0 = [[x2], [x1], lu, lv] ++ T0 := rfl
      have e2 : lu :: lv :: [x1] :: [x2] :: T0 = [lu, lv, [x1], [x2]] ++ T0 := rfl
      rw [e1, e2]
      refine List.Perm.append_right _ ?_
      exact (List.perm_append_comm (l₁ := [[x2], [x1]]) (l₂ := [lu, lv])).trans (((List.Perm.swap _ _ _).cons _).cons _)
    refine (h1.append_left _).trans ?_
    have e3 : ∀ (S : List (List Nat)), (S ++ lu :: lv :: [x1] :: [x2] :: T0).Perm (lu :: lv :: [x1] :: [x2] :: (S ++ T0)) := fun S => by
      have : S ++ lu :: lv :: [x1] :: [x2] :: T0 = (S ++ [lu, lv, [x1], [x2]]) ++ T0 := by simp
      rw [this]
      have := (List.perm_append_comm (l₁ := S) (l₂ := [lu, lv, [x1], [x2]])).append_right T0
      simpa using this
    exact e3 _
  intro A B rows3 rA rB p3
  have x12 : x1 ≠ x2 := fun h => nk2 (.inr h.symm)
  have nx1 : ∀ {p}, okP vs es p → nm p ≠ x1 := fun {p} hp h => nk1 ⟨p, hp, h.symm⟩
  have nx2 : ∀ {p}, okP vs es p → nm p ≠ x2 := fun {p} hp h => nk2 (.inl ⟨p, hp, h.symm⟩)
  have ok' : ∀ {q}, okP vs (insE es e) q → q = .t e.id ∨ q = .b e.id ∨ (okP vs es q ∧ q ≠ .t e.id ∧ q ≠ .b e.id) := by
    intro q hq
    cases q with
    | v i => exact .inr (.inr ⟨hq, (fun h => by cases h), fun h => by cases h⟩)
    | t i =>
      rcases insE_ids.1 hq with rfl | h
      · exact .inl rfl
      · exact .inr (.inr ⟨h, fun e => by injection e with e; exact hi (e ▸ h), fun h => by cases h⟩)
    | b i =>
      rcases insE_ids.1 hq with rfl | h
      · exact .inr (.inl rfl)
      · exact .inr (.inr ⟨h, (fun h => by cases h), fun e => by injection e with e; exact hi (e ▸ h)⟩)
  have nmT : setN (setN nm (.t e.id) x1) (.b e.id) x2 (.t e.id) = x1 := by rw [setN_ne _ (fun h => by cases h), setN_same]
  have nmB : setN (setN nm (.t e.id) x1) (.b e.id) x2 (.b e.id) = x2 := setN_same _ _ _
  have nmO : ∀ {q}, q ≠ .t e.id → q ≠ .b e.id → setN (setN nm (.t e.id) x1) (.b e.id) x2 q = nm q := fun h1 h2 => by rw [setN_ne _ h2, setN_ne _ h1]
  have nmV : ∀ i, setN (setN nm (.t e.id) x1) (.b e.id) x2 (.v i) = nm (.v i) := fun i => nmO (fun h => by cases h) (fun h => by cases h)
  generalize hnm : setN (setN nm (.t e.id) x1) (.b e.id) x2 = nm' at *
  have hT : ∀ {a : E}, a ∈ es → nm' (.t a.id) = nm (.t a.id) ∧ nm' (.b a.id) = nm (.b a.id) := fun {a} ha => by
    have : a.id ≠ e.id := fun h => hi (h ▸ List.mem_map_of_mem ha)
    exact ⟨nmO (fun h => by injection h with h; exact this h) (fun h => by cases h), nmO (fun h => by cases h) (fun h => by injection h with h; exact this h)⟩
  have N' : Nm vs (insE es e) nm' := by
    refine ⟨fun p q hp hq h => ?_, sorted_nodup (insE_sorted f.ess hi), fun a ha => ?_⟩
    · rcases ok' hp with rfl | rfl | ⟨hp, np1, np2⟩ <;> rcases ok' hq with rfl | rfl | ⟨hq, nq1, nq2⟩
      · rfl
      · rw [nmT, nmB] at h; exact absurd h x12
      · rw [nmT, nmO nq1 nq2] at h; exact absurd h.symm (nx1 hq)
      · rw [nmT, nmB] at h; exact absurd h.symm x12
      · rfl
      · rw [nmB, nmO nq1 nq2] at h; exact absurd h.symm (nx2 hq)
      · rw [nmT, nmO np1 np2] at h; exact absurd h (nx1 hp)
      · rw [nmB, nmO np1 np2] at h; exact absurd h (nx2 hp)
      · rw [nmO np1 np2, nmO nq1 nq2] at h; exact f.N.inj _ _ hp hq h
    · rcases insE_mem.1 ha with rfl | ha
      · exact ⟨hu, hv⟩
      · exact f.N.ends a ha
  have lel : (insE es e).length = es.length + 1 := by have := (insE_perm es e).length_eq; simpa using this
  have mono : ∀ {l}, Tour vs es nm l → Tour vs (insE es e) nm' l := fun h => h.mono f.N (fun u hu _ => ⟨hu, nmV u⟩) fun a ha _ => ⟨insE_mem.2 (.inr ha), hT ha⟩
  have tl := pT.length_eq
  simp only [List.length_cons] at tl
  have tc := f.tc; have cn := f.cn; have nb := f.nb; have vlen := f.vlen
  have kk : ∀ {x}, Kn vs (insE es e) nm' x → (Kn vs es nm x ∨ x = x1) ∨ x = x2 := by
    rintro x ⟨p, hp, rfl⟩
    rcases ok' hp with rfl | rfl | ⟨hp, np1, np2⟩
    · exact .inl (.inr nmT)
    · exact .inr nmB
    · rw [nmO np1 np2]; exact .inl (.inl ⟨p, hp, rfl⟩)
  refine ⟨N', f.vss, insE_sorted f.ess hi, f.vr, ?_, f.vlen, ?_, f.vln, ?_, ?_, ?_, ⟨?_, fr2.spn, fun x hx hk => fr2.spd x hx (kk hk), fun x hk => fr2.kn x (kk hk)⟩, ?_, ?_, ?_, ?_, ?_, ?_, ?_, ?_⟩
  · intro a ha
    rcases insE_mem.1 ha with rfl | ha
    · exact hb
    · exact f.er a ha
  · intro i; rw [f.lv]; simp only [nmV]
  · intro i
    rw [lk_putK]
    by_cases h : e.id = i
    · subst h; rw [if_pos rfl, if_pos (insE_ids.2 (.inl rfl)), nmT, nmB]
    · rw [if_neg h, f.le]
      by_cases hh : i ∈ es.map E.id
      · obtain ⟨a, ha, rfl⟩ := List.mem_map.1 hh
        rw [if_pos hh, if_pos (insE_ids.2 (.inr hh)), (hT ha).1, (hT ha).2]
      · rw [if_neg hh, if_neg fun hx => by rcases insE_ids.1 hx with h' | h'; exact h h'.symm; exact hh h']
  · intro p hp
    rcases ok' hp with rfl | rfl | ⟨hp, np1, np2⟩
    · rw [nmT, lk_putK, if_neg (Ne.symm x12), lk_putK, if_pos rfl]; rfl
    · rw [nmB, lk_putK, if_pos rfl]; rfl
    · rw [nmO np1 np2, lk_putK, if_neg (Ne.symm (nx2 hp)), lk_putK, if_neg (Ne.symm (nx1 hp))]; exact f.lw p hp
  · rw [lk_putK, if_neg (by omega), lk_putK, if_neg (by omega)]; exact f.lz
  · exact p3.trans List.perm_middle.symm
  · intro p hp
    rcases ok' hp with rfl | rfl | ⟨hp, np1, np2⟩
    · rw [nmT]; exact p1
    · rw [nmB]; exact p2
    · rw [nmO np1 np2]; exact f.pos p hp
  · intro l hl
    rcases List.mem_cons.1 hl with rfl | hl
    · have j1 := mono (tu.of_rot rA)
      have j2 := mono (tv.of_rot rB)
      rw [← nmV e.u] at j1
      rw [← nmV e.v] at j2
      have := Tour.link (insE_mem.2 (.inl rfl)) j1 j2
      rw [nmT, nmB, nmV, nmV] at this
      exact this
    · exact mono (f.tt l (pT.mem_iff.2 (by simp [hl])))
  · simp only [List.length_cons, lel]; omega
  · rw [lel]; omega
  · rw [lel] at *
    rcases cnb2 with h2 | ⟨h2, h3⟩
    · rcases cnb1 with h1 | ⟨h1, h4⟩
      · omega
      · rw [h1] at cnt1 sub2
        have e2 : sp2 = [] := by cases sp2 with | nil => rfl | cons a _ => exact absurd (sub2 a (by simp)) (by simp)
        rw [h1, e2] at cnt2
        simp only [List.length_nil] at cnt1 cnt2
        omega
    · rw [h2] at cnt2
      simp only [List.length_nil] at cnt2
      omega
  · intro u hu'
    rw [nmV, if_neg (nx2 (okV (es := es) hu')), if_neg (nx1 (okV (es := es) hu'))]; exact f.mkV u hu'
  · intro a ha
    rcases insE_mem.1 ha with rfl | ha
    · rw [nmT, nmB]; simp [x12, bitI]
    · have : a.id ≠ e.id := fun h => hi (h ▸ List.mem_map_of_mem ha)
      rw [(hT ha).1, (hT ha).2, if_neg (nx2 (okT ha)), if_neg (nx1 (okT ha)), if_neg (nx2 (okB ha)), if_neg (nx1 (okB ha)), if_neg this]
      exact f.mkE a ha
  · intro i
    by_cases h2 : i = x2
    · simp [h2]
    · by_cases h1 : i = x1
      · simp [h1]
      · simp only [if_neg h1, if_neg h2]; exact f.mb i
theorem FI.cut (f : FI rows V n vl el wl sp T vs es kv ke nm) (rok : RowsOk n rows) {e : E} (he : e ∈ es) :
    ∃ T0 l X Y, rows.Perm (l :: (sp.map one1 ++ T0)) ∧ nm (.t e.id) ∈ l ∧ Rot l (nm (.t e.id) :: (X ++ nm (.b e.id) :: Y)) ∧ X ≠ [] ∧ Y ≠ [] ∧
      ∀ rows3, rows3.Perm ([nm (.t e.id)] :: X :: [nm (.b e.id)] :: Y :: (sp.map one1 ++ T0)) →
        FI rows3 V n vl (delK el e.id) (delK (delK wl (nm (.t e.id))) (nm (.b e.id))) (sp ++ [nm (.t e.id)] ++ [nm (.b e.id)]) (X :: Y :: T0) vs (noE es e.id) kv ke nm := by
  obtain ⟨h1, h2, h3⟩ := f.row rok (okT he)
  obtain ⟨X, Y, rt, tX, tY, mX, mY⟩ := h3.cut f.N he h2
  obtain ⟨T0, pT, pr⟩ := f.off h1
  refine ⟨T0, _, X, Y, pr, h2, rt, tX.ne, tY.ne, fun rows3 p3 => ?_⟩
  have ht := f.N.tb he he
  have nd : (nm (.t e.id) :: (X ++ nm (.b e.id) :: Y)).Nodup := rt.perm.nodup_iff.1 (rok.nd _ (f.inT h1))
  have hdj := (rok.perm pr).dj
  rw [List.pairwise_cons] at hdj
  have dis : ∀ l ∈ T0, ∀ x, x ∈ rowOf rows (nm (.t e.id)) → x ∉ l := fun l hl x hx => hdj.1 l (by simp [hl]) x hx
  have sub : ∀ {a}, a ∈ noE es e.id → a ∈ es ∧ a.id ≠ e.id := fun h => noE_mem.1 h
  have ids' : ∀ {i}, i ∈ (noE es e.id).map E.id → i ∈ es.map E.id ∧ i ≠ e.id := fun h => by
    obtain ⟨a, ha, rfl⟩ := List.mem_map.1 h
    exact ⟨List.mem_map_of_mem (sub ha).1, (sub ha).2⟩
  have ok' : ∀ {q}, okP vs (noE es e.id) q → okP vs es q ∧ q ≠ .t e.id ∧ q ≠ .b e.id := by
    intro q hq
    cases q with
    | v i => exact ⟨hq, (fun h => by cases h), fun h => by cases h⟩
    | t i => exact ⟨(ids' hq).1, fun h => by injection h with h; exact (ids' hq).2 h, fun h => by cases h⟩
    | b i => exact ⟨(ids' hq).1, (fun h => by cases h), fun h => by injection h with h; exact (ids' hq).2 h⟩
  have nt : ∀ {q}, okP vs (noE es e.id) q → nm q ≠ nm (.t e.id) := fun hq h => (ok' hq).2.1 (f.N.inj _ _ (ok' hq).1 (okT he) h)
  have nb : ∀ {q}, okP vs (noE es e.id) q → nm q ≠ nm (.b e.id) := fun hq h => (ok' hq).2.2 (f.N.inj _ _ (ok' hq).1 (okB he) h)
  have le' : (noE es e.id).length + 1 = es.length := by
    have := congrArg List.length (noE_ids es e.id f.N.ids)
    rw [List.length_map, List.length_erase_of_mem (List.mem_map_of_mem he), List.length_map] at this
    have : 0 < es.length := List.length_pos_of_mem he
    omega
  have mono : ∀ {l}, Tour vs es nm l → nm (.t e.id) ∉ l → Tour vs (noE es e.id) nm l := fun h hn => h.mono f.N (fun u hu _ => ⟨hu, rfl⟩) fun a ha m => ⟨noE_mem.2 ⟨ha, fun h => hn (by rw [← h]; exact m)⟩, rfl, rfl⟩
  have tl := pT.length_eq
  simp only [List.length_cons] at tl
  have tc := f.tc; have cn := f.cn
  refine ⟨⟨fun p q hp hq h => f.N.inj _ _ (ok' hp).1 (ok' hq).1 h, sorted_nodup (noE_sorted _ f.ess), fun a ha => f.N.ends a (sub ha).1⟩, f.vss, noE_sorted _ f.ess, f.vr, fun a ha => f.er a (sub ha).1, f.vlen, f.lv, f.vln, ?_, ?_, ?_, ⟨?_, ?_, ?_, ?_⟩, fun p hp => f.pos p (ok' hp).1, ?_, ?_, ?_, f.nb, f.mkV, fun a ha => f.mkE a (sub ha).1, f.mb⟩
  · intro i
    rw [lk_delK]
    by_cases h : e.id = i
    · rw [if_pos h, if_neg fun hh => (ids' hh).2 h.symm]
    · rw [if_neg h, f.le]
      by_cases hh : i ∈ es.map E.id
      · obtain ⟨a, ha, rfl⟩ := List.mem_map.1 hh
        rw [if_pos hh, if_pos (List.mem_map_of_mem (noE_mem.2 ⟨ha, Ne.symm h⟩))]
      · rw [if_neg hh, if_neg fun hx => hh (ids' hx).1]
  · intro p hp
    rw [lk_delK, if_neg (Ne.symm (nb hp)), lk_delK, if_neg (Ne.symm (nt hp))]; exact f.lw p (ok' hp).1
  · rw [lk_delK]; split
    · rfl
    · rw [lk_delK]; split
      · rfl
      · exact f.lz
  · refine p3.trans ?_
    rw [List.map_append, List.map_append]
    have : ([nm (.t e.id)] :: X :: [nm (.b e.id)] :: Y :: (sp.map one1 ++ T0)).Perm ((sp.map one1 ++ [[nm (.t e.id)], [nm (.b e.id)]]) ++ X :: Y :: T0) := by
      have e1 : [nm (.t e.id)] :: X :: [nm (.b e.id)] :: Y :: (sp.map one1 ++ T0) = [[nm (.t e.id)], X, [nm (.b e.id)], Y] ++ (sp.map one1 ++ T0) := rfl
      have e2 : (sp.map one1 ++ [[nm (.t e.id)], [nm (.b e.id)]]) ++ X :: Y :: T0 = (sp.map one1 ++ [[nm (.t e.id)], [nm (.b e.id)], X, Y]) ++ T0 := by simp
      rw [e1, e2, ← List.append_assoc]
      refine List.Perm.append_right _ ?_
      refine (List.perm_append_comm).trans ?_
      exact (((List.Perm.swap _ _ _).cons _)).append_left _
    refine this.trans ?_
    have e3 : sp.map one1 ++ List.map one1 [nm (.t e.id)] ++ List.map one1 [nm (.b e.id)] ++ X :: Y :: T0 = (sp.map one1 ++ [[nm (.t e.id)], [nm (.b e.id)]]) ++ X :: Y :: T0 := by simp [one1]
    rw [e3]
  · rw [List.nodup_append, List.nodup_append]
    refine ⟨⟨f.fr.spn, by simp, fun a ha b hb h => ?_⟩, by simp, fun a ha b hb h => ?_⟩
    · simp only [List.mem_singleton] at hb
      exact f.fr.spd a ha ⟨_, okT he, h.trans hb⟩
    · simp only [List.mem_singleton] at hb
      rcases List.mem_append.1 ha with ha | ha
      · exact f.fr.spd a ha ⟨_, okB he, h.trans hb⟩
      · simp only [List.mem_singleton] at ha
        exact ht (ha.symm.trans (h.trans hb))
  · rintro x hx ⟨p, hp, rfl⟩
    rcases List.mem_append.1 hx with hx | hx
    · rcases List.mem_append.1 hx with hx | hx
      · exact f.fr.spd _ hx ⟨p, (ok' hp).1, rfl⟩
      · simp only [List.mem_singleton] at hx; exact nt hp hx
    · simp only [List.mem_singleton] at hx; exact nb hp hx
  · rintro x ⟨p, hp, rfl⟩
    exact f.fr.kn _ ⟨p, (ok' hp).1, rfl⟩
  · rw [List.nodup_cons] at nd
    intro l hl
    rcases List.mem_cons.1 hl with rfl | hl
    · exact mono tX fun h => nd.1 (by simp [h])
    rcases List.mem_cons.1 hl with rfl | hl
    · exact mono tY fun h => nd.1 (by simp [h])
    · exact mono (f.tt l (pT.mem_iff.2 (by simp [hl]))) (dis l hl _ h2)
  · simp only [List.length_cons]; omega
  · simp only [List.length_append, List.length_singleton]; omega
theorem FI.markV (f : FI rows V n vl el wl sp T vs es kv ke nm) {v : Int} (hv : v ∈ vs) (on : Bool) : FI rows (fun i => if i = nm (.v v) then (1, bitI on, 0) else V i) n vl el wl sp T vs es (fun i => if i = v then on else kv i) ke nm := by
  refine ⟨f.N, f.vss, f.ess, f.vr, f.er, f.vlen, f.lv, f.vln, f.le, f.lw, f.lz, f.fr, f.pos, f.tt, f.tc, f.cn, f.nb, fun u hu => ?_, fun e he => ?_, fun x => ?_⟩
  · by_cases h : u = v
    · subst h; simp
    · rw [if_neg fun hh => h (f.N.vv hu hv hh)]; simp only [if_neg h]; exact f.mkV u hu
  · rw [if_neg fun hh => f.N.vt hv he hh.symm, if_neg fun hh => f.N.vb hv he hh.symm]; exact f.mkE e he
  · by_cases h : x = nm (.v v)
    · simp only [if_pos h]; cases on <;> simp [bitI]
    · simp only [if_neg h]; exact f.mb x
theorem FI.markE (f : FI rows V n vl el wl sp T vs es kv ke nm) {e : E} (he : e ∈ es) (on : Bool) : FI rows (fun i => if i = nm (.t e.id) then (0, 0, bitI on) else V i) n vl el wl sp T vs es kv (fun i => if i = e.id then on else ke i) nm := by
  refine ⟨f.N, f.vss, f.ess, f.vr, f.er, f.vlen, f.lv, f.vln, f.le, f.lw, f.lz, f.fr, f.pos, f.tt, f.tc, f.cn, f.nb, fun u hu => ?_, fun a ha => ?_, fun x => ?_⟩
  · rw [if_neg (f.N.vt hu he)]; exact f.mkV u hu
  · rw [if_neg (f.N.tb he ha).symm]
    by_cases h : a.id = e.id
    · have := ids_inj f.N.ids ha he h
      subst this
      simp; exact (f.mkE a ha).2
    · rw [if_neg fun hh => h (by rw [f.N.tt ha he hh])]; simp only [if_neg h]; exact f.mkE a ha
  · by_cases h : x = nm (.t e.id)
    · simp only [if_pos h]; cases on <;> simp [bitI]
    · simp only [if_neg h]; exact f.mb x
end
end Go.Proofs.Ytkkobfajahmfaaa.Rd
