/- A forest of closed walks by its vertices and edges: Cut, Size, marks, New. Conditions: none. -/
import Derived.Test.YtkkobfajahmfaaaEuU
namespace Go.Proofs.Ytkkobfajahmfaaa.Rd
open Go.Dn Go.RowKit
set_option linter.unusedVariables false
set_option maxRecDepth 100000
/-! ### Cut -/
theorem pieces_mid {P Q : List Nat} {b : Nat} (nd : (P ++ b :: Q).Nodup) (hP : P ≠ []) : pieces b (P ++ b :: Q) = [P, b :: Q] := by
  have hb : b ∉ P := fun h => by
    rw [List.nodup_append] at nd
    exact nd.2.2 b h b (by simp) rfl
  have ix : (P ++ b :: Q).idxOf b = P.length := by
    rw [List.idxOf_append, if_neg hb, List.idxOf_cons_self]; simp
  unfold pieces
  rw [if_pos (by simp), ix, if_neg (fun h => hP (List.length_eq_zero_iff.1 h)), List.take_left' rfl, List.drop_left' rfl]
section
variable {w : World} {Fp : Nat → Prop} {F : Nat} {vs : List Int} {es : List E} {kv ke : Int → Bool}
theorem Cut_ok' (h : RepE w Fp F vs es kv ke) {i : Int} (hi : W64 i) :
    Calls Try.prog 17 #[.pointer (some ⟨F, 0, none⟩), .int .i64 i] w fun e w' => ∃ Fp', e = .returned (.int .i64 (cutC es i)) ∧ RepE w' Fp' F vs (cutEr es i) kv ke ∧ Upd Fp w w' Fp' := by
  have same : ∀ {w' c}, Below w.heap.size w w' → cutC es i = c → c ≠ 0 → ∃ Fp', Ending.returned (.int .i64 c) = .returned (.int .i64 (cutC es i)) ∧ RepE w' Fp' F vs (cutEr es i) kv ke ∧ Upd Fp w w' Fp' := by
    intro w' c g hc h0
    have e1 : cutEr es i = es := by unfold cutEr; rw [hc, if_neg h0]
    rw [e1, hc]
    exact ⟨Fp, rfl, h.below g, .below g⟩
  obtain ⟨b, rows, V, vl, el, wl, sp, T, nm, rfl, hF, hm, hf⟩ := h
  apply f_euler_Forest_Cut.ok
  unfold f_euler_Forest_Cut.wp
  refine al_new fun w1 b1 e1 s1 hb1 g1 => ?_
  refine (badId_ok (hb1.ri [i] rfl) rfl (by simp)).mono ?_
  rintro _ w2 ⟨⟨c, rfl, hc⟩, rfl⟩
  have hc' : c = true ↔ badI i := by simpa using hc
  refine ⟨c, rfl, ?_⟩
  by_cases hb : badI i
  · exact sel_t (hc'.2 hb) (same g1 (by unfold cutC; rw [if_pos hb]) (by decide))
  refine sel_f (Bool.eq_false_iff.2 fun hh => hb (hc'.1 hh)) ?_
  have m1 := hm.below g1
  refine hb_ldM (j := 2) m1.hf rfl (m1.lookE hi ⟨_, _, _, rfl, ?_⟩)
  refine al_new fun w3 b3 e3 s3 hb3 g3 => hb_st0 hb3 (by simp) fun w4 hb4 k4 => hb_st (j := 1) hb4 (by simp) fun w5 hb5 k5 => ?_
  have g35 : Below w2.heap.size w2 w5 := g3.trans ((k4.trans k5).below g3.size fun i hi e => by omega)
  have g15 := g1.trans (g35.mono g1.size)
  rw [hf.lke]
  by_cases hin : i ∈ es.map E.id
  case neg => exact sel_t (by rw [decide_eq_false hin]; rfl) (same g15 (by unfold cutC; rw [if_neg hb, if_pos hin]) (by decide))
  refine sel_f (by rw [decide_eq_true hin]; rfl) (drW_intro ?_)
  obtain ⟨e, he, rfl⟩ := List.mem_map.1 hin
  rw [hf.lke' he] at hb5
  have hb5d : HB w5.drew b3 #[.int .i64 ((nm (.t e.id) : Nat) : Int), .int .i64 ((nm (.b e.id) : Nat) : Int)] 79 := hb5
  refine hb_ldI (j := 0) hb5d rfl (hb_ldI (j := 1) hb5d rfl ?_)
  have bd : Below w5.heap.size w5 w5.drew := (Below.refl _ _).drew
  have m5 := (m1.below g35).below bd
  have rok := hm.rope.rok
  obtain ⟨T0, l, X, Y, pr, ml, rt, nX, nY, fin⟩ := hf.cut rok he
  generalize hR : sp.map one1 ++ T0 = R at *
  refine (turn_ok m5 pr ml).mono ?_
  rintro _ w6 ⟨rfl, P, r6, m6, rt6, p6, u6⟩
  have nd6 := nodup_in m6 p6
  have eP : P = X ++ nm (.b e.id) :: Y := Rot.uniq nd6 (rt6.symm.trans rt)
  subst eP
  refine ⟨rfl, hb_ldP0 m6.hf rfl ((Cut_ok m6.rope ((nm (.b e.id) : Nat) : Int)).mono ?_)⟩
  rintro _ w7 ⟨rfl, hr7, k7⟩
  obtain ⟨m7, u7⟩ := m6.ropeT hr7 k7
  have mb : nm (.b e.id) ∈ nm (.t e.id) :: (X ++ nm (.b e.id) :: Y) := by simp
  have eC : cutS b.r.n r6 ((nm (.b e.id) : Nat) : Int) = cutR r6 (nm (.b e.id)) := by
    unfold cutS
    rw [(rows_in m6 p6 mb).2.2.2]; simp
  rw [eC] at m7
  have p7 : (cutR r6 (nm (.b e.id))).Perm ((nm (.t e.id) :: X) :: (nm (.b e.id) :: Y) :: R) := by
    have := cut_perm m6.rope.rok p6 mb
    rw [← List.cons_append, pieces_mid (by rw [List.cons_append]; exact nd6) (by simp)] at this
    exact this
  refine ⟨_, rfl, (alone_ok m7 nX p7).mono ?_⟩
  rintro _ w8 ⟨rfl, r8, m8, p8, u8⟩
  have q8 : r8.Perm ((nm (.b e.id) :: Y) :: [nm (.t e.id)] :: X :: R) := p8.trans ((((List.Perm.swap _ _ _).cons _)).trans (List.Perm.swap _ _ _))
  refine ⟨rfl, (alone_ok m8 nY q8).mono ?_⟩
  rintro _ w9 ⟨rfl, r9, m9, p9, u9⟩
  have hcn := hf.cn
  have hnb := hf.nb
  have nt : nm (.t e.id) < b.r.n := hf.fr.kn _ ⟨_, okT he, rfl⟩
  have nb : nm (.b e.id) < b.r.n := hf.fr.kn _ ⟨_, okB he, rfl⟩
  refine ⟨rfl, (drop_ok m9 (by omega) (x := nm (.t e.id)) (by unfold okN; omega)).mono ?_⟩
  rintro _ wA ⟨rfl, bA, mA, FA, rA, uA⟩
  rw [← FA]
  refine ⟨rfl, (drop_ok mA (by simp; omega) (x := nm (.b e.id)) (by unfold okN; omega)).mono ?_⟩
  rintro _ wB ⟨rfl, bB, mB, FB, rB, uB⟩
  rw [← FB]
  refine ⟨rfl, hb_ldM (j := 2) mB.hf rfl (mB.ge.del KTe (x := e.id) hi fun wC gC kC => ⟨rfl, ?_⟩)⟩
  obtain ⟨mC, uC⟩ := mB.mapE gC kC
  have f9 := fin r9 (p9.trans (by
    have e1 : [nm (.b e.id)] :: Y :: [nm (.t e.id)] :: X :: R = [[nm (.b e.id)], Y] ++ ([[nm (.t e.id)], X] ++ R) := rfl
    have e2 : [nm (.t e.id)] :: X :: [nm (.b e.id)] :: Y :: R = [[nm (.t e.id)], X] ++ ([[nm (.b e.id)], Y] ++ R) := rfl
    rw [e1, e2, ← List.append_assoc, ← List.append_assoc]
    exact List.perm_append_comm.append_right _))
  have hz : cutC es e.id = 0 := by unfold cutC; rw [if_neg hb, if_neg (fun hh => hh hin)]
  have e2 : cutEr es e.id = noE es e.id := by unfold cutEr; rw [if_pos hz]
  rw [e2, hz]
  have er : bB.r = b.r := rB.trans rA
  rw [← er] at f9
  refine ⟨Fe bB, rfl, ⟨bB, _, _, _, _, _, _, _, _, rfl, fun _ => .rfl, mC, f9⟩, upd_iff hF ?_⟩
  exact (((((((Upd.below g15).trans (Upd.below bd)).trans u6).trans u7).trans u8).trans u9).trans uA).trans (uB.trans uC)
end
/-! ### Size -/
section
variable {rows : List (List Nat)} {V : Nat → Int × Int × Int} {n : Nat} {vl : List (Int × Nat)} {el : List (Int × (Nat × Nat))} {wl : List (Nat × (Bool × Int))} {sp : List Nat} {T : List (List Nat)} {vs : List Int} {es : List E} {kv ke : Int → Bool} {nm : Pl → Nat}
theorem FI.sumV (f : FI rows V n vl el wl sp T vs es kv ke nm) (rok : RowsOk n rows) {u : Int} (hu : u ∈ vs) : (sm V (rowOf rows (nm (.v u)))).1 = ((cmpV vs es u).length : Int) := by
  rw [← f.countV rok hu]
  have hb := f.row_le rok hu
  have hnb := f.nb
  have key : ∀ (l : List Nat), (∀ x ∈ l, ∃ p, okP vs es p ∧ x = nm p) → (l.map fun i => (V i).1).sum = ((l.countP fun x => !(lkW wl x).1 : Nat) : Int) := by
    intro l
    induction l with
    | nil => intro _; rfl
    | cons x l ih =>
      intro hl
      have ih := ih fun y hy => hl y (by simp [hy])
      obtain ⟨p, hp, rfl⟩ := hl x (by simp)
      rw [List.map_cons, List.sum_cons, List.countP_cons, ih, f.lkw hp]
      cases p with
      | v i => rw [f.mkV i hp]; simp [plOf]; omega
      | t i =>
        obtain ⟨e, he, rfl⟩ := List.mem_map.1 hp
        rw [(f.mkE e he).1]; simp [plOf]
      | b i =>
        obtain ⟨e, he, rfl⟩ := List.mem_map.1 hp
        rw [(f.mkE e he).2]; simp [plOf]
  have hc : (rowOf rows (nm (.v u))).countP (fun x => !(lkW wl x).1) ≤ (rowOf rows (nm (.v u))).length := List.countP_le_length
  unfold sm
  simp only
  rw [key _ fun x hx => f.place rok hu hx]
  exact w64_in (by omega)
end
structure SzI (s0 : World) (R mv : Nat) (x : Int) (X : Int × Int × Int) (c : Int) (ls : Nat → Bool) (vv : Nat → Value) (w : World) : Prop where
  g : Below s0.heap.size s0 w
  a3 : ls 3 = true → vv 3 = .pointer (some ⟨R, 0, none⟩)
  a7 : ls 7 = true → vv 7 = .map (some mv)
  a9 : ls 9 = true → vv 9 = .int .i64 x
  aA : ls 10 = true → vv 10 = .tuple #[.agg #[.int .i64 X.1, .int .i64 X.2.1, .int .i64 X.2.2], .int .i64 c]
  o : ls 15 = true → ls 14 = true
  aB : ls 14 = true → ∃ B cs, vv 14 = .pointer (some ⟨B, 0, none⟩) ∧ s0.heap.size ≤ B ∧ HB w B cs 74 ∧ cs.size = 3 ∧ (ls 15 = true → cs = #[.int .i64 X.1, .int .i64 X.2.1, .int .i64 X.2.2])
theorem FSize_ok {w : World} {Fp : Nat → Prop} {F : Nat} {vs : List Int} {es : List E} {kv ke : Int → Bool} (h : RepE w Fp F vs es kv ke) {u : Int} (hu : W64 u) :
    Calls Try.prog 29 #[.pointer (some ⟨F, 0, none⟩), .int .i64 u] w fun e w' => e = .returned (.tuple #[.int .i64 (if u ∈ vs then ((cmpV vs es u).length : Int) else 0), .int .i64 (if u ∈ vs then 0 else 51)]) ∧ Below w.heap.size w w' := by
  obtain ⟨b, rows, V, vl, el, wl, sp, T, nm, rfl, hF, hm, hf⟩ := h
  apply f_euler_Forest_Size.ok
  unfold f_euler_Forest_Size.wp
  have b1 : Below w.heap.size w w.drew := (Below.refl _ _).drew
  have m1 := hm.below b1
  generalize hX : allE b.r.n rows V ((lkV vl u : Nat) : Int) = A
  refine drW_intro ⟨f_euler_Forest_Size.h1_ok .., SzI w.drew b.r.R b.mv (lkV vl u) A.1 A.2, ⟨Below.refl _ _, by simp, by simp, by simp, by simp, by simp, by simp⟩, ?_, ?_⟩
  · refine ⟨?_, ?_, ?_, ?_, ?_, ?_, trivial⟩
    · intro _ ls vv w2 hl hI
      refine hb_ldP0 (m1.below hI.g).hf rfl ⟨hI.g, ?_, ?_, ?_, ?_, hI.o, ?_⟩
      · exact fun _ => rfl
      · exact hI.a7
      · exact hI.a9
      · exact hI.aA
      · exact hI.aB
    · intro _ ls vv w2 hl hI
      refine hb_ldM (j := 1) (m1.below hI.g).hf rfl ⟨hI.g, ?_, ?_, ?_, ?_, hI.o, ?_⟩
      · exact hI.a3
      · exact fun _ => rfl
      · exact hI.a9
      · exact hI.aA
      · exact hI.aB
    · intro _ ls vv w2 hl hI me7 h7
      have := (hI.a7 h7.1).symm.trans h7.2
      injection this with this
      subst this
      refine (m1.below hI.g).lookV hu ⟨_, rfl, hI.g, ?_, ?_, ?_, ?_, hI.o, ?_⟩
      · exact hI.a3
      · exact hI.a7
      · exact fun _ => rfl
      · exact hI.aA
      · exact hI.aB
    · intro _ ls vv w2 hl hI pe3 h3 me7 h7 xe9 h9
      have e3 := (hI.a3 h3.1).symm.trans h3.2
      injection e3 with e3
      subst e3
      have e9 := (hI.a9 h9.1).symm.trans h9.2
      injection e9 with _ e9
      subst e9
      refine (All_ok (m1.below hI.g).rope _).mono ?_
      rintro _ w3 ⟨rfl, g3⟩
      rw [hX]
      refine ⟨_, _, _, _, rfl, hI.g.trans (g3.mono hI.g.size), ?_, ?_, ?_, ?_, hI.o, ?_⟩
      · exact hI.a3
      · exact hI.a7
      · exact hI.a9
      · exact fun _ => rfl
      · intro h14
        have h14 : ls 14 = true := h14
        obtain ⟨B, cs, q1, q2, q3, q4, q5⟩ := hI.aB h14
        exact ⟨B, cs, q1, q2, q3.below g3, q4, q5⟩
    · intro _ ls vv w2 hl hI
      have h15 : ls 15 = false := by
        cases h : ls 15 with
        | false => rfl
        | true => rw [hI.o h] at hl; cases hl
      have no15 : ∀ {p : Prop}, ls 15 = true → p := fun h => by
        rw [h15] at h; cases h
      refine al_new fun w3 b3 e3 s3 hb3 g3 => ⟨hI.g.trans (g3.mono hI.g.size), ?_, ?_, ?_, ?_, fun h => no15 h, ?_⟩
      · exact hI.a3
      · exact hI.a7
      · exact hI.a9
      · exact hI.aA
      · intro _
        exact ⟨b3, _, rfl, by have := hI.g.size; omega, hb3, rfl, fun h => no15 h⟩
    · intro _ ls vv w2 hl hI pe3 h3 me7 h7 xe9 h9 y0 y1 y2 yc hA ae14 hB
      obtain ⟨B, cs, q1, q2, q3, q4, q5⟩ := hI.aB hB.1
      have eB := q1.symm.trans hB.2
      injection eB with eB
      injection eB with eB
      subst eB
      have eA := (hI.aA hA.1).symm.trans hA.2
      simp only [Value.tuple.injEq, Array.mk.injEq, List.cons.injEq, Value.agg.injEq, Value.int.injEq, true_and, and_true] at eA
      obtain ⟨⟨rfl, rfl, rfl⟩, rfl⟩ := eA
      refine hb_st0 q3 (by omega) fun w3 h3' k3 => hb_st (j := 1) h3' (by simp; omega) fun w4 h4 k4 => hb_st (j := 2) h4 (by simp; omega) fun w5 h5 k5 => ⟨hI.g.trans ?_, ?_, ?_, ?_, ?_, ?_, ?_⟩
      · exact ((k3.trans k4).trans k5).below hI.g.size fun i hi e => by omega
      · exact hI.a3
      · exact hI.a7
      · exact hI.a9
      · exact hI.aA
      · exact fun _ => hB.1
      · intro _
        refine ⟨B, _, q1, q2, h5, by simpa using q4, fun _ => ?_⟩
        obtain ⟨l⟩ := cs
        match l, q4 with
        | [_, _, _], _ => rfl
  · intro ls vv w2 hI pe3 h3 me7 h7 xe9 h9 y0 y1 y2 yc hA ae14 hB hC
    obtain ⟨B, cs, q1, q2, q3, q4, q5⟩ := hI.aB hB.1
    have eB := q1.symm.trans hB.2
    injection eB with eB
    injection eB with eB
    subst eB
    have eA := (hI.aA hA.1).symm.trans hA.2
    simp only [Value.tuple.injEq, Array.mk.injEq, List.cons.injEq, Value.agg.injEq, Value.int.injEq, true_and, and_true] at eA
    obtain ⟨⟨rfl, rfl, rfl⟩, rfl⟩ := eA
    rw [q5 hC.1] at q3
    have g := b1.trans hI.g
    by_cases hin : u ∈ vs
    · have e0 : A = (sm V (rowOf rows (nm (.v u))), 0) := by
        rw [← hX]
        unfold allE
        rw [(hf.lkv1 hin).1, hf.bd (okV (es := es) hin)]
        simp
      refine sel_f (by rw [e0]; rfl) (hb_ldI0 q3 rfl ⟨?_, g⟩)
      rw [e0, if_pos hin, if_pos hin, hf.sumV hm.rope.rok hin]
    · have e0 : A = ((0, 0, 0), 150) := by
        rw [← hX]
        unfold allE
        rw [(hf.lkv0 u).2 hin]
        simp [Bd]
      refine sel_t (by rw [e0]; rfl) ⟨?_, g⟩
      rw [if_neg hin, if_neg hin]
/-! ### marks -/
theorem bit_ok (b : Bool) (w : World) : Calls Try.prog 56 #[.bool b] w fun e w' => e = .returned (.int .i64 (bitI b)) ∧ w' = w := by
  apply f_euler_bit.ok
  unfold f_euler_bit.wp
  cases b with
  | true => exact sel_t rfl ⟨rfl, rfl⟩
  | false => exact sel_f rfl ⟨rfl, rfl⟩
theorem bitI_in (b : Bool) : In64 (bitI b) := by cases b <;> exact in64_small (by decide) (by decide)
def kvM (vs : List Int) (kv : Int → Bool) (v : Int) (on : Bool) : Int → Bool := fun i => if v ∈ vs ∧ i = v then on else kv i
def keM (es : List E) (ke : Int → Bool) (k : Int) (on : Bool) : Int → Bool := fun i => if k ∈ es.map E.id ∧ i = k then on else ke i
section
variable {w : World} {Fp : Nat → Prop} {F : Nat} {vs : List Int} {es : List E} {kv ke : Int → Bool}
theorem MarkV_ok (h : RepE w Fp F vs es kv ke) {v : Int} (hv : W64 v) (on : Bool) :
    Calls Try.prog 34 #[.pointer (some ⟨F, 0, none⟩), .int .i64 v, .bool on] w fun e w' => e = .returned (.int .i64 (if v ∈ vs then 0 else 51)) ∧ RepE w' Fp F vs es (kvM vs kv v on) ke ∧ Upd Fp w w' Fp := by
  have hR := h
  obtain ⟨b, rows, V, vl, el, wl, sp, T, nm, rfl, hF, hm, hf⟩ := h
  apply f_euler_Forest_MarkV.ok
  unfold f_euler_Forest_MarkV.wp
  refine hb_ldM (j := 1) hm.hf rfl (hm.lookV hv ⟨_, rfl, ?_⟩)
  by_cases hin : v ∈ vs
  case neg =>
    refine sel_t (by rw [(hf.lkv0 v).2 hin]; rfl) ⟨by rw [if_neg hin], ?_, .below (Below.refl _ _)⟩
    have : kvM vs kv v on = kv := by funext i; unfold kvM; simp [hin]
    rw [this]; exact hR
  rw [(hf.lkv1 hin).1]
  refine sel_f (hf.lkv1 hin).2 (drW_intro ?_)
  have bd : Below w.heap.size w w.drew := (Below.refl _ _).drew
  have m1 := hm.below bd
  refine ⟨fun w' => w' = w.drew, rfl, _, fun w' e => by subst e; exact (m1.hf.cell 0).trans rfl, (bit_ok on _).mono ?_⟩
  rintro _ w2 ⟨rfl, rfl⟩
  refine ⟨_, rfl, rfl, (Set_ok m1.rope _ 1 (bitI on) 0 ⟨in64_small (by decide) (by decide), bitI_in on, in64_small (by decide) (by decide)⟩).mono ?_⟩
  rintro _ w3 ⟨rfl, hr3, k3⟩
  obtain ⟨m3, u3⟩ := m1.ropeT hr3 k3
  have bi := hf.bd (okV (es := es) hin)
  have eV : setV b.r.n V ((nm (.v v) : Nat) : Int) (1, bitI on, 0) = fun j => if j = nm (.v v) then (1, bitI on, 0) else V j := by unfold setV; rw [bi]; simp
  rw [eV] at m3
  have ek : kvM vs kv v on = fun i => if i = v then on else kv i := by funext i; unfold kvM; simp [hin]
  refine ⟨_, rfl, by unfold cutE; rw [bi, if_pos hin]; rfl, ?_, ?_⟩
  · rw [ek]; exact ⟨b, _, _, _, _, _, _, _, _, rfl, hF, m3, hf.markV hin on⟩
  · have u := (Upd.below (F := Fe b) bd).trans u3
    exact ⟨u.kp.mono fun k _ hk => (hF k).2 hk, fun k hk => .inl hk⟩
theorem MarkE_ok (h : RepE w Fp F vs es kv ke) {i : Int} (hi : W64 i) (on : Bool) :
    Calls Try.prog 31 #[.pointer (some ⟨F, 0, none⟩), .int .i64 i, .bool on] w fun e w' => e = .returned (.int .i64 (if i ∈ es.map E.id then 0 else 152)) ∧ RepE w' Fp F vs es kv (keM es ke i on) ∧ Upd Fp w w' Fp := by
  have hR := h
  obtain ⟨b, rows, V, vl, el, wl, sp, T, nm, rfl, hF, hm, hf⟩ := h
  apply f_euler_Forest_MarkE.ok
  unfold f_euler_Forest_MarkE.wp
  refine hb_ldM (j := 2) hm.hf rfl (hm.lookE hi ⟨_, _, _, rfl, ?_⟩)
  refine al_new fun w3 b3 e3 s3 hb3 g3 => hb_st0 hb3 (by simp) fun w4 hb4 k4 => hb_st (j := 1) hb4 (by simp) fun w5 hb5 k5 => ?_
  have g35 : Below w.heap.size w w5 := g3.trans ((k4.trans k5).below g3.size fun i hi e => by omega)
  rw [hf.lke]
  by_cases hin : i ∈ es.map E.id
  case neg =>
    refine sel_t (by rw [decide_eq_false hin]; rfl) ⟨by rw [if_neg hin], ?_, .below g35⟩
    have : keM es ke i on = ke := by funext j; unfold keM; simp only [hin, false_and, if_false]
    rw [this]; exact hR.below g35
  refine sel_f (by rw [decide_eq_true hin]; rfl) (drW_intro ?_)
  obtain ⟨e, he, rfl⟩ := List.mem_map.1 hin
  rw [hf.lke' he] at hb5
  have hb5d : HB w5.drew b3 #[.int .i64 ((nm (.t e.id) : Nat) : Int), .int .i64 ((nm (.b e.id) : Nat) : Int)] 79 := hb5
  have bd : Below w5.heap.size w5 w5.drew := (Below.refl _ _).drew
  have g5 := g35.trans (bd.mono g35.size)
  have m5 := hm.below g5
  refine ⟨fun w' => w' = w5.drew, rfl, _, fun w' e => by subst e; exact (m5.hf.cell 0).trans rfl, _, fun w' e => by subst e; exact (hb5d.cell 0).trans rfl, (bit_ok on _).mono ?_⟩
  rintro _ w6 ⟨rfl, rfl⟩
  refine ⟨_, rfl, rfl, (Set_ok m5.rope _ 0 0 (bitI on) ⟨in64_small (by decide) (by decide), in64_small (by decide) (by decide), bitI_in on⟩).mono ?_⟩
  rintro _ w7 ⟨rfl, hr3, k3⟩
  obtain ⟨m3, u3⟩ := m5.ropeT hr3 k3
  have bi := hf.bd (okT he)
  have eV : setV b.r.n V ((nm (.t e.id) : Nat) : Int) (0, 0, bitI on) = fun j => if j = nm (.t e.id) then (0, 0, bitI on) else V j := by unfold setV; rw [bi]; simp
  rw [eV] at m3
  have ek : keM es ke e.id on = fun i => if i = e.id then on else ke i := by funext j; unfold keM; simp only [hin, true_and]
  refine ⟨_, rfl, by unfold cutE; rw [bi, if_pos hin]; rfl, ?_, ?_⟩
  · rw [ek]; exact ⟨b, _, _, _, _, _, _, _, _, rfl, hF, m3, hf.markE he on⟩
  · have u := (Upd.below (F := Fe b) g5).trans u3
    exact ⟨u.kp.mono fun k _ hk => (hF k).2 hk, fun k hk => .inl hk⟩
end
end Go.Proofs.Ytkkobfajahmfaaa.Rd
