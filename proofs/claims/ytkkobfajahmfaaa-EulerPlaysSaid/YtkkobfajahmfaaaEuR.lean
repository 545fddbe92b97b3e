/- A forest of closed walks by its vertices and edges: DelV, Has, Len, Verts, Edges. Conditions: none. -/
import Derived.Test.YtkkobfajahmfaaaEuT
namespace Go.Proofs.Ytkkobfajahmfaaa.Rd
open Go.Dn Go.RowKit
set_option linter.unusedVariables false
set_option maxRecDepth 100000
section
variable {w : World} {Fp : Nat → Prop} {F : Nat} {vs : List Int} {es : List E} {kv ke : Int → Bool}
theorem upd_iff {b b' : EB} {w w' : World} (hF : ∀ k, Fp k ↔ Fe b k) (u : Upd (Fe b) w w' (Fe b')) : Upd Fp w w' (Fe b') := ⟨u.kp.mono fun k _ hk => (hF k).2 hk, fun k hk => (u.fr k hk).imp (hF k).2 id⟩
theorem DelV_ok (h : RepE w Fp F vs es kv ke) {v : Int} (hv : W64 v) :
    Calls Try.prog 48 #[.pointer (some ⟨F, 0, none⟩), .int .i64 v] w fun e w' => ∃ Fp', e = .returned (.int .i64 (delVC vs es v)) ∧ RepE w' Fp' F (delVr vs es v) es kv ke ∧ Upd Fp w w' Fp' := by
  have same : ∀ {w' c}, Below w.heap.size w w' → delVC vs es v = c → c ≠ 0 → ∃ Fp', Ending.returned (.int .i64 c) = .returned (.int .i64 (delVC vs es v)) ∧ RepE w' Fp' F (delVr vs es v) es kv ke ∧ Upd Fp w w' Fp' := by
    intro w' c g hc h0
    have e1 : delVr vs es v = vs := by unfold delVr; rw [hc, if_neg h0]
    rw [e1, hc]
    exact ⟨Fp, rfl, h.below g, .below g⟩
  obtain ⟨b, rows, V, vl, el, wl, sp, T, nm, rfl, hF, hm, hf⟩ := h
  apply f_euler_Forest_DelV.ok
  unfold f_euler_Forest_DelV.wp
  refine hb_ldM (j := 1) hm.hf rfl (hm.lookV hv ⟨_, rfl, ?_⟩)
  refine al_new fun w1 b1 e1 s1 hb1 g1 => ?_
  refine (badId_ok (hb1.ri [v] rfl) rfl (by simp)).mono ?_
  rintro _ w2 ⟨⟨c, rfl, hc⟩, rfl⟩
  have hc' : c = true ↔ badI v := by simpa using hc
  refine ⟨c, rfl, ?_⟩
  by_cases hb : badI v
  · exact sel_t (hc'.2 hb) (same g1 (by unfold delVC; rw [if_pos hb]) (by decide))
  refine sel_f (Bool.eq_false_iff.2 fun hh => hb (hc'.1 hh)) ?_
  by_cases hin : v ∈ vs
  case neg =>
    exact sel_t (by rw [(hf.lkv0 v).2 hin]; rfl) (same g1 (by unfold delVC; rw [if_neg hb, if_pos hin]) (by decide))
  have hx := hf.pos _ (okV (es := es) hin)
  have hl : lkV vl v = nm (.v v) := by rw [hf.lkv, if_pos hin]
  have hn : nm (.v v) < b.r.n := hf.fr.kn _ ⟨_, okV (es := es) hin, rfl⟩
  rw [hl]
  have m1 := hm.below g1
  refine sel_f (by simp; omega) (hb_ldP0 m1.hf rfl ((Size_ok m1.rope _).mono ?_))
  rintro _ w3 ⟨rfl, g3⟩
  have hs : sizeE b.r.n rows ((nm (.v v) : Nat) : Int) = (((rowOf rows (nm (.v v))).length : Int), 0) := by
    unfold sizeE
    have : Bd b.r.n ((nm (.v v) : Nat) : Int) = false := by simp [Bd]; omega
    rw [this]; simp
  rw [hs]
  have hsz := hf.size1 hm.rope.rok hin
  have g13 := g1.trans (g3.mono g1.size)
  refine ⟨_, _, rfl, ?_⟩
  by_cases hd : 0 < deg es v
  · exact sel_t (by have := hsz.2 hd; simp; omega) (same g13 (by unfold delVC; rw [if_neg hb, if_neg (by simpa using hin), if_pos hd]) (by decide))
  refine sel_f (by have := mt hsz.1 hd; simp; omega) ?_
  have m3 := m1.below g3
  have hnb := hf.nb
  have hcn := hf.cn
  refine (drop_ok m3 (by omega) (x := nm (.v v)) (by unfold okN; omega)).mono ?_
  rintro _ w4 ⟨rfl, b', m4, eF, er, u4⟩
  refine ⟨rfl, ?_⟩
  rw [← eF]
  refine hb_ldM (j := 1) m4.hf rfl (m4.gv.del KTv (x := v) hv fun w5 g5 k5 => ⟨rfl, ?_⟩)
  obtain ⟨m5, u5⟩ := m4.mapV g5 k5
  have hd0 : deg es v = 0 := by have := deg_nn es v; omega
  have hc0 : delVC vs es v = 0 := by unfold delVC; rw [if_neg hb, if_neg (by simpa using hin), if_neg hd]
  obtain ⟨T', f5⟩ := hf.delV hm.rope.rok hm.gv.nd hin hd0
  have e1 : delVr vs es v = woI vs v := by unfold delVr; rw [if_pos hc0]
  rw [e1, hc0]
  rw [← er] at f5
  refine ⟨Fe b', rfl, ⟨b', _, _, _, _, _, _, _, _, rfl, fun _ => .rfl, m5, f5⟩, upd_iff hF (((Upd.below g13).trans u4).trans u5)⟩
theorem Has_ok' (h : RepE w Fp F vs es kv ke) {i : Int} (hi : W64 i) :
    Calls Try.prog 18 #[.pointer (some ⟨F, 0, none⟩), .int .i64 i] w fun e w' => e = .returned (.bool (decide (i ∈ es.map E.id))) ∧ Below w.heap.size w w' := by
  obtain ⟨b, rows, V, vl, el, wl, sp, T, nm, rfl, hF, hm, hf⟩ := h
  apply f_euler_Forest_Has.ok
  unfold f_euler_Forest_Has.wp
  refine hb_ldM (j := 2) hm.hf rfl (hm.lookE hi ⟨_, _, _, rfl, ?_⟩)
  refine al_new fun w1 b1 e1 s1 h1 g1 => hb_st0 h1 (by simp) fun w2 h2 k2 => hb_st (j := 1) h2 (by simp) fun w3 h3 k3 => ⟨by rw [hf.lke], ?_⟩
  exact g1.trans ((k2.trans k3).below g1.size fun i hi e => by omega)
theorem Len_ok (h : RepE w Fp F vs es kv ke) : Calls Try.prog 25 #[.pointer (some ⟨F, 0, none⟩)] w fun e w' => e = .returned (.int .i64 (vs.length : Int)) ∧ w' = w := by
  obtain ⟨b, rows, V, vl, el, wl, sp, T, nm, rfl, hF, hm, hf⟩ := h
  apply f_euler_Forest_Len.ok
  unfold f_euler_Forest_Len.wp
  exact hb_ldM (j := 1) hm.hf rfl (hm.gv.len KTv ⟨_, rfl, by rw [hf.vln], rfl⟩)
end
/-! ### what a tree has -/
theorem nodup_map_on {α β : Type} {f : α → β} : ∀ {l : List α}, l.Nodup → (∀ x ∈ l, ∀ y ∈ l, f x = f y → x = y) → (l.map f).Nodup
  | [], _, _ => by simp
  | a :: l, nd, h => by
    rw [List.nodup_cons] at nd
    rw [List.map_cons, List.nodup_cons]
    refine ⟨fun hm => ?_, nodup_map_on nd.2 fun x hx y hy => h x (by simp [hx]) y (by simp [hy])⟩
    obtain ⟨b, hb, e⟩ := List.mem_map.1 hm
    have := h b (by simp [hb]) a (by simp) e
    exact nd.1 (this ▸ hb)
open Classical in
noncomputable def cmpV (vs : List Int) (es : List E) (u : Int) : List Int := vs.filter fun v => decide (Cn es u v)
open Classical in
noncomputable def cmpE (es : List E) (u : Int) : List Int := (es.filter fun e => decide (Cn es u e.u)).map E.id
theorem cmpV_mem {vs : List Int} {es : List E} {u v : Int} : v ∈ cmpV vs es u ↔ v ∈ vs ∧ Cn es u v := by simp [cmpV]
theorem cmpE_mem {es : List E} {u i : Int} : i ∈ cmpE es u ↔ ∃ e ∈ es, e.id = i ∧ Cn es u e.u := by
  simp only [cmpE, List.mem_map, List.mem_filter, decide_eq_true_eq]
  constructor
  · rintro ⟨e, ⟨h1, h2⟩, h3⟩; exact ⟨e, h1, h3, h2⟩
  · rintro ⟨e, h1, h3, h2⟩; exact ⟨e, ⟨h1, h2⟩, h3⟩
theorem cmpV_sorted {vs : List Int} (h : vs.Pairwise (· < ·)) (es : List E) (u : Int) : (cmpV vs es u).Pairwise (· < ·) := h.filter _
theorem cmpE_sorted {es : List E} (h : (es.map E.id).Pairwise (· < ·)) (u : Int) : (cmpE es u).Pairwise (· < ·) := h.sublist (List.Sublist.map _ List.filter_sublist)
/-- what of a row is asked for -/
def sel1 (wl : List (Nat × (Bool × Int))) (edge : Bool) (l : List Nat) : List Int := (l.filter fun x => (lkW wl x).1 == edge).map fun x => (lkW wl x).2
theorem sel1_app (wl : List (Nat × (Bool × Int))) (edge : Bool) (l m : List Nat) : sel1 wl edge (l ++ m) = sel1 wl edge l ++ sel1 wl edge m := by simp [sel1]
theorem sel1_le (wl : List (Nat × (Bool × Int))) (edge : Bool) (l : List Nat) : (sel1 wl edge l).length ≤ l.length := by unfold sel1; rw [List.length_map]; exact List.length_filter_le _ _
section
variable {rows : List (List Nat)} {V : Nat → Int × Int × Int} {n : Nat} {vl : List (Int × Nat)} {el : List (Int × (Nat × Nat))} {wl : List (Nat × (Bool × Int))} {sp : List Nat} {T : List (List Nat)} {vs : List Int} {es : List E} {kv ke : Int → Bool} {nm : Pl → Nat}
/-- a row's places are known -/
theorem FI.place (f : FI rows V n vl el wl sp T vs es kv ke nm) (rok : RowsOk n rows) {u : Int} (hu : u ∈ vs) {x : Nat} (hx : x ∈ rowOf rows (nm (.v u))) : ∃ p, okP vs es p ∧ x = nm p := (f.row rok (okV (es := es) hu)).2.2.ok f.N x hx
theorem FI.selV (f : FI rows V n vl el wl sp T vs es kv ke nm) (rok : RowsOk n rows) {u : Int} (hu : u ∈ vs) (v : Int) : v ∈ sel1 wl false (rowOf rows (nm (.v u))) ↔ v ∈ cmpV vs es u := by
  rw [cmpV_mem]
  unfold sel1
  rw [List.mem_map]
  constructor
  · rintro ⟨x, hx, rfl⟩
    rw [List.mem_filter] at hx
    obtain ⟨p, hp, rfl⟩ := f.place rok hu hx.1
    rw [f.lkw hp] at hx ⊢
    cases p with
    | v i =>
      refine ⟨hp, (f.same rok hu hp).1 ?_⟩
      exact (rok.rowOf_eq (f.inT (f.row rok (okV (es := es) hu)).1) hx.1).symm
    | t i => simp [plOf] at hx
    | b i => simp [plOf] at hx
  · rintro ⟨hv, hc⟩
    have e := (f.same rok hu hv).2 hc
    refine ⟨nm (.v v), ?_, by rw [f.lkw (okV (es := es) hv)]; rfl⟩
    rw [List.mem_filter, f.lkw (okV (es := es) hv)]
    exact ⟨by rw [e]; exact (f.row rok (okV (es := es) hv)).2.1, rfl⟩
theorem FI.selE (f : FI rows V n vl el wl sp T vs es kv ke nm) (rok : RowsOk n rows) {u : Int} (hu : u ∈ vs) (i : Int) : i ∈ sel1 wl true (rowOf rows (nm (.v u))) ↔ i ∈ cmpE es u := by
  rw [cmpE_mem]
  unfold sel1
  rw [List.mem_map]
  have hrow := f.row rok (okV (es := es) hu)
  constructor
  · rintro ⟨x, hx, rfl⟩
    rw [List.mem_filter] at hx
    obtain ⟨p, hp, rfl⟩ := f.place rok hu hx.1
    rw [f.lkw hp] at hx ⊢
    cases p with
    | v i => simp [plOf] at hx
    | t i =>
      obtain ⟨e, he, rfl⟩ := List.mem_map.1 hp
      exact ⟨e, he, rfl, (f.edge rok hu he).1 hx.1⟩
    | b i =>
      obtain ⟨e, he, rfl⟩ := List.mem_map.1 hp
      exact ⟨e, he, rfl, (f.edge rok hu he).1 (hrow.2.2.closed f.N he (.inr hx.1)).1⟩
  · rintro ⟨e, he, rfl, hc⟩
    refine ⟨nm (.t e.id), ?_, by rw [f.lkw (okT he)]; rfl⟩
    rw [List.mem_filter, f.lkw (okT he)]
    exact ⟨(f.edge rok hu he).2 hc, rfl⟩
theorem FI.row_le (f : FI rows V n vl el wl sp T vs es kv ke nm) (rok : RowsOk n rows) {u : Int} (hu : u ∈ vs) : (rowOf rows (nm (.v u))).length ≤ n := by
  have h := f.inT (f.row rok (okV (es := es) hu)).1
  exact nodup_le _ _ (rok.nd _ h) fun i hi => ((rok.mem i).1 ⟨_, h, hi⟩).2
/-- as many vertices in a row as its tree has -/
theorem FI.countV (f : FI rows V n vl el wl sp T vs es kv ke nm) (rok : RowsOk n rows) {u : Int} (hu : u ∈ vs) : (rowOf rows (nm (.v u))).countP (fun x => !(lkW wl x).1) = (cmpV vs es u).length := by
  have hrow := f.row rok (okV (es := es) hu)
  have nd := rok.nd _ (f.inT hrow.1)
  have nds : (sel1 wl false (rowOf rows (nm (.v u)))).Nodup := by
    unfold sel1
    refine nodup_map_on (nd.filter _) ?_
    intro x hx y hy e
    rw [List.mem_filter] at hx hy
    obtain ⟨p, hp, rfl⟩ := f.place rok hu hx.1
    obtain ⟨q, hq, rfl⟩ := f.place rok hu hy.1
    rw [f.lkw hp] at hx e
    rw [f.lkw hq] at hy e
    cases p <;> cases q <;> simp [plOf] at hx hy e
    rw [e]
  have p := (List.perm_ext_iff_of_nodup nds (sorted_nodup (cmpV_sorted f.vss es u))).2 (f.selV rok hu)
  rw [← p.length_eq, List.countP_eq_length_filter]
  unfold sel1
  rw [List.length_map]
  congr 1
  apply List.filter_congr
  intro x _
  cases (lkW wl x).1 <;> rfl
theorem FI.lenE (f : FI rows V n vl el wl sp T vs es kv ke nm) (rok : RowsOk n rows) {u : Int} (hu : u ∈ vs) : (cmpV vs es u).length = (cmpE es u).length + 1 := by
  have hrow := f.row rok (okV (es := es) hu)
  have nd := rok.nd _ (f.inT hrow.1)
  have c1 := f.countV rok hu
  have c2 := hrow.2.2.count f.N (f := fun x => !(lkW wl x).1) (fun v hv => by rw [f.lkw (okV (es := es) hv)]; rfl) fun e he => ⟨by rw [f.lkw (okT he)]; rfl, by rw [f.lkw (okB he)]; rfl⟩
  have c3 : (rowOf rows (nm (.v u))).countP (fun x => !!(lkW wl x).1) = 2 * (cmpE es u).length := by
    rw [List.countP_eq_length_filter]
    have nd2 : ((cmpE es u).map (fun i => nm (.t i)) ++ (cmpE es u).map (fun i => nm (.b i))).Nodup := by
      have nE := sorted_nodup (cmpE_sorted f.ess u)
      rw [List.nodup_append]
      refine ⟨nodup_map_on nE fun i hi j hj e => ?_, nodup_map_on nE fun i hi j hj e => ?_, ?_⟩
      · obtain ⟨a, ha, rfl, _⟩ := cmpE_mem.1 hi
        obtain ⟨c, hc, rfl, _⟩ := cmpE_mem.1 hj
        rw [f.N.tt ha hc e]
      · obtain ⟨a, ha, rfl, _⟩ := cmpE_mem.1 hi
        obtain ⟨c, hc, rfl, _⟩ := cmpE_mem.1 hj
        rw [f.N.bb ha hc e]
      · intro x hx y hy e
        obtain ⟨i, hi, rfl⟩ := List.mem_map.1 hx
        obtain ⟨j, hj, rfl⟩ := List.mem_map.1 hy
        obtain ⟨a, ha, rfl, _⟩ := cmpE_mem.1 hi
        obtain ⟨c, hc, rfl, _⟩ := cmpE_mem.1 hj
        exact f.N.tb ha hc e
    have p := (List.perm_ext_iff_of_nodup (nd.filter (fun x => !!(lkW wl x).1)) nd2).2 fun x => by
      rw [List.mem_filter, List.mem_append, List.mem_map, List.mem_map]
      constructor
      · rintro ⟨hx, h2⟩
        obtain ⟨p, hp, rfl⟩ := f.place rok hu hx
        rw [f.lkw hp] at h2
        cases p with
        | v i => simp [plOf] at h2
        | t i =>
          obtain ⟨e, he, rfl⟩ := List.mem_map.1 hp
          exact .inl ⟨e.id, cmpE_mem.2 ⟨e, he, rfl, (f.edge rok hu he).1 hx⟩, rfl⟩
        | b i =>
          obtain ⟨e, he, rfl⟩ := List.mem_map.1 hp
          exact .inr ⟨e.id, cmpE_mem.2 ⟨e, he, rfl, (f.edge rok hu he).1 (hrow.2.2.closed f.N he (.inr hx)).1⟩, rfl⟩
      · rintro (⟨i, hi, rfl⟩ | ⟨i, hi, rfl⟩)
        · obtain ⟨e, he, rfl, hc⟩ := cmpE_mem.1 hi
          exact ⟨(f.edge rok hu he).2 hc, by rw [f.lkw (okT he)]; rfl⟩
        · obtain ⟨e, he, rfl, hc⟩ := cmpE_mem.1 hi
          exact ⟨(hrow.2.2.closed f.N he (.inl ((f.edge rok hu he).2 hc))).2.1, by rw [f.lkw (okB he)]; rfl⟩
    rw [p.length_eq, List.length_append, List.length_map, List.length_map]; omega
  omega
end
/-! ### list -/
theorem list_l0 {b : EB} {rows : List (List Nat)} {V : Nat → Int × Int × Int} {vl : List (Int × Nat)} {el : List (Int × (Nat × Nat))} {wl : List (Nat × (Bool × Int))} {sp : List Nat} {w0 : World} (h0 : EM w0 b rows V vl el wl sp) {l : List Nat} (hl : l.length ≤ 100000) (hx : ∀ x ∈ l, okN x) {An : Option Addr} {cn : Nat} (rn : RI w0 An (zs l)) (edge : Bool) {K0 : Option Addr → Nat → Nat → World → Prop}
    (hk : ∀ A c w', OwnI w' w0.heap.size TI A c (sel1 wl edge l) → Below w0.heap.size w0 w' → K0 A (sel1 wl edge l).length c w') : ∀ (m i : Nat) (w : World) (A : Option Addr) (nn c : Nat), l.length - i = m → i ≤ l.length → OwnI w w0.heap.size TI A c (sel1 wl edge (l.take i)) → nn = (sel1 wl edge (l.take i)).length → Below w0.heap.size w0 w →
    f_euler_Forest_list.l0 (m + 1) ⟨b.F, 0, none⟩ edge A nn c An l.length cn (l.length : Int) (i : Int) w K0 := by
  intro m
  induction m with
  | zero =>
    intro i w A nn c hm hi ho hnn hb
    have : i = l.length := by omega
    subst this
    rw [List.take_length] at ho hnn
    subst hnn
    unfold f_euler_Forest_list.l0
    exact sel_f (by simp) (hk A c w ho hb)
  | succ m ih =>
    intro i w A nn c hm hi ho hnn hb
    have hlt : i < l.length := by omega
    have hw : IntKind.i64.wrap ((i : Int) + 1) = ((i + 1 : Nat) : Int) := by rw [w64_in (by omega)]; omega
    obtain ⟨a, rfl, q⟩ := (rn.belw hb) i (by rw [zs_len]; exact hlt)
    have hz : (zs l)[i]'(by rw [zs_len]; exact hlt) = (l[i] : Int) := by simp [zs]
    rw [hz] at q
    have hm0 := h0.below hb
    have htk : sel1 wl edge (l.take (i + 1)) = if (lkW wl l[i]).1 == edge then sel1 wl edge (l.take i) ++ [(lkW wl l[i]).2] else sel1 wl edge (l.take i) := by
      rw [List.take_succ_eq_append_getElem hlt, sel1_app]
      cases h : (lkW wl l[i]).1 == edge <;> simp [sel1, h]
    have hlen : (sel1 wl edge (l.take i)).length ≤ l.length := Nat.le_trans (sel1_le _ _ _) (by rw [List.length_take]; omega)
    unfold f_euler_Forest_list.l0
    refine sel_t (by simpa using hlt) (optB_some rfl (req_intro (by simp; omega) (ldI_intro (by rw [Int.toNat_natCast, Nat.mul_one]; exact q) ?_)))
    refine hb_ldM (j := 3) hm0.hf rfl (hm0.lookW (hx _ (List.getElem_mem hlt)) ⟨_, _, rfl, ?_⟩)
    refine al_new fun w1 b1 e1 s1 h1 g1 => hb_st0 h1 (by simp) fun w2 h2 k2 => hb_st (j := 1) h2 (by simp) fun w3 h3 k3 => hb_ldB0 h3 rfl ?_
    have g3 : Below w.heap.size w w3 := g1.trans ((k2.trans k3).below g1.size fun i hi e => by omega)
    have hb3 := hb.trans (g3.mono hb.size)
    have o3 := ho.keeps (S := fun _ => False) (.of_below g3) fun _ _ => id
    by_cases he : ((lkW wl l[i]).1 == edge) = true
    · refine sel_t he (hb_ldI (j := 1) h3 rfl (put_in o3 hnn hb3.size (by omega) fun A4 c4 w4 o4 k4 f4 => ?_))
      rw [hw]
      refine ih (i + 1) w4 _ _ c4 (by omega) (by omega) (by rw [htk, if_pos he]; exact o4) (by rw [htk, if_pos he]) (hb3.trans (k4.below hb3.size fun k hk ⟨a', ha', hh⟩ => ?_))
      have := (o3.block a' ha').1; omega
    · refine sel_f (by simpa using he) ?_
      rw [hw]
      exact ih (i + 1) w3 A nn c (by omega) (by omega) (by rw [htk, if_neg he]; exact o3) (by rw [htk, if_neg he]; exact hnn) hb3
noncomputable def lstE (vs : List Int) (es : List E) (u : Int) (edge : Bool) : List Int := if edge = true then cmpE es u else cmpV vs es u
theorem list_ok {w : World} {Fp : Nat → Prop} {F : Nat} {vs : List Int} {es : List E} {kv ke : Int → Bool} (h : RepE w Fp F vs es kv ke) {u : Int} (hu : W64 u) (edge : Bool) :
    Calls Try.prog 36 #[.pointer (some ⟨F, 0, none⟩), .int .i64 u, .bool edge] w fun e w' => ∃ A c out, e = .returned (.tuple #[.slice A out.length c, .int .i64 (if u ∈ vs then 0 else 51)]) ∧ OwnI w' w.heap.size TI A c out ∧ out = (if u ∈ vs then lstE vs es u edge else []) ∧ Below w.heap.size w w' := by
  obtain ⟨b, rows, V, vl, el, wl, sp, T, nm, rfl, hF, hm, hf⟩ := h
  apply f_euler_Forest_list.ok
  unfold f_euler_Forest_list.wp
  have b1 : Below w.heap.size w w.drew := (Below.refl _ _).drew
  have m1 := hm.below b1
  refine drW_intro ⟨fun w' => w' = w.drew, rfl, _, fun w' e => by subst e; exact (m1.hf.cell 0).trans rfl, _, fun w' e => by subst e; exact (m1.hf.cell 1).trans rfl, ?_⟩
  refine m1.lookV hu ⟨_, rfl, rfl, (List_ok m1.rope _).mono ?_⟩
  rintro _ w2 ⟨A2, c2, rfl, o2, g2⟩
  refine ⟨_, _, _, _, rfl, ?_⟩
  by_cases hin : u ∈ vs
  case neg =>
    have e0 : lkV vl u = 0 := (hf.lkv0 u).2 hin
    have : listE b.r.n rows ((lkV vl u : Nat) : Int) = ([], 150) := by unfold listE; rw [e0]; simp [Bd]
    rw [this, if_neg hin, if_neg hin]
    exact sel_t rfl ⟨none, 0, [], rfl, OwnI.none _ _ _, rfl, b1.trans g2⟩
  have hl : lkV vl u = nm (.v u) := by rw [hf.lkv, if_pos hin]
  have hp := hf.pos _ (okV (es := es) hin)
  have hn : nm (.v u) < b.r.n := hf.fr.kn _ ⟨_, okV (es := es) hin, rfl⟩
  have hli : listE b.r.n rows ((lkV vl u : Nat) : Int) = (rowOf rows (nm (.v u)), 0) := by
    unfold listE
    rw [hl]
    have : Bd b.r.n ((nm (.v u) : Nat) : Int) = false := by simp [Bd]; omega
    rw [this]; simp
  rw [hli] at o2 ⊢
  rw [if_pos hin, if_pos hin]
  have rok := hm.rope.rok
  have hrl := hf.row_le rok hin
  have hnb := hf.nb
  have m2 := m1.below g2
  have hxs : ∀ x ∈ rowOf rows (nm (.v u)), okN x := fun x hx => by
    have := ((rok.mem x).1 ⟨_, hf.inT (hf.row rok (okV (es := es) hin)).1, hx⟩).2
    unfold okN; omega
  refine sel_f rfl ⟨(rowOf rows (nm (.v u))).length + 1, list_l0 m2 (by omega) hxs o2.reads edge (fun A c w3 o3 g3 => ?_) _ 0 w2 none 0 0 (by omega) (by omega) (by simpa [sel1] using OwnI.none _ _ _) (by simp [sel1]) (Below.refl _ _)⟩
  intro _
  have sl := sel1_le wl edge (rowOf rows (nm (.v u)))
  refine (Sort_ok o3 rfl (by omega)).mono ?_
  rintro _ w4 ⟨rfl, o4, k4⟩
  have sl4 : (srt (sel1 wl edge (rowOf rows (nm (.v u))))).length = (sel1 wl edge (rowOf rows (nm (.v u)))).length := (srt_perm _).length_eq
  refine ⟨rfl, (Compact_ok o4 sl4.symm (by omega)).mono ?_⟩
  rintro _ w5 ⟨rfl, o5, k5⟩
  have h02 : w.heap.size ≤ w2.heap.size := by have := g2.size; have := b1.size; omega
  have bb : ∀ {k}, k < w2.heap.size → ¬ Ob A k := fun hk ⟨a, ha, e⟩ => by have := (o3.block a ha).1; omega
  have g5 : Below w2.heap.size w2 w5 := g3.trans ((k4.trans k5).below g3.size fun k hk hh => bb hk hh)
  refine ⟨_, _, _, rfl, A, c, _, rfl, o5.mono h02, ?_, (b1.trans g2).trans (g5.mono h02)⟩
  obtain ⟨c1, c2⟩ := cmp_sorted (srt_sorted (sel1 wl edge (rowOf rows (nm (.v u)))))
  cases edge with
  | true =>
    exact sorted_ext c1 (cmpE_sorted hf.ess u) fun x => by rw [c2, (srt_perm _).mem_iff]; exact hf.selE rok hin x
  | false =>
    exact sorted_ext c1 (cmpV_sorted hf.vss es u) fun x => by rw [c2, (srt_perm _).mem_iff]; exact hf.selV rok hin x
theorem Verts_ok' {w : World} {Fp : Nat → Prop} {F : Nat} {vs : List Int} {es : List E} {kv ke : Int → Bool} (h : RepE w Fp F vs es kv ke) {u : Int} (hu : W64 u) :
    Calls Try.prog 10 #[.pointer (some ⟨F, 0, none⟩), .int .i64 u] w fun e w' => ∃ A c out, e = .returned (.tuple #[.slice A out.length c, .int .i64 (if u ∈ vs then 0 else 51)]) ∧ OwnI w' w.heap.size TI A c out ∧ out = (if u ∈ vs then cmpV vs es u else []) ∧ Below w.heap.size w w' := by
  apply f_euler_Forest_Verts.ok
  unfold f_euler_Forest_Verts.wp
  refine (list_ok h hu false).mono ?_
  rintro _ w2 ⟨A, c, out, rfl, o, e, g⟩
  exact ⟨_, _, _, _, rfl, A, c, out, rfl, o, by rw [e]; unfold lstE; simp, g⟩
theorem Edges_ok' {w : World} {Fp : Nat → Prop} {F : Nat} {vs : List Int} {es : List E} {kv ke : Int → Bool} (h : RepE w Fp F vs es kv ke) {u : Int} (hu : W64 u) :
    Calls Try.prog 11 #[.pointer (some ⟨F, 0, none⟩), .int .i64 u] w fun e w' => ∃ A c out, e = .returned (.tuple #[.slice A out.length c, .int .i64 (if u ∈ vs then 0 else 51)]) ∧ OwnI w' w.heap.size TI A c out ∧ out = (if u ∈ vs then cmpE es u else []) ∧ Below w.heap.size w w' := by
  apply f_euler_Forest_Edges.ok
  unfold f_euler_Forest_Edges.wp
  refine (list_ok h hu true).mono ?_
  rintro _ w2 ⟨A, c, out, rfl, o, e, g⟩
  exact ⟨_, _, _, _, rfl, A, c, out, rfl, o, by rw [e]; unfold lstE; simp, g⟩
end Go.Proofs.Ytkkobfajahmfaaa.Rd
