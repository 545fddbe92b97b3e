/- EulerOrder, walked. Conditions: none. -/
import Derived.Test.YtkkobfajahmfaaaEwC
import Derived.Test.YtkkobfajahmfaaaRdL4
namespace Go.Proofs.Ytkkobfajahmfaaa.Rd
open Go.Dn Go.RowKit
set_option linter.unusedVariables false
set_option linter.unusedSimpArgs false
set_option maxRecDepth 100000
/-! ### no ways round -/
def Ac (es : List E) : Prop := ∀ e ∈ es, ¬ Cn (noE es e.id) e.u e.v
theorem cn_of {L L' : List E} (h : ∀ e ∈ L, Cn L' e.u e.v) {x y : Int} (c : Cn L x y) : Cn L' x y := by
  obtain ⟨p, c⟩ := c
  induction c with
  | nil => exact Cn.refl _ _
  | cons he hm h0 ih =>
    rename_i e m v p
    refine Cn.trans ?_ ih
    unfold oth
    split
    · rename_i h1; rw [← h1]; exact h e he
    · rename_i h1; rw [← hm.resolve_left h1]; exact (h e he).symm
theorem cn_sub {L L' : List E} (h : ∀ e ∈ L, e ∈ L') {x y : Int} (c : Cn L x y) : Cn L' x y := c.mono h
theorem ac_ins {es : List E} {e : E} (h : Ac es) (hid : e.id ∉ es.map E.id) (hc : ¬ Cn es e.u e.v) : Ac (insE es e) := by
  intro a ha c
  rcases insE_mem.1 ha with rfl | ha
  · rw [noE_insE hid] at c; exact hc c
  · have c2 : Cn (insE (noE es a.id) e) a.u a.v := cn_sub (fun b hb => by
      obtain ⟨hb, hn⟩ := noE_mem.1 hb
      rcases insE_mem.1 hb with rfl | hb
      · exact insE_mem.2 (.inl rfl)
      · exact insE_mem.2 (.inr (noE_mem.2 ⟨hb, hn⟩))) c
    have up : ∀ {x y}, Cn (noE es a.id) x y → Cn es x y := cn_sub fun b hb => (noE_mem.1 hb).1
    have ea : Cn es a.u a.v := Cn.edge ha
    rcases cn_insE.1 c2 with c | ⟨c1, c2⟩ | ⟨c1, c2⟩
    · exact h a ha c
    · exact hc (((up c1).symm.trans ea).trans (up c2).symm)
    · exact hc (((up c2).trans ea.symm).trans (up c1))
theorem ac_cut {es : List E} (i : Int) (h : Ac es) : Ac (noE es i) := by
  intro a ha c
  refine h a (noE_mem.1 ha).1 (cn_sub (fun b hb => ?_) c)
  obtain ⟨hb, hn⟩ := noE_mem.1 hb
  exact noE_mem.2 ⟨(noE_mem.1 hb).1, hn⟩
theorem nstp_ac {n : Nt} (h : Ac n.2) (o : EO) : Ac (nstp n o).2 := by
  unfold nstp
  split
  · exact h
  · split
    · exact h
    · split
      · show Ac (linkEr n.1 n.2 o.e (jb n o))
        unfold linkEr
        split
        · rename_i e0
          obtain ⟨_, _, _, _, _, hid, _, _, hj⟩ := linkC_zero e0
          refine ac_ins h hid fun c => ?_
          unfold jb at hj
          simp only [decide_eq_false_iff_not] at hj
          exact hj c
        · exact h
      · split
        · show Ac (cutEr n.2 o.id)
          unfold cutEr
          split
          · exact ac_cut _ h
          · exact h
        · exact h
theorem run_ac (l : List EO) : Ac (run l).2 := by
  have key : ∀ (l : List EO) (n : Nt), Ac n.2 → Ac (l.foldl nstp n).2 := by
    intro l
    induction l with
    | nil => intro n h; exact h
    | cons o l ih => intro n h; exact ih _ (nstp_ac h o)
  exact key l ([], []) (fun e he => by cases he)
/-! ### ends changed over -/
def swE (e : E) : E := ⟨e.id, e.v, e.u, 0⟩
theorem sw_ids (L : List E) : (L.map swE).map E.id = L.map E.id := by rw [List.map_map]; rfl
theorem cn_sw {L : List E} {x y : Int} : Cn (L.map swE) x y ↔ Cn L x y := by
  constructor
  · refine cn_of fun e he => ?_
    obtain ⟨a, ha, rfl⟩ := List.mem_map.1 he
    exact (Cn.edge ha).symm
  · exact cn_of fun e he => (Cn.edge (e := swE e) (List.mem_map_of_mem he)).symm
theorem vO_sw {vs : List Int} {L : List E} (u : Int) : vO vs (L.map swE) u = vO vs L u := by
  unfold vO
  split
  · unfold cmpV
    refine List.filter_congr fun x _ => ?_
    simp [cn_sw]
  · rfl
theorem eO_sw {vs : List Int} {L : List E} (u : Int) : eO vs (L.map swE) u = eO vs L u := by
  unfold eO
  split
  · unfold cmpE
    have key : ∀ (M : List E), (∀ e ∈ M, e ∈ L) → ((M.map swE).filter fun e => @decide (Cn (L.map swE) u e.u) (Classical.propDecidable _)).map E.id = (M.filter fun e => @decide (Cn L u e.u) (Classical.propDecidable _)).map E.id := by
      intro M
      induction M with
      | nil => intro _; rfl
      | cons e M ih =>
        intro hM
        have ih := ih fun a ha => hM a (by simp [ha])
        have he : Cn L e.u e.v := Cn.edge (hM e (by simp))
        have iff : Cn (L.map swE) u (swE e).u ↔ Cn L u e.u := by rw [cn_sw]; exact ⟨fun h => h.trans he.symm, fun h => h.trans he⟩
        rw [List.map_cons]
        by_cases hc : Cn L u e.u
        · rw [List.filter_cons_of_pos (by simpa using iff.2 hc), List.filter_cons_of_pos (by simpa using hc), List.map_cons, List.map_cons, ih]; rfl
        · rw [List.filter_cons_of_neg (by simpa using fun h => hc (iff.1 h)), List.filter_cons_of_neg (by simpa using hc), ih]
    exact key L fun e h => h
  · rfl
theorem wiI_first : ∀ {l : List Int} {v : Int}, (∀ x ∈ l, v < x) → wiI l v = v :: l
  | [], _, _ => rfl
  | y :: l, v, h => by rw [wiI_cons, if_pos (h y (by simp))]
theorem insE_first : ∀ {l : List E} {e : E}, (∀ x ∈ l, e.id < x.id) → insE l e = e :: l
  | [], _, _ => rfl
  | y :: l, e, h => by rw [insE_cons, if_pos (h y (by simp))]
/-- a vertex less than all -/
theorem addV_first {vs : List Int} {i : Nat} (hi : i < vs.length) (hs : vs.Pairwise (· < ·)) (hb : ∀ v ∈ vs, ¬ badI v) (hl : vs.length ≤ 2048) : addVC (vs.drop (i + 1)) vs[i] = 0 ∧ addVr (vs.drop (i + 1)) vs[i] = vs.drop i := by
  have hd : vs.drop i = vs[i] :: vs.drop (i + 1) := List.drop_eq_getElem_cons hi
  have hp : (vs[i] :: vs.drop (i + 1)).Pairwise (· < ·) := by rw [← hd]; exact hs.drop
  rw [List.pairwise_cons] at hp
  have e0 : addVC (vs.drop (i + 1)) vs[i] = 0 := by
    unfold addVC
    rw [if_neg (hb _ (List.getElem_mem hi)), if_neg (fun h => by have := hp.1 _ h; omega), if_neg (by rw [List.length_drop]; omega)]
  exact ⟨e0, by unfold addVr; rw [if_pos e0, wiI_first hp.1, hd]⟩
theorem link_first {vs : List Int} {es : List E} (g : GE vs es) (ac : Ac es) {i : Nat} (hi : i < es.length) {j : Bool} (hj : jC vs ((es.drop (i + 1)).map swE) (swE es[i]).u (swE es[i]).v j) : linkC vs ((es.drop (i + 1)).map swE) (swE es[i]) j = 0 ∧ linkEr vs ((es.drop (i + 1)).map swE) (swE es[i]) j = (es.drop i).map swE := by
  have hd : es.drop i = es[i] :: es.drop (i + 1) := List.drop_eq_getElem_cons hi
  have hm : es[i] ∈ es := List.getElem_mem hi
  have hp : ((es[i] :: es.drop (i + 1)).map E.id).Pairwise (· < ·) := by rw [← hd, List.map_drop]; exact g.ess.drop
  rw [List.map_cons, List.pairwise_cons] at hp
  have hlt : ∀ x ∈ es.drop (i + 1), es[i].id < x.id := fun x hx => hp.1 _ (List.mem_map_of_mem hx)
  obtain ⟨hu, hv⟩ := g.ends _ hm
  have jf : j = false := by
    cases j with
    | false => rfl
    | true =>
      have c := (hj hv hu).1 rfl
      exact absurd (cn_sub (fun b hb => noE_mem.2 ⟨List.mem_of_mem_drop hb, fun e => by have := hlt b hb; omega⟩) (cn_sw.1 c).symm) (ac _ hm)
  have e0 : linkC vs ((es.drop (i + 1)).map swE) (swE es[i]) j = 0 := by
    unfold linkC
    rw [if_neg (by
      rintro (h | h | h)
      · exact g.er _ hm h
      · exact g.vr _ hv h
      · exact g.vr _ hu h), if_neg (show ¬ ((swE es[i]).w < 0 ∨ 1099511627776 < (swE es[i]).w) from (show ¬ ((0 : Int) < 0 ∨ (1099511627776 : Int) < 0) by decide)), if_neg (fun h => by
        rw [sw_ids] at h
        obtain ⟨x, hx, e⟩ := List.mem_map.1 h
        have := hlt x hx
        have e : x.id = es[i].id := e
        omega), if_neg (fun h => h ⟨hv, hu⟩), jf, if_neg (by decide)]
  refine ⟨e0, ?_⟩
  unfold linkEr
  rw [if_pos e0, insE_first (fun x hx => ?_), hd]
  · rfl
  · obtain ⟨a, ha, rfl⟩ := List.mem_map.1 hx
    exact hlt a ha
end Go.Proofs.Ytkkobfajahmfaaa.Rd
