/- What a row tells of references and of calls that bear some. Conditions: none. -/
import Derived.Test.YtbfcjnbjhpfdfaaMvP
import Derived.ChangeArms
import Derived.DataReads
import Derived.SizedLaws
namespace Go.Dn
open Go.RowKit
set_option linter.unusedVariables false
/-- a slice of pairs of a bool and an int -/
def rfSlice (P : Program) (t : TypeId) : Bool := match P.underlying t with
  | some (.slice r) => biStruct P r && Nat.beq (P.bytesOf r) 16
  | _ => false
/-- a slice of calls: a kind, a number, references -/
def opSlice (P : Program) (t : TypeId) : Bool := match P.underlying t with
  | some (.slice e) => (match P.underlying e with
    | some (.struct ⟨[f0, f1, f2]⟩) => Nat.beq f0.offset 0 && Nat.beq f1.offset 1 && Nat.beq f2.offset 2 && (match P.underlying f0.type with | some (.int .i64) => true | _ => false) && (match P.underlying f1.type with | some (.int .i64) => true | _ => false) && rfSlice P f2.type &&
        Nat.beq (P.cellsOf f0.type) 1 && Nat.beq (P.cellsOf f1.type) 1 && Nat.beq (P.cellsOf f2.type) 1 && Nat.beq (P.cellsOf e) 3 && Nat.beq (P.bytesOf e) 40
    | _ => false)
  | _ => false
def DRf {H : Type} (d : DataW H) (n : Nat) : Prop := (d = .nil ∧ n = 0) ∨ ∃ el rs, d = .slice el rs ∧ el.length = n
def DMop {H : Type} (d : DataW H) (ops : List MOp) : Prop := (d = .nil ∧ ops = []) ∨ ∃ (el rs : List (DataW H)), d = .slice el rs ∧ el.length = ops.length ∧ ∀ i (hi : i < ops.length), ∃ d0 d1 d2, el[i]? = some (.agg [d0, d1, d2]) ∧ DRf d2 ops[i].refs.length
section
variable {H : Type} {enc : TypeId × Value → H} {P : Program} {w : World} {base : Nat} {spare : Nat → Bool} {held : Bool} {fuel : Nat} {t : TypeId}
theorem one_of {n : Nat} {t : TypeId} {cs : List Value} {j : Nat} {x : DataW H × List MemPlace} (hj : j < cs.length) (h : DataW.trod enc P w base spare held n t ((cs.drop j).take 1) = some x) : DataW.trod enc P w base spare held n t [cs[j]] = some x := by
  rw [List.drop_eq_getElem_cons hj, List.take_succ_cons, List.take_zero] at h
  exact h
theorem rfs_cells {r : TypeId} (hb : biStruct P r = true) {n : Nat} {cs : List Value} {x : DataW H × List MemPlace} (h : DataW.trod enc P w base spare held n r cs = some x) : ∃ (b : Bool) (i : Int), cs = [.bool b, .int .i64 i] ∧ W64 i := by
  unfold biStruct at hb
  split at hb
  · rename_i f1 f2 hu
    simp only [Bool.and_eq_true] at hb
    obtain ⟨⟨⟨⟨⟨⟨⟨⟨⟨⟨h1, h2⟩, h3⟩, h4⟩, h5⟩, h6⟩, h7⟩, h8⟩, h9⟩, h10⟩, h11⟩ := hb
    have h3 := Nat.eq_of_beq_eq_true h3
    have h4 := Nat.eq_of_beq_eq_true h4
    have h7 := Nat.eq_of_beq_eq_true h7
    have h8 := Nat.eq_of_beq_eq_true h8
    have h9 := Nat.eq_of_beq_eq_true h9
    have h5 : P.underlying f1.type = some .bool := by split at h5 <;> first | assumption | cases h5
    have h6 : P.underlying f2.type = some (.int .i64) := by split at h6 <;> first | assumption | cases h6
    obtain ⟨xs, m, _, _, hl, hxl, hf⟩ := DataW.trod_struct hu h
    rw [h9] at hl
    have hx2 : xs.length = 2 := hxl
    obtain ⟨u, v, rfl⟩ : ∃ u v, cs = [u, v] := by match cs, hl with | [u, v], _ => exact ⟨_, _, rfl⟩
    have a1 := hf 0 f1 rfl
    have a2 := hf 1 f2 rfl
    rw [h3, h7, List.getElem?_eq_getElem (by omega)] at a1
    rw [h4, h8, List.getElem?_eq_getElem (by omega)] at a2
    obtain ⟨b, e1, _⟩ := DataW.trod_bool h5 (one_of (by omega) a1)
    obtain ⟨i, e2, _, wf⟩ := DataW.trod_int h6 (one_of (by omega) a2)
    injection e1 with e1
    injection e2 with e2
    have e1 : u = _ := e1
    have e2 : v = _ := e2
    subst e1; subst e2
    refine ⟨b, i, rfl, ?_⟩
    simp [Lit.wf, IntKind.min, IntKind.max, IntKind.signed, IntKind.bits] at wf
    unfold W64; omega
  · cases hb
theorem open_rfs (hb : rfSlice P t = true) {A : Option Addr} {len cap : Nat} {x : DataW H × List MemPlace} (h : DataW.trod enc P w base spare held fuel t [.slice A len cap] = some x) :
    ∃ refs : List Rf, refs.length = len ∧ RR w A refs ∧ (∀ r ∈ refs, W64 r.2) ∧ (A = none → cap = 0 ∧ refs.length = 0) ∧ (refs ≠ [] → ∀ a, A = some a → a.block < w.heap.size) ∧ DRf x.1 refs.length ∧ ((∀ v ∈ x.1.weights P t, v ≤ reachBytes) → refs.length * 16 ≤ 140737488351232) := by
  unfold rfSlice at hb
  split at hb
  · rename_i r ht
    simp only [Bool.and_eq_true] at hb
    have hby := Nat.eq_of_beq_eq_true hb.2
    have hc2 : P.cellsOf r = 2 := by
      have hb1 := hb.1
      unfold biStruct at hb1
      split at hb1
      · simp only [Bool.and_eq_true] at hb1
        obtain ⟨⟨⟨⟨⟨⟨⟨⟨⟨⟨h1, h2⟩, h3⟩, h4⟩, h5⟩, h6⟩, h7⟩, h8⟩, h9⟩, h10⟩, h11⟩ := hb1
        exact Nat.eq_of_beq_eq_true h9
      · cases hb1
    rcases DataW.trod_slice ht h with ⟨h0, hx⟩ | ⟨a, len', cap', elems, rest, n, _, h1, hx, hbs, hl, hm, hlen, hel, hsp, hns⟩
    · injection h0 with h0; injection h0 with h0 h1 h2; subst h0; subst h1; subst h2
      refine ⟨[], rfl, RR.nil _ _, by simp, fun _ => ⟨rfl, rfl⟩, by simp, .inl ⟨by rw [hx], rfl⟩, by simp⟩
    · injection h1 with h1; injection h1 with h0 h1 h2; subst h0; subst h1; subst h2
      have key : ∀ i, i < len → ∃ (b : Bool) (z : Int), w.cell? (a.add (i * 2)) = some (.bool b) ∧ w.cell? ((a.add (i * 2)).add 1) = some (.int .i64 z) ∧ W64 z := by
        intro i hi
        have h2 := hel i hi
        rw [List.getElem?_eq_getElem (by omega), Option.bind_eq_some_iff] at h2
        obtain ⟨cs, hcs, hy⟩ := h2
        obtain ⟨b, z, rfl, hz⟩ := rfs_cells hb.1 hy
        obtain ⟨_, hl3, hcell⟩ := World.cells?_some hcs
        rw [hc2] at hcell
        exact ⟨b, z, hcell 0 (by omega), hcell 1 (by omega), hz⟩
      refine ⟨(List.range len).map fun i => if h : i < len then (Classical.choose (key i h), Classical.choose (Classical.choose_spec (key i h))) else (false, 0), by simp, ?_, ?_, (fun e => by cases e), ?_, .inr ⟨_, _, by rw [hx], by simp [hlen]⟩, ?_⟩
      · intro i hi
        have hi' : i < len := by simpa using hi
        have := Classical.choose_spec (Classical.choose_spec (key i hi'))
        refine ⟨a, rfl, ?_, ?_⟩
        · simpa [hi'] using this.1
        · simpa [hi'] using this.2.1
      · intro r hr
        obtain ⟨i, hi, rfl⟩ := List.mem_map.1 hr
        have hi' : i < len := List.mem_range.1 hi
        have := Classical.choose_spec (Classical.choose_spec (key i hi'))
        simpa [hi'] using this.2.2
      · intro hne a' ha
        injection ha with ha; subst ha
        have h0 : 0 < len := by
          rcases Nat.eq_zero_or_pos len with e | e
          · subst e; exact absurd rfl hne
          · exact e
        obtain ⟨b, z, h1, _⟩ := key 0 h0
        have := World.block_lt_of_cell? w _ h1
        rw [add_block] at this; exact this
      · intro hw
        rw [hx] at hw
        have := hw ((elems.map (·.1)).length * 16 + (rest.map (·.1)).length * 16) (by
          simp only [DataW.weights, ht, hby]
          rw [← Nat.add_mul]; exact List.mem_cons_self)
        unfold reachBytes at this
        simp only [List.length_map] at this
        simp only [List.length_map, List.length_range]
        omega
  · cases hb
theorem wt_elems {e : TypeId} {d : DataW H} {v : Nat} : ∀ {l : List (DataW H)}, d ∈ l → v ∈ d.weights P e → v ∈ DataW.weightsAll P e l
  | [], h, _ => by cases h
  | y :: l, h, hv => by
    unfold DataW.weightsAll
    rcases List.mem_cons.1 h with rfl | h
    · exact List.mem_append_left _ hv
    · exact List.mem_append_right _ (wt_elems h hv)
theorem open_mops (hb : opSlice P t = true) {A : Option Addr} {len cap : Nat} {x : DataW H × List MemPlace} (h : DataW.trod enc P w base spare held fuel t [.slice A len cap] = some x) (hcap : ((∀ v ∈ x.1.weights P t, v ≤ reachBytes) ∨ ∀ ops : List MOp, DMop x.1 ops → ∀ o ∈ ops, o.refs.length * 16 ≤ 140737488355328)) :
    ∃ ops : List MOp, ops.length = len ∧ ROps w A ops ∧ DMop x.1 ops ∧ ((∀ v ∈ x.1.weights P t, v ≤ reachBytes) → ops.length ≤ 17592186044416) := by
  unfold opSlice at hb
  split at hb
  · rename_i e ht
    split at hb
    · rename_i f0 f1 f2 hu
      simp only [Bool.and_eq_true] at hb
      obtain ⟨⟨⟨⟨⟨⟨⟨⟨⟨⟨o0, o1⟩, o2⟩, u0⟩, u1⟩, u2⟩, c0⟩, c1⟩, c2⟩, ce⟩, be⟩ := hb
      have o0 := Nat.eq_of_beq_eq_true o0
      have o1 := Nat.eq_of_beq_eq_true o1
      have o2 := Nat.eq_of_beq_eq_true o2
      have c0 := Nat.eq_of_beq_eq_true c0
      have c1 := Nat.eq_of_beq_eq_true c1
      have c2 := Nat.eq_of_beq_eq_true c2
      have ce := Nat.eq_of_beq_eq_true ce
      have be := Nat.eq_of_beq_eq_true be
      have u0 : P.underlying f0.type = some (.int .i64) := by split at u0 <;> first | assumption | cases u0
      have u1 : P.underlying f1.type = some (.int .i64) := by split at u1 <;> first | assumption | cases u1
      rcases DataW.trod_slice ht h with ⟨h0, hx⟩ | ⟨a, len', cap', elems, rest, n, _, h1, hx, hbs, hl, hm, hlen, hel, hsp, hns⟩
      · injection h0 with h0; injection h0 with h0 h1 h2; subst h0; subst h1; subst h2
        exact ⟨[], rfl, ⟨RowE.nil _ _ _ _, by simp, by simp⟩, .inl ⟨by rw [hx], rfl⟩, by simp⟩
      · injection h1 with h1; injection h1 with h0 h1 h2; subst h0; subst h1; subst h2
        have key : ∀ i, i < len → ∃ o : MOp, (∀ j, j < 3 → w.cell? ((a.add (i * 3)).add j) = (opE o)[j]?) ∧ RR w o.A o.refs ∧ (o.refs ≠ [] → ∀ a, o.A = some a → a.block < w.heap.size) ∧ (o.A = none → o.c = 0 ∧ o.refs.length = 0) ∧ W64 o.kind ∧ W64 o.n ∧ (∀ r ∈ o.refs, W64 r.2) ∧
            (∃ d0 d1 d2, (elems.map (·.1))[i]? = some (.agg [d0, d1, d2]) ∧ DRf d2 o.refs.length ∧ ((∀ v ∈ d2.weights P f2.type, v ≤ reachBytes) → o.refs.length * 16 ≤ 140737488351232)) := by
          intro i hi
          have h2 := hel i hi
          rw [List.getElem?_eq_getElem (by omega), Option.bind_eq_some_iff] at h2
          obtain ⟨cs, hcs, hy⟩ := h2
          obtain ⟨xs, m, _, hya, hl2, hxl, hf⟩ := DataW.trod_struct hu hy
          rw [ce] at hl2
          have hx3 : xs.length = 3 := hxl
          obtain ⟨q0, q1, q2, rfl⟩ : ∃ u v z, cs = [u, v, z] := by match cs, hl2 with | [u, v, z], _ => exact ⟨_, _, _, rfl⟩
          obtain ⟨y0, y1, y2, rfl⟩ : ∃ u v z, xs = [u, v, z] := by match xs, hx3 with | [u, v, z], _ => exact ⟨_, _, _, rfl⟩
          have a0 := hf 0 f0 rfl
          have a1 := hf 1 f1 rfl
          have a2 := hf 2 f2 rfl
          rw [o0, c0, List.getElem?_eq_getElem (by omega)] at a0
          rw [o1, c1, List.getElem?_eq_getElem (by omega)] at a1
          rw [o2, c2, List.getElem?_eq_getElem (by omega)] at a2
          obtain ⟨z0, e0, _, wf0⟩ := DataW.trod_int u0 (one_of (by omega) a0)
          obtain ⟨z1, e1, _, wf1⟩ := DataW.trod_int u1 (one_of (by omega) a1)
          have a2' := one_of (j := 2) (by omega) a2
          obtain ⟨A2, len2, cap2, e2⟩ : ∃ A2 len2 cap2, q2 = .slice A2 len2 cap2 := by
            have hb2 := u2
            unfold rfSlice at hb2
            split at hb2
            · rename_i r hr
              rcases DataW.trod_slice hr a2' with ⟨q, _⟩ | ⟨a', l', c', _, _, _, _, q, _⟩
              · injection q with q; exact ⟨_, _, _, q⟩
              · injection q with q; exact ⟨_, _, _, q⟩
            · cases hb2
          rw [e2] at a2'
          obtain ⟨refs, r1, r2, r3, r4, r5, r6, r7⟩ := open_rfs u2 a2'
          injection e0 with e0
          injection e1 with e1
          obtain ⟨_, hl3, hcell⟩ := World.cells?_some hcs
          rw [ce] at hcell
          have hw : ∀ {z : Int}, (Lit.int .i64 z).wf = true → W64 z := fun wf => by
            simp [Lit.wf, IntKind.min, IntKind.max, IntKind.signed, IntKind.bits] at wf
            unfold W64; omega
          refine ⟨⟨z0, z1, A2, cap2, refs⟩, fun j hj => ?_, r2, r5, r4, hw wf0, hw wf1, r3, ?_⟩
          · rw [hcell j hj]
            have e0 : q0 = _ := e0
            have e1 : q1 = _ := e1
            have e2 : q2 = _ := e2
            subst e0; subst e1; subst e2
            match j, hj with
            | 0, _ => rfl
            | 1, _ => rfl
            | 2, _ => rw [← r1]; rfl
          · refine ⟨y0.1, y1.1, y2.1, ?_, r6, r7⟩
            rw [List.getElem?_map, List.getElem?_eq_getElem (by omega), Option.map_some, hya]; rfl
        have hg : ∀ i (hi : i < len), ((List.range len).map fun i => if h : i < len then Classical.choose (key i h) else ⟨0, 0, none, 0, []⟩)[i]? = some (Classical.choose (key i hi)) := fun i hi => by
          rw [List.getElem?_map, List.getElem?_range hi, Option.map_some, dif_pos hi]
        generalize hops : ((List.range len).map fun i => if h : i < len then Classical.choose (key i h) else ⟨0, 0, none, 0, []⟩ : List MOp) = ops at hg
        have hol : ops.length = len := by rw [← hops]; simp
        have hgi : ∀ i (hi : i < ops.length), ops[i] = Classical.choose (key i (by omega)) := fun i hi => by
          have := hg i (by omega)
          rw [List.getElem?_eq_getElem hi] at this
          injection this
        have hD : DMop x.1 ops := .inr ⟨elems.map (·.1), rest.map (·.1), by rw [hx], by simp [hlen, hol], fun i hi => by
          obtain ⟨_, _, _, _, _, _, _, d0, d1, d2, q1, q2, _⟩ := Classical.choose_spec (key i (by omega))
          rw [hgi i hi]
          exact ⟨d0, d1, d2, q1, q2⟩⟩
        refine ⟨ops, hol, ⟨fun i hi => ⟨a, rfl, fun j hj => ?_⟩, fun o ho => ?_, fun hne a' ha => ?_⟩, hD, fun hw => ?_⟩
        · rw [hgi i hi]
          exact (Classical.choose_spec (key i (by omega))).1 j hj
        · have hmem := ho
          obtain ⟨i, hi, rfl⟩ := List.getElem_of_mem ho
          obtain ⟨_, p1, p2, p3, p4, p5, p6, d0, d1, d2, q1, q2, q3⟩ := Classical.choose_spec (key i (by omega))
          have e := hgi i hi
          refine ⟨by rw [e]; exact p1, by rw [e]; exact p2, by rw [e]; exact p3, by rw [e]; exact p4, by rw [e]; exact p5, by rw [e]; exact p6, ?_⟩
          rcases hcap with hcap | hcap
          · rw [e]
            refine Nat.le_trans (q3 fun v hv => hcap v ?_) (by omega)
            rw [hx]
            simp only [DataW.weights, ht]
            refine List.mem_cons_of_mem _ (List.mem_append_left _ (wt_elems (List.mem_of_getElem? q1) ?_))
            simp only [DataW.weights, hu, List.map_cons, List.map_nil, DataW.weightsEach]
            exact List.mem_append_right _ (List.mem_append_right _ (List.mem_append_left _ hv))
          · exact hcap ops hD _ hmem
        · injection ha with ha; subst ha
          have h0 : 0 < ops.length := List.length_pos_iff.2 hne
          have h1 := (Classical.choose_spec (key 0 (by omega))).1 0 (by omega)
          have := World.block_lt_of_cell? w _ h1
          rw [add_block, add_block] at this; exact this
        · rw [hx] at hw
          have := hw ((elems.map (·.1)).length * 40 + (rest.map (·.1)).length * 40) (by
            simp only [DataW.weights, ht, be]
            rw [← Nat.add_mul]; exact List.mem_cons_self)
          unfold reachBytes at this
          simp only [List.length_map] at this
          omega
    · cases hb
  · cases hb
end
end Go.Dn
