/- The scripts among the arguments, opened. Conditions: none. -/
import Derived.Test.YthekjlglnmhlaaaDkT
import Derived.Test.YthekjlglnmhlaaaOpG
namespace Go.Proofs.Ythekjlglnmhlaaa.Rd
open Go.Dn Go.RowKit Go.Shelf
set_option linter.unusedVariables false
set_option linter.unusedSimpArgs false
set_option maxRecDepth 100000
abbrev TOp : TypeId := 41
theorem und_ft : ∃ f0 f1, Try.prog.underlying TFt = some (.struct ⟨[f0, f1]⟩) ∧ f0.offset = 0 ∧ f1.offset = 1 ∧ f0.type = 3 ∧ f1.type = 3 := by
  have h : (match Try.prog.underlying TFt with | some (.struct ⟨[f0, f1]⟩) => Nat.beq f0.offset 0 && Nat.beq f1.offset 1 && Nat.beq f0.type 3 && Nat.beq f1.type 3 | _ => false) = true := by kernel_rfl
  split at h
  · rename_i f0 f1 hu
    simp only [Bool.and_eq_true] at h
    obtain ⟨⟨⟨a, b⟩, c⟩, e⟩ := h
    exact ⟨f0, f1, hu, Nat.eq_of_beq_eq_true a, Nat.eq_of_beq_eq_true b, Nat.eq_of_beq_eq_true c, Nat.eq_of_beq_eq_true e⟩
  · cases h
theorem und_op : ∃ f0 f1 f2 f3 f4, Try.prog.underlying TOp = some (.struct ⟨[f0, f1, f2, f3, f4]⟩) ∧ (f0.offset = 0 ∧ f1.offset = 1 ∧ f2.offset = 2 ∧ f3.offset = 3 ∧ f4.offset = 4) ∧ f0.type = 3 ∧ f1.type = 3 ∧ f2.type = 35 ∧ f3.type = 31 ∧ f4.type = 26 := by
  have h : (match Try.prog.underlying TOp with | some (.struct ⟨[f0, f1, f2, f3, f4]⟩) => (Nat.beq f0.offset 0 && Nat.beq f1.offset 1 && Nat.beq f2.offset 2 && Nat.beq f3.offset 3 && Nat.beq f4.offset 4) && (Nat.beq f0.type 3 && Nat.beq f1.type 3 && Nat.beq f2.type 35 && Nat.beq f3.type 31 && Nat.beq f4.type 26) | _ => false) = true := by kernel_rfl
  split at h
  · rename_i f0 f1 f2 f3 f4 hu
    simp only [Bool.and_eq_true] at h
    obtain ⟨⟨⟨⟨⟨a0, a1⟩, a2⟩, a3⟩, a4⟩, ⟨⟨⟨⟨b0, b1⟩, b2⟩, b3⟩, b4⟩⟩ := h
    exact ⟨f0, f1, f2, f3, f4, hu, ⟨Nat.eq_of_beq_eq_true a0, Nat.eq_of_beq_eq_true a1, Nat.eq_of_beq_eq_true a2, Nat.eq_of_beq_eq_true a3, Nat.eq_of_beq_eq_true a4⟩, Nat.eq_of_beq_eq_true b0, Nat.eq_of_beq_eq_true b1, Nat.eq_of_beq_eq_true b2, Nat.eq_of_beq_eq_true b3, Nat.eq_of_beq_eq_true b4⟩
  · cases h
section
variable {H : Type} {enc : TypeId × Value → H} {w : World} {base : Nat} {spare : Nat → Bool} {held : Bool} {fuel : Nat}
theorem open_bytes {A : Option Addr} {len cap : Nat} {x : DataW H × List MemPlace} (h : DataW.trod enc Try.prog w base spare held fuel 35 [.slice A len cap] = some x) :
    ∃ l : List Int, l.length = len ∧ RB w A l ∧ (l ≠ [] → ∀ a, A = some a → a.block < w.heap.size) ∧ l.length ≤ cap ∧ ((∀ v ∈ x.1.weights Try.prog 35, v ≤ reachBytes) → l.length * 1 ≤ 140737488351232) := by
  obtain ⟨l, h1, h2, h3, h4, h5, h6⟩ := open_num (κ := .u8) (by_ := 1) (r := 5) (by kernel_rfl) (by kernel_rfl) (by kernel_rfl) (by kernel_rfl) h
  exact ⟨l, h1, RowE.rb h2, h4, h5, h6⟩
theorem ri_of {A : Option Addr} {l : List Int} (h : RowE (fun z : Int => [.int .i64 z]) 1 w A l) : RI w A l := fun i hi => by
  obtain ⟨a, ha, hc⟩ := h i hi
  refine ⟨a, ha, ?_⟩
  have := hc 0 (by decide)
  rw [Nat.mul_one, add_zero] at this
  simpa using this
theorem open_ints {A : Option Addr} {len cap : Nat} {x : DataW H × List MemPlace} (h : DataW.trod enc Try.prog w base spare held fuel 31 [.slice A len cap] = some x) :
    ∃ l : List Int, l.length = len ∧ RI w A l ∧ (l ≠ [] → ∀ a, A = some a → a.block < w.heap.size) ∧ ((∀ v ∈ x.1.weights Try.prog 31, v ≤ reachBytes) → l.length * 8 ≤ 140737488351232) := by
  obtain ⟨l, h1, h2, h3, h4, h5, h6⟩ := open_num (κ := .i64) (by_ := 8) (r := 3) (by kernel_rfl) (by kernel_rfl) (by kernel_rfl) (by kernel_rfl) h
  exact ⟨l, h1, ri_of h2, h4, h6⟩
theorem open_fts {A : Option Addr} {len cap : Nat} {x : DataW H × List MemPlace} (h : DataW.trod enc Try.prog w base spare held fuel 26 [.slice A len cap] = some x) :
    ∃ l : List Ft, l.length = len ∧ RowE eF 2 w A l ∧ (A = none → cap = 0 ∧ l.length = 0) ∧ (l ≠ [] → ∀ a, A = some a → a.block < w.heap.size) ∧ ((∀ v ∈ x.1.weights Try.prog 26, v ≤ reachBytes) → l.length * 16 ≤ 140737488351232) := by
  obtain ⟨f0, f1, hu, o0, o1, t0, t1⟩ := und_ft
  obtain ⟨l, h1, h2, h3, h4, h5, _, h7⟩ := open_gen (enc' := eF) (k := 2) (by_ := 16) (r := TFt) EF (by kernel_rfl) (by kernel_rfl) (by kernel_rfl) (Q := fun _ _ => True) (fun n cs y hl hy => by
    obtain ⟨xs, m, _, hya, hl2, hxl, hf⟩ := DataW.trod_struct hu hy
    obtain ⟨q0, q1, rfl⟩ : ∃ u v, cs = [u, v] := by match cs, hl with | [u, v], _ => exact ⟨_, _, rfl⟩
    have hx2 : xs.length = 2 := hxl
    have c1 : Try.prog.cellsOf 3 = 1 := by kernel_rfl
    have a0 := hf 0 f0 rfl
    have a1 := hf 1 f1 rfl
    rw [o0, t0, c1, List.getElem?_eq_getElem (by omega)] at a0
    rw [o1, t1, c1, List.getElem?_eq_getElem (by omega)] at a1
    obtain ⟨z0, e0, _, _⟩ := DataW.trod_int Kint (one_of' (by simp) a0)
    obtain ⟨z1, e1, _, _⟩ := DataW.trod_int Kint (one_of' (by simp) a1)
    injection e0 with e0
    injection e1 with e1
    have e0 : q0 = _ := e0
    have e1 : q1 = _ := e1
    subst e0; subst e1
    exact ⟨(z0, z1), rfl, trivial⟩) h
  exact ⟨l, h1, h2, h3, h4, h7⟩
/-- what is told of a script's data: each call's parts -/
def DDop (ops : List DOp) (d : DataW H) : Prop := (d = .nil ∧ ops = []) ∨ ∃ el rs, d = .slice el rs ∧ el.length = ops.length
theorem open_dops {A : Option Addr} {len cap : Nat} {x : DataW H × List MemPlace} (h : DataW.trod enc Try.prog w base spare held fuel 39 [.slice A len cap] = some x) (hcap : ∀ v ∈ x.1.weights Try.prog 39, v ≤ reachBytes) :
    ∃ ops : List DOp, ops.length = len ∧ RDo w w.heap.size A ops := by
  obtain ⟨f0, f1, f2, f3, f4, hu, ⟨o0, o1, o2, o3, o4⟩, t0, t1, t2, t3, t4⟩ := und_op
  have hT : Try.prog.underlying 39 = some (.slice TOp) := by kernel_rfl
  obtain ⟨l, h1, h2, h3, h4, h5, h6, h7⟩ := open_gen (enc' := dopE) (k := 5) (by_ := 88) (r := TOp) Edop hT (by kernel_rfl) (by kernel_rfl)
    (Q := fun o d => (∀ v ∈ d.weights Try.prog TOp, v ≤ reachBytes) → OkD w w.heap.size o) (fun n cs y hl hy => by
    obtain ⟨xs, m, _, hya, hl2, hxl, hf⟩ := DataW.trod_struct hu hy
    obtain ⟨q0, q1, q2, q3, q4, rfl⟩ : ∃ u v s t r, cs = [u, v, s, t, r] := by match cs, hl with | [u, v, s, t, r], _ => exact ⟨_, _, _, _, _, rfl⟩
    have hx5 : xs.length = 5 := hxl
    obtain ⟨y0, y1, y2, y3, y4, rfl⟩ : ∃ u v s t r, xs = [u, v, s, t, r] := by match xs, hx5 with | [u, v, s, t, r], _ => exact ⟨_, _, _, _, _, rfl⟩
    have c1 : Try.prog.cellsOf 3 = 1 := by kernel_rfl
    have c2 : Try.prog.cellsOf 35 = 1 := by kernel_rfl
    have c3 : Try.prog.cellsOf 31 = 1 := by kernel_rfl
    have c4 : Try.prog.cellsOf 26 = 1 := by kernel_rfl
    have a0 := hf 0 f0 rfl
    have a1 := hf 1 f1 rfl
    have a2 := hf 2 f2 rfl
    have a3 := hf 3 f3 rfl
    have a4 := hf 4 f4 rfl
    rw [o0, t0, c1, List.getElem?_eq_getElem (by simp)] at a0
    rw [o1, t1, c1, List.getElem?_eq_getElem (by simp)] at a1
    rw [o2, t2, c2, List.getElem?_eq_getElem (by simp)] at a2
    rw [o3, t3, c3, List.getElem?_eq_getElem (by simp)] at a3
    rw [o4, t4, c4, List.getElem?_eq_getElem (by simp)] at a4
    obtain ⟨z0, e0, _, _⟩ := DataW.trod_int Kint (one_of' (by simp) a0)
    obtain ⟨z1, e1, _, _⟩ := DataW.trod_int Kint (one_of' (by simp) a1)
    have a2 := one_of' (j := 2) (by simp) a2
    have a3 := one_of' (j := 3) (by simp) a3
    have a4 := one_of' (j := 4) (by simp) a4
    have sl : ∀ {t r : TypeId} {q : Value} {n : Nat} {y : DataW H × List MemPlace}, Try.prog.underlying t = some (.slice r) → DataW.trod enc Try.prog w base spare held n t [q] = some y → ∃ A l c, q = .slice A l c := fun ht h => by
      rcases DataW.trod_slice ht h with ⟨q, _⟩ | ⟨a', l', c', _, _, _, _, q, _⟩
      · injection q with q; exact ⟨_, _, _, q⟩
      · injection q with q; exact ⟨_, _, _, q⟩
    obtain ⟨A2, len2, cap2, e2⟩ := sl (r := 5) (by kernel_rfl) a2
    obtain ⟨A3, len3, cap3, e3⟩ := sl (r := 3) (by kernel_rfl) a3
    obtain ⟨A4, len4, cap4, e4⟩ := sl (r := TFt) (by kernel_rfl) a4
    injection e0 with e0
    injection e1 with e1
    have e0 : q0 = _ := e0
    have e1 : q1 = _ := e1
    have e2 : q2 = _ := e2
    have e3 : q3 = _ := e3
    have e4 : q4 = _ := e4
    subst e0; subst e1; subst e2; subst e3; subst e4
    obtain ⟨l2, p1, p2, p3, p4, p5⟩ := open_bytes a2
    obtain ⟨l3, r1, r2, r3, r4⟩ := open_ints a3
    obtain ⟨l4, s1, s2, s3, s4, s5⟩ := open_fts a4
    subst p1; subst r1; subst s1
    refine ⟨⟨z0, z1, A2, cap2, l2, A3, cap3, l3, A4, cap4, l4⟩, rfl, fun hw => ?_⟩
    rw [hya] at hw
    simp only [DataW.weights, hu, List.map_cons, List.map_nil, DataW.weightsEach, t0, t1, t2, t3, t4] at hw
    have w2 := p5 fun v hv => hw v (by simp only [List.mem_append]; exact .inr (.inr (.inl hv)))
    have w3 := r4 fun v hv => hw v (by simp only [List.mem_append]; exact .inr (.inr (.inr (.inl hv))))
    have w4 := s5 fun v hv => hw v (by simp only [List.mem_append]; exact .inr (.inr (.inr (.inr (.inl hv)))))
    exact ⟨p2, r2, s2, p3, r3, s4, s3, by show l2.length ≤ _; omega, by show l3.length ≤ _; omega, by show l4.length * 16 ≤ _; omega⟩) h
  refine ⟨l, h1, h2, h4, fun o ho => ?_, by have := h7 hcap; omega⟩
  obtain ⟨i, hi, rfl⟩ := List.getElem_of_mem ho
  rcases h6 with ⟨_, h6⟩ | ⟨el, rs, hx, hel, h6⟩
  · subst h6; cases hi
  · obtain ⟨d, hd, hq⟩ := h6 i hi
    refine hq fun v hv => hcap v ?_
    rw [hx]
    simp only [DataW.weights, hT]
    exact List.mem_cons_of_mem _ (List.mem_append_left _ (wt_in (List.mem_of_getElem? hd) hv))
end
theorem rb_row {w : World} {A : Option Addr} {n c : Nat} {zs : List Int} (h : IsRow .u8 w A n c zs) : ∃ l : List Int, n = l.length ∧ RB w A l ∧ (l ≠ [] → ∀ a, A = some a → a.block < w.heap.size) ∧ (A = none → c = 0) ∧ n ≤ c := by
  rcases h with ⟨rfl, rfl, rfl, rfl⟩ | ⟨a, rfl, hl, hm, hz, hc, hw⟩
  · exact ⟨[], rfl, RB.nil _ _, fun h => absurd rfl h, fun _ => rfl, Nat.le_refl _⟩
  · have hlen : (zs.take n).length = n := by rw [List.length_take]; omega
    have hg : ∀ i (hi : i < (zs.take n).length), w.cell? (a.add i) = some (.int .u8 (zs.take n)[i]) := fun i hi => by
      rw [hlen] at hi
      rw [hc i (by omega)]
      have e : zs.getD i 0 = zs[i]'(by omega) := by simp [List.getD_eq_getElem?_getD, show i < zs.length by omega]
      rw [e, List.getElem_take]
    refine ⟨zs.take n, hlen.symm, fun i hi => ⟨a, rfl, hg i hi⟩, fun hne a' ha => ?_, (fun h => by cases h), hl⟩
    injection ha with ha; subst ha
    have h0 : 0 < (zs.take n).length := List.length_pos_iff.2 hne
    have := World.block_lt_of_cell? w _ (hg 0 h0)
    rw [add_block] at this; exact this
theorem DiskSafe_row {w : World} {A0 A2 A3 : Option Addr} {n2 c0 c2 c3 : Nat} {l0 l3 : List DOp} {zs : List Int} {at_ : Int} (h0 : RDo w w.heap.size A0 l0) (_ : (Lit.int .i64 at_).wf = true) (h2 : IsRow .u8 w A2 n2 c2 zs) (s2 : n2 * 1 ≤ 140737488351232) (h3 : RDo w w.heap.size A3 l3) :
    Calls Try.prog 4 #[.slice A0 l0.length c0, .int .i64 at_, .slice A2 n2 c2, .slice A3 l3.length c3] w fun e w' => e = .returned (.bool true) ∧ Below w.heap.size w w' := by
  obtain ⟨l2, e2, r2, b2, _, _⟩ := rb_row h2
  exact DiskSafe_walk h0 rfl r2 e2 b2 (by omega) h3 rfl
end Go.Proofs.Ythekjlglnmhlaaa.Rd
