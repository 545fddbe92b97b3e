/- Whole numbers as floats compared; what Along tells, compared. Conditions: none. -/
import Derived.Test.YtfknppccgojhdaaLcS
namespace Go.Dn
open Go.RowKit Ieee
set_option linter.unusedVariables false
theorem cmp_mul {a b p : Int} (hp : 0 < p) : compare (a * p) (b * p) = compare a b := by
  simp only [compare, compareOfLessAndEq]
  have h1 : a * p < b * p ↔ a < b := ⟨fun h => Int.lt_of_mul_lt_mul_right h (Int.le_of_lt hp), fun h => Int.mul_lt_mul_of_pos_right h hp⟩
  have h2 : a * p = b * p ↔ a = b := ⟨fun h => Int.eq_of_mul_eq_mul_right (by omega) h, fun h => by rw [h]⟩
  simp only [h1, h2]
theorem fb_order {a b : Int} (ha : In53 a) (hb : In53 b) : Ieee.double.order (fb a) (fb b) = some (compare a b) := by
  obtain ⟨t, et⟩ := fb_read ha
  obtain ⟨u, eu⟩ := fb_read hb
  unfold Format.order
  rw [et, eu]
  simp only [Datum.order]
  congr 1
  have hbase : min (-(t : Int)) (-(u : Int)) = -((max t u : Nat) : Int) := by omega
  have e1 : (-(t : Int) - min (-(t : Int)) (-(u : Int))).toNat = max t u - t := by omega
  have e2 : (-(u : Int) - min (-(t : Int)) (-(u : Int))).toNat = max t u - u := by omega
  have s1 : signed (decide (a < 0)) (a.natAbs * 2 ^ t) (max t u - t) = a * (2 ^ (max t u) : Nat) := by
    have : signed (decide (a < 0)) (a.natAbs * 2 ^ t) (max t u - t) = signed (decide (a < 0)) a.natAbs (max t u) := by
      unfold signed
      rw [Nat.shiftLeft_eq, Nat.shiftLeft_eq, Nat.mul_assoc, ← Nat.pow_add, show t + (max t u - t) = max t u by omega]
    rw [this, signed_val]
  have s2 : signed (decide (b < 0)) (b.natAbs * 2 ^ u) (max t u - u) = b * (2 ^ (max t u) : Nat) := by
    have : signed (decide (b < 0)) (b.natAbs * 2 ^ u) (max t u - u) = signed (decide (b < 0)) b.natAbs (max t u) := by
      unfold signed
      rw [Nat.shiftLeft_eq, Nat.shiftLeft_eq, Nat.mul_assoc, ← Nat.pow_add, show u + (max t u - u) = max t u by omega]
    rw [this, signed_val]
  rw [e1, e2, s1, s2]
  have hpos : (0 : Int) < (2 ^ (max t u) : Nat) := by exact_mod_cast Nat.two_pow_pos _
  exact cmp_mul hpos
theorem cmp_eq (a b : Int) : (some (compare a b) == some Ordering.eq) = decide (a = b) := by
  simp only [compare, compareOfLessAndEq]
  split
  · have : a ≠ b := by omega
    simp [this]
  · split
    · rename_i h; simp [h]
    · rename_i h; simp [h]
theorem cmp_gt (a b : Int) : (some (compare a b) == some Ordering.gt) = decide (a > b) := by
  simp only [compare, compareOfLessAndEq]
  split
  · have : ¬ a > b := by omega
    simp [this]
  · split
    · rename_i h; simp [h]
    · rename_i h1 h2
      have : a > b := by omega
      simp [this]
theorem fb_eq {a b : Int} (ha : In53 a) (hb : In53 b) : (FloatKind.f64.format.order (fb a) (fb b) == some .eq) = decide (a = b) := by
  show (Ieee.double.order _ _ == _) = _
  rw [fb_order ha hb]; exact cmp_eq a b
theorem fb_gt {a b : Int} (ha : In53 a) (hb : In53 b) : (FloatKind.f64.format.order (fb a) (fb b) == some .gt) = decide (a > b) := by
  show (Ieee.double.order _ _ == _) = _
  rw [fb_order ha hb]; exact cmp_gt a b
end Go.Dn
namespace Go.Proofs.Ytfknppccgojhdaa.Rd
open Go.Dn Go.RowKit
set_option linter.unusedVariables false
set_option maxRecDepth 100000
theorem part48a (w : World) (a0 a1 a2 a3 : Int) (r i : Nat) : (part 33 #[.int .i64 a0, .int .i64 a1, .int .i64 a2, .int .i64 a3, .complex .f64 r i] 0).run Try.prog w = .ok (.agg #[.int .i64 a0, .int .i64 a1, .int .i64 a2, .int .i64 a3]) w := by kernel_rfl
theorem part48b (w : World) (a0 a1 a2 a3 : Int) (r i : Nat) : (part 46 #[.int .i64 a0, .int .i64 a1, .int .i64 a2, .int .i64 a3, .complex .f64 r i] 4).run Try.prog w = .ok (.complex .f64 r i) w := by kernel_rfl
theorem part33 (w : World) (a0 a1 a2 a3 : Int) : (part 3 #[.int .i64 a0, .int .i64 a1, .int .i64 a2, .int .i64 a3] 0).run Try.prog w = .ok (.int .i64 a0) w ∧ (part 3 #[.int .i64 a0, .int .i64 a1, .int .i64 a2, .int .i64 a3] 1).run Try.prog w = .ok (.int .i64 a1) w ∧ (part 3 #[.int .i64 a0, .int .i64 a1, .int .i64 a2, .int .i64 a3] 2).run Try.prog w = .ok (.int .i64 a2) w ∧ (part 2 #[.int .i64 a0, .int .i64 a1, .int .i64 a2, .int .i64 a3] 3).run Try.prog w = .ok (.int .i64 a3) w := ⟨by kernel_rfl, by kernel_rfl, by kernel_rfl, by kernel_rfl⟩
theorem F48 : (Try.prog.fieldsOf 48).toList.map (fun f => (f.name, f.type, f.offset)) = [("Max", 33, 0), ("Sum", 46, 4)] := by kernel_rfl
theorem F33 : (Try.prog.fieldsOf 33).toList.map (fun f => (f.name, f.type, f.offset)) = [("Id", 3, 0), ("U", 3, 1), ("V", 3, 2), ("W", 2, 3)] := by kernel_rfl
theorem eqF_cons {d : Nat} {xs ys : Array Value} {f : Field} {fs : List Field} {n : String} {t o : Nat} (hf : (f.name, f.type, f.offset) = (n, t, o)) (hn : n ≠ "_") {w : World} {a b : Value} {r : Bool} (h1 : (part t xs o).run Try.prog w = .ok a w) (h2 : (part t ys o).run Try.prog w = .ok b w) (h3 : (Op.equalIn d t a b).run Try.prog w = .ok r w) :
    (Op.eqFields d xs ys (f :: fs)).run Try.prog w = if r = true then (Op.eqFields d xs ys fs).run Try.prog w else .ok false w := by
  injection hf with e1 e2; injection e2 with e2 e3
  subst e1; subst e2; subst e3
  rw [show Op.eqFields d xs ys (f :: fs) = (if f.name ≠ "_" then do
      let a ← part f.type xs f.offset
      let b ← part f.type ys f.offset
      let r ← Op.equalIn d f.type a b
      if (!r) = true then pure false else Op.eqFields d xs ys fs
    else Op.eqFields d xs ys fs) from rfl, if_pos hn]
  simp only [Sem.run_bind, h1, Result.andThen_ok, h2, h3]
  cases r <;> simp
def eqE (a b : E) : Bool := (a.id == b.id) && ((a.u == b.u) && ((a.v == b.v) && (a.w == b.w)))
theorem eqE_iff {a b : E} : eqE a b = true ↔ a = b := by
  unfold eqE
  cases a; cases b
  simp
theorem eq33 (d : Nat) (w : World) (a b : E) : (Op.equalIn (d + 2) 33 (.agg (eC a)) (.agg (eC b))).run Try.prog w = .ok (eqE a b) w := by
  rw [run_equalIn_agg w (d + 1) _ _ _ (by kernel_rfl) (by kernel_rfl)]
  have h := F33
  generalize (Try.prog.fieldsOf 33).toList = l at h
  obtain ⟨f0, l, rfl⟩ : ∃ f l', l = f :: l' := by cases l with | nil => simp at h | cons f l => exact ⟨f, l, rfl⟩
  rw [List.map_cons, List.cons.injEq] at h
  obtain ⟨h0, h⟩ := h
  obtain ⟨f1, l, rfl⟩ : ∃ f l', l = f :: l' := by cases l with | nil => simp at h | cons f l => exact ⟨f, l, rfl⟩
  rw [List.map_cons, List.cons.injEq] at h
  obtain ⟨h1, h⟩ := h
  obtain ⟨f2, l, rfl⟩ : ∃ f l', l = f :: l' := by cases l with | nil => simp at h | cons f l => exact ⟨f, l, rfl⟩
  rw [List.map_cons, List.cons.injEq] at h
  obtain ⟨h2, h⟩ := h
  obtain ⟨f3, l, rfl⟩ : ∃ f l', l = f :: l' := by cases l with | nil => simp at h | cons f l => exact ⟨f, l, rfl⟩
  rw [List.map_cons, List.cons.injEq] at h
  obtain ⟨h3, h⟩ := h
  have hl : l = [] := by cases l with | nil => rfl | cons f l => simp at h
  subst hl
  have ui : Try.prog.underlying 3 = some (.int .i64) := by kernel_rfl
  have ui6 : Try.prog.underlying 2 = some (.int .i64) := by kernel_rfl
  have pa := part33 w a.id a.u a.v a.w
  have pb := part33 w b.id b.u b.v b.w
  unfold eC
  rw [eqF_cons h0 (by decide) pa.1 pb.1 (run_equalIn_int w d _ .i64 .i64 _ _ ui), eqF_cons h1 (by decide) pa.2.1 pb.2.1 (run_equalIn_int w d _ .i64 .i64 _ _ ui), eqF_cons h2 (by decide) pa.2.2.1 pb.2.2.1 (run_equalIn_int w d _ .i64 .i64 _ _ ui), eqF_cons h3 (by decide) pa.2.2.2 pb.2.2.2 (run_equalIn_int w d _ .i64 .i64 _ _ ui6)]
  unfold eqE
  cases (a.id == b.id) <;> cases (a.u == b.u) <;> cases (a.v == b.v) <;> cases (a.w == b.w) <;> rfl
theorem eq46 (d : Nat) (w : World) (r i r' i' : Nat) : (Op.equalIn (d + 1) 46 (.complex .f64 r i) (.complex .f64 r' i')).run Try.prog w = .ok ((FloatKind.f64.format.order r r' == some .eq) && (FloatKind.f64.format.order i i' == some .eq)) w := by
  have ui : Try.prog.underlying 46 = some (.complex .f64) := by kernel_rfl
  simp [Op.equalIn, run_underlying ui, Op.floatEq]
theorem eq48 (d : Nat) (w : World) (a b : E) (r i r' i' : Nat) : (Op.equalIn (d + 3) 48 (.agg #[.int .i64 a.id, .int .i64 a.u, .int .i64 a.v, .int .i64 a.w, .complex .f64 r i]) (.agg #[.int .i64 b.id, .int .i64 b.u, .int .i64 b.v, .int .i64 b.w, .complex .f64 r' i'])).run Try.prog w = .ok (eqE a b && ((FloatKind.f64.format.order r r' == some .eq) && (FloatKind.f64.format.order i i' == some .eq))) w := by
  rw [run_equalIn_agg w (d + 2) _ _ _ (by kernel_rfl) (by kernel_rfl)]
  have h := F48
  generalize (Try.prog.fieldsOf 48).toList = l at h
  obtain ⟨f0, l, rfl⟩ : ∃ f l', l = f :: l' := by cases l with | nil => simp at h | cons f l => exact ⟨f, l, rfl⟩
  rw [List.map_cons, List.cons.injEq] at h
  obtain ⟨h0, h⟩ := h
  obtain ⟨f1, l, rfl⟩ : ∃ f l', l = f :: l' := by cases l with | nil => simp at h | cons f l => exact ⟨f, l, rfl⟩
  rw [List.map_cons, List.cons.injEq] at h
  obtain ⟨h1, h⟩ := h
  have hl : l = [] := by cases l with | nil => rfl | cons f l => simp at h
  subst hl
  rw [eqF_cons h0 (by decide) (part48a w _ _ _ _ _ _) (part48a w _ _ _ _ _ _) (eq33 d w a b), eqF_cons h1 (by decide) (part48b w _ _ _ _ _ _) (part48b w _ _ _ _ _ _) (eq46 (d + 1) w r i r' i')]
  cases eqE a b <;> cases (FloatKind.f64.format.order r r' == some .eq) <;> cases (FloatKind.f64.format.order i i' == some .eq) <;> rfl
/-- what Along tells, compared -/
theorem agg_eq (w : World) (x y : Operand) {a b : E} {W K W' K' : Int} (h1 : In53 W) (h2 : In53 K) (h3 : In53 W') (h4 : In53 K') {Q : Value → World → Prop} (hQ : Q (.bool (eqE a b && (decide (W = W') && decide (K = K')))) w) :
    Runs Try.prog (do eqGuard .eql 48 x y (.agg #[.int .i64 a.id, .int .i64 a.u, .int .i64 a.v, .int .i64 a.w, .complex .f64 (fb W) (fb K)]) (.agg #[.int .i64 b.id, .int .i64 b.u, .int .i64 b.v, .int .i64 b.w, .complex .f64 (fb W') (fb K')]); binOp .eql 48 (.agg #[.int .i64 a.id, .int .i64 a.u, .int .i64 a.v, .int .i64 a.w, .complex .f64 (fb W) (fb K)]) (.agg #[.int .i64 b.id, .int .i64 b.u, .int .i64 b.v, .int .i64 b.w, .complex .f64 (fb W') (fb K')]) : Sem Value) w Q := by
  refine runs_of ?_ hQ
  rw [Sem.run_bind, run_eqGuard_agg w _ _ _ _ _ _ (by kernel_rfl), Result.andThen_ok, run_eql_struct, eq48 9997, Result.andThen_ok, fb_eq h1 h3, fb_eq h2 h4]
theorem agg_neq (w : World) (x y : Operand) {a b : E} {W K W' K' : Int} (h1 : In53 W) (h2 : In53 K) (h3 : In53 W') (h4 : In53 K') {Q : Value → World → Prop} (hQ : Q (.bool (!(eqE a b && (decide (W = W') && decide (K = K'))))) w) :
    Runs Try.prog (do eqGuard .neq 48 x y (.agg #[.int .i64 a.id, .int .i64 a.u, .int .i64 a.v, .int .i64 a.w, .complex .f64 (fb W) (fb K)]) (.agg #[.int .i64 b.id, .int .i64 b.u, .int .i64 b.v, .int .i64 b.w, .complex .f64 (fb W') (fb K')]); binOp .neq 48 (.agg #[.int .i64 a.id, .int .i64 a.u, .int .i64 a.v, .int .i64 a.w, .complex .f64 (fb W) (fb K)]) (.agg #[.int .i64 b.id, .int .i64 b.u, .int .i64 b.v, .int .i64 b.w, .complex .f64 (fb W') (fb K')]) : Sem Value) w Q := by
  refine runs_of ?_ hQ
  rw [Sem.run_bind, run_eqGuard_agg w _ _ _ _ _ _ (by kernel_rfl), Result.andThen_ok, run_neq_struct, eq48 9997, Result.andThen_ok, fb_eq h1 h3, fb_eq h2 h4]
theorem cx_eq (w : World) (x y : Operand) {W K W' K' : Int} (h1 : In53 W) (h2 : In53 K) (h3 : In53 W') (h4 : In53 K') {Q : Value → World → Prop} (hQ : Q (.bool (decide (W = W') && decide (K = K'))) w) :
    Runs Try.prog (do eqGuard .eql 46 x y (.complex .f64 (fb W) (fb K)) (.complex .f64 (fb W') (fb K')); binOp .eql 46 (.complex .f64 (fb W) (fb K)) (.complex .f64 (fb W') (fb K')) : Sem Value) w Q := by
  refine runs_of ?_ hQ
  rw [Sem.run_bind]
  have : (eqGuard .eql 46 x y (.complex .f64 (fb W) (fb K)) (.complex .f64 (fb W') (fb K'))).run Try.prog w = .ok () w := rfl
  rw [this, Result.andThen_ok, run_eql_complex, fb_eq h1 h3, fb_eq h2 h4]
theorem cx_neq (w : World) (x y : Operand) {W K W' K' : Int} (h1 : In53 W) (h2 : In53 K) (h3 : In53 W') (h4 : In53 K') {Q : Value → World → Prop} (hQ : Q (.bool (!(decide (W = W') && decide (K = K')))) w) :
    Runs Try.prog (do eqGuard .neq 46 x y (.complex .f64 (fb W) (fb K)) (.complex .f64 (fb W') (fb K')); binOp .neq 46 (.complex .f64 (fb W) (fb K)) (.complex .f64 (fb W') (fb K')) : Sem Value) w Q := by
  refine runs_of ?_ hQ
  rw [Sem.run_bind]
  have : (eqGuard .neq 46 x y (.complex .f64 (fb W) (fb K)) (.complex .f64 (fb W') (fb K'))).run Try.prog w = .ok () w := rfl
  rw [this, Result.andThen_ok, run_neq_complex, fb_eq h1 h3, fb_eq h2 h4]
end Go.Proofs.Ytfknppccgojhdaa.Rd
