/- Walks: back, shortened; floats added, compared and made whole. Conditions: none. -/
import Derived.Test.YtfknppccgojhdaaLdD
namespace Go.Dn
open Go.RowKit Ieee
set_option linter.unusedVariables false
set_option maxRecDepth 20000
theorem NB.app : ∀ {p q : List E}, NB (p ++ q) ↔ NB p ∧ NB q ∧ (∀ a ∈ p.getLast?, ∀ b ∈ q.head?, a.id ≠ b.id)
  | [], q => by simp [NB]
  | [a], [] => by simp [NB]
  | [a], b :: q => by simp [NB, and_comm]
  | a :: b :: p, q => by
    have := NB.app (p := b :: p) (q := q)
    simp only [List.cons_append] at this ⊢
    simp only [NB, this, List.getLast?_cons_cons, and_assoc]
theorem NB.rev : ∀ {p : List E}, NB p → NB p.reverse
  | [], _ => trivial
  | a :: p, h => by
    rw [List.reverse_cons, NB.app]
    refine ⟨NB.rev h.tail, trivial, fun x hx b hb => ?_⟩
    simp only [List.head?_cons, Option.mem_def, Option.some.injEq] at hb
    subst hb
    rw [List.getLast?_reverse] at hx
    cases p with
    | nil => simp at hx
    | cons c p =>
      simp only [List.head?_cons, Option.mem_def, Option.some.injEq] at hx
      subst hx
      exact fun e => h.1 e.symm
theorem sumW_app (p q : List E) : sumW (p ++ q) = sumW p + sumW q := by simp [sumW]
theorem sumW_rev (p : List E) : sumW p.reverse = sumW p := by
  induction p with
  | nil => rfl
  | cons a p ih => rw [List.reverse_cons, sumW_app, ih]; simp [sumW]; omega
theorem MxP.congr {p q : List E} {a : E} (h : MxP p a) (hm : ∀ e, e ∈ q ↔ e ∈ p) : MxP q a := by
  refine ⟨fun hq => h.z ?_, fun hq => ?_⟩
  · cases p with
    | nil => rfl
    | cons c p => have := (hm c).2 (by simp); rw [hq] at this; cases this
  · have hp : p ≠ [] := fun hp => by
      obtain ⟨c, hc⟩ := List.exists_mem_of_ne_nil q hq
      have := (hm c).1 hc
      rw [hp] at this; cases this
    obtain ⟨h1, h2⟩ := h.s hp
    exact ⟨(hm a).2 h1, fun e he => h2 e ((hm e).1 he)⟩
theorem AlongR.symm {vs : List Int} {es : List E} {u v : Int} {mx : E} {W K c : Int} (h : AlongR vs es u v mx W K c) : AlongR vs es v u mx W K c := by
  rcases h with ⟨h, r⟩ | ⟨hu, hv, h, r⟩ | ⟨hu, hv, p, hp, np, hm, rfl, rfl, rfl⟩
  · exact .inl ⟨fun k => h ⟨k.2, k.1⟩, r⟩
  · exact .inr (.inl ⟨hv, hu, fun ⟨p, hp, np⟩ => h ⟨_, hp.rev, np.rev⟩, r⟩)
  · exact .inr (.inr ⟨hv, hu, _, hp.rev, np.rev, hm.congr (by simp), (sumW_rev p).symm, by simp, rfl⟩)
theorem Wk.red2 {es : List E} (hi : ∀ e ∈ es, ∀ e' ∈ es, e.id = e'.id → e = e') (hw : ∀ e ∈ es, 0 ≤ e.w) {u v : Int} {p : List E} (h : Wk es u p v) : ∃ q, Wk es u q v ∧ NB q ∧ sumW q ≤ sumW p ∧ ∃ k : Nat, p.length = q.length + 2 * k := by
  induction h with
  | nil => exact ⟨[], .nil _, trivial, Int.le_refl _, 0, rfl⟩
  | cons he hm h ih =>
    rename_i e m v p
    obtain ⟨q, hq, nq, hs, k, hk⟩ := ih
    have he0 := hw e he
    cases q with
    | nil => exact ⟨[e], .cons he hm hq, trivial, by simp [sumW] at hs ⊢; omega, k, by simp at hk ⊢; omega⟩
    | cons e' q =>
      by_cases hid : e.id = e'.id
      · cases hq with
        | cons he' hm' hq' =>
          have := hi e he e' he' hid
          subst this
          rw [oth_oth hm] at hq'
          exact ⟨q, hq', nq.tail, by simp [sumW] at hs ⊢; omega, k + 1, by simp at hk ⊢; omega⟩
      · exact ⟨e :: e' :: q, .cons he hm hq, ⟨hid, nq⟩, by simp [sumW] at hs ⊢; omega, k, by simp at hk ⊢; omega⟩
theorem ids_inj {es : List E} (h : (es.map E.id).Nodup) : ∀ e ∈ es, ∀ e' ∈ es, e.id = e'.id → e = e' := by
  induction es with
  | nil => intro e h; cases h
  | cons c es ih =>
    rw [List.map_cons, List.nodup_cons] at h
    intro e h1 e' h2 hid
    rcases List.mem_cons.1 h1 with e1 | h1 <;> rcases List.mem_cons.1 h2 with e2 | h2
    · rw [e1, e2]
    · exact absurd (by rw [← e1, hid]; exact List.mem_map_of_mem h2) h.1
    · exact absurd (by rw [← e2, ← hid]; exact List.mem_map_of_mem h1) h.1
    · exact ih h.2 e h1 e' h2 hid
theorem cut_exact0 (neg : Bool) (k drop : Nat) (h : drop ≤ (k * 2 ^ drop).log2 + 2) : Toward.zero.cut neg (k * 2 ^ drop) drop = k := by
  unfold Toward.cut
  simp only [Nat.min_eq_left h, Nat.one_shiftLeft, Nat.mul_mod_left, Nat.mul_div_cancel _ (Nat.two_pow_pos drop)]
  simp
theorem fb_toInt {n : Int} (h : In53 n) : floatToIntVal .f64 (fb n) .i64 = some n := by
  have hd : (FloatKind.f64.decode (fb n)).toInt .zero = some n := by
    show (Ieee.double.read (fb n)).toInt .zero = some n
    by_cases h0 : n = 0
    · subst h0; rw [fb_zero]; decide
    · obtain ⟨t, et⟩ := fb_read h
      rw [et]
      have hp : 0 < n.natAbs := by omega
      have hlog : t ≤ (n.natAbs * 2 ^ t).log2 := by
        rw [Nat.le_log2 (Nat.ne_of_gt (Nat.mul_pos hp (Nat.two_pow_pos t)))]
        exact Nat.le_mul_of_pos_left _ hp
      unfold Datum.toInt Datum.integral
      have e1 : (-(t : Int)).toNat = 0 := by omega
      have e2 : (- -(t : Int)).toNat = t := by omega
      simp only [e1, e2, Nat.shiftLeft_zero]
      rw [cut_exact0 _ _ _ (by omega)]
      have := signed_val n 0
      simp only [Nat.pow_zero] at this
      rw [this]; simp
  unfold floatToIntVal
  rw [hd]
  have := h.1; have := h.2
  have e1 : IntKind.i64.min = -9223372036854775808 := by decide
  have e2 : IntKind.i64.max = 9223372036854775807 := by decide
  simp only [e1, e2]
  rw [if_pos (by omega)]
end Go.Dn
namespace Go.Proofs.Ytfknppccgojhdaa.Rd
open Go.Dn Go.RowKit
set_option linter.unusedVariables false
set_option maxRecDepth 100000
theorem fl_add {a b : Int} {x y : Operand} {w : World} {K : Value → World → Prop} (h1 : In53 a) (h2 : In53 b) (h3 : In53 (a + b)) (hk : K (.float .f64 (fb (a + b))) w) :
    Runs Try.prog (do eqGuard .add 52 x y (.float .f64 (fb a)) (.float .f64 (fb b)); binOp .add 52 (.float .f64 (fb a)) (.float .f64 (fb b)) : Sem Value) w K := by
  refine runs_of ?_ hk
  have := run_float_arith (P := Try.prog) w .add 52 .f64 (fb a) (fb b) (fb (a + b)) (fb_add h1 h2 h3)
  simpa [eqGuard] using this
theorem fl_gt {a b : Int} {x y : Operand} {w : World} {K : Value → World → Prop} (h1 : In53 a) (h2 : In53 b) (hk : K (.bool (decide (a > b))) w) :
    Runs Try.prog (do eqGuard .gtr 52 x y (.float .f64 (fb a)) (.float .f64 (fb b)); binOp .gtr 52 (.float .f64 (fb a)) (.float .f64 (fb b)) : Sem Value) w K := by
  refine runs_of ?_ hk
  have : (binOp .gtr 52 (.float .f64 (fb a)) (.float .f64 (fb b))).run Try.prog w = .ok (.bool (FloatKind.f64.format.order (fb a) (fb b) == some .gt)) w := by
    simp [binOp, Op.floatCmp]
  rw [fb_gt h1 h2] at this
  simpa [eqGuard] using this
theorem fl_int {n : Int} {w : World} {K : Value → World → Prop} (h : In53 n) (hk : K (.int .i64 n) w) : Runs Try.prog (Go.convert 52 2 (.float .f64 (fb n))) w K :=
  runs_of (run_convert_float_int w _ _ .f64 .i64 _ n (by rfl) (by rfl) (fb_toInt h)) hk
theorem int_fl {n : Int} {w : World} {K : Value → World → Prop} (hk : K (.float .f64 (fb n)) w) : Runs Try.prog (Go.convert 2 52 (.int .i64 n)) w K :=
  runs_of (run_convert_int_float w _ _ .i64 .f64 _ (by rfl) (by rfl)) hk
end Go.Proofs.Ytfknppccgojhdaa.Rd
