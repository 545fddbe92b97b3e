/- What the treap's laws share: a script's call on a rope, the document's rope empty; the document's example. Conditions: none. -/
import Derived.Test.YtnfgibbkfkaonaaTrN
namespace Go.Proofs.Ytnfgibbkfkaonaa.Rd
open Go.Dn Go.RowKit
set_option linter.unusedVariables false
set_option maxRecDepth 100000

theorem bad_all (a : Int) : (decide (a < 1) || decide (a > ((0 : Nat) : Int))) = true := by
  by_cases h : a < 1
  · simp [h]
  · simp; omega
theorem Rope.as {w : World} {r : RC} {rows : List (List Nat)} {V : Nat → Int × Int} (h : Rope w r rows V) : ∀ a, r.As = some a → a.block < w.heap.size ∧ a.block ≠ r.R ∧ a.block ≠ r.g := by
  obtain ⟨N, ts, hp, hf⟩ := h
  exact fun a ha => (hp.sap a ha).2
theorem wrap_u8 {m : Int} (h : 0 ≤ m ∧ m ≤ 255) : IntKind.i64.wrap m = m := w64_in (by omega)
theorem Mv.refl (w : World) (r : RC) : Mv w r r := ⟨rfl, rfl, rfl, .inl rfl⟩
theorem changes0_ok {w0 w : World} {r : RC} {m : MS} (h : LS w0 w r m) {o : OpV} (ho : OpOk o) :
    Calls Try.prog 10 #[.pointer (some ⟨r.R, 0, none⟩), .agg #[.slice none 0 0, .slice none 0 0, .slice none 0 0], .agg #[.int .i64 o.k, .int .i64 o.a, .int .i64 o.b, .int .i64 o.v, .int .u8 o.m]] w fun e w' =>
      ∃ (A0 : Option Addr) (n0 c0 : Nat) (A1 : Option Addr) (n1 c1 : Nat) (A2 : Option Addr) (n2 c2 : Nat) (b : Bool), e = .returned (.tuple #[.agg #[.slice A0 n0 c0, .slice A1 n1 c1, .slice A2 n2 c2], .bool b]) ∧ ∃ r', LS w0 w' r' (stepM m o) ∧ Mv w r r' ∧ Keeps (Sr r) w w' := by
  have hsz := h.bel.size
  have hlt := h.rope.lt
  have has := h.rope.as
  apply f_law15_changes.ok
  unfold f_law15_changes.wp
  refine al_new fun wa b1 e1 z1 h1 q1 => al_new fun wb b3 e3 z3 h3 q3 => al_new fun wc b5 e5 z5 h5 q5 => ?_
  have h1 := (h1.below q3).below q5
  have h3 := h3.below q5
  have bl : Below w.heap.size w wc := (q1.trans (q3.mono (by omega))).trans (q5.mono (by omega))
  refine hb_ldS0 h1 rfl (hb_ldS (j := 1) h1 rfl (hb_ldS (j := 2) h1 rfl (hb_ldI (j := 1) h3 rfl ((RBad_ok _ _ _ _ _ _ _ _ _ _ _).mono ?_))))
  rintro e wd ⟨rfl, q⟩
  rw [bad_all]
  have h1 := h1.below q; have h3 := h3.below q; have h5 := h5.below q
  have bl : Below w.heap.size w wd := bl.trans (q.mono bl.size)
  have hL := h.below bl
  have hsd : b5 < wd.heap.size := h5.lt
  have kd0 : Keeps (Sr r) w wd := .of_below bl
  -- what comes last
  have fin : ∀ {wz w' : World} {r' : RC} {b : Bool} {A0 : Option Addr} {n0 c0 : Nat} {A1 : Option Addr} {n1 c1 : Nat} {A2 : Option Addr} {n2 c2 : Nat}, LS w0 wz r' (stepM m o) → Mv wd r r' → Keeps (Sr r) w wz → Keeps (fun k => k = b5) wz w' →
      ∃ (A0' : Option Addr) (n0' c0' : Nat) (A1' : Option Addr) (n1' c1' : Nat) (A2' : Option Addr) (n2' c2' : Nat) (b' : Bool), Ending.returned (.tuple #[.agg #[.slice A0 n0 c0, .slice A1 n1 c1, .slice A2 n2 c2], .bool b]) = .returned (.tuple #[.agg #[.slice A0' n0' c0', .slice A1' n1' c1', .slice A2' n2' c2'], .bool b']) ∧
        ∃ r', LS w0 w' r' (stepM m o) ∧ Mv w r r' ∧ Keeps (Sr r) w w' := by
    intro wz w' r' b A0 n0 c0 A1 n1 c1 A2 n2 c2 hl hm hk k'
    refine ⟨_, _, _, _, _, _, _, _, _, _, rfl, r', hl.keeps k' (by rw [hm.R]; omega) ?_ ?_ (by omega), ⟨hm.R, hm.As, hm.B, ?_⟩, ?_⟩
    · rcases hm.g with e | e <;> omega
    · intro a ha; rw [hm.As] at ha; have := (has a ha).1; omega
    · rcases hm.g with e | e
      · exact .inl e
      · exact .inr (by omega)
    · exact hk.trans' k' fun k hk e => by omega
  have Rn : b1 ≠ r.R ∧ b1 ≠ r.g ∧ b3 ≠ r.R ∧ b3 ≠ r.g ∧ b5 ≠ r.R ∧ b5 ≠ r.g := by omega
  refine ⟨true, rfl, hb_ldI0 h3 rfl ?_⟩
  by_cases k1 : o.k = 1
  · refine sel_t (by simp [k1]) (hb_ldI (j := 3) h3 rfl (hb_ldI (j := 4) h3 rfl ?_))
    rw [wrap_u8 ho.2]
    refine (Make_ok hL.rope o.v o.m ⟨ho.1, by have := ho.2; exact ⟨by omega, by omega⟩⟩).mono ?_
    rintro e we ⟨r', rfl, hr, hn, hm, hk⟩
    have hS : LS w0 we r' (stepM m o) := by
      refine ⟨?_, ?_, by rw [hm.B]; exact h.B, h.marks.step ho, hL.belK hk⟩
      · simp only [stepM, k1, if_true]; rw [← h.n]; exact hr
      · simp only [stepM, k1, if_true]; rw [hn, h.n]
    have h1 := h1.keeps hk (by rintro (e | e) <;> omega); have h3 := h3.keeps hk (by rintro (e | e) <;> omega); have h5 := h5.keeps hk (by rintro (e | e) <;> omega)
    refine ⟨_, _, rfl, hb_ldS (j := 1) h1 rfl (sel_f (by simp) (drW_intro ?_))⟩
    have bd : Below we.heap.size we we.drew := (Below.refl _ _).drew
    have h1 := h1.below bd; have h3 := h3.below bd; have h5 := h5.below bd
    have hS := hS.below bd
    have hkd := (kd0.trans hk).trans (.of_below bd)
    refine ⟨fun w' => HB w' b1 #[.slice none 0 0, .slice none 0 0, .slice none 0 0] 34 ∧ HB w' b3 #[.int .i64 o.k, .int .i64 o.a, .int .i64 o.b, .int .i64 o.v, .int .u8 o.m] 30, ⟨h1, h3⟩, ?_⟩
    refine ⟨none, 0, 0, fun w' h' => h'.1.cell 0, none, 0, 0, fun w' h' => h'.1.cell 1, none, 0, 0, fun w' h' => h'.1.cell 2, o.v, fun w' h' => h'.2.cell 3, o.m, fun w' h' => h'.2.cell 4, none, 0, 0, fun w' h' => h'.1.cell 1, ?_⟩
    refine (RMake0_ok _ _ _).mono ?_
    rintro e wf ⟨A0, n0, c0, A1, n1, c1, A2, n2, c2, rfl, q⟩
    have h1 := h1.below q; have h3 := h3.below q; have h5 := h5.below q
    have hS := hS.below q
    have hkd := hkd.trans (.of_below q)
    refine ⟨_, _, _, _, _, _, _, _, _, rfl, ⟨h1, h3⟩, ?_⟩
    by_cases hx : ((makeE r.n).1 == IntKind.i64.wrap (((0 : Nat) : Int) + 1)) = true
    · exact sel_t hx (ret3 h5 fun w' k' => fin hS hm hkd k')
    · exact sel_f (by simpa using hx) (ret3 h5 fun w' k' => fin hS hm hkd k')
  refine sel_f (by simpa using k1) ?_
  by_cases k2 : o.k = 2
  · refine sel_t (by simp [k2]) (hb_ldI (j := 1) h3 rfl (hb_ldI (j := 2) h3 rfl ((Join_ok hL.rope o.a o.b).mono ?_)))
    rintro e we ⟨rfl, hr, hk⟩
    have hS : LS w0 we r (stepM m o) := by
      refine ⟨?_, ?_, h.B, h.marks.step ho, hL.belK hk⟩
      · simp only [stepM, k1, k2, if_true, if_false]; rw [← h.n]; exact hr
      · simp only [stepM, k1, k2, if_true, if_false]; exact h.n
    have h1 := h1.keeps hk (by rintro (e | e) <;> omega); have h5 := h5.keeps hk (by rintro (e | e) <;> omega)
    exact ⟨_, rfl, sel_t rfl (hb_ldS0 h1 rfl (hb_ldS (j := 1) h1 rfl (hb_ldS (j := 2) h1 rfl (ret3 h5 fun w' k' => fin hS (Mv.refl _ _) (kd0.trans hk) k'))))⟩
  refine sel_f (by simpa using k2) ?_
  by_cases k3 : o.k = 3
  · refine sel_t (by simp [k3]) (hb_ldI (j := 1) h3 rfl ((Cut_ok hL.rope o.a).mono ?_))
    rintro e we ⟨rfl, hr, hk⟩
    have hS : LS w0 we r (stepM m o) := by
      refine ⟨?_, ?_, h.B, h.marks.step ho, hL.belK hk⟩
      · simp only [stepM, k1, k2, k3, if_true, if_false]; rw [← h.n]; exact hr
      · simp only [stepM, k1, k2, k3, if_true, if_false]; exact h.n
    have h1 := h1.keeps hk (by rintro (e | e) <;> omega); have h5 := h5.keeps hk (by rintro (e | e) <;> omega)
    exact ⟨_, rfl, sel_t rfl (hb_ldS0 h1 rfl (hb_ldS (j := 1) h1 rfl (hb_ldS (j := 2) h1 rfl (ret3 h5 fun w' k' => fin hS (Mv.refl _ _) (kd0.trans hk) k'))))⟩
  refine sel_f (by simpa using k3) ?_
  by_cases k4 : o.k = 4
  · refine sel_t (by simp [k4]) (hb_ldI (j := 1) h3 rfl (hb_ldI (j := 3) h3 rfl (hb_ldI (j := 4) h3 rfl ?_)))
    rw [wrap_u8 ho.2]
    refine (Set_ok hL.rope o.a o.v o.m ⟨ho.1, by have := ho.2; exact ⟨by omega, by omega⟩⟩).mono ?_
    rintro e we ⟨rfl, hr, hk⟩
    have hS : LS w0 we r (stepM m o) := by
      refine ⟨?_, ?_, h.B, h.marks.step ho, hL.belK hk⟩
      · simp only [stepM, k1, k2, k3, k4, if_true, if_false]; rw [← h.n]; exact hr
      · simp only [stepM, k1, k2, k3, k4, if_true, if_false]; exact h.n
    have h1 := h1.keeps hk (by rintro (e | e) <;> omega); have h5 := h5.keeps hk (by rintro (e | e) <;> omega)
    exact ⟨_, rfl, sel_t rfl (hb_ldS0 h1 rfl (hb_ldS (j := 1) h1 rfl (hb_ldS (j := 2) h1 rfl (ret3 h5 fun w' k' => fin hS (Mv.refl _ _) (kd0.trans hk) k'))))⟩
  refine sel_f (by simpa using k4) ?_
  have hS : LS w0 wd r (stepM m o) := by
    have e : stepM m o = m := by simp only [stepM, k1, k2, k3, k4, if_false]
    rw [e]; exact hL
  exact hb_ldS0 h1 rfl (hb_ldS (j := 1) h1 rfl (hb_ldS (j := 2) h1 rfl (ret3 h5 fun w' k' => fin hS (Mv.refl _ _) kd0 k')))

/-! ### the calls, in a law -/
theorem LS.new {w0 w : World} (hb : Below w0.heap.size w0 w) {A : Option Addr} {sl : List Int} {n c : Nat} (hr : RI w A sl) (hn : n = sl.length) (hc0 : A = none → sl.length = 0 ∧ c = 0) (hlen : sl.length ≤ 17592186044416) :
    Calls Try.prog 8 #[.slice A n c] w fun e w' => ∃ r : RC, e = .returned (.pointer (some ⟨r.R, 0, none⟩)) ∧ LS w0 w' r ⟨1, [], fun _ => (0, 0)⟩ ∧ w.heap.size ≤ r.B ∧ Below w.heap.size w w' := by
  subst hn
  refine (New_ok hr hc0 hlen).mono ?_
  rintro e w1 ⟨r, rfl, hr, hn, hB, hb1⟩
  exact ⟨r, rfl, ⟨hr _, hn, by rw [hB]; exact hb.size, fun i h1 h2 => ⟨Int.le_refl _, by show (0 : Int) ≤ 255; decide⟩, hb.trans (hb1.mono hb.size)⟩, by rw [hB]; exact Nat.le_refl _, hb1⟩
theorem LS.make {w0 w : World} {r : RC} {m : MS} (h : LS w0 w r m) (v k : Int) (hv : In64 v) (hk : 0 ≤ k ∧ k ≤ 255) :
    Calls Try.prog 27 #[.pointer (some ⟨r.R, 0, none⟩), .agg #[.int .i64 v, .int .i64 k]] w fun e w' => ∃ r', e = .returned (.tuple #[.int .i64 (makeE m.n).1, .int .i64 (makeE m.n).2]) ∧ LS w0 w' r' (stepM m ⟨1, 0, 0, v, k⟩) ∧ Mv w r r' ∧ Keeps (Sr r) w w' := by
  refine (Make_ok h.rope v k ⟨hv, by exact ⟨by omega, by omega⟩⟩).mono ?_
  rintro e we ⟨r', rfl, hr, hn, hm, hk'⟩
  refine ⟨r', by rw [h.n], ⟨?_, ?_, by rw [hm.B]; exact h.B, h.marks.step ⟨hv, hk⟩, h.belK hk'⟩, hm, hk'⟩
  · simp only [stepM, if_true]; rw [← h.n]; exact hr
  · simp only [stepM, if_true]; rw [hn, h.n]
theorem LS.join {w0 w : World} {r : RC} {m : MS} (h : LS w0 w r m) (a b : Int) :
    Calls Try.prog 17 #[.pointer (some ⟨r.R, 0, none⟩), .int .i64 a, .int .i64 b] w fun e w' => e = .returned (.int .i64 (joinE m.n m.rows a b)) ∧ LS w0 w' r ⟨m.n, joinS m.n m.rows a b, m.V⟩ ∧ Keeps (Sr r) w w' := by
  refine (Join_ok h.rope a b).mono ?_
  rintro e w' ⟨rfl, hr, hk⟩
  rw [h.n] at hr ⊢
  exact ⟨rfl, ⟨hr, h.n, h.B, h.marks, h.belK hk⟩, hk⟩
theorem LS.cut {w0 w : World} {r : RC} {m : MS} (h : LS w0 w r m) (a : Int) :
    Calls Try.prog 23 #[.pointer (some ⟨r.R, 0, none⟩), .int .i64 a] w fun e w' => e = .returned (.int .i64 (cutE m.n a)) ∧ LS w0 w' r ⟨m.n, cutS m.n m.rows a, m.V⟩ ∧ Keeps (Sr r) w w' := by
  refine (Cut_ok h.rope a).mono ?_
  rintro e w' ⟨rfl, hr, hk⟩
  rw [h.n] at hr ⊢
  exact ⟨rfl, ⟨hr, h.n, h.B, h.marks, h.belK hk⟩, hk⟩
/-- a list that a call made, whatever its block -/
def LI (w : World) (A : Option Addr) (c : Nat) (l : List Int) : Prop := OwnI w 0 3 A c l
theorem LI.reads {w : World} {A : Option Addr} {c : Nat} {l : List Int} (h : LI w A c l) : RI w A l := OwnI.reads h
theorem LI.below {w w' : World} {A : Option Addr} {c : Nat} {l : List Int} (h : LI w A c l) (hb : Below w.heap.size w w') : LI w' A c l := OwnI.keeps (S := fun _ => False) h (.of_below hb) (fun _ _ => id)
theorem LI.ty {w : World} {A : Option Addr} {c : Nat} {l : List Int} (h : LI w A c l) : ∀ a, A = some a → ∃ cs, w.heap[a.block]? = some (Obj.cells cs 3) := by
  intro a ha; subst ha
  rcases h.2 with ⟨h1, _⟩ | ⟨g, cap, cur, hv, _, hh, _⟩
  · cases h1
  · injection hv with hv; injection hv with hv; subst hv; exact ⟨cur, hh⟩
theorem Rope.not_int {w : World} {r : RC} {rows : List (List Nat)} {V : Nat → Int × Int} (h : Rope w r rows V) {k : Nat} {cs : Array Value} (hk : w.heap[k]? = some (Obj.cells cs 3)) : ¬ Sr r k := by
  obtain ⟨N, ts, hp, hf⟩ := h
  rintro (rfl | rfl)
  · rw [hp.obj] at hk; injection hk with hk; injection hk with _ hk; cases hk
  · rcases hp.own.2 with ⟨h1, _⟩ | ⟨g, cap, cur, hv, _, hh, _⟩
    · cases h1
    · injection hv with hv; injection hv with hv; injection hv with hv
      rw [hv, hh] at hk; injection hk with hk; injection hk with _ hk; cases hk
theorem LI.rope {w0 w w' : World} {r : RC} {m : MS} {A : Option Addr} {c : Nat} {l : List Int} (h : LI w A c l) (hL : LS w0 w r m) (hk : Keeps (Sr r) w w') : LI w' A c l :=
  OwnI.keeps h hk fun a ha => by obtain ⟨cs, hc⟩ := h.ty a ha; exact hL.rope.not_int hc
theorem LI.st {w w' : World} {A : Option Addr} {c : Nat} {l : List Int} {b : Nat} {cs : Array Value} {t : TypeId} (h : LI w A c l) (hk : Keeps (fun k => k = b) w w') (hb : HB w b cs t) (ht : t ≠ 3) : LI w' A c l :=
  OwnI.keeps h hk fun a ha e => by
    obtain ⟨cs', hc⟩ := h.ty a ha
    rw [e] at hc; rw [show w.heap[b]? = _ from hb] at hc; injection hc with hc; injection hc with _ hc; exact ht hc
theorem LS.list {w0 w : World} {r : RC} {m : MS} (h : LS w0 w r m) (a : Int) :
    Calls Try.prog 11 #[.pointer (some ⟨r.R, 0, none⟩), .int .i64 a] w fun e w' => ∃ A c, e = .returned (.tuple #[.slice A (listE m.n m.rows a).1.length c, .int .i64 (listE m.n m.rows a).2]) ∧ LI w' A c (zs (listE m.n m.rows a).1) ∧ LS w0 w' r m ∧ Below w.heap.size w w' := by
  refine (List_ok h.rope a).mono ?_
  rintro e w' ⟨A, c, rfl, ho, hb⟩
  rw [h.n] at ho ⊢
  exact ⟨A, c, rfl, ho.mono (Nat.zero_le _), h.below hb, hb⟩
theorem LS.same {w0 w : World} {r : RC} {m : MS} (h : LS w0 w r m) (a b : Int) :
    Calls Try.prog 16 #[.pointer (some ⟨r.R, 0, none⟩), .int .i64 a, .int .i64 b] w fun e w' => e = .returned (.tuple #[.bool (sameE m.n m.rows a b).1, .int .i64 (sameE m.n m.rows a b).2]) ∧ LS w0 w' r m ∧ Below w.heap.size w w' := by
  refine (Same_ok h.rope a b).mono ?_
  rintro e w' ⟨rfl, hb⟩
  rw [h.n]; exact ⟨rfl, h.below hb, hb⟩
theorem LS.index {w0 w : World} {r : RC} {m : MS} (h : LS w0 w r m) (a : Int) :
    Calls Try.prog 24 #[.pointer (some ⟨r.R, 0, none⟩), .int .i64 a] w fun e w' => e = .returned (.tuple #[.int .i64 (indexE m.n m.rows a).1, .int .i64 (indexE m.n m.rows a).2]) ∧ LS w0 w' r m ∧ Below w.heap.size w w' := by
  refine (Index_ok h.rope a).mono ?_
  rintro e w' ⟨rfl, hb⟩
  rw [h.n]; exact ⟨rfl, h.below hb, hb⟩
theorem LS.size {w0 w : World} {r : RC} {m : MS} (h : LS w0 w r m) (a : Int) :
    Calls Try.prog 19 #[.pointer (some ⟨r.R, 0, none⟩), .int .i64 a] w fun e w' => e = .returned (.tuple #[.int .i64 (sizeE m.n m.rows a).1, .int .i64 (sizeE m.n m.rows a).2]) ∧ LS w0 w' r m ∧ Below w.heap.size w w' := by
  refine (Size_ok h.rope a).mono ?_
  rintro e w' ⟨rfl, hb⟩
  rw [h.n]; exact ⟨rfl, h.below hb, hb⟩
theorem LS.at {w0 w : World} {r : RC} {m : MS} (h : LS w0 w r m) (a i : Int) :
    Calls Try.prog 25 #[.pointer (some ⟨r.R, 0, none⟩), .int .i64 a, .int .i64 i] w fun e w' => e = .returned (.tuple #[.int .i64 (atE m.n m.rows a i).1, .int .i64 (atE m.n m.rows a i).2]) ∧ LS w0 w' r m ∧ Below w.heap.size w w' := by
  refine (At_ok h.rope a i).mono ?_
  rintro e w' ⟨rfl, hb⟩
  rw [h.n]; exact ⟨rfl, h.below hb, hb⟩
theorem LS.value {w0 w : World} {r : RC} {m : MS} (h : LS w0 w r m) (a : Int) :
    Calls Try.prog 20 #[.pointer (some ⟨r.R, 0, none⟩), .int .i64 a] w fun e w' => e = .returned (.tuple #[.agg #[.int .i64 (valueE m.n m.V a).1, .int .i64 (valueE m.n m.V a).2.1], .int .i64 (valueE m.n m.V a).2.2]) ∧ LS w0 w' r m ∧ Below w.heap.size w w' := by
  refine (Value_ok h.rope a).mono ?_
  rintro e w' ⟨rfl, hb⟩
  rw [h.n]; exact ⟨rfl, h.below hb, hb⟩
theorem LS.all {w0 w : World} {r : RC} {m : MS} (h : LS w0 w r m) (a : Int) :
    Calls Try.prog 12 #[.pointer (some ⟨r.R, 0, none⟩), .int .i64 a] w fun e w' => e = .returned (.tuple #[.agg #[.int .i64 (allE m.n m.rows m.V a).1, .int .i64 (allE m.n m.rows m.V a).2.1], .int .i64 (allE m.n m.rows m.V a).2.2]) ∧ LS w0 w' r m ∧ Below w.heap.size w w' := by
  refine (All_ok h.rope a).mono ?_
  rintro e w' ⟨rfl, hb⟩
  rw [h.n]; exact ⟨rfl, h.below hb, hb⟩
theorem LS.seek {w0 w : World} {r : RC} {m : MS} (h : LS w0 w r m) (a : Int) :
    Calls Try.prog 13 #[.pointer (some ⟨r.R, 0, none⟩), .int .i64 a, .func (.func 14) #[] #[]] w fun e w' => e = .returned (.tuple #[.int .i64 (seekE m.n m.rows m.V a).1, .int .i64 (seekE m.n m.rows m.V a).2]) ∧ LS w0 w' r m ∧ Below w.heap.size w w' := by
  apply f_treap_Sum_Seek.ok
  refine Seek_ok h.rope (by rw [h.n]; exact h.marks) a _ fun w' hb => ?_
  rw [h.n]; exact ⟨rfl, h.below hb, hb⟩

/-! ### the document's example -/
theorem LS.st {w0 w w' : World} {r : RC} {m : MS} {b : Nat} {cs : Array Value} {t : TypeId} (h : LS w0 w r m) (k : Keeps (fun k => k = b) w w') (hb : HB w b cs t) (h0 : w0.heap.size ≤ b) (hR : b ≠ r.R) (hg : b ≠ r.g) (hA : ∀ a, r.As = some a → a.block ≠ b) : LS w0 w' r m := h.keeps k hR hg hA h0
theorem alive_ok (w : World) : Calls Try.prog 9 #[] w fun e w' => e = .returned (.bool true) ∧ Below w.heap.size w w' := by
  apply f_law15_alive.ok
  unfold f_law15_alive.wp
  refine alW_intro ?_
  have b0 := bal w (.cells #[.int .i64 (3 : Int), .int .i64 (1 : Int)] 3)
  refine (LS.new (w0 := w) b0 (RI.lit w [3, 1] rfl _) rfl (fun h => by cases h) (by simp)).mono ?_
  rintro e w1 ⟨r, rfl, hS, hB, hb⟩
  refine ⟨_, rfl, sel_f rfl ((hS.make 5 0 ⟨by decide, by decide⟩ ⟨by decide, by decide⟩).mono ?_)⟩
  rintro e w2 ⟨r2, rfl, hS2, hm2, k2⟩
  refine ⟨_, _, rfl, ?_⟩
  rw [← hm2.R]
  refine (hS2.make 6 0 ⟨by decide, by decide⟩ ⟨by decide, by decide⟩).mono ?_
  rintro e w3 ⟨r3, rfl, hS3, hm3, k3⟩
  refine ⟨_, _, rfl, ?_⟩
  rw [← hm3.R]
  refine (hS3.make 7 1 ⟨by decide, by decide⟩ ⟨by decide, by decide⟩).mono ?_
  rintro e w4 ⟨r4, rfl, hS4, hm4, k4⟩
  refine ⟨_, _, rfl, ?_⟩
  rw [← hm4.R]
  refine (hS4.join 2 1).mono ?_
  rintro e w5 ⟨rfl, hS5, k5⟩
  refine ⟨_, rfl, (hS5.join 1 3).mono ?_⟩
  rintro e w6 ⟨rfl, hS6, k6⟩
  refine ⟨_, rfl, (hS6.list 3).mono ?_⟩
  rintro e w7 ⟨A7, c7, rfl, hl7, hS7, b7⟩
  refine ⟨_, _, _, _, rfl, (hS7.all 1).mono ?_⟩
  rintro e w8 ⟨rfl, hS8, b8⟩
  refine ⟨_, _, _, rfl, al_new fun w9 bb e9 z9 h9 b9 => ?_⟩
  have hl9 := (hl7.below b8).below b9
  have hS9 := hS8.below b9
  have hlt := hS8.rope.lt
  have has := hS8.rope.as
  have hw8 := hS8.bel.size
  refine hb_st0 h9 (by simp) fun w10 h10 k10 => hb_st (j := 1) h10 (by simp) fun w11 h11 k11 => ?_
  have hl11 := (hl9.st k10 h9 (by decide)).st k11 h10 (by decide)
  have hS11 := hS9.keeps (k10.trans k11) (by omega) (by omega) (fun a ha => by have := (has a ha).1; omega) (by omega)
  refine (hS11.index 1).mono ?_
  rintro e w12 ⟨rfl, hS12, b12⟩
  refine ⟨_, _, rfl, (hS12.seek 2).mono ?_⟩
  rintro e w13 ⟨rfl, hS13, b13⟩
  refine ⟨_, _, rfl, ?_⟩
  unfold f_law15_alive.j0
  refine (hS13.cut 1).mono ?_
  rintro e w14 ⟨rfl, hS14, k14⟩
  refine ⟨_, rfl, (hS14.list 2).mono ?_⟩
  rintro e w15 ⟨A15, c15, rfl, hl15, hS15, b15⟩
  have hl13 := (hl11.below b12).below b13
  have hlx := (hl13.rope hS13 k14).below b15
  have hb11 := (h11.below b12).below b13
  have hb15 := (hb11.keeps k14 (by rintro (e | e) <;> omega)).below b15
  refine ⟨_, _, _, _, rfl, ?_⟩
  iterate 14 refine sel_f (by decide) ?_
  unfold f_law15_alive.j1
  refine al_new fun w16 b16 e16 z16 h16 q16 => ?_
  have hr16 : RI w16 (some ⟨b16, 0, none⟩) [2, 1, 3] := fun i hi => ⟨_, rfl, by
    rw [h16.cell]
    match i, hi with | 0, _ => rfl | 1, _ => rfl | 2, _ => rfl⟩
  refine (SameInts_ok (hlx.below q16).reads (by decide) hr16 rfl (by decide)).mono ?_
  rintro e w17 ⟨rfl, b17⟩
  have hbz := (hb15.below q16).below b17
  refine ⟨_, rfl, sel_t (by decide) (hb_ldI0 hbz rfl (sel_t (by decide) (sel_t (by decide) (sel_t (by decide) ?_))))⟩
  intro _ _
  have fin : ∀ {b : Bool}, b = true → Ending.returned (.bool b) = .returned (.bool true) := fun h => by rw [h]
  exact ⟨fin (by decide), (hS15.below q16).bel.trans (b17.mono (by have := hS15.bel.size; have := q16.size; omega))⟩
end Go.Proofs.Ytnfgibbkfkaonaa.Rd
