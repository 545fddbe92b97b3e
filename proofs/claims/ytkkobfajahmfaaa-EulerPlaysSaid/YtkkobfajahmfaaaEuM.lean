/- Tours: rows of places as closed walks along the edges of trees, in plain terms; rows up to their order. Conditions: none. -/
import Derived.Test.YtkkobfajahmfaaaEsB
namespace Go.Dn
set_option linter.unusedVariables false

/-! ### rotations -/
def Rot (l m : List Nat) : Prop := ∃ a b, l = a ++ b ∧ m = b ++ a
theorem Rot.refl (l : List Nat) : Rot l l := ⟨[], l, by simp, by simp⟩
theorem Rot.symm {l m : List Nat} (h : Rot l m) : Rot m l := by obtain ⟨a, b, h1, h2⟩ := h; exact ⟨b, a, h2, h1⟩
theorem Rot.trans {l m n : List Nat} (h : Rot l m) (k : Rot m n) : Rot l n := by
  obtain ⟨a, b, rfl, h2⟩ := h
  obtain ⟨c, d, h3, rfl⟩ := k
  rw [h2] at h3
  rcases List.append_eq_append_iff.1 h3 with ⟨e, rfl, rfl⟩ | ⟨e, rfl, rfl⟩
  · exact ⟨e, d ++ b, by simp, by simp⟩
  · exact ⟨a ++ c, e, by simp, by simp⟩
theorem Rot.perm {l m : List Nat} (h : Rot l m) : l.Perm m := by obtain ⟨a, b, rfl, rfl⟩ := h; exact List.perm_append_comm
theorem Rot.mem {l m : List Nat} (h : Rot l m) {x : Nat} : x ∈ l ↔ x ∈ m := h.perm.mem_iff
theorem Rot.uniq {t : Nat} {p q : List Nat} (nd : (t :: p).Nodup) (h : Rot (t :: p) (t :: q)) : p = q := by
  obtain ⟨a, b, h1, h2⟩ := h
  cases a with
  | nil => rw [List.nil_append] at h1; rw [List.append_nil, ← h1] at h2; injection h2 with _ h2; exact h2.symm
  | cons t' a' =>
    rw [List.cons_append] at h1
    injection h1 with h0 h1
    subst h0; subst h1
    cases b with
    | nil => rw [List.nil_append] at h2; injection h2 with _ h2; rw [List.append_nil]; exact h2.symm
    | cons t2 b' =>
      rw [List.cons_append] at h2
      injection h2 with h0 h2
      subst h0
      rw [List.nodup_cons] at nd
      exact absurd (by simp) nd.1

/-! ### tours -/
inductive Pl where
  | v (i : Int)
  | t (i : Int)
  | b (i : Int)
def okP (vs : List Int) (es : List E) : Pl → Prop
  | .v i => i ∈ vs
  | .t i => i ∈ es.map E.id
  | .b i => i ∈ es.map E.id
inductive Tour (vs : List Int) (es : List E) (nm : Pl → Nat) : List Nat → Prop
  | one {v : Int} (h : v ∈ vs) : Tour vs es nm [nm (.v v)]
  | rot {a b : List Nat} (h : Tour vs es nm (a ++ b)) : Tour vs es nm (b ++ a)
  | link {e : E} {A B : List Nat} (he : e ∈ es) (h1 : Tour vs es nm (nm (.v e.u) :: A)) (h2 : Tour vs es nm (nm (.v e.v) :: B)) : Tour vs es nm ((nm (.v e.u) :: A) ++ nm (.t e.id) :: ((nm (.v e.v) :: B) ++ [nm (.b e.id)]))
structure Nm (vs : List Int) (es : List E) (nm : Pl → Nat) : Prop where
  inj : ∀ p q, okP vs es p → okP vs es q → nm p = nm q → p = q
  ids : (es.map E.id).Nodup
  ends : ∀ e ∈ es, e.u ∈ vs ∧ e.v ∈ vs
theorem ids_inj {es : List E} (h : (es.map E.id).Nodup) : ∀ {e e' : E}, e ∈ es → e' ∈ es → e.id = e'.id → e = e' := by
  induction es with
  | nil => intro e e' h; cases h
  | cons c p ih =>
    intro e e' h1 h2 hid
    rw [List.map_cons, List.nodup_cons] at h
    rcases List.mem_cons.1 h1 with e1 | h1 <;> rcases List.mem_cons.1 h2 with e2 | h2
    · rw [e1, e2]
    · exact absurd (by rw [← e1, hid]; exact List.mem_map_of_mem h2) h.1
    · exact absurd (by rw [← e2, ← hid]; exact List.mem_map_of_mem h1) h.1
    · exact ih h.2 h1 h2 hid
section
variable {vs : List Int} {es : List E} {nm : Pl → Nat}
theorem okV {i : Int} (h : i ∈ vs) : okP vs es (.v i) := h
theorem okT {e : E} (h : e ∈ es) : okP vs es (.t e.id) := List.mem_map_of_mem h
theorem okB {e : E} (h : e ∈ es) : okP vs es (.b e.id) := List.mem_map_of_mem h
theorem Nm.vt (N : Nm vs es nm) {i : Int} {e : E} (hi : i ∈ vs) (he : e ∈ es) : nm (.v i) ≠ nm (.t e.id) := fun h => by cases N.inj _ _ (okV hi) (okT he) h
theorem Nm.vb (N : Nm vs es nm) {i : Int} {e : E} (hi : i ∈ vs) (he : e ∈ es) : nm (.v i) ≠ nm (.b e.id) := fun h => by cases N.inj _ _ (okV hi) (okB he) h
theorem Nm.tb (N : Nm vs es nm) {e e' : E} (he : e ∈ es) (he' : e' ∈ es) : nm (.t e.id) ≠ nm (.b e'.id) := fun h => by cases N.inj _ _ (okT he) (okB he') h
theorem Nm.tt (N : Nm vs es nm) {e e' : E} (he : e ∈ es) (he' : e' ∈ es) (h : nm (.t e.id) = nm (.t e'.id)) : e = e' := by
  have := N.inj _ _ (okT he) (okT he') h
  injection this with this
  exact ids_inj N.ids he he' this
theorem Nm.bb (N : Nm vs es nm) {e e' : E} (he : e ∈ es) (he' : e' ∈ es) (h : nm (.b e.id) = nm (.b e'.id)) : e = e' := by
  have := N.inj _ _ (okB he) (okB he') h
  injection this with this
  exact ids_inj N.ids he he' this
theorem Nm.vv (N : Nm vs es nm) {i j : Int} (hi : i ∈ vs) (hj : j ∈ vs) (h : nm (.v i) = nm (.v j)) : i = j := by
  have := N.inj _ _ (okV hi) (okV hj) h
  injection this
theorem link_mem {p q r s : Nat} {A B : List Nat} {x : Nat} : x ∈ (p :: A) ++ q :: ((r :: B) ++ [s]) ↔ x ∈ p :: A ∨ x = q ∨ x ∈ r :: B ∨ x = s := by simp only [List.mem_append, List.mem_cons, List.not_mem_nil, or_false]
theorem Tour.ne {l : List Nat} (h : Tour vs es nm l) : l ≠ [] := by
  induction h with
  | one => simp
  | rot h ih => intro e; apply ih; rw [List.append_eq_nil_iff] at e ⊢; exact ⟨e.2, e.1⟩
  | link => simp
theorem Tour.of_rot {l m : List Nat} (h : Tour vs es nm l) (r : Rot l m) : Tour vs es nm m := by
  obtain ⟨a, b, rfl, rfl⟩ := r; exact h.rot
theorem Tour.ok {l : List Nat} (N : Nm vs es nm) (h : Tour vs es nm l) : ∀ x ∈ l, ∃ p, okP vs es p ∧ x = nm p := by
  induction h with
  | one h => intro x hx; simp only [List.mem_singleton] at hx; exact ⟨_, okV h, hx⟩
  | rot h ih => intro x hx; exact ih x (by rw [List.mem_append] at hx ⊢; exact hx.symm)
  | link he h1 h2 i1 i2 =>
    intro x hx
    rcases link_mem.1 hx with hx | rfl | hx | rfl
    · exact i1 x hx
    · exact ⟨_, okT he, rfl⟩
    · exact i2 x hx
    · exact ⟨_, okB he, rfl⟩
theorem Tour.closed {l : List Nat} (N : Nm vs es nm) (h : Tour vs es nm l) {e : E} (he : e ∈ es) : nm (.t e.id) ∈ l ∨ nm (.b e.id) ∈ l → nm (.t e.id) ∈ l ∧ nm (.b e.id) ∈ l ∧ nm (.v e.u) ∈ l ∧ nm (.v e.v) ∈ l := by
  induction h with
  | one h =>
    intro hx
    simp only [List.mem_singleton] at hx
    rcases hx with hx | hx
    · exact absurd hx.symm (N.vt h he)
    · exact absurd hx.symm (N.vb h he)
  | rot h ih => intro hx; simp only [List.mem_append, or_comm] at hx ih ⊢; exact ih hx
  | @link e0 A B he0 h1 h2 i1 i2 =>
    intro hx
    simp only [link_mem] at hx ⊢
    have key : e = e0 → ((nm (.t e.id) ∈ nm (.v e0.u) :: A ∨ nm (.t e.id) = nm (.t e0.id) ∨ nm (.t e.id) ∈ nm (.v e0.v) :: B ∨ nm (.t e.id) = nm (.b e0.id)) ∧ (nm (.b e.id) ∈ nm (.v e0.u) :: A ∨ nm (.b e.id) = nm (.t e0.id) ∨ nm (.b e.id) ∈ nm (.v e0.v) :: B ∨ nm (.b e.id) = nm (.b e0.id)) ∧ (nm (.v e.u) ∈ nm (.v e0.u) :: A ∨ nm (.v e.u) = nm (.t e0.id) ∨ nm (.v e.u) ∈ nm (.v e0.v) :: B ∨ nm (.v e.u) = nm (.b e0.id)) ∧ (nm (.v e.v) ∈ nm (.v e0.u) :: A ∨ nm (.v e.v) = nm (.t e0.id) ∨ nm (.v e.v) ∈ nm (.v e0.v) :: B ∨ nm (.v e.v) = nm (.b e0.id))) := by
      rintro rfl; exact ⟨.inr (.inl rfl), .inr (.inr (.inr rfl)), .inl (by simp), .inr (.inr (.inl (by simp)))⟩
    have inA : nm (.t e.id) ∈ nm (.v e0.u) :: A ∨ nm (.b e.id) ∈ nm (.v e0.u) :: A → _ := fun hh => i1 hh
    have inB : nm (.t e.id) ∈ nm (.v e0.v) :: B ∨ nm (.b e.id) ∈ nm (.v e0.v) :: B → _ := fun hh => i2 hh
    rcases hx with (hx | hx | hx | hx) | (hx | hx | hx | hx)
    · obtain ⟨a, b, c, d⟩ := inA (.inl hx); exact ⟨.inl a, .inl b, .inl c, .inl d⟩
    · exact key (N.tt he he0 hx)
    · obtain ⟨a, b, c, d⟩ := inB (.inl hx); exact ⟨.inr (.inr (.inl a)), .inr (.inr (.inl b)), .inr (.inr (.inl c)), .inr (.inr (.inl d))⟩
    · exact absurd hx (N.tb he he0)
    · obtain ⟨a, b, c, d⟩ := inA (.inr hx); exact ⟨.inl a, .inl b, .inl c, .inl d⟩
    · exact absurd hx.symm (N.tb he0 he)
    · obtain ⟨a, b, c, d⟩ := inB (.inr hx); exact ⟨.inr (.inr (.inl a)), .inr (.inr (.inl b)), .inr (.inr (.inl c)), .inr (.inr (.inl d))⟩
    · exact key (N.bb he he0 hx)
theorem Tour.conn {l : List Nat} (N : Nm vs es nm) (h : Tour vs es nm l) : ∀ {u v : Int}, u ∈ vs → v ∈ vs → nm (.v u) ∈ l → nm (.v v) ∈ l → Cn es u v := by
  induction h with
  | one h =>
    intro u v hu hv h1 h2
    simp only [List.mem_singleton] at h1 h2
    rw [N.vv hu h h1, N.vv hv h h2]; exact Cn.refl _ _
  | rot h ih => intro u v hu hv h1 h2; simp only [List.mem_append, or_comm] at h1 h2 ih; exact ih hu hv h1 h2
  | @link e0 A B he0 h1 h2 i1 i2 =>
    intro u v hu hv m1 m2
    obtain ⟨eu, ev⟩ := N.ends _ he0
    have side : ∀ {w : Int}, w ∈ vs → nm (.v w) ∈ (nm (.v e0.u) :: A) ++ nm (.t e0.id) :: ((nm (.v e0.v) :: B) ++ [nm (.b e0.id)]) → Cn es w e0.u := by
      intro w hw m
      rcases link_mem.1 m with m | m | m | m
      · exact i1 hw eu m (by simp)
      · exact absurd m (N.vt hw he0)
      · exact (i2 hw ev m (by simp)).trans (Cn.edge he0).symm
      · exact absurd m (N.vb hw he0)
    exact (side hu m1).trans (side hv m2).symm
theorem Tour.count {l : List Nat} (N : Nm vs es nm) {f : Nat → Bool} (fv : ∀ v ∈ vs, f (nm (.v v)) = true) (ft : ∀ e ∈ es, f (nm (.t e.id)) = false ∧ f (nm (.b e.id)) = false) (h : Tour vs es nm l) : 2 * l.countP f = l.countP (fun x => !f x) + 2 := by
  induction h with
  | one h => simp [fv _ h]
  | rot h ih => simp only [List.countP_append] at ih ⊢; omega
  | @link e0 A B he0 h1 h2 i1 i2 =>
    have := ft _ he0
    clear h1 h2
    generalize nm (.v e0.u) :: A = LA at *
    generalize nm (.v e0.v) :: B = LB at *
    simp only [List.countP_append, List.countP_cons, List.countP_nil, this.1, this.2, Bool.not_false, if_true, Bool.false_eq_true, if_false]
    omega
theorem Tour.mono {vs' : List Int} {es' : List E} {nm' : Pl → Nat} {l : List Nat} (N : Nm vs es nm) (h : Tour vs es nm l) : (∀ v ∈ vs, nm (.v v) ∈ l → v ∈ vs' ∧ nm' (.v v) = nm (.v v)) → (∀ e ∈ es, nm (.t e.id) ∈ l → e ∈ es' ∧ nm' (.t e.id) = nm (.t e.id) ∧ nm' (.b e.id) = nm (.b e.id)) → Tour vs' es' nm' l := by
  induction h with
  | one h =>
    intro hv he
    obtain ⟨a, b⟩ := hv _ h (by simp)
    rw [← b]; exact .one a
  | rot h ih =>
    intro hv he
    refine .rot (ih (fun v h m => hv v h ?_) fun e h m => he e h ?_)
    · rw [List.mem_append] at m ⊢; exact m.symm
    · rw [List.mem_append] at m ⊢; exact m.symm
  | @link e0 A B he0 h1 h2 i1 i2 =>
    intro hv he
    obtain ⟨eu, ev⟩ := N.ends _ he0
    obtain ⟨a1, a2, a3⟩ := he _ he0 (link_mem.2 (.inr (.inl rfl)))
    have j1 := i1 (fun v h m => hv v h (link_mem.2 (.inl m))) fun e h m => he e h (link_mem.2 (.inl m))
    have j2 := i2 (fun v h m => hv v h (link_mem.2 (.inr (.inr (.inl m))))) fun e h m => he e h (link_mem.2 (.inr (.inr (.inl m))))
    have b1 := (hv _ eu (link_mem.2 (.inl (by simp)))).2
    have b2 := (hv _ ev (link_mem.2 (.inr (.inr (.inl (by simp)))))).2
    rw [← b1] at j1
    rw [← b2] at j2
    have := Tour.link a1 j1 j2
    rw [a2, a3, b1, b2] at this
    exact this
theorem ins_cut {T : List Nat → Prop} (hrot : ∀ a b, T (a ++ b) → T (b ++ a)) {z t b : Nat} {A X Y Z : List Nat} (hT : ∀ P, T (z :: P) → T ((z :: P) ++ Z)) (zt : z ≠ t) (zb : z ≠ b) (hr : Rot (z :: A) (t :: (X ++ b :: Y))) (hX : T X) (hY : T Y) :
    ∃ X' Y', Rot ((z :: A) ++ Z) (t :: (X' ++ b :: Y')) ∧ T X' ∧ T Y' ∧ (∀ x ∈ X, x ∈ X') ∧ (∀ y ∈ Y, y ∈ Y') := by
  obtain ⟨p, q, h1, h2⟩ := hr
  cases p with
  | nil =>
    rw [List.nil_append] at h1; rw [List.append_nil, ← h1] at h2
    injection h2 with h2 _; exact absurd h2.symm zt
  | cons z' p' =>
    rw [List.cons_append] at h1
    injection h1 with h0 h1
    subst h0; subst h1
    cases q with
    | nil => rw [List.nil_append] at h2; injection h2 with h2 _; exact absurd h2.symm zt
    | cons t' q' =>
      rw [List.cons_append] at h2
      injection h2 with h0 h2
      subst h0
      rcases List.append_eq_append_iff.1 h2 with ⟨c, hc1, hc2⟩ | ⟨c, hc1, hc2⟩
      · cases c with
        | nil => rw [List.nil_append] at hc2; injection hc2 with hc2 _; exact absurd hc2.symm zb
        | cons b' c' =>
          rw [List.cons_append] at hc2
          injection hc2 with h0 hc2
          subst h0; subst hc1; subst hc2
          refine ⟨X, (c' ++ Z) ++ z :: p', ⟨z :: p', t :: (X ++ b :: (c' ++ Z)), by simp, by simp⟩, hX, ?_, fun x h => h, fun y h => ?_⟩
          · have := hT (p' ++ c') (by rw [← List.cons_append]; exact hrot _ _ hY)
            exact hrot (z :: p') (c' ++ Z) (by simpa using this)
          · simp only [List.mem_append, List.mem_cons] at h ⊢
            rcases h with h | h
            · exact .inl (.inl h)
            · exact .inr h
      · cases c with
        | nil => rw [List.nil_append] at hc2; injection hc2 with hc2 _; exact absurd hc2 zb
        | cons z2 c' =>
          rw [List.cons_append] at hc2
          injection hc2 with h0 hc2
          subst h0; subst hc1; subst hc2
          refine ⟨(q' ++ Z) ++ z :: c', Y, ⟨z :: (c' ++ b :: Y), t :: (q' ++ Z), by simp, by simp⟩, ?_, hY, fun x h => ?_, fun y h => h⟩
          · have := hT (c' ++ q') (by rw [← List.cons_append]; exact hrot _ _ hX)
            exact hrot (z :: c') (q' ++ Z) (by simpa using this)
          · simp only [List.mem_append, List.mem_cons] at h ⊢
            rcases h with h | h
            · exact .inl (.inl h)
            · exact .inr h
theorem Tour.cut {l : List Nat} (N : Nm vs es nm) (h : Tour vs es nm l) {e : E} (he : e ∈ es) : nm (.t e.id) ∈ l → ∃ X Y, Rot l (nm (.t e.id) :: (X ++ nm (.b e.id) :: Y)) ∧ Tour vs es nm X ∧ Tour vs es nm Y ∧ nm (.v e.v) ∈ X ∧ nm (.v e.u) ∈ Y := by
  induction h with
  | one h => intro m; simp only [List.mem_singleton] at m; exact absurd m.symm (N.vt h he)
  | @rot a b h ih =>
    intro m
    obtain ⟨X, Y, r, x⟩ := ih (by rw [List.mem_append] at m ⊢; exact m.symm)
    exact ⟨X, Y, Rot.trans ⟨b, a, rfl, rfl⟩ r, x⟩
  | @link e0 A B he0 h1 h2 i1 i2 =>
    intro m
    obtain ⟨eu, ev⟩ := N.ends _ he0
    rcases link_mem.1 m with m | m | m | m
    · obtain ⟨X, Y, r, tX, tY, mv, mu⟩ := i1 m
      obtain ⟨X', Y', r', tX', tY', sX, sY⟩ := ins_cut (T := Tour vs es nm) (fun _ _ h => h.rot) (Z := nm (.t e0.id) :: ((nm (.v e0.v) :: B) ++ [nm (.b e0.id)])) (fun P h => Tour.link he0 h h2) (N.vt eu he) (N.vb eu he) r tX tY
      exact ⟨X', Y', r', tX', tY', sX _ mv, sY _ mu⟩
    · have := N.tt he he0 m
      subst this
      exact ⟨nm (.v e.v) :: B, nm (.v e.u) :: A, ⟨nm (.v e.u) :: A, nm (.t e.id) :: ((nm (.v e.v) :: B) ++ [nm (.b e.id)]), by simp, by simp⟩, h2, h1, by simp, by simp⟩
    · obtain ⟨X, Y, r, tX, tY, mv, mu⟩ := i2 m
      obtain ⟨X', Y', r', tX', tY', sX, sY⟩ := ins_cut (T := Tour vs es nm) (fun _ _ h => h.rot) (Z := nm (.b e0.id) :: ((nm (.v e0.u) :: A) ++ [nm (.t e0.id)])) (fun P h => by
        have := Tour.link he0 h1 h
        have h3 := Tour.rot (a := (nm (.v e0.u) :: A) ++ [nm (.t e0.id)]) (b := (nm (.v e0.v) :: P) ++ [nm (.b e0.id)]) (by simpa using this)
        simpa using h3) (N.vt ev he) (N.vb ev he) r tX tY
      refine ⟨X', Y', Rot.trans ⟨(nm (.v e0.u) :: A) ++ [nm (.t e0.id)], (nm (.v e0.v) :: B) ++ [nm (.b e0.id)], by simp, rfl⟩ (by simpa using r'), tX', tY', sX _ mv, sY _ mu⟩
    · exact absurd m (N.tb he he0)
end

/-! ### rows up to their order -/
theorem Disj.symm {s t : List Nat} (h : Disj s t) : Disj t s := fun x h1 h2 => h x h2 h1
theorem RowsOk.perm {n : Nat} {rows R : List (List Nat)} (h : RowsOk n rows) (p : rows.Perm R) : RowsOk n R :=
  ⟨fun l hl => h.nd l (p.mem_iff.2 hl), fun l hl => h.ne l (p.mem_iff.2 hl), (p.pairwise_iff (fun h => Disj.symm h)).1 h.dj, fun i => by
    rw [← h.mem i]
    exact ⟨fun ⟨l, hl, hi⟩ => ⟨l, p.mem_iff.2 hl, hi⟩, fun ⟨l, hl, hi⟩ => ⟨l, p.mem_iff.1 hl, hi⟩⟩⟩
theorem join_perm {n : Nat} {rows R : List (List Nat)} {la lb : List Nat} {a b : Nat} (h : RowsOk n rows) (p : rows.Perm (la :: lb :: R)) (ha : a ∈ la) (hb : b ∈ lb) : (joinR rows a b).Perm ((la ++ lb) :: R) := by
  have h' := h.perm p
  have hd := h'.dj
  rw [List.pairwise_cons, List.pairwise_cons] at hd
  obtain ⟨d1, d2, d3⟩ := hd
  unfold joinR
  rw [h.rowOf_eq (p.mem_iff.2 (by simp)) ha, h.rowOf_eq (l := lb) (p.mem_iff.2 (by simp)) hb]
  have f : (rows.filter fun l => decide (a ∉ l ∧ b ∉ l)).Perm R := by
    refine (p.filter _).trans ?_
    rw [List.filter_cons_of_neg (by simp [ha]), List.filter_cons_of_neg (by simp [hb]), List.filter_eq_self.2]
    intro l hl
    have n1 : a ∉ l := d1 l (by simp [hl]) a ha
    have n2 : b ∉ l := d2 l hl b hb
    simp [n1, n2]
  exact (List.perm_append_comm).trans (f.cons _)
theorem cut_perm {n : Nat} {rows R : List (List Nat)} {l : List Nat} {a : Nat} (h : RowsOk n rows) (p : rows.Perm (l :: R)) (ha : a ∈ l) : (cutR rows a).Perm (pieces a l ++ R) := by
  have h' := h.perm p
  have hd := h'.dj
  rw [List.pairwise_cons] at hd
  unfold cutR
  refine (p.flatMap_right _).trans ?_
  rw [List.flatMap_cons]
  refine List.Perm.append_left _ ?_
  have : R.flatMap (pieces a) = R := by
    have key : ∀ {L : List (List Nat)}, (∀ m ∈ L, a ∉ m) → L.flatMap (pieces a) = L := by
      intro L
      induction L with
      | nil => intro _; rfl
      | cons m L ih =>
        intro hm
        rw [List.flatMap_cons, ih fun x hx => hm x (by simp [hx])]
        unfold pieces
        rw [if_neg (hm m (by simp))]; rfl
    exact key fun m hm => hd.1 m hm a ha
  rw [this]
theorem split_at {l : List Nat} {a : Nat} (ha : a ∈ l) : ∃ P, l.drop (l.idxOf a) = a :: P ∧ Rot l (a :: (P ++ l.take (l.idxOf a))) := by
  have hlt := List.idxOf_lt_length_of_mem ha
  refine ⟨l.drop (l.idxOf a + 1), ?_, l.take (l.idxOf a), l.drop (l.idxOf a), (List.take_append_drop _ _).symm, ?_⟩
  · rw [List.drop_eq_getElem_cons hlt, List.getElem_idxOf]
  · rw [List.drop_eq_getElem_cons hlt, List.getElem_idxOf]; rfl
end Go.Dn
