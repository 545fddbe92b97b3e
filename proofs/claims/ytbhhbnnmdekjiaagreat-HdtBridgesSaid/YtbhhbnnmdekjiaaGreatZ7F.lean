/- Tours: rows of places as closed walks along the edges of trees, in plain terms; rows up to their order · A forest of closed walks in memory: its rope, three maps, spare places; make, drop, turn, alone · What holds of a forest of closed walks, in plain terms: its vertices, edges, marks against its maps and rows; a vertex and an edge that come and go · What holds of a forest of closed walks, in plain terms: an edge that comes and goes, marks · A forest of closed walks by its vertices and edges: AddV, DelV, Has, Len · slices.Sort and slices.Compact at whole numbers: the library's contracts laid at this program (printed by wip/laytxt.py), and what they make of a row of one's own · A forest of closed walks by its vertices and edges: DelV, Has, Len, Verts, Edges · A forest of closed walks by its vertices and edges: Joined, Link · A forest of closed walks by its vertices and edges: Cut, Size, marks, New · A forest of closed walks by its vertices and edges: SomeV, SomeE, New -/
import Derived.Test.YtbhhbnnmdekjiaaGreatZ7E
import Derived.Test.YtbhhbnnmdekjiaaGreatZ7B
import Derived.Shelf.SortM.Plain
import Derived.Shelf.SortM.SortNone
import Derived.Shelf.SlicesG.CompactI
set_option linter.unusedSimpArgs false
set_option linter.unusedVariables false
namespace Go.Dn
def Rot (l m : List Nat) : Prop := ∃ a b, l = a ++ b ∧ m = b ++ a
theorem Rot.refl (l : List Nat) : Rot l l := ⟨[], l, by simp, by simp⟩
theorem Rot.symm {l m : List Nat} (h : Rot l m) : Rot m l := by obtain ⟨a, b, h1, h2⟩ := h; exact ⟨b, a, h2, h1⟩
theorem Rot.trans {l m n : List Nat} (h : Rot l m) (k : Rot m n) : Rot l n := by
  obtain ⟨a, b, rfl, h2⟩ := h
  obtain ⟨c, d, h3, rfl⟩ := k
  rw [h2] at h3
  rcases List.append_eq_append_iff.1 h3 with ⟨e, rfl, rfl⟩ | ⟨e, rfl, rfl⟩
  · exact ⟨e, d ++ b, by simp, by simp⟩
  · exact ⟨a ++ c, e, by simp, by simp⟩
theorem Rot.perm {l m : List Nat} (h : Rot l m) : l.Perm m := by obtain ⟨a, b, rfl, rfl⟩ := h; exact List.perm_append_comm
theorem Rot.mem {l m : List Nat} (h : Rot l m) {x : Nat} : x ∈ l ↔ x ∈ m := h.perm.mem_iff
theorem Rot.uniq {t : Nat} {p q : List Nat} (nd : (t :: p).Nodup) (h : Rot (t :: p) (t :: q)) : p = q := by
  obtain ⟨a, b, h1, h2⟩ := h
  cases a with
  | nil => rw [List.nil_append] at h1; rw [List.append_nil, ← h1] at h2; injection h2 with _ h2; exact h2.symm
  | cons t' a' =>
    rw [List.cons_append] at h1
    injection h1 with h0 h1
    subst h0; subst h1
    cases b with
    | nil => rw [List.nil_append] at h2; injection h2 with _ h2; rw [List.append_nil]; exact h2.symm
    | cons t2 b' =>
      rw [List.cons_append] at h2
      injection h2 with h0 h2
      subst h0
      rw [List.nodup_cons] at nd
      exact absurd (by simp) nd.1
inductive Pl where
  | v (i : Int)
  | t (i : Int)
  | b (i : Int)
def okP (vs : List Int) (es : List E) : Pl → Prop
  | .v i => i ∈ vs
  | .t i => i ∈ es.map E.id
  | .b i => i ∈ es.map E.id
inductive Tour (vs : List Int) (es : List E) (nm : Pl → Nat) : List Nat → Prop
  | one {v : Int} (h : v ∈ vs) : Tour vs es nm [nm (.v v)]
  | rot {a b : List Nat} (h : Tour vs es nm (a ++ b)) : Tour vs es nm (b ++ a)
  | link {e : E} {A B : List Nat} (he : e ∈ es) (h1 : Tour vs es nm (nm (.v e.u) :: A)) (h2 : Tour vs es nm (nm (.v e.v) :: B)) : Tour vs es nm ((nm (.v e.u) :: A) ++ nm (.t e.id) :: ((nm (.v e.v) :: B) ++ [nm (.b e.id)]))
structure Nm (vs : List Int) (es : List E) (nm : Pl → Nat) : Prop where
  inj : ∀ p q, okP vs es p → okP vs es q → nm p = nm q → p = q
  ids : (es.map E.id).Nodup
  ends : ∀ e ∈ es, e.u ∈ vs ∧ e.v ∈ vs
theorem ids_inj {es : List E} (h : (es.map E.id).Nodup) : ∀ {e e' : E}, e ∈ es → e' ∈ es → e.id = e'.id → e = e' := by
  induction es with
  | nil => intro e e' h; cases h
  | cons c p ih =>
    intro e e' h1 h2 hid
    rw [List.map_cons, List.nodup_cons] at h
    rcases List.mem_cons.1 h1 with e1 | h1 <;> rcases List.mem_cons.1 h2 with e2 | h2
    · rw [e1, e2]
    · exact absurd (by rw [← e1, hid]; exact List.mem_map_of_mem h2) h.1
    · exact absurd (by rw [← e2, ← hid]; exact List.mem_map_of_mem h1) h.1
    · exact ih h.2 h1 h2 hid
section
variable {vs : List Int} {es : List E} {nm : Pl → Nat}
theorem okV {i : Int} (h : i ∈ vs) : okP vs es (.v i) := h
theorem okT {e : E} (h : e ∈ es) : okP vs es (.t e.id) := List.mem_map_of_mem h
theorem okB {e : E} (h : e ∈ es) : okP vs es (.b e.id) := List.mem_map_of_mem h
theorem Nm.vt (N : Nm vs es nm) {i : Int} {e : E} (hi : i ∈ vs) (he : e ∈ es) : nm (.v i) ≠ nm (.t e.id) := fun h => by cases N.inj _ _ (okV hi) (okT he) h
theorem Nm.vb (N : Nm vs es nm) {i : Int} {e : E} (hi : i ∈ vs) (he : e ∈ es) : nm (.v i) ≠ nm (.b e.id) := fun h => by cases N.inj _ _ (okV hi) (okB he) h
theorem Nm.tb (N : Nm vs es nm) {e e' : E} (he : e ∈ es) (he' : e' ∈ es) : nm (.t e.id) ≠ nm (.b e'.id) := fun h => by cases N.inj _ _ (okT he) (okB he') h
theorem Nm.tt (N : Nm vs es nm) {e e' : E} (he : e ∈ es) (he' : e' ∈ es) (h : nm (.t e.id) = nm (.t e'.id)) : e = e' := by
  have := N.inj _ _ (okT he) (okT he') h
  injection this with this
  exact ids_inj N.ids he he' this
theorem Nm.bb (N : Nm vs es nm) {e e' : E} (he : e ∈ es) (he' : e' ∈ es) (h : nm (.b e.id) = nm (.b e'.id)) : e = e' := by
  have := N.inj _ _ (okB he) (okB he') h
  injection this with this
  exact ids_inj N.ids he he' this
theorem Nm.vv (N : Nm vs es nm) {i j : Int} (hi : i ∈ vs) (hj : j ∈ vs) (h : nm (.v i) = nm (.v j)) : i = j := by
  have := N.inj _ _ (okV hi) (okV hj) h
  injection this
theorem link_mem {p q r s : Nat} {A B : List Nat} {x : Nat} : x ∈ (p :: A) ++ q :: ((r :: B) ++ [s]) ↔ x ∈ p :: A ∨ x = q ∨ x ∈ r :: B ∨ x = s := by simp only [List.mem_append, List.mem_cons, List.not_mem_nil, or_false]
theorem Tour.ne {l : List Nat} (h : Tour vs es nm l) : l ≠ [] := by
  induction h with
  | one => simp
  | rot h ih => intro e; apply ih; rw [List.append_eq_nil_iff] at e ⊢; exact ⟨e.2, e.1⟩
  | link => simp
theorem Tour.of_rot {l m : List Nat} (h : Tour vs es nm l) (r : Rot l m) : Tour vs es nm m := by
  obtain ⟨a, b, rfl, rfl⟩ := r; exact h.rot
theorem Tour.ok {l : List Nat} (N : Nm vs es nm) (h : Tour vs es nm l) : ∀ x ∈ l, ∃ p, okP vs es p ∧ x = nm p := by
  induction h with
  | one h => intro x hx; simp only [List.mem_singleton] at hx; exact ⟨_, okV h, hx⟩
  | rot h ih => intro x hx; exact ih x (by rw [List.mem_append] at hx ⊢; exact hx.symm)
  | link he h1 h2 i1 i2 =>
    intro x hx
    rcases link_mem.1 hx with hx | rfl | hx | rfl
    · exact i1 x hx
    · exact ⟨_, okT he, rfl⟩
    · exact i2 x hx
    · exact ⟨_, okB he, rfl⟩
theorem Tour.closed {l : List Nat} (N : Nm vs es nm) (h : Tour vs es nm l) {e : E} (he : e ∈ es) : nm (.t e.id) ∈ l ∨ nm (.b e.id) ∈ l → nm (.t e.id) ∈ l ∧ nm (.b e.id) ∈ l ∧ nm (.v e.u) ∈ l ∧ nm (.v e.v) ∈ l := by
  induction h with
  | one h =>
    intro hx
    simp only [List.mem_singleton] at hx
    rcases hx with hx | hx
    · exact absurd hx.symm (N.vt h he)
    · exact absurd hx.symm (N.vb h he)
  | rot h ih => intro hx; simp only [List.mem_append, or_comm] at hx ih ⊢; exact ih hx
  | @link e0 A B he0 h1 h2 i1 i2 =>
    intro hx
    simp only [link_mem] at hx ⊢
    have key : e = e0 → ((nm (.t e.id) ∈ nm (.v e0.u) :: A ∨ nm (.t e.id) = nm (.t e0.id) ∨ nm (.t e.id) ∈ nm (.v e0.v) :: B ∨ nm (.t e.id) = nm (.b e0.id)) ∧ (nm (.b e.id) ∈ nm (.v e0.u) :: A ∨ nm (.b e.id) = nm (.t e0.id) ∨ nm (.b e.id) ∈ nm (.v e0.v) :: B ∨ nm (.b e.id) = nm (.b e0.id)) ∧ (nm (.v e.u) ∈ nm (.v e0.u) :: A ∨ nm (.v e.u) = nm (.t e0.id) ∨ nm (.v e.u) ∈ nm (.v e0.v) :: B ∨ nm (.v e.u) = nm (.b e0.id)) ∧ (nm (.v e.v) ∈ nm (.v e0.u) :: A ∨ nm (.v e.v) = nm (.t e0.id) ∨ nm (.v e.v) ∈ nm (.v e0.v) :: B ∨ nm (.v e.v) = nm (.b e0.id))) := by
      rintro rfl; exact ⟨.inr (.inl rfl), .inr (.inr (.inr rfl)), .inl (by simp), .inr (.inr (.inl (by simp)))⟩
    have inA : nm (.t e.id) ∈ nm (.v e0.u) :: A ∨ nm (.b e.id) ∈ nm (.v e0.u) :: A → _ := fun hh => i1 hh
    have inB : nm (.t e.id) ∈ nm (.v e0.v) :: B ∨ nm (.b e.id) ∈ nm (.v e0.v) :: B → _ := fun hh => i2 hh
    rcases hx with (hx | hx | hx | hx) | (hx | hx | hx | hx)
    · obtain ⟨a, b, c, d⟩ := inA (.inl hx); exact ⟨.inl a, .inl b, .inl c, .inl d⟩
    · exact key (N.tt he he0 hx)
    · obtain ⟨a, b, c, d⟩ := inB (.inl hx); exact ⟨.inr (.inr (.inl a)), .inr (.inr (.inl b)), .inr (.inr (.inl c)), .inr (.inr (.inl d))⟩
    · exact absurd hx (N.tb he he0)
    · obtain ⟨a, b, c, d⟩ := inA (.inr hx); exact ⟨.inl a, .inl b, .inl c, .inl d⟩
    · exact absurd hx.symm (N.tb he0 he)
    · obtain ⟨a, b, c, d⟩ := inB (.inr hx); exact ⟨.inr (.inr (.inl a)), .inr (.inr (.inl b)), .inr (.inr (.inl c)), .inr (.inr (.inl d))⟩
    · exact key (N.bb he he0 hx)
theorem Tour.conn {l : List Nat} (N : Nm vs es nm) (h : Tour vs es nm l) : ∀ {u v : Int}, u ∈ vs → v ∈ vs → nm (.v u) ∈ l → nm (.v v) ∈ l → Cn es u v := by
  induction h with
  | one h =>
    intro u v hu hv h1 h2
    simp only [List.mem_singleton] at h1 h2
    rw [N.vv hu h h1, N.vv hv h h2]; exact Cn.refl _ _
  | rot h ih => intro u v hu hv h1 h2; simp only [List.mem_append, or_comm] at h1 h2 ih; exact ih hu hv h1 h2
  | @link e0 A B he0 h1 h2 i1 i2 =>
    intro u v hu hv m1 m2
    obtain ⟨eu, ev⟩ := N.ends _ he0
    have side : ∀ {w : Int}, w ∈ vs → nm (.v w) ∈ (nm (.v e0.u) :: A) ++ nm (.t e0.id) :: ((nm (.v e0.v) :: B) ++ [nm (.b e0.id)]) → Cn es w e0.u := by
      intro w hw m
      rcases link_mem.1 m with m | m | m | m
      · exact i1 hw eu m (by simp)
      · exact absurd m (N.vt hw he0)
      · exact (i2 hw ev m (by simp)).trans (Cn.edge he0).symm
      · exact absurd m (N.vb hw he0)
    exact (side hu m1).trans (side hv m2).symm
theorem Tour.mono {vs' : List Int} {es' : List E} {nm' : Pl → Nat} {l : List Nat} (N : Nm vs es nm) (h : Tour vs es nm l) : (∀ v ∈ vs, nm (.v v) ∈ l → v ∈ vs' ∧ nm' (.v v) = nm (.v v)) → (∀ e ∈ es, nm (.t e.id) ∈ l → e ∈ es' ∧ nm' (.t e.id) = nm (.t e.id) ∧ nm' (.b e.id) = nm (.b e.id)) → Tour vs' es' nm' l := by
  induction h with
  | one h =>
    intro hv he
    obtain ⟨a, b⟩ := hv _ h (by simp)
    rw [← b]; exact .one a
  | rot h ih =>
    intro hv he
    refine .rot (ih (fun v h m => hv v h ?_) fun e h m => he e h ?_)
    · rw [List.mem_append] at m ⊢; exact m.symm
    · rw [List.mem_append] at m ⊢; exact m.symm
  | @link e0 A B he0 h1 h2 i1 i2 =>
    intro hv he
    obtain ⟨eu, ev⟩ := N.ends _ he0
    obtain ⟨a1, a2, a3⟩ := he _ he0 (link_mem.2 (.inr (.inl rfl)))
    have j1 := i1 (fun v h m => hv v h (link_mem.2 (.inl m))) fun e h m => he e h (link_mem.2 (.inl m))
    have j2 := i2 (fun v h m => hv v h (link_mem.2 (.inr (.inr (.inl m))))) fun e h m => he e h (link_mem.2 (.inr (.inr (.inl m))))
    have b1 := (hv _ eu (link_mem.2 (.inl (by simp)))).2
    have b2 := (hv _ ev (link_mem.2 (.inr (.inr (.inl (by simp)))))).2
    rw [← b1] at j1
    rw [← b2] at j2
    have := Tour.link a1 j1 j2
    rw [a2, a3, b1, b2] at this
    exact this
theorem ins_cut {T : List Nat → Prop} (hrot : ∀ a b, T (a ++ b) → T (b ++ a)) {z t b : Nat} {A X Y Z : List Nat} (hT : ∀ P, T (z :: P) → T ((z :: P) ++ Z)) (zt : z ≠ t) (zb : z ≠ b) (hr : Rot (z :: A) (t :: (X ++ b :: Y))) (hX : T X) (hY : T Y) :
    ∃ X' Y', Rot ((z :: A) ++ Z) (t :: (X' ++ b :: Y')) ∧ T X' ∧ T Y' ∧ (∀ x ∈ X, x ∈ X') ∧ (∀ y ∈ Y, y ∈ Y') := by
  obtain ⟨p, q, h1, h2⟩ := hr
  cases p with
  | nil =>
    rw [List.nil_append] at h1; rw [List.append_nil, ← h1] at h2
    injection h2 with h2 _; exact absurd h2.symm zt
  | cons z' p' =>
    rw [List.cons_append] at h1
    injection h1 with h0 h1
    subst h0; subst h1
    cases q with
    | nil => rw [List.nil_append] at h2; injection h2 with h2 _; exact absurd h2.symm zt
    | cons t' q' =>
      rw [List.cons_append] at h2
      injection h2 with h0 h2
      subst h0
      rcases List.append_eq_append_iff.1 h2 with ⟨c, hc1, hc2⟩ | ⟨c, hc1, hc2⟩
      · cases c with
        | nil => rw [List.nil_append] at hc2; injection hc2 with hc2 _; exact absurd hc2.symm zb
        | cons b' c' =>
          rw [List.cons_append] at hc2
          injection hc2 with h0 hc2
          subst h0; subst hc1; subst hc2
          refine ⟨X, (c' ++ Z) ++ z :: p', ⟨z :: p', t :: (X ++ b :: (c' ++ Z)), by simp, by simp⟩, hX, ?_, fun x h => h, fun y h => ?_⟩
          · have := hT (p' ++ c') (by rw [← List.cons_append]; exact hrot _ _ hY)
            exact hrot (z :: p') (c' ++ Z) (by simpa using this)
          · simp only [List.mem_append, List.mem_cons] at h ⊢
            rcases h with h | h
            · exact .inl (.inl h)
            · exact .inr h
      · cases c with
        | nil => rw [List.nil_append] at hc2; injection hc2 with hc2 _; exact absurd hc2 zb
        | cons z2 c' =>
          rw [List.cons_append] at hc2
          injection hc2 with h0 hc2
          subst h0; subst hc1; subst hc2
          refine ⟨(q' ++ Z) ++ z :: c', Y, ⟨z :: (c' ++ b :: Y), t :: (q' ++ Z), by simp, by simp⟩, ?_, hY, fun x h => ?_, fun y h => h⟩
          · have := hT (c' ++ q') (by rw [← List.cons_append]; exact hrot _ _ hX)
            exact hrot (z :: c') (q' ++ Z) (by simpa using this)
          · simp only [List.mem_append, List.mem_cons] at h ⊢
            rcases h with h | h
            · exact .inl (.inl h)
            · exact .inr h
theorem Tour.cut {l : List Nat} (N : Nm vs es nm) (h : Tour vs es nm l) {e : E} (he : e ∈ es) : nm (.t e.id) ∈ l → ∃ X Y, Rot l (nm (.t e.id) :: (X ++ nm (.b e.id) :: Y)) ∧ Tour vs es nm X ∧ Tour vs es nm Y ∧ nm (.v e.v) ∈ X ∧ nm (.v e.u) ∈ Y := by
  induction h with
  | one h => intro m; simp only [List.mem_singleton] at m; exact absurd m.symm (N.vt h he)
  | @rot a b h ih =>
    intro m
    obtain ⟨X, Y, r, x⟩ := ih (by rw [List.mem_append] at m ⊢; exact m.symm)
    exact ⟨X, Y, Rot.trans ⟨b, a, rfl, rfl⟩ r, x⟩
  | @link e0 A B he0 h1 h2 i1 i2 =>
    intro m
    obtain ⟨eu, ev⟩ := N.ends _ he0
    rcases link_mem.1 m with m | m | m | m
    · obtain ⟨X, Y, r, tX, tY, mv, mu⟩ := i1 m
      obtain ⟨X', Y', r', tX', tY', sX, sY⟩ := ins_cut (T := Tour vs es nm) (fun _ _ h => h.rot) (Z := nm (.t e0.id) :: ((nm (.v e0.v) :: B) ++ [nm (.b e0.id)])) (fun P h => Tour.link he0 h h2) (N.vt eu he) (N.vb eu he) r tX tY
      exact ⟨X', Y', r', tX', tY', sX _ mv, sY _ mu⟩
    · have := N.tt he he0 m
      subst this
      exact ⟨nm (.v e.v) :: B, nm (.v e.u) :: A, ⟨nm (.v e.u) :: A, nm (.t e.id) :: ((nm (.v e.v) :: B) ++ [nm (.b e.id)]), by simp, by simp⟩, h2, h1, by simp, by simp⟩
    · obtain ⟨X, Y, r, tX, tY, mv, mu⟩ := i2 m
      obtain ⟨X', Y', r', tX', tY', sX, sY⟩ := ins_cut (T := Tour vs es nm) (fun _ _ h => h.rot) (Z := nm (.b e0.id) :: ((nm (.v e0.u) :: A) ++ [nm (.t e0.id)])) (fun P h => by
        have := Tour.link he0 h1 h
        have h3 := Tour.rot (a := (nm (.v e0.u) :: A) ++ [nm (.t e0.id)]) (b := (nm (.v e0.v) :: P) ++ [nm (.b e0.id)]) (by simpa using this)
        simpa using h3) (N.vt ev he) (N.vb ev he) r tX tY
      refine ⟨X', Y', Rot.trans ⟨(nm (.v e0.u) :: A) ++ [nm (.t e0.id)], (nm (.v e0.v) :: B) ++ [nm (.b e0.id)], by simp, rfl⟩ (by simpa using r'), tX', tY', sX _ mv, sY _ mu⟩
    · exact absurd m (N.tb he he0)
end
theorem Disj.symm {s t : List Nat} (h : Disj s t) : Disj t s := fun x h1 h2 => h x h2 h1
theorem RowsOk.perm {n : Nat} {rows R : List (List Nat)} (h : RowsOk n rows) (p : rows.Perm R) : RowsOk n R :=
  ⟨fun l hl => h.nd l (p.mem_iff.2 hl), fun l hl => h.ne l (p.mem_iff.2 hl), (p.pairwise_iff (fun h => Disj.symm h)).1 h.dj, fun i => by
    rw [← h.mem i]
    exact ⟨fun ⟨l, hl, hi⟩ => ⟨l, p.mem_iff.2 hl, hi⟩, fun ⟨l, hl, hi⟩ => ⟨l, p.mem_iff.1 hl, hi⟩⟩⟩
theorem join_perm {n : Nat} {rows R : List (List Nat)} {la lb : List Nat} {a b : Nat} (h : RowsOk n rows) (p : rows.Perm (la :: lb :: R)) (ha : a ∈ la) (hb : b ∈ lb) : (joinR rows a b).Perm ((la ++ lb) :: R) := by
  have h' := h.perm p
  have hd := h'.dj
  rw [List.pairwise_cons, List.pairwise_cons] at hd
  obtain ⟨d1, d2, d3⟩ := hd
  unfold joinR
  rw [h.rowOf_eq (p.mem_iff.2 (by simp)) ha, h.rowOf_eq (l := lb) (p.mem_iff.2 (by simp)) hb]
  have f : (rows.filter fun l => decide (a ∉ l ∧ b ∉ l)).Perm R := by
    refine (p.filter _).trans ?_
    rw [List.filter_cons_of_neg (by simp [ha]), List.filter_cons_of_neg (by simp [hb]), List.filter_eq_self.2]
    intro l hl
    have n1 : a ∉ l := d1 l (by simp [hl]) a ha
    have n2 : b ∉ l := d2 l hl b hb
    simp [n1, n2]
  exact (List.perm_append_comm).trans (f.cons _)
theorem cut_perm {n : Nat} {rows R : List (List Nat)} {l : List Nat} {a : Nat} (h : RowsOk n rows) (p : rows.Perm (l :: R)) (ha : a ∈ l) : (cutR rows a).Perm (pieces a l ++ R) := by
  have h' := h.perm p
  have hd := h'.dj
  rw [List.pairwise_cons] at hd
  unfold cutR
  refine (p.flatMap_right _).trans ?_
  rw [List.flatMap_cons]
  refine List.Perm.append_left _ ?_
  have : R.flatMap (pieces a) = R := by
    have key : ∀ {L : List (List Nat)}, (∀ m ∈ L, a ∉ m) → L.flatMap (pieces a) = L := by
      intro L
      induction L with
      | nil => intro _; rfl
      | cons m L ih =>
        intro hm
        rw [List.flatMap_cons, ih fun x hx => hm x (by simp [hx])]
        unfold pieces
        rw [if_neg (hm m (by simp))]; rfl
    exact key fun m hm => hd.1 m hm a ha
  rw [this]
theorem split_at {l : List Nat} {a : Nat} (ha : a ∈ l) : ∃ P, l.drop (l.idxOf a) = a :: P ∧ Rot l (a :: (P ++ l.take (l.idxOf a))) := by
  have hlt := List.idxOf_lt_length_of_mem ha
  refine ⟨l.drop (l.idxOf a + 1), ?_, l.take (l.idxOf a), l.drop (l.idxOf a), (List.take_append_drop _ _).symm, ?_⟩
  · rw [List.drop_eq_getElem_cons hlt, List.getElem_idxOf]
  · rw [List.drop_eq_getElem_cons hlt, List.getElem_idxOf]; rfl
end Go.Dn
namespace Go.Proofs.YtbhhbnnmdekjiaaGreat.Rd
open Go.Dn Go.RowKit Go.Maps
set_option maxRecDepth 100000
theorem hb_ldM {w : World} {b : Nat} {cs : Array Value} {t : TypeId} (h : HB w b cs t) {j : Nat} {x : Option Nat} (hj : cs[j]? = some (.map x)) {K : Option Nat → Prop} (hk : K x) : ldM w ((⟨b, 0, none⟩ : Addr).add j) K := ⟨_, (h.cell j).trans hj, hk⟩
theorem hb_ldP0 {w : World} {b : Nat} {cs : Array Value} {t : TypeId} (h : HB w b cs t) {x : Option Addr} (hj : cs[0]? = some (.pointer x)) {K : Option Addr → Prop} (hk : K x) : ldP w (⟨b, 0, none⟩ : Addr) K := ⟨_, (h.cell 0).trans hj, hk⟩
theorem hb_ldB0 {w : World} {b : Nat} {cs : Array Value} {t : TypeId} (h : HB w b cs t) {x : Bool} (hj : cs[0]? = some (.bool x)) {K : Bool → Prop} (hk : K x) : ldB w (⟨b, 0, none⟩ : Addr) K := ⟨_, (h.cell 0).trans hj, hk⟩
def eI (i : Int) : Value := .int .i64 i
theorem eI_inj (x y : Int) (h : eI x = eI y) : x = y := by injection h
def eN (n : Nat) : Value := .int .i64 (n : Int)
theorem eN_inj (x y : Nat) (h : eN x = eN y) : x = y := by injection h with _ h; omega
def eA (p : Nat × Nat) : Value := .agg #[.int .i64 (p.1 : Int), .int .i64 (p.2 : Int)]
def eP (p : Bool × Int) : Value := .agg #[.bool p.1, .int .i64 p.2]
def okN (n : Nat) : Prop := n ≤ 1000000
theorem okN.w {n : Nat} (h : okN n) : W64 (n : Int) := by unfold okN at h; unfold W64; omega
abbrev TF : TypeId := 108
theorem Kint : Tryz.prog.underlying 3 = some (.int .i64) := by kernel_rfl
theorem KTv : KT Tryz.prog 64 3 3 eI W64 := ⟨by kernel_rfl, Maps.int_keyed Kint, fun x h => ⟨_, Maps.keyOf_int_mk Kint h.wf⟩, eI_inj⟩
theorem KTe : KT Tryz.prog 105 3 118 eI W64 := ⟨by kernel_rfl, Maps.int_keyed Kint, fun x h => ⟨_, Maps.keyOf_int_mk Kint h.wf⟩, eI_inj⟩
theorem KTw : KT Tryz.prog 106 3 116 eN okN := ⟨by kernel_rfl, Maps.int_keyed Kint, fun x h => ⟨_, Maps.keyOf_int_mk Kint h.w.wf⟩, eN_inj⟩
theorem zI (w : World) : (zeroValue 3).run Tryz.prog w = .ok (.int .i64 0) w := by kernel_rfl
theorem zA (w : World) : (zeroValue 118).run Tryz.prog w = .ok (.agg #[.int .i64 0, .int .i64 0]) w := by kernel_rfl
theorem zP (w : World) : (zeroValue 116).run Tryz.prog w = .ok (.agg #[.bool false, .int .i64 0]) w := by kernel_rfl
theorem slA0 (A : Option Addr) (c : Nat) : slA A 0 c 1 = A := by
  unfold slA
  split
  · rfl
  · cases A with
    | none => rfl
    | some a => simp [add_zero]
theorem OwnI.pop {w : World} {B : Nat} {e : TypeId} {A : Option Addr} {c : Nat} {l : List Int} {x : Int} (h : OwnI w B e A c (l ++ [x])) : OwnI w B e A c l := by
  unfold OwnI at h ⊢
  rw [List.map_append, List.length_append] at h
  obtain ⟨g, hg⟩ : ∃ g, A = some ⟨g, 0, none⟩ := by
    rcases h.2 with ⟨_, h0⟩ | ⟨g, cap, cur, hv, _⟩
    · simp at h0
    · injection hv with h1; exact ⟨g, h1⟩
  subst hg
  exact own_prefix h (by simp)
theorem Rope.rok {w : World} {r : RC} {rows : List (List Nat)} {V : Nat → Int × Int × Int} (h : Rope w r rows V) : RowsOk r.n rows := by obtain ⟨N, ts, hp, hf⟩ := h; exact hf.rok
theorem Rope.sap {w : World} {r : RC} {rows : List (List Nat)} {V : Nat → Int × Int × Int} (h : Rope w r rows V) : ∀ a, r.As = some a → r.B ≤ a.block ∧ a.block < w.heap.size ∧ a.block ≠ r.R ∧ a.block ≠ r.g := by obtain ⟨N, ts, hp, hf⟩ := h; exact hp.sap
theorem Rope.lt {w : World} {r : RC} {rows : List (List Nat)} {V : Nat → Int × Int × Int} (h : Rope w r rows V) : r.R < w.heap.size ∧ r.g < w.heap.size ∧ r.B ≤ r.R ∧ r.g ≠ r.R := by obtain ⟨N, ts, hp, hf⟩ := h; exact ⟨hp.R_lt, hp.g_lt.2, hp.hB, hp.gR⟩
theorem Rope.pos {w : World} {r : RC} {rows : List (List Nat)} {V : Nat → Int × Int × Int} (h : Rope w r rows V) : 0 < r.n := by obtain ⟨N, ts, hp, hf⟩ := h; exact hf.pos
structure Upd (F : Nat → Prop) (w w' : World) (F' : Nat → Prop) : Prop where
  kp : Keeps F w w'
  fr : ∀ k, F' k → F k ∨ w.heap.size ≤ k
theorem Upd.trans {F F' F2 : Nat → Prop} {w w' w2 : World} (h : Upd F w w' F') (k : Upd F' w' w2 F2) : Upd F w w2 F2 :=
  ⟨h.kp.trans' k.kp fun i hi h1 => (h.fr i h1).resolve_right (by omega), fun i hi => (k.fr i hi).elim (fun h1 => h.fr i h1) fun h1 => .inr (Nat.le_trans h.kp.size h1)⟩
theorem Upd.below {F : Nat → Prop} {w w' : World} (h : Below w.heap.size w w') : Upd F w w' F := ⟨.of_below h, fun k hk => .inl hk⟩
structure EB where
  F : Nat
  r : RC
  mv : Nat
  me : Nat
  mw : Nat
  A : Option Addr
  c : Nat
def fC (b : EB) (n : Nat) : Array Value := #[.pointer (some ⟨b.r.R, 0, none⟩), .map (some b.mv), .map (some b.me), .map (some b.mw), .slice b.A n b.c]
def EB.ix (b : EB) : List Nat := [b.F, b.r.R, b.r.g, b.mv, b.me, b.mw]
structure EM (w : World) (b : EB) (rows : List (List Nat)) (V : Nat → Int × Int × Int) (vl : List (Int × Nat)) (el : List (Int × (Nat × Nat))) (wl : List (Nat × (Bool × Int))) (sp : List Nat) : Prop where
  hf : HB w b.F (fC b sp.length) TF
  rope : Rope w b.r rows V
  gv : GM w eI eN W64 b.mv vl
  ge : GM w eI eA W64 b.me el
  gw : GM w eN eP okN b.mw wl
  so : OwnI w b.r.B TI b.A b.c (zs sp)
  d : b.ix.Nodup
  da : ∀ a, b.A = some a → a.block ∉ b.ix ∧ ∀ a', b.r.As = some a' → a'.block ≠ a.block
  ds : ∀ a, b.r.As = some a → a.block ∉ b.ix
def Fe (b : EB) (k : Nat) : Prop := k ∈ b.ix ∨ (∃ a, b.A = some a ∧ a.block = k) ∨ ∃ a, b.r.As = some a ∧ a.block = k
section
variable {w w' : World} {b : EB} {rows : List (List Nat)} {V : Nat → Int × Int × Int} {vl : List (Int × Nat)} {el : List (Int × (Nat × Nat))} {wl : List (Nat × (Bool × Int))} {sp : List Nat}
theorem EM.dd (h : EM w b rows V vl el wl sp) : (b.F ≠ b.r.R ∧ b.F ≠ b.r.g ∧ b.F ≠ b.mv ∧ b.F ≠ b.me ∧ b.F ≠ b.mw) ∧ (b.r.R ≠ b.r.g ∧ b.r.R ≠ b.mv ∧ b.r.R ≠ b.me ∧ b.r.R ≠ b.mw) ∧ (b.r.g ≠ b.mv ∧ b.r.g ≠ b.me ∧ b.r.g ≠ b.mw) ∧ (b.mv ≠ b.me ∧ b.mv ≠ b.mw) ∧ b.me ≠ b.mw := by
  have := h.d
  simp only [EB.ix, List.nodup_cons, List.mem_cons, List.not_mem_nil, or_false, not_or, not_false_eq_true, List.nodup_nil, and_true] at this
  exact this
theorem nix {b : EB} {k : Nat} (h : k ∉ b.ix) : k ≠ b.F ∧ k ≠ b.r.R ∧ k ≠ b.r.g ∧ k ≠ b.mv ∧ k ≠ b.me ∧ k ≠ b.mw := by
  simp only [EB.ix, List.mem_cons, List.not_mem_nil, or_false, not_or] at h
  exact h
theorem EM.lt (h : EM w b rows V vl el wl sp) : ∀ k, Fe b k → k < w.heap.size := by
  rintro k (hk | ⟨a, ha, rfl⟩ | ⟨a, ha, rfl⟩)
  · simp only [EB.ix, List.mem_cons, List.not_mem_nil, or_false] at hk
    rcases hk with rfl | rfl | rfl | rfl | rfl | rfl
    · exact h.hf.lt
    · exact h.rope.lt.1
    · exact h.rope.lt.2.1
    · exact h.gv.lt
    · exact h.ge.lt
    · exact h.gw.lt
  · exact (h.so.block a ha).2
  · exact (h.rope.sap a ha).2.1
theorem EM.other (h : EM w b rows V vl el wl sp) {Q : Nat → Prop} (k : Keeps Q w w') (hQ : ∀ k, Q k → ¬ Fe b k) : EM w' b rows V vl el wl sp := by
  have n : ∀ k, k ∈ b.ix → ¬ Q k := fun k hk hq => hQ k hq (.inl hk)
  exact ⟨h.hf.keeps k (n _ (by simp [EB.ix])), h.rope.keeps k (n _ (by simp [EB.ix])) (n _ (by simp [EB.ix])) (fun a ha hq => hQ _ hq (.inr (.inr ⟨a, ha, rfl⟩))), h.gv.keeps k (n _ (by simp [EB.ix])), h.ge.keeps k (n _ (by simp [EB.ix])), h.gw.keeps k (n _ (by simp [EB.ix])), h.so.keeps k fun a ha hq => hQ _ hq (.inr (.inl ⟨a, ha, rfl⟩)), h.d, h.da, h.ds⟩
theorem EM.below (h : EM w b rows V vl el wl sp) (k : Below w.heap.size w w') : EM w' b rows V vl el wl sp := h.other (Q := fun _ => False) (.of_below k) fun _ h => h.elim
theorem EM.ropeS (h : EM w b rows V vl el wl sp) {r' : RC} {rows' : List (List Nat)} {V' : Nat → Int × Int × Int} (hr : Rope w' r' rows' V') (m : Mv w b.r r') (k : Keeps (Sr b.r) w w') : EM w' { b with r := r' } rows' V' vl el wl sp ∧ Upd (Fe b) w w' (Fe { b with r := r' }) := by
  obtain ⟨⟨f1, f2, f3, f4, f5⟩, ⟨r1, r2, r3, r4⟩, ⟨g1, g2, g3⟩, ⟨v1, v2⟩, e1⟩ := h.dd
  have ns : ∀ {k}, k ≠ b.r.R → k ≠ b.r.g → ¬ Sr b.r k := fun h1 h2 hs => hs.elim h1 h2
  have lF := h.hf.lt; have lv := h.gv.lt; have le := h.ge.lt; have lw := h.gw.lt; have lR := h.rope.lt.1
  have ng : ∀ {k}, k < w.heap.size → k ≠ b.r.g → k ≠ r'.g := fun h1 h2 e => by rcases m.g with h3 | h3 <;> omega
  have ixe : ∀ {k}, k < w.heap.size → k ∉ b.ix → k ∉ ({ b with r := r' } : EB).ix := fun {k} hk hn => by
    obtain ⟨n1, n2, n3, n4, n5, n6⟩ := nix hn
    have n3' := ng hk n3
    have n2' : k ≠ r'.R := by rw [m.R]; exact n2
    simp only [EB.ix, List.mem_cons, List.not_mem_nil, or_false, not_or]
    exact ⟨n1, n2', n3', n4, n5, n6⟩
  refine ⟨⟨?_, hr, h.gv.keeps k (ns (by omega) (by omega)), h.ge.keeps k (ns (by omega) (by omega)), h.gw.keeps k (ns (by omega) (by omega)), ?_, ?_, ?_, ?_⟩, k.mono ?_, ?_⟩
  · have := h.hf.keeps k (ns f1 f2)
    have e : fC { b with r := r' } sp.length = fC b sp.length := by unfold fC; rw [show ({ b with r := r' } : EB).r.R = b.r.R from m.R]
    show HB w' b.F (fC { b with r := r' } sp.length) TF
    rw [e]; exact this
  · show OwnI w' r'.B TI b.A b.c (zs sp)
    rw [m.B]
    exact h.so.keeps k fun a ha => ns (nix (h.da a ha).1).2.1 (nix (h.da a ha).1).2.2.1
  · have g1' := ng lF f2; have g2' := ng lv (Ne.symm g1); have g3' := ng le (Ne.symm g2); have g4' := ng lw (Ne.symm g3); have g5' := ng lR r1
    have eR : r'.R = b.r.R := m.R
    simp only [EB.ix, List.nodup_cons, List.mem_cons, List.not_mem_nil, or_false, not_or, not_false_eq_true, List.nodup_nil, and_true]
    rw [eR]
    exact ⟨⟨f1, g1', f3, f4, f5⟩, ⟨g5', r2, r3, r4⟩, ⟨Ne.symm g2', Ne.symm g3', Ne.symm g4'⟩, ⟨v1, v2⟩, e1⟩
  · intro a ha
    refine ⟨ixe (h.so.block a ha).2 (h.da a ha).1, fun a' ha' => (h.da a ha).2 a' ?_⟩
    rw [← m.As]; exact ha'
  · intro a ha
    have ha' : b.r.As = some a := by rw [← m.As]; exact ha
    exact ixe (h.rope.sap a ha').2.1 (h.ds a ha')
  · intro k hk hs
    rcases hs with rfl | rfl
    · exact .inl (by simp [EB.ix])
    · exact .inl (by simp [EB.ix])
  · rintro k (hk | hk | ⟨a, ha, hk⟩)
    · simp only [EB.ix, List.mem_cons, List.not_mem_nil, or_false] at hk
      rcases hk with hk | hk | hk | hk | hk | hk
      · exact .inl (.inl (by simp [EB.ix, hk]))
      · have hk : k = b.r.R := hk.trans m.R
        exact .inl (.inl (by simp [EB.ix, hk]))
      · rcases m.g with e | e
        · have hk : k = b.r.g := hk.trans e
          exact .inl (.inl (by simp [EB.ix, hk]))
        · exact .inr (by omega)
      · exact .inl (.inl (by simp [EB.ix, hk]))
      · exact .inl (.inl (by simp [EB.ix, hk]))
      · exact .inl (.inl (by simp [EB.ix, hk]))
    · exact .inl (.inr (.inl hk))
    · exact .inl (.inr (.inr ⟨a, by rw [← m.As]; exact ha, hk⟩))
theorem EM.ropeT (h : EM w b rows V vl el wl sp) {rows' : List (List Nat)} {V' : Nat → Int × Int × Int} (hr : Rope w' b.r rows' V') (k : Keeps (Sr b.r) w w') : EM w' b rows' V' vl el wl sp ∧ Upd (Fe b) w w' (Fe b) := h.ropeS hr ⟨rfl, rfl, rfl, .inl rfl⟩ k
theorem EM.one (h : EM w b rows V vl el wl sp) {x : Nat} (k : Keeps (fun k => k = x) w w') (hx : x ∈ b.ix) : Upd (Fe b) w w' (Fe b) ∧ (b.F ≠ x → HB w' b.F (fC b sp.length) TF) ∧ (b.r.R ≠ x → b.r.g ≠ x → Rope w' b.r rows V) ∧ (b.mv ≠ x → GM w' eI eN W64 b.mv vl) ∧ (b.me ≠ x → GM w' eI eA W64 b.me el) ∧ (b.mw ≠ x → GM w' eN eP okN b.mw wl) ∧ OwnI w' b.r.B TI b.A b.c (zs sp) :=
  ⟨⟨k.mono fun i _ e => .inl (by rw [e]; exact hx), fun i hi => .inl hi⟩, fun n => h.hf.keeps k n, fun n1 n2 => h.rope.keeps k n1 n2 (fun a ha e => h.ds a ha (by rw [e]; exact hx)), fun n => h.gv.keeps k n, fun n => h.ge.keeps k n, fun n => h.gw.keeps k n, h.so.keeps k fun a ha e => (h.da a ha).1 (by rw [e]; exact hx)⟩
theorem EM.mapV (h : EM w b rows V vl el wl sp) {vl' : List (Int × Nat)} (g : GM w' eI eN W64 b.mv vl') (k : Keeps (fun k => k = b.mv) w w') : EM w' b rows V vl' el wl sp ∧ Upd (Fe b) w w' (Fe b) := by
  obtain ⟨⟨f1, f2, f3, f4, f5⟩, ⟨r1, r2, r3, r4⟩, ⟨g1, g2, g3⟩, ⟨v1, v2⟩, e1⟩ := h.dd
  obtain ⟨u, a1, a2, a3, a4, a5, a6⟩ := h.one k (by simp [EB.ix])
  exact ⟨⟨a1 f3, a2 r2 g1, g, a4 (Ne.symm v1), a5 (Ne.symm v2), a6, h.d, h.da, h.ds⟩, u⟩
theorem EM.mapE (h : EM w b rows V vl el wl sp) {el' : List (Int × (Nat × Nat))} (g : GM w' eI eA W64 b.me el') (k : Keeps (fun k => k = b.me) w w') : EM w' b rows V vl el' wl sp ∧ Upd (Fe b) w w' (Fe b) := by
  obtain ⟨⟨f1, f2, f3, f4, f5⟩, ⟨r1, r2, r3, r4⟩, ⟨g1, g2, g3⟩, ⟨v1, v2⟩, e1⟩ := h.dd
  obtain ⟨u, a1, a2, a3, a4, a5, a6⟩ := h.one k (by simp [EB.ix])
  exact ⟨⟨a1 f4, a2 r3 g2, a3 v1, g, a5 (Ne.symm e1), a6, h.d, h.da, h.ds⟩, u⟩
theorem EM.mapW (h : EM w b rows V vl el wl sp) {wl' : List (Nat × (Bool × Int))} (g : GM w' eN eP okN b.mw wl') (k : Keeps (fun k => k = b.mw) w w') : EM w' b rows V vl el wl' sp ∧ Upd (Fe b) w w' (Fe b) := by
  obtain ⟨⟨f1, f2, f3, f4, f5⟩, ⟨r1, r2, r3, r4⟩, ⟨g1, g2, g3⟩, ⟨v1, v2⟩, e1⟩ := h.dd
  obtain ⟨u, a1, a2, a3, a4, a5, a6⟩ := h.one k (by simp [EB.ix])
  exact ⟨⟨a1 f5, a2 r4 g3, a3 v2, a4 e1, g, a6, h.d, h.da, h.ds⟩, u⟩
theorem rows_in (h : EM w b rows V vl el wl sp) {l : List Nat} {R : List (List Nat)} (p : rows.Perm (l :: R)) {x : Nat} (hx : x ∈ l) : 0 < x ∧ x < b.r.n ∧ rowOf rows x = l ∧ Bd b.r.n (x : Int) = false := by
  have hl : l ∈ rows := p.mem_iff.2 (by simp)
  have h1 := (h.rope.rok.mem x).1 ⟨l, hl, hx⟩
  exact ⟨h1.1, h1.2, h.rope.rok.rowOf_eq hl hx, by simp [Bd]; omega⟩
theorem nodup_in (h : EM w b rows V vl el wl sp) {l : List Nat} {R : List (List Nat)} (p : rows.Perm (l :: R)) : l.Nodup := h.rope.rok.nd l (p.mem_iff.2 (by simp))
theorem turn_ok (h : EM w b rows V vl el wl sp) {l : List Nat} {R : List (List Nat)} (p : rows.Perm (l :: R)) {x : Nat} (hx : x ∈ l) :
    Calls Tryz.prog 63 #[.pointer (some ⟨b.F, 0, none⟩), .int .i64 (x : Int)] w fun e w' => e = .returned (.tuple #[]) ∧ ∃ P rows', EM w' b rows' V vl el wl sp ∧ Rot l (x :: P) ∧ rows'.Perm ((x :: P) :: R) ∧ Upd (Fe b) w w' (Fe b) := by
  apply f_euler_Forest_turn.ok
  unfold f_euler_Forest_turn.wp
  obtain ⟨x0, xn, rx, bx⟩ := rows_in h p hx
  have hpos : 0 < l.length := List.length_pos_of_mem hx
  have a0 : atE b.r.n rows (x : Int) 0 = ((l.getD 0 0 : Int), 0) := by
    unfold atE
    rw [bx]
    simp only [Bool.false_eq_true, if_false, Int.toNat_natCast, rx]
    rw [if_neg (by omega)]; rfl
  refine hb_ldP0 h.hf rfl ((At_ok h.rope (x : Int) 0).mono ?_)
  rintro e w1 ⟨rfl, b1⟩
  rw [a0]
  have h1 := h.below b1
  refine ⟨_, _, rfl, ?_⟩
  by_cases hz : l.getD 0 0 = x
  · refine sel_t (by rw [hz]; simp) ⟨rfl, ?_⟩
    cases l with
    | nil => simp at hpos
    | cons y P =>
      have : y = x := hz
      subst this
      exact ⟨P, rows, h1, .refl _, p, .below b1⟩
  · refine sel_f (by simp only [beq_eq_false_iff_ne, ne_eq]; omega) (hb_ldP0 h1.hf rfl ((Cut_ok h1.rope (x : Int)).mono ?_))
    rintro e w2 ⟨rfl, hr2, k2⟩
    obtain ⟨h2, u2⟩ := h1.ropeT hr2 k2
    refine ⟨_, rfl, hb_ldP0 h2.hf rfl ((Join_ok h2.rope (x : Int) (l.getD 0 0 : Int)).mono ?_)⟩
    rintro e w3 ⟨rfl, hr3, k3⟩
    obtain ⟨h3, u3⟩ := h2.ropeT hr3 k3
    refine ⟨_, rfl, rfl, ?_⟩
    have ec : cutS b.r.n rows (x : Int) = cutR rows x := by unfold cutS; rw [bx]; simp
    obtain ⟨P, e1, rt⟩ := split_at hx
    have i0 : l.idxOf x ≠ 0 := fun e => by
      rw [e, List.drop_zero] at e1
      rw [e1] at hz; exact hz rfl
    have pc : (cutR rows x).Perm ((l.take (l.idxOf x)) :: (x :: P) :: R) := by
      have := cut_perm h.rope.rok p hx
      unfold pieces at this
      rw [if_pos hx, if_neg i0, e1] at this
      exact this
    have hm0 : l.getD 0 0 ∈ l.take (l.idxOf x) := by
      cases l with
      | nil => simp at hpos
      | cons y l' =>
        obtain ⟨j, hj⟩ : ∃ j, (y :: l').idxOf x = j + 1 := ⟨(y :: l').idxOf x - 1, by omega⟩
        rw [hj, List.take_succ_cons]; simp
    rw [ec] at h3 h2
    have hrok := h2.rope.rok
    have pc' : (cutR rows x).Perm ((x :: P) :: (l.take (l.idxOf x)) :: R) := pc.trans (.swap _ _ _)
    have hx1 := rows_in h2 pc' (x := x) (by simp)
    have hy1 := rows_in h2 pc hm0
    have hne : rowOf (cutR rows x) x ≠ rowOf (cutR rows x) (l.getD 0 0) := by
      rw [hx1.2.2.1, hy1.2.2.1]
      intro e
      have nd := nodup_in h p
      have : x ∈ l.take (l.idxOf x) := by rw [← e]; simp
      rw [← List.take_append_drop (l.idxOf x) l, List.nodup_append] at nd
      exact nd.2.2 x this x (by rw [e1]; simp) rfl
    have ej : joinS b.r.n (cutR rows x) (x : Int) ((l.getD 0 0 : Nat) : Int) = joinR (cutR rows x) x (l.getD 0 0) := by
      unfold joinS
      rw [hx1.2.2.2, hy1.2.2.2]
      simp only [Bool.or_self, Bool.false_eq_true, if_false, Int.toNat_natCast]
      rw [if_neg hne]
    rw [ej] at h3
    refine ⟨_, _, h3, rt, ?_, ((Upd.below b1).trans u2).trans u3⟩
    exact join_perm hrok pc' (by simp) hm0
theorem alone_ok (h : EM w b rows V vl el wl sp) {X : List Nat} {R : List (List Nat)} {x : Nat} (hX : X ≠ []) (p : rows.Perm ((x :: X) :: R)) :
    Calls Tryz.prog 69 #[.pointer (some ⟨b.F, 0, none⟩), .int .i64 (x : Int)] w fun e w' => e = .returned (.tuple #[]) ∧ ∃ rows', EM w' b rows' V vl el wl sp ∧ rows'.Perm ([x] :: X :: R) ∧ Upd (Fe b) w w' (Fe b) := by
  apply f_euler_Forest_alone.ok
  unfold f_euler_Forest_alone.wp
  obtain ⟨x0, xn, rx, bx⟩ := rows_in h p (x := x) (by simp)
  obtain ⟨y, Y, rfl⟩ : ∃ y Y, X = y :: Y := by cases X with | nil => exact absurd rfl hX | cons y Y => exact ⟨y, Y, rfl⟩
  have a1 : atE b.r.n rows (x : Int) 1 = ((y : Int), 0) := by
    unfold atE
    rw [bx]
    simp only [Bool.false_eq_true, if_false, Int.toNat_natCast, rx]
    rw [if_neg (by simp only [List.length_cons]; omega)]; rfl
  refine hb_ldP0 h.hf rfl ((At_ok h.rope (x : Int) 1).mono ?_)
  rintro e w1 ⟨rfl, b1⟩
  rw [a1]
  have h1 := h.below b1
  refine ⟨_, _, rfl, sel_t rfl (hb_ldP0 h1.hf rfl ((Cut_ok h1.rope (y : Int)).mono ?_))⟩
  rintro e w2 ⟨rfl, hr2, k2⟩
  obtain ⟨h2, u2⟩ := h1.ropeT hr2 k2
  have my : y ∈ x :: y :: Y := by simp
  obtain ⟨_, _, _, bY⟩ := rows_in h p my
  have ec : cutS b.r.n rows (y : Int) = cutR rows y := by unfold cutS; rw [bY]; simp
  have nd := nodup_in h p
  have hxy : x ≠ y := fun e => by subst e; simp at nd
  have ix : (x :: y :: Y).idxOf y = 1 := by
    have : (x == y) = false := by simpa using hxy
    rw [List.idxOf_cons, this]; simp
  refine ⟨_, rfl, rfl, _, h2, ?_, (Upd.below b1).trans u2⟩
  rw [ec]
  have := cut_perm h.rope.rok p my
  unfold pieces at this
  rw [if_pos my, ix] at this
  exact this
theorem make_j0 (h : EM w b rows V vl el wl sp) {p : Bool × Int} {x : Nat} (hx : okN x) {bp : Nat} {tp : TypeId} (hp : HB w bp #[.bool p.1, .int .i64 p.2] tp) {Kr : Int → World → Prop}
    (hk : ∀ w', EM w' b rows V vl el (putK wl x p) sp → Upd (Fe b) w w' (Fe b) → Kr (x : Int) w') : f_euler_Forest_make.j0 ⟨b.F, 0, none⟩ ⟨bp, 0, none⟩ (x : Int) w Kr := by
  unfold f_euler_Forest_make.j0
  have hd := h.below (Below.refl _ _).drew
  have hpd : HB w.drew bp #[.bool p.1, .int .i64 p.2] tp := hp
  refine drW_intro (hb_ldM (j := 3) hd.hf rfl (hb_ldB0 hpd rfl (hb_ldI (j := 1) hpd rfl ?_)))
  refine hd.gw.upd KTw (x := x) hx (v := p) fun w' g k => ?_
  obtain ⟨h2, u2⟩ := hd.mapW g k
  exact hk w' h2 ((Upd.below (Below.refl _ _).drew).trans u2)
structure Mk (w w' : World) (b b' : EB) (rows rows' : List (List Nat)) (V V' : Nat → Int × Int × Int) (vl : List (Int × Nat)) (el : List (Int × (Nat × Nat))) (wl : List (Nat × (Bool × Int))) (sp sp' : List Nat) (x : Nat) (p : Bool × Int) (v : Int × Int × Int) : Prop where
  em : EM w' b' rows' V' vl el (putK wl x p) sp'
  F : b'.F = b.F
  ms : b'.mv = b.mv ∧ b'.me = b.me
  upd : Upd (Fe b) w w' (Fe b')
  V : V' = fun i => if i = x then v else V i
  it : (sp = sp' ++ [x] ∧ rows' = rows ∧ b'.r.n = b.r.n) ∨ (sp = [] ∧ sp' = [] ∧ x = b.r.n ∧ rows' = rows ++ [[x]] ∧ b'.r.n = b.r.n + 1)
theorem make_ok (h : EM w b rows V vl el wl sp) (hn : b.r.n ≤ 65536) (hsp : ∀ x ∈ sp, 0 < x ∧ x < b.r.n) (p : Bool × Int) (v : Int × Int × Int) (hv : In64 v.1 ∧ In64 v.2.1 ∧ In64 v.2.2) :
    Calls Tryz.prog 62 #[.pointer (some ⟨b.F, 0, none⟩), .agg #[.bool p.1, .int .i64 p.2], .agg #[.int .i64 v.1, .int .i64 v.2.1, .int .i64 v.2.2]] w fun e w' => ∃ b' rows' V' sp' x, e = .returned (.int .i64 ((x : Nat) : Int)) ∧ Mk w w' b b' rows rows' V V' vl el wl sp sp' x p v := by
  apply f_euler_Forest_make.ok
  unfold f_euler_Forest_make.wp
  refine al_new fun w1 b1 e1 s1 hb1 g1 => al_new fun w2 b3 e3 s3 hb3 g3 => ?_
  have g13 := g1.trans (g3.mono (by omega))
  have h2 := h.below g13
  have hb1 := hb1.below g3
  have nF : ∀ {k}, Fe b k → k ≠ b1 ∧ k ≠ b3 := fun hk => by have := h.lt _ hk; omega
  have inF : b.F ∈ b.ix := by simp [EB.ix]
  refine hb_ldS (j := 4) h2.hf rfl ?_
  rcases List.eq_nil_or_concat sp with rfl | ⟨sp0, i, rfl⟩
  · refine sel_f (by simp) (drW_intro ?_)
    have h3 := h2.below (Below.refl _ _).drew
    have hb3d : HB w2.drew b3 #[.int .i64 v.1, .int .i64 v.2.1, .int .i64 v.2.2] 110 := hb3
    have hb1d : HB w2.drew b1 #[.bool p.1, .int .i64 p.2] 116 := hb1
    refine hb_ldP0 h3.hf rfl (hb_ldI0 hb3d rfl (hb_ldI (j := 1) hb3d rfl (hb_ldI (j := 2) hb3d rfl ((Make_ok h3.rope v.1 v.2.1 v.2.2 hv).mono ?_))))
    rintro e w4 ⟨r', rfl, hr4, n4, m4, k4⟩
    obtain ⟨h4, u4⟩ := h3.ropeS hr4 m4 k4
    have hb4 : HB w4 b1 #[.bool p.1, .int .i64 p.2] 116 := hb1d.keeps k4 fun hs => by
      rcases hs with hs | hs
      · exact (nF (k := b.r.R) (.inl (by simp [EB.ix]))).1 hs.symm
      · exact (nF (k := b.r.g) (.inl (by simp [EB.ix]))).1 hs.symm
    simp only [makeE, makeS, makeV, makeN, if_pos hn] at h4 n4 ⊢
    refine ⟨_, _, rfl, make_j0 h4 (x := b.r.n) (by unfold okN; omega) hb4 fun w5 h5 u5 _ => ⟨{ b with r := r' }, _, _, [], b.r.n, rfl, h5, rfl, ⟨rfl, rfl⟩, ?_, rfl, .inr ⟨rfl, rfl, rfl, rfl, n4⟩⟩⟩
    exact (((Upd.below g13).trans (Upd.below (Below.refl _ _).drew)).trans u4).trans u5
  · have e0 : sp0.concat i = sp0 ++ [i] := List.concat_eq_append
    rw [e0] at h h2 hsp ⊢
    have hlen : (sp0 ++ [i]).length = sp0.length + 1 := by simp
    rw [hlen]
    have hsl : sp0.length + 1 ≤ 9223372036854775807 := by
      have h1 := h.so.le
      rw [zs_len, hlen] at h1
      rcases h.so.2 with ⟨hv, _⟩ | ⟨g, cap, cur, hv, _, _, _, hm, _⟩
      · injection hv with _ _ h3; omega
      · injection hv with _ _ h3
        unfold maxLen at hm; omega
    refine sel_t (by simp) (drW_intro ?_)
    have h3 := h2.below (Below.refl _ _).drew
    have hb3d : HB w2.drew b3 #[.int .i64 v.1, .int .i64 v.2.1, .int .i64 v.2.2] 110 := hb3
    have hb1d : HB w2.drew b1 #[.bool p.1, .int .i64 p.2] 116 := hb1
    have hw : IntKind.i64.wrap (((sp0.length + 1 : Nat) : Int) - 1) = (sp0.length : Int) := by rw [w64_in (by omega)]; omega
    rw [hw]
    have c4 : (fC b (sp0 ++ [i]).length)[4]? = some (.slice b.A (sp0.length + 1) b.c) := by unfold fC; rw [hlen]; rfl
    obtain ⟨a, ha, hc⟩ := h3.so.reads sp0.length (by rw [zs_len, hlen]; omega)
    have hget : (zs (sp0 ++ [i]))[sp0.length]'(by rw [zs_len, hlen]; omega) = (i : Int) := by simp [zs]
    rw [hget] at hc
    refine hb_ldS (j := 4) h3.hf c4 (optB_some ha (req_intro (by simp; omega) (ldI_intro (by rw [Int.toNat_natCast, Nat.mul_one]; exact hc) ?_)))
    have hcap : sp0.length + 1 ≤ b.c := by have := h3.so.le; rw [zs_len, hlen] at this; exact this
    refine hb_ldS (j := 4) h3.hf c4 (req_intro (by simp; omega) ?_)
    rw [slA0, Nat.sub_zero, Nat.sub_zero, Int.toNat_natCast]
    refine hb_st h3.hf (j := 4) (by simp [fC]) fun w4 hf4 k4 => ?_
    have hf4 : HB w4 b.F (fC b sp0.length) TF := hf4
    obtain ⟨⟨f1, f2, f3, f4, f5⟩, _⟩ := h3.dd
    obtain ⟨u4, _, a2, a3, a4, a5, a6⟩ := h3.one k4 inF
    have h4 : EM w4 b rows V vl el wl sp0 := ⟨hf4, a2 (Ne.symm f1) (Ne.symm f2), a3 (Ne.symm f3), a4 (Ne.symm f4), a5 (Ne.symm f5), OwnI.pop (x := (i : Int)) (by rw [zs_app] at a6; exact a6), h.d, h.da, h.ds⟩
    have h5 := h4.below (Below.refl _ _).drew
    have nF1 := nF (k := b.F) (.inl inF)
    have hb34 : HB w4 b3 #[.int .i64 v.1, .int .i64 v.2.1, .int .i64 v.2.2] 110 := hb3d.keeps k4 fun e => nF1.2 e.symm
    have hb14 : HB w4 b1 #[.bool p.1, .int .i64 p.2] 116 := hb1d.keeps k4 fun e => nF1.1 e.symm
    have hb35 : HB w4.drew b3 #[.int .i64 v.1, .int .i64 v.2.1, .int .i64 v.2.2] 110 := hb34
    have hb15 : HB w4.drew b1 #[.bool p.1, .int .i64 p.2] 116 := hb14
    refine drW_intro (hb_ldP0 h5.hf rfl (hb_ldI0 hb35 rfl (hb_ldI (j := 1) hb35 rfl (hb_ldI (j := 2) hb35 rfl ((Set_ok h5.rope (i : Int) v.1 v.2.1 v.2.2 hv).mono ?_)))))
    rintro e w6 ⟨rfl, hr6, k6⟩
    obtain ⟨h6, u6⟩ := h5.ropeT hr6 k6
    have hb6 : HB w6 b1 #[.bool p.1, .int .i64 p.2] 116 := hb15.keeps k6 fun hs => by
      rcases hs with hs | hs
      · exact (nF (k := b.r.R) (.inl (by simp [EB.ix]))).1 hs.symm
      · exact (nF (k := b.r.g) (.inl (by simp [EB.ix]))).1 hs.symm
    have hi := hsp i (by simp)
    have bi : Bd b.r.n (i : Int) = false := by simp [Bd]; omega
    have eV : setV b.r.n V (i : Int) (v.1, v.2.1, v.2.2) = fun j => if j = i then v else V j := by unfold setV; rw [bi]; simp
    rw [eV] at h6
    refine ⟨_, rfl, make_j0 h6 (x := i) (by unfold okN; omega) hb6 fun w7 h7 u7 _ => ⟨b, _, _, sp0, i, rfl, h7, rfl, ⟨rfl, rfl⟩, ?_, rfl, .inl ⟨rfl, rfl, rfl⟩⟩⟩
    exact (((((Upd.below g13).trans (Upd.below (Below.refl _ _).drew)).trans u4).trans (Upd.below (Below.refl _ _).drew)).trans u6).trans u7
theorem drop_ok (h : EM w b rows V vl el wl sp) (hl : sp.length ≤ 1000000) {x : Nat} (hx : okN x) :
    Calls Tryz.prog 70 #[.pointer (some ⟨b.F, 0, none⟩), .int .i64 (x : Int)] w fun e w' => e = .returned (.tuple #[]) ∧ ∃ b', EM w' b' rows V vl el (delK wl x) (sp ++ [x]) ∧ b'.F = b.F ∧ b'.r = b.r ∧ Upd (Fe b) w w' (Fe b') := by
  apply f_euler_Forest_drop.ok
  unfold f_euler_Forest_drop.wp
  refine hb_ldM (j := 3) h.hf rfl (h.gw.del KTw hx fun w1 g1 k1 => ⟨rfl, ?_⟩)
  obtain ⟨h1, u1⟩ := h.mapW g1 k1
  have hB : b.r.B ≤ w1.heap.size := by have := h1.rope.lt; omega
  refine hb_ldS (j := 4) h1.hf rfl (put_in h1.so (by rw [zs_len]) hB (by rw [zs_len]; exact hl) fun A' c' w2 o2 k2 f2 => ?_)
  have e2 : zs sp ++ [(x : Int)] = zs (sp ++ [x]) := by rw [zs_app]; rfl
  rw [e2] at o2 ⊢
  rw [zs_len]
  have nA : ∀ {k}, k ∈ b.ix → ¬ Ob b.A k := fun hk ⟨a, ha, e⟩ => (h1.da a ha).1 (by rw [e]; exact hk)
  have hf2 := h1.hf.keeps k2 (nA (by simp [EB.ix]))
  refine hb_st hf2 (j := 4) (by simp [fC]) fun w3 hf3 k3 => ⟨rfl, ?_⟩
  obtain ⟨⟨f1, f2', f3, f4, f5⟩, _⟩ := h1.dd
  have ltF := hf2.lt
  have bA' := o2.block A' rfl
  have nA' : A'.block ∉ b.ix := fun hm => by
    rcases f2 with e | e
    · exact (h1.da A' e).1 hm
    · have := h1.lt _ (.inl hm); omega
  have kF : ∀ {k}, k ∈ b.ix → k ≠ b.F → ¬ (k = b.F) := fun _ h => h
  have kk : Keeps (fun k => Ob b.A k ∨ k = b.F) w1 w3 := (k2.mono fun k _ h => .inl h).trans (k3.mono fun k _ h => .inr h)
  have nk : ∀ {k}, k ∈ b.ix → k ≠ b.F → ¬ (Ob b.A k ∨ k = b.F) := fun h1 h2 h3 => h3.elim (nA h1) h2
  refine ⟨{ b with A := some A', c := c' }, ⟨hf3, ?_, h1.gv.keeps kk (nk (by simp [EB.ix]) (Ne.symm f3)), h1.ge.keeps kk (nk (by simp [EB.ix]) (Ne.symm f4)), h1.gw.keeps kk (nk (by simp [EB.ix]) (Ne.symm f5)), ?_, h1.d, ?_, h1.ds⟩, rfl, rfl, ?_⟩
  · exact h1.rope.keeps kk (nk (by simp [EB.ix]) (Ne.symm f1)) (nk (by simp [EB.ix]) (Ne.symm f2')) fun a ha hh => by
      rcases hh with ⟨a', ha', e⟩ | e
      · exact (h1.da a' ha').2 a ha e.symm
      · exact h1.ds a ha (by rw [e]; simp [EB.ix])
  · exact o2.keeps k3 fun a ha e => by
      injection ha with ha; subst ha
      exact nA' (by rw [e]; simp [EB.ix])
  · intro a ha
    injection ha with ha; subst ha
    refine ⟨nA', fun a' ha' e => ?_⟩
    rcases f2 with e' | e'
    · exact (h1.da A' e').2 a' ha' e
    · have := (h1.rope.sap a' ha').2.1; omega
  · refine u1.trans ⟨kk.mono fun k _ hk => ?_, ?_⟩
    · rcases hk with hk | rfl
      · exact .inr (.inl hk)
      · exact .inl (by simp [EB.ix])
    · rintro k (hk | ⟨a, ha, e⟩ | hk)
      · exact .inl (.inl hk)
      · injection ha with ha; subst ha; subst e
        rcases f2 with e' | e'
        · exact .inl (.inr (.inl ⟨A', e', rfl⟩))
        · exact .inr e'
      · exact .inl (.inr (.inr hk))
end
end Go.Proofs.YtbhhbnnmdekjiaaGreat.Rd
namespace Go.Proofs.YtbhhbnnmdekjiaaGreat.Rd
open Go.Dn Go.RowKit
set_option maxRecDepth 100000
def one1 (x : Nat) : List Nat := [x]
structure Fr (rows : List (List Nat)) (n : Nat) (sp : List Nat) (T : List (List Nat)) (K : Nat → Prop) : Prop where
  rw : rows.Perm (sp.map one1 ++ T)
  spn : sp.Nodup
  spd : ∀ x ∈ sp, ¬ K x
  kn : ∀ x, K x → x < n
theorem Fr.make {rows rows' : List (List Nat)} {n n' : Nat} {sp sp' : List Nat} {T : List (List Nat)} {K : Nat → Prop} {x : Nat} (f : Fr rows n sp T K) (rok : RowsOk n rows) (hp : 0 < n) (it : (sp = sp' ++ [x] ∧ rows' = rows ∧ n' = n) ∨ (sp = [] ∧ sp' = [] ∧ x = n ∧ rows' = rows ++ [[x]] ∧ n' = n + 1)) :
    Fr rows' n' sp' ([x] :: T) (fun y => K y ∨ y = x) ∧ ¬ K x ∧ 0 < x ∧ x < n' ∧ n ≤ n' ∧ n' + sp.length = n + sp'.length + 1 ∧ (n' = n ∨ (sp' = [] ∧ n' = n + 1)) ∧ (∀ y ∈ sp', y ∈ sp) := by
  rcases it with ⟨rfl, rfl, rfl⟩ | ⟨rfl, rfl, rfl, rfl, rfl⟩
  · have hx : [x] ∈ rows' := f.rw.mem_iff.2 (by simp [one1])
    have hr := (rok.mem x).1 ⟨_, hx, by simp⟩
    have nd := f.spn
    rw [List.nodup_append] at nd
    refine ⟨⟨?_, nd.1, ?_, ?_⟩, f.spd x (by simp), hr.1, hr.2, Nat.le_refl _, by simp; omega, .inl rfl, fun y hy => by simp [hy]⟩
    · have := f.rw
      rw [List.map_append] at this
      simpa [one1] using this
    · intro y hy hk
      rcases hk with hk | rfl
      · exact f.spd y (by simp [hy]) hk
      · exact nd.2.2 y hy y (by simp) rfl
    · rintro y (hy | rfl)
      · exact f.kn y hy
      · exact hr.2
  · refine ⟨⟨?_, by simp, by simp, ?_⟩, fun hk => ?_, hp, by omega, by omega, by simp, .inr ⟨rfl, rfl⟩, by simp⟩
    · have := f.rw
      simp only [List.map_nil, List.nil_append] at this ⊢
      exact (List.perm_append_comm (l₁ := rows)).trans (this.cons _)
    · rintro y (hy | rfl)
      · have := f.kn y hy; omega
      · omega
    · have := f.kn _ hk; omega
def plOf : Pl → Bool × Int
  | .v i => (false, i)
  | .t i => (true, i)
  | .b i => (true, i)
def bitI (b : Bool) : Int := if b = true then 1 else 0
def Kn (vs : List Int) (es : List E) (nm : Pl → Nat) (x : Nat) : Prop := ∃ p, okP vs es p ∧ x = nm p
structure FI (rows : List (List Nat)) (V : Nat → Int × Int × Int) (n : Nat) (vl : List (Int × Nat)) (el : List (Int × (Nat × Nat))) (wl : List (Nat × (Bool × Int))) (sp : List Nat) (T : List (List Nat)) (vs : List Int) (es : List E) (kv ke : Int → Bool) (nm : Pl → Nat) : Prop where
  N : Nm vs es nm
  vss : vs.Pairwise (· < ·)
  ess : (es.map E.id).Pairwise (· < ·)
  vr : ∀ v ∈ vs, ¬ badI v
  er : ∀ e ∈ es, ¬ badI e.id
  vlen : vs.length ≤ 2048
  lv : ∀ i, lk vl i = if i ∈ vs then some (nm (.v i)) else none
  vln : vl.length = vs.length
  le : ∀ i, lk el i = if i ∈ es.map E.id then some (nm (.t i), nm (.b i)) else none
  lw : ∀ p, okP vs es p → lk wl (nm p) = some (plOf p)
  lz : lk wl 0 = none
  fr : Fr rows n sp T (Kn vs es nm)
  pos : ∀ p, okP vs es p → 0 < nm p
  tt : ∀ l ∈ T, Tour vs es nm l
  tc : T.length + es.length = vs.length
  cn : n = 1 + vs.length + 2 * es.length + sp.length
  nb : n ≤ 6145
  mkV : ∀ v ∈ vs, V (nm (.v v)) = (1, bitI (kv v), 0)
  mkE : ∀ e ∈ es, V (nm (.t e.id)) = (0, 0, bitI (ke e.id)) ∧ V (nm (.b e.id)) = (0, 0, 0)
  mb : ∀ x, (0 ≤ (V x).1 ∧ (V x).1 ≤ 1) ∧ (0 ≤ (V x).2.1 ∧ (V x).2.1 ≤ 1) ∧ 0 ≤ (V x).2.2 ∧ (V x).2.2 ≤ 1
section
variable {rows : List (List Nat)} {V : Nat → Int × Int × Int} {n : Nat} {vl : List (Int × Nat)} {el : List (Int × (Nat × Nat))} {wl : List (Nat × (Bool × Int))} {sp : List Nat} {T : List (List Nat)} {vs : List Int} {es : List E} {kv ke : Int → Bool} {nm : Pl → Nat}
theorem FI.row (f : FI rows V n vl el wl sp T vs es kv ke nm) (rok : RowsOk n rows) {p : Pl} (hp : okP vs es p) : rowOf rows (nm p) ∈ T ∧ nm p ∈ rowOf rows (nm p) ∧ Tour vs es nm (rowOf rows (nm p)) := by
  have hk : Kn vs es nm (nm p) := ⟨p, hp, rfl⟩
  obtain ⟨h1, h2⟩ := rok.rowOf_mem ⟨f.pos p hp, f.fr.kn _ hk⟩
  have h3 := f.fr.rw.mem_iff.1 h1
  rw [List.mem_append, List.mem_map] at h3
  rcases h3 with ⟨x, hx, e⟩ | h3
  · rw [← e] at h2
    simp only [one1, List.mem_singleton] at h2
    exact absurd (h2 ▸ hk) (f.fr.spd x hx)
  · exact ⟨h3, h2, f.tt _ h3⟩
theorem FI.inT (f : FI rows V n vl el wl sp T vs es kv ke nm) {l : List Nat} (hl : l ∈ T) : l ∈ rows := f.fr.rw.mem_iff.2 (by simp [hl])
theorem FI.ends (f : FI rows V n vl el wl sp T vs es kv ke nm) (rok : RowsOk n rows) {e : E} (he : e ∈ es) : rowOf rows (nm (.v e.u)) = rowOf rows (nm (.t e.id)) ∧ rowOf rows (nm (.v e.v)) = rowOf rows (nm (.t e.id)) ∧ rowOf rows (nm (.b e.id)) = rowOf rows (nm (.t e.id)) := by
  obtain ⟨h1, h2, h3⟩ := f.row rok (okT he)
  obtain ⟨_, c2, c3, c4⟩ := h3.closed f.N he (.inl h2)
  have hm := f.inT h1
  exact ⟨rok.rowOf_eq hm c3, rok.rowOf_eq hm c4, rok.rowOf_eq hm c2⟩
theorem FI.same (f : FI rows V n vl el wl sp T vs es kv ke nm) (rok : RowsOk n rows) {u v : Int} (hu : u ∈ vs) (hv : v ∈ vs) : rowOf rows (nm (.v u)) = rowOf rows (nm (.v v)) ↔ Cn es u v := by
  constructor
  · intro e
    obtain ⟨h1, h2, h3⟩ := f.row rok (okV (es := es) hu)
    obtain ⟨k1, k2, k3⟩ := f.row rok (okV (es := es) hv)
    rw [← e] at k2
    exact h3.conn f.N hu hv h2 k2
  · rintro ⟨p, hp⟩
    exact (hp.inv (Q := fun x => rowOf rows (nm (.v u)) = rowOf rows (nm (.v x))) (fun e he => by rw [(f.ends rok he).1, (f.ends rok he).2.1])) rfl
theorem FI.edge (f : FI rows V n vl el wl sp T vs es kv ke nm) (rok : RowsOk n rows) {u : Int} (hu : u ∈ vs) {e : E} (he : e ∈ es) : nm (.t e.id) ∈ rowOf rows (nm (.v u)) ↔ Cn es u e.u := by
  obtain ⟨h1, h2, h3⟩ := f.row rok (okT he)
  obtain ⟨k1, k2, k3⟩ := f.row rok (okV (es := es) hu)
  rw [← f.same rok hu (f.N.ends e he).1, (f.ends rok he).1]
  constructor
  · intro h; exact (rok.rowOf_eq (f.inT k1) h).symm
  · intro h; rw [h]; exact h2
theorem FI.le_vs (f : FI rows V n vl el wl sp T vs es kv ke nm) : es.length ≤ vs.length := by have := f.tc; omega
open Classical in
noncomputable def setN (nm : Pl → Nat) (p : Pl) (x : Nat) : Pl → Nat := fun q => if q = p then x else nm q
theorem setN_same (nm : Pl → Nat) (p : Pl) (x : Nat) : setN nm p x p = x := by simp [setN]
theorem setN_ne {nm : Pl → Nat} {p q : Pl} (x : Nat) (h : q ≠ p) : setN nm p x q = nm q := by simp [setN, h]
theorem wiI_mem {l : List Int} {x y : Int} : y ∈ wiI l x ↔ y = x ∨ y ∈ l := by rw [(wiI_perm l x).mem_iff, List.mem_cons]
theorem wiI_sorted {l : List Int} {x : Int} (h : l.Pairwise (· < ·)) (hx : x ∉ l) : (wiI l x).Pairwise (· < ·) := by
  induction l with
  | nil => simp [wiI]
  | cons y l ih =>
    rw [List.pairwise_cons] at h
    rw [wiI_cons]
    split
    · rename_i hlt
      rw [List.pairwise_cons, List.pairwise_cons]
      exact ⟨fun z hz => by rcases List.mem_cons.1 hz with rfl | hz; exact hlt; have := h.1 z hz; omega, h⟩
    · rename_i hge
      have hne : x ≠ y := fun e => hx (by simp [e])
      rw [List.pairwise_cons]
      refine ⟨fun z hz => ?_, ih h.2 fun hh => hx (by simp [hh])⟩
      rcases wiI_mem.1 hz with rfl | hz
      · omega
      · exact h.1 z hz
theorem woI_mem {l : List Int} {x y : Int} : y ∈ woI l x ↔ y ∈ l ∧ y ≠ x := by simp [woI]
theorem woI_sorted {l : List Int} (x : Int) (h : l.Pairwise (· < ·)) : (woI l x).Pairwise (· < ·) := h.filter _
theorem sorted_nodup {l : List Int} (h : l.Pairwise (· < ·)) : l.Nodup := h.imp fun h => by omega
theorem woI_len {l : List Int} {x : Int} (h : l.Nodup) (hx : x ∈ l) : (woI l x).length + 1 = l.length := by
  induction l with
  | nil => cases hx
  | cons y l ih =>
    rw [List.nodup_cons] at h
    by_cases e : y = x
    · subst e
      have : woI (y :: l) y = l := by
        unfold woI
        rw [List.filter_cons_of_neg (by simp), List.filter_eq_self]
        intro z hz
        have : z ≠ y := fun e => h.1 (e ▸ hz)
        simpa using this
      rw [this]; rfl
    · have hm : x ∈ l := by rcases List.mem_cons.1 hx with e' | h'; exact absurd e'.symm e; exact h'
      have : woI (y :: l) x = y :: woI l x := by unfold woI; rw [List.filter_cons_of_pos (by simpa using e)]
      rw [this, List.length_cons, ih h.2 hm]; rfl
theorem lk_notmem {κ β : Type} [DecidableEq κ] {m : List (κ × β)} {x : κ} (h : lk m x = none) : hasK m x = false := by
  rw [Bool.eq_false_iff]
  intro hh
  obtain ⟨v, hv⟩ := hasK_iff.1 hh
  exact lk_none_iff.1 h _ hv rfl
theorem FI.addV (f : FI rows V n vl el wl sp T vs es kv ke nm) (rok : RowsOk n rows) (hpos : 0 < n) {v : Int} (hb : ¬ badI v) (hv : v ∉ vs) (hl : vs.length < 2048) {x n' : Nat} {sp' : List Nat} {rows' : List (List Nat)}
    (it : (sp = sp' ++ [x] ∧ rows' = rows ∧ n' = n) ∨ (sp = [] ∧ sp' = [] ∧ x = n ∧ rows' = rows ++ [[x]] ∧ n' = n + 1)) :
    FI rows' (fun i => if i = x then (1, 0, 0) else V i) n' (putK vl v x) el (putK wl x (false, v)) sp' ([x] :: T) (wiI vs v) es (fun i => if i = v then false else kv i) ke (setN nm (.v v) x) := by
  obtain ⟨fr, nk, x0, xn, nn, cnt, cnb, sub⟩ := f.fr.make rok hpos it
  have ok' : ∀ {q}, okP (wiI vs v) es q → q = .v v ∨ (okP vs es q ∧ q ≠ .v v) := by
    intro q hq
    cases q with
    | v i =>
      rcases wiI_mem.1 hq with rfl | h
      · exact .inl rfl
      · exact .inr ⟨h, fun e => by injection e with e; exact hv (e ▸ h)⟩
    | t i => exact .inr ⟨hq, fun e => by cases e⟩
    | b i => exact .inr ⟨hq, fun e => by cases e⟩
  have nv : ∀ {i}, i ∈ vs → Pl.v i ≠ .v v := fun hi e => by injection e with e; exact hv (e ▸ hi)
  have nx : ∀ {p}, okP vs es p → nm p ≠ x := fun {p} hp e => nk ⟨p, hp, e.symm⟩
  have N' : Nm (wiI vs v) es (setN nm (.v v) x) := by
    refine ⟨fun p q hp hq e => ?_, f.N.ids, fun e he => ⟨wiI_mem.2 (.inr (f.N.ends e he).1), wiI_mem.2 (.inr (f.N.ends e he).2)⟩⟩
    rcases ok' hp with rfl | ⟨hp, np⟩ <;> rcases ok' hq with rfl | ⟨hq, nq⟩
    · rfl
    · rw [setN_same, setN_ne _ nq] at e; exact absurd e.symm (nx hq)
    · rw [setN_same, setN_ne _ np] at e; exact absurd e (nx hp)
    · rw [setN_ne _ np, setN_ne _ nq] at e; exact f.N.inj _ _ hp hq e
  have lvv : lk vl v = none := by rw [f.lv, if_neg hv]
  have lwl : (wiI vs v).length = vs.length + 1 := by have := (wiI_perm vs v).length_eq; simpa using this
  have hes := f.le_vs
  refine ⟨N', wiI_sorted f.vss hv, f.ess, ?_, f.er, by omega, ?_, ?_, ?_, ?_, ?_, ⟨fr.rw, fr.spn, ?_, ?_⟩, ?_, ?_, ?_, ?_, ?_, ?_, ?_, ?_⟩
  · intro u hu
    rcases wiI_mem.1 hu with rfl | hu
    · exact hb
    · exact f.vr u hu
  · intro i
    rw [lk_putK]
    by_cases e : v = i
    · subst e; rw [if_pos rfl, if_pos (wiI_mem.2 (.inl rfl)), setN_same]
    · rw [if_neg e, f.lv]
      by_cases hi : i ∈ vs
      · rw [if_pos hi, if_pos (wiI_mem.2 (.inr hi)), setN_ne _ (nv hi)]
      · rw [if_neg hi, if_neg fun hh => by rcases wiI_mem.1 hh with h | h; exact e h.symm; exact hi h]
  · rw [length_putK, lk_notmem lvv, lwl]; simp [f.vln]
  · intro i
    rw [f.le, setN_ne _ (fun e => by cases e), setN_ne _ (fun e => by cases e)]
  · intro p hp
    rcases ok' hp with rfl | ⟨hp, np⟩
    · rw [setN_same, lk_putK, if_pos rfl]; rfl
    · rw [setN_ne _ np, lk_putK, if_neg (Ne.symm (nx hp))]; exact f.lw p hp
  · rw [lk_putK, if_neg (by omega)]; exact f.lz
  · rintro y hy ⟨p, hp, rfl⟩
    rcases ok' hp with rfl | ⟨hp, np⟩
    · rw [setN_same] at hy; exact fr.spd x hy (.inr rfl)
    · rw [setN_ne _ np] at hy; exact fr.spd _ hy (.inl ⟨p, hp, rfl⟩)
  · rintro y ⟨p, hp, rfl⟩
    rcases ok' hp with rfl | ⟨hp, np⟩
    · rw [setN_same]; exact xn
    · rw [setN_ne _ np]; exact fr.kn _ (.inl ⟨p, hp, rfl⟩)
  · intro p hp
    rcases ok' hp with rfl | ⟨hp, np⟩
    · rw [setN_same]; exact x0
    · rw [setN_ne _ np]; exact f.pos p hp
  · intro l hl
    rcases List.mem_cons.1 hl with rfl | hl
    · have := Tour.one (vs := wiI vs v) (es := es) (nm := setN nm (.v v) x) (v := v) (wiI_mem.2 (.inl rfl))
      rw [setN_same] at this; exact this
    · exact (f.tt l hl).mono f.N (fun u hu _ => ⟨wiI_mem.2 (.inr hu), setN_ne _ (nv hu)⟩) fun e he _ => ⟨he, setN_ne _ (fun e => by cases e), setN_ne _ (fun e => by cases e)⟩
  · have := f.tc; simp only [List.length_cons, lwl]; omega
  · have := f.cn; rw [lwl]; omega
  · have := f.nb; have := f.cn
    rcases cnb with e | ⟨e1, e2⟩
    · omega
    · rw [e1] at cnt; simp only [List.length_nil] at cnt; omega
  · intro u hu
    rcases wiI_mem.1 hu with rfl | hu
    · simp [setN_same, bitI]
    · have e : u ≠ v := fun e => hv (e ▸ hu)
      simp only [setN_ne _ (nv hu), if_neg (nx (okV (es := es) hu)), if_neg e]; exact f.mkV u hu
  · intro e he
    simp only [setN_ne _ (show Pl.t e.id ≠ .v v by intro h; cases h), setN_ne _ (show Pl.b e.id ≠ .v v by intro h; cases h), if_neg (nx (okT he)), if_neg (nx (okB he))]
    exact f.mkE e he
  · intro i
    by_cases e : i = x
    · simp [e]
    · simp only [if_neg e]; exact f.mb i
theorem FI.degT (f : FI rows V n vl el wl sp T vs es kv ke nm) {l : List Nat} (h : Tour vs es nm l) {v : Int} (hv : v ∈ vs) : nm (.v v) ∈ l → l = [nm (.v v)] ∨ ∃ e ∈ es, e.u = v ∨ e.v = v := by
  induction h with
  | one h => intro m; simp only [List.mem_singleton] at m; rw [m]; exact .inl rfl
  | @rot a b h ih =>
    intro m
    refine (ih (by rw [List.mem_append] at m ⊢; exact m.symm)).imp (fun e => ?_) id
    cases a with
    | nil => simpa using e
    | cons y a =>
      rw [List.cons_append] at e
      injection e with e1 e2
      rw [List.append_eq_nil_iff] at e2
      rw [e1, e2.1, e2.2]; rfl
  | @link e A B he h1 h2 i1 i2 =>
    intro m
    refine .inr ?_
    obtain ⟨eu, ev⟩ := f.N.ends _ he
    rcases link_mem.1 m with m | m | m | m
    · rcases i1 m with h | h
      · injection h with h _
        exact ⟨e, he, .inl (f.N.vv eu hv h)⟩
      · exact h
    · exact absurd m (f.N.vt hv he)
    · rcases i2 m with h | h
      · injection h with h _
        exact ⟨e, he, .inr (f.N.vv ev hv h)⟩
      · exact h
    · exact absurd m (f.N.vb hv he)
theorem FI.size1 (f : FI rows V n vl el wl sp T vs es kv ke nm) (rok : RowsOk n rows) {v : Int} (hv : v ∈ vs) : 1 < (rowOf rows (nm (.v v))).length ↔ 0 < deg es v := by
  obtain ⟨h1, h2, h3⟩ := f.row rok (okV (es := es) hv)
  have dz := deg_zero (es := es) (v := v)
  have dn := deg_nn es v
  constructor
  · intro h
    rcases f.degT h3 hv h2 with e | ⟨e, he, hh⟩
    · rw [e] at h; simp at h
    · have h0 : deg es v ≠ 0 := fun h0 => by
        have := dz.1 h0 e he
        rcases hh with hh | hh
        · exact this.1 hh
        · exact this.2 hh
      omega
  · intro h
    have : ¬ ∀ e ∈ es, e.u ≠ v ∧ e.v ≠ v := fun hh => by have := dz.2 hh; omega
    obtain ⟨e, he, hh⟩ : ∃ e ∈ es, e.u = v ∨ e.v = v := by
      refine Classical.byContradiction fun hn => this fun e he => ⟨fun hh => hn ⟨e, he, .inl hh⟩, fun hh => hn ⟨e, he, .inr hh⟩⟩
    have hrow : nm (.t e.id) ∈ rowOf rows (nm (.v v)) := by
      have ht := (f.row rok (okT he)).2.1
      rcases hh with rfl | rfl
      · rw [(f.ends rok he).1]; exact ht
      · rw [(f.ends rok he).2.1]; exact ht
    have hne := f.N.vt hv he
    generalize rowOf rows (nm (.v v)) = l at *
    match l, h2, hrow with
    | [y], a, b => simp only [List.mem_singleton] at a b; exact absurd (a.trans b.symm) hne
    | _ :: _ :: _, _, _ => simp
theorem mem_perm {α : Type} {l : List α} {x : α} (h : x ∈ l) : ∃ R, l.Perm (x :: R) := by
  obtain ⟨a, b, rfl⟩ := List.append_of_mem h
  exact ⟨a ++ b, List.perm_middle⟩
theorem lk_del_len {m : List (Int × Nat)} (nd : NdK m) {x : Int} {v : Nat} (h : lk m x = some v) : (delK m x).length + 1 = m.length := by
  have hm := lk_some h
  clear h
  induction m with
  | nil => cases hm
  | cons p r ih =>
    unfold NdK at nd
    rw [List.map_cons, List.nodup_cons] at nd
    by_cases e : p.1 = x
    · have : delK (p :: r) x = r := by
        unfold delK
        rw [List.filter_cons_of_neg (by simp [e]), List.filter_eq_self]
        intro q hq
        have : q.1 ≠ x := fun h => nd.1 (by rw [e, ← h]; exact List.mem_map_of_mem hq)
        simpa using this
      rw [this]; rfl
    · have hm' : (x, v) ∈ r := by rcases List.mem_cons.1 hm with h | h; exact absurd (by rw [← h]) e; exact h
      have : delK (p :: r) x = p :: delK r x := by unfold delK; rw [List.filter_cons_of_pos (by simpa using e)]
      rw [this, List.length_cons, ih nd.2 hm']; rfl
theorem FI.delV (f : FI rows V n vl el wl sp T vs es kv ke nm) (rok : RowsOk n rows) (ndv : NdK vl) {v : Int} (hv : v ∈ vs) (hd : deg es v = 0) :
    ∃ T', FI rows V n (delK vl v) el (delK wl (nm (.v v))) (sp ++ [nm (.v v)]) T' (woI vs v) es kv ke nm := by
  have hz := deg_zero.1 hd
  obtain ⟨h1, h2, h3⟩ := f.row rok (okV (es := es) hv)
  have hrow : rowOf rows (nm (.v v)) = [nm (.v v)] := by
    rcases f.degT h3 hv h2 with e | ⟨e, he, hh⟩
    · exact e
    · have := hz e he
      rcases hh with hh | hh
      · exact absurd hh this.1
      · exact absurd hh this.2
  rw [hrow] at h1
  obtain ⟨T', pT⟩ := mem_perm h1
  have ok' : ∀ {q}, okP (woI vs v) es q → okP vs es q ∧ q ≠ .v v := by
    intro q hq
    cases q with
    | v i => exact ⟨(woI_mem.1 hq).1, fun e => by injection e with e; exact (woI_mem.1 hq).2 e⟩
    | t i => exact ⟨hq, fun e => by cases e⟩
    | b i => exact ⟨hq, fun e => by cases e⟩
  have nx : ∀ {p}, okP vs es p → p ≠ .v v → nm p ≠ nm (.v v) := fun hp np e => np (f.N.inj _ _ hp (okV (es := es) hv) e)
  have pr : rows.Perm (sp.map one1 ++ [nm (.v v)] :: T') := f.fr.rw.trans (pT.append_left _)
  have dis : ∀ l ∈ T', nm (.v v) ∉ l := by
    have hdj := (rok.perm (pr.trans List.perm_middle)).dj
    rw [List.pairwise_cons] at hdj
    intro l hl
    exact hdj.1 l (by simp [hl]) _ (by simp)
  have wl' := woI_len (sorted_nodup f.vss) hv
  have tl := pT.length_eq
  simp only [List.length_cons] at tl
  refine ⟨T', ⟨⟨fun p q hp hq e => f.N.inj _ _ (ok' hp).1 (ok' hq).1 e, f.N.ids, fun e he => ?_⟩, woI_sorted v f.vss, f.ess, fun u hu => f.vr u (woI_mem.1 hu).1, f.er, by have := f.vlen; omega, ?_, ?_, f.le, ?_, ?_, ⟨?_, ?_, ?_, ?_⟩, fun p hp => f.pos p (ok' hp).1, ?_, ?_, ?_, f.nb, fun u hu => f.mkV u (woI_mem.1 hu).1, f.mkE, f.mb⟩⟩
  · have := hz e he
    exact ⟨woI_mem.2 ⟨(f.N.ends e he).1, this.1⟩, woI_mem.2 ⟨(f.N.ends e he).2, this.2⟩⟩
  · intro i
    rw [lk_delK]
    by_cases e : v = i
    · subst e; rw [if_pos rfl, if_neg fun h => (woI_mem.1 h).2 rfl]
    · rw [if_neg e, f.lv]
      by_cases hi : i ∈ vs
      · rw [if_pos hi, if_pos (woI_mem.2 ⟨hi, Ne.symm e⟩)]
      · rw [if_neg hi, if_neg fun h => hi (woI_mem.1 h).1]
  · have := lk_del_len ndv (x := v) (v := nm (.v v)) (by rw [f.lv, if_pos hv])
    have := f.vln; omega
  · intro p hp
    rw [lk_delK, if_neg (Ne.symm (nx (ok' hp).1 (ok' hp).2))]; exact f.lw p (ok' hp).1
  · rw [lk_delK]; split
    · rfl
    · exact f.lz
  · rw [List.map_append]
    have : sp.map one1 ++ List.map one1 [nm (.v v)] ++ T' = sp.map one1 ++ [nm (.v v)] :: T' := by simp [one1]
    rw [this]; exact pr
  · rw [List.nodup_append]
    refine ⟨f.fr.spn, by simp, fun a ha b hb e => ?_⟩
    simp only [List.mem_singleton] at hb
    exact f.fr.spd a ha ⟨_, okV (es := es) hv, e.trans hb⟩
  · rintro x hx ⟨p, hp, rfl⟩
    rcases List.mem_append.1 hx with hx | hx
    · exact f.fr.spd _ hx ⟨p, (ok' hp).1, rfl⟩
    · simp only [List.mem_singleton] at hx
      exact nx (ok' hp).1 (ok' hp).2 hx
  · rintro x ⟨p, hp, rfl⟩
    exact f.fr.kn _ ⟨p, (ok' hp).1, rfl⟩
  · intro l hl
    have hlT : l ∈ T := pT.mem_iff.2 (by simp [hl])
    refine (f.tt l hlT).mono f.N (fun u hu m => ⟨woI_mem.2 ⟨hu, fun e => ?_⟩, rfl⟩) fun e he _ => ⟨he, rfl, rfl⟩
    subst e; exact dis l hl m
  · have := f.tc; omega
  · have := f.cn; simp only [List.length_append, List.length_singleton]; omega
end
theorem insE_mem {l : List E} {e y : E} : y ∈ insE l e ↔ y = e ∨ y ∈ l := by rw [(insE_perm l e).mem_iff, List.mem_cons]
theorem insE_ids {l : List E} {e : E} {i : Int} : i ∈ (insE l e).map E.id ↔ i = e.id ∨ i ∈ l.map E.id := by rw [((insE_perm l e).map E.id).mem_iff, List.map_cons, List.mem_cons]
theorem insE_sorted {l : List E} {e : E} (h : (l.map E.id).Pairwise (· < ·)) (hx : e.id ∉ l.map E.id) : ((insE l e).map E.id).Pairwise (· < ·) := by
  induction l with
  | nil => simp [insE]
  | cons y l ih =>
    rw [List.map_cons, List.pairwise_cons] at h
    rw [insE_cons]
    split
    · rename_i hlt
      rw [List.map_cons, List.map_cons, List.pairwise_cons, List.pairwise_cons]
      exact ⟨fun z hz => by rcases List.mem_cons.1 hz with rfl | hz; exact hlt; have := h.1 z hz; omega, h⟩
    · rename_i hge
      have hne : e.id ≠ y.id := fun e => hx (by simp [e])
      rw [List.map_cons, List.pairwise_cons]
      refine ⟨fun z hz => ?_, ih h.2 fun hh => hx (List.mem_cons_of_mem _ hh)⟩
      rcases insE_ids.1 hz with rfl | hz
      · omega
      · exact h.1 z hz
theorem noE_sorted {l : List E} (i : Int) (h : (l.map E.id).Pairwise (· < ·)) : ((noE l i).map E.id).Pairwise (· < ·) := h.sublist (List.Sublist.map _ List.filter_sublist)
section
variable {rows : List (List Nat)} {V : Nat → Int × Int × Int} {n : Nat} {vl : List (Int × Nat)} {el : List (Int × (Nat × Nat))} {wl : List (Nat × (Bool × Int))} {sp : List Nat} {T : List (List Nat)} {vs : List Int} {es : List E} {kv ke : Int → Bool} {nm : Pl → Nat}
theorem FI.off (f : FI rows V n vl el wl sp T vs es kv ke nm) {l : List Nat} (hl : l ∈ T) : ∃ T0, T.Perm (l :: T0) ∧ rows.Perm (l :: (sp.map one1 ++ T0)) := by
  obtain ⟨T0, pT⟩ := mem_perm hl
  exact ⟨T0, pT, (f.fr.rw.trans (pT.append_left _)).trans List.perm_middle⟩
theorem FI.link (f : FI rows V n vl el wl sp T vs es kv ke nm) (rok : RowsOk n rows) (hpos : 0 < n) {e : E} (hb : ¬ badI e.id) (hi : e.id ∉ es.map E.id) (hu : e.u ∈ vs) (hv : e.v ∈ vs) (hne : rowOf rows (nm (.v e.u)) ≠ rowOf rows (nm (.v e.v))) {x1 x2 n1 n2 : Nat} {sp1 sp2 : List Nat} {rows1 rows2 : List (List Nat)}
    (it1 : (sp = sp1 ++ [x1] ∧ rows1 = rows ∧ n1 = n) ∨ (sp = [] ∧ sp1 = [] ∧ x1 = n ∧ rows1 = rows ++ [[x1]] ∧ n1 = n + 1)) (rok1 : RowsOk n1 rows1)
    (it2 : (sp1 = sp2 ++ [x2] ∧ rows2 = rows1 ∧ n2 = n1) ∨ (sp1 = [] ∧ sp2 = [] ∧ x2 = n1 ∧ rows2 = rows1 ++ [[x2]] ∧ n2 = n1 + 1)) :
    ∃ T0, rows2.Perm (rowOf rows (nm (.v e.u)) :: rowOf rows (nm (.v e.v)) :: [x1] :: [x2] :: (sp2.map one1 ++ T0)) ∧
      ∀ A B rows3, Rot (rowOf rows (nm (.v e.u))) (nm (.v e.u) :: A) → Rot (rowOf rows (nm (.v e.v))) (nm (.v e.v) :: B) → rows3.Perm (((nm (.v e.u) :: A) ++ x1 :: ((nm (.v e.v) :: B) ++ [x2])) :: (sp2.map one1 ++ T0)) →
        FI rows3 (fun i => if i = x2 then (0, 0, 0) else if i = x1 then (0, 0, 0) else V i) n2 vl (putK el e.id (x1, x2)) (putK (putK wl x1 (true, e.id)) x2 (true, e.id)) sp2 (((nm (.v e.u) :: A) ++ x1 :: ((nm (.v e.v) :: B) ++ [x2])) :: T0) vs (insE es e) kv (fun i => if i = e.id then false else ke i) (setN (setN nm (.t e.id) x1) (.b e.id) x2) := by
  obtain ⟨fr1, nk1, p1, l1, nn1, cnt1, cnb1, sub1⟩ := f.fr.make rok hpos it1
  obtain ⟨fr2, nk2, p2, l2, nn2, cnt2, cnb2, sub2⟩ := fr1.make rok1 (by omega) it2
  obtain ⟨mu, uu, tu⟩ := f.row rok (okV (es := es) hu)
  obtain ⟨mv, vv, tv⟩ := f.row rok (okV (es := es) hv)
  generalize hlu : rowOf rows (nm (.v e.u)) = lu at *
  generalize hlv : rowOf rows (nm (.v e.v)) = lv at *
  obtain ⟨Ta, pa⟩ := mem_perm mu
  have mv' : lv ∈ Ta := by
    have := pa.mem_iff.1 mv
    rcases List.mem_cons.1 this with h | h
    · exact absurd h.symm hne
    · exact h
  obtain ⟨T0, pb⟩ := mem_perm mv'
  have pT : T.Perm (lu :: lv :: T0) := pa.trans (pb.cons _)
  refine ⟨T0, ?_, ?_⟩
  · refine fr2.rw.trans ?_
    have h1 : ([x2] :: [x1] :: T).Perm (lu :: lv :: [x1] :: [x2] :: T0) := by
      refine ((pT.cons _).cons _).trans ?_
      have e1 : [x2] :: [x1] :: lu :: lv :: T0 = [[x2], [x1], lu, lv] ++ T0 := rfl
      have e2 : lu :: lv :: [x1] :: [x2] :: T0 = [lu, lv, [x1], [x2]] ++ T0 := rfl
      rw [e1, e2]
      refine List.Perm.append_right _ ?_
      exact (List.perm_append_comm (l₁ := [[x2], [x1]]) (l₂ := [lu, lv])).trans (((List.Perm.swap _ _ _).cons _).cons _)
    refine (h1.append_left _).trans ?_
    have e3 : ∀ (S : List (List Nat)), (S ++ lu :: lv :: [x1] :: [x2] :: T0).Perm (lu :: lv :: [x1] :: [x2] :: (S ++ T0)) := fun S => by
      have : S ++ lu :: lv :: [x1] :: [x2] :: T0 = (S ++ [lu, lv, [x1], [x2]]) ++ T0 := by simp
      rw [this]
      have := (List.perm_append_comm (l₁ := S) (l₂ := [lu, lv, [x1], [x2]])).append_right T0
      simpa using this
    exact e3 _
  intro A B rows3 rA rB p3
  have x12 : x1 ≠ x2 := fun h => nk2 (.inr h.symm)
  have nx1 : ∀ {p}, okP vs es p → nm p ≠ x1 := fun {p} hp h => nk1 ⟨p, hp, h.symm⟩
  have nx2 : ∀ {p}, okP vs es p → nm p ≠ x2 := fun {p} hp h => nk2 (.inl ⟨p, hp, h.symm⟩)
  have ok' : ∀ {q}, okP vs (insE es e) q → q = .t e.id ∨ q = .b e.id ∨ (okP vs es q ∧ q ≠ .t e.id ∧ q ≠ .b e.id) := by
    intro q hq
    cases q with
    | v i => exact .inr (.inr ⟨hq, (fun h => by cases h), fun h => by cases h⟩)
    | t i =>
      rcases insE_ids.1 hq with rfl | h
      · exact .inl rfl
      · exact .inr (.inr ⟨h, fun e => by injection e with e; exact hi (e ▸ h), fun h => by cases h⟩)
    | b i =>
      rcases insE_ids.1 hq with rfl | h
      · exact .inr (.inl rfl)
      · exact .inr (.inr ⟨h, (fun h => by cases h), fun e => by injection e with e; exact hi (e ▸ h)⟩)
  have nmT : setN (setN nm (.t e.id) x1) (.b e.id) x2 (.t e.id) = x1 := by rw [setN_ne _ (fun h => by cases h), setN_same]
  have nmB : setN (setN nm (.t e.id) x1) (.b e.id) x2 (.b e.id) = x2 := setN_same _ _ _
  have nmO : ∀ {q}, q ≠ .t e.id → q ≠ .b e.id → setN (setN nm (.t e.id) x1) (.b e.id) x2 q = nm q := fun h1 h2 => by rw [setN_ne _ h2, setN_ne _ h1]
  have nmV : ∀ i, setN (setN nm (.t e.id) x1) (.b e.id) x2 (.v i) = nm (.v i) := fun i => nmO (fun h => by cases h) (fun h => by cases h)
  generalize hnm : setN (setN nm (.t e.id) x1) (.b e.id) x2 = nm' at *
  have hT : ∀ {a : E}, a ∈ es → nm' (.t a.id) = nm (.t a.id) ∧ nm' (.b a.id) = nm (.b a.id) := fun {a} ha => by
    have : a.id ≠ e.id := fun h => hi (h ▸ List.mem_map_of_mem ha)
    exact ⟨nmO (fun h => by injection h with h; exact this h) (fun h => by cases h), nmO (fun h => by cases h) (fun h => by injection h with h; exact this h)⟩
  have N' : Nm vs (insE es e) nm' := by
    refine ⟨fun p q hp hq h => ?_, sorted_nodup (insE_sorted f.ess hi), fun a ha => ?_⟩
    · rcases ok' hp with rfl | rfl | ⟨hp, np1, np2⟩ <;> rcases ok' hq with rfl | rfl | ⟨hq, nq1, nq2⟩
      · rfl
      · rw [nmT, nmB] at h; exact absurd h x12
      · rw [nmT, nmO nq1 nq2] at h; exact absurd h.symm (nx1 hq)
      · rw [nmT, nmB] at h; exact absurd h.symm x12
      · rfl
      · rw [nmB, nmO nq1 nq2] at h; exact absurd h.symm (nx2 hq)
      · rw [nmT, nmO np1 np2] at h; exact absurd h (nx1 hp)
      · rw [nmB, nmO np1 np2] at h; exact absurd h (nx2 hp)
      · rw [nmO np1 np2, nmO nq1 nq2] at h; exact f.N.inj _ _ hp hq h
    · rcases insE_mem.1 ha with rfl | ha
      · exact ⟨hu, hv⟩
      · exact f.N.ends a ha
  have lel : (insE es e).length = es.length + 1 := by have := (insE_perm es e).length_eq; simpa using this
  have mono : ∀ {l}, Tour vs es nm l → Tour vs (insE es e) nm' l := fun h => h.mono f.N (fun u hu _ => ⟨hu, nmV u⟩) fun a ha _ => ⟨insE_mem.2 (.inr ha), hT ha⟩
  have tl := pT.length_eq
  simp only [List.length_cons] at tl
  have tc := f.tc; have cn := f.cn; have nb := f.nb; have vlen := f.vlen
  have kk : ∀ {x}, Kn vs (insE es e) nm' x → (Kn vs es nm x ∨ x = x1) ∨ x = x2 := by
    rintro x ⟨p, hp, rfl⟩
    rcases ok' hp with rfl | rfl | ⟨hp, np1, np2⟩
    · exact .inl (.inr nmT)
    · exact .inr nmB
    · rw [nmO np1 np2]; exact .inl (.inl ⟨p, hp, rfl⟩)
  refine ⟨N', f.vss, insE_sorted f.ess hi, f.vr, ?_, f.vlen, ?_, f.vln, ?_, ?_, ?_, ⟨?_, fr2.spn, fun x hx hk => fr2.spd x hx (kk hk), fun x hk => fr2.kn x (kk hk)⟩, ?_, ?_, ?_, ?_, ?_, ?_, ?_, ?_⟩
  · intro a ha
    rcases insE_mem.1 ha with rfl | ha
    · exact hb
    · exact f.er a ha
  · intro i; rw [f.lv]; simp only [nmV]
  · intro i
    rw [lk_putK]
    by_cases h : e.id = i
    · subst h; rw [if_pos rfl, if_pos (insE_ids.2 (.inl rfl)), nmT, nmB]
    · rw [if_neg h, f.le]
      by_cases hh : i ∈ es.map E.id
      · obtain ⟨a, ha, rfl⟩ := List.mem_map.1 hh
        rw [if_pos hh, if_pos (insE_ids.2 (.inr hh)), (hT ha).1, (hT ha).2]
      · rw [if_neg hh, if_neg fun hx => by rcases insE_ids.1 hx with h' | h'; exact h h'.symm; exact hh h']
  · intro p hp
    rcases ok' hp with rfl | rfl | ⟨hp, np1, np2⟩
    · rw [nmT, lk_putK, if_neg (Ne.symm x12), lk_putK, if_pos rfl]; rfl
    · rw [nmB, lk_putK, if_pos rfl]; rfl
    · rw [nmO np1 np2, lk_putK, if_neg (Ne.symm (nx2 hp)), lk_putK, if_neg (Ne.symm (nx1 hp))]; exact f.lw p hp
  · rw [lk_putK, if_neg (by omega), lk_putK, if_neg (by omega)]; exact f.lz
  · exact p3.trans List.perm_middle.symm
  · intro p hp
    rcases ok' hp with rfl | rfl | ⟨hp, np1, np2⟩
    · rw [nmT]; exact p1
    · rw [nmB]; exact p2
    · rw [nmO np1 np2]; exact f.pos p hp
  · intro l hl
    rcases List.mem_cons.1 hl with rfl | hl
    · have j1 := mono (tu.of_rot rA)
      have j2 := mono (tv.of_rot rB)
      rw [← nmV e.u] at j1
      rw [← nmV e.v] at j2
      have := Tour.link (insE_mem.2 (.inl rfl)) j1 j2
      rw [nmT, nmB, nmV, nmV] at this
      exact this
    · exact mono (f.tt l (pT.mem_iff.2 (by simp [hl])))
  · simp only [List.length_cons, lel]; omega
  · rw [lel]; omega
  · rw [lel] at *
    rcases cnb2 with h2 | ⟨h2, h3⟩
    · rcases cnb1 with h1 | ⟨h1, h4⟩
      · omega
      · rw [h1] at cnt1 sub2
        have e2 : sp2 = [] := by cases sp2 with | nil => rfl | cons a _ => exact absurd (sub2 a (by simp)) (by simp)
        rw [h1, e2] at cnt2
        simp only [List.length_nil] at cnt1 cnt2
        omega
    · rw [h2] at cnt2
      simp only [List.length_nil] at cnt2
      omega
  · intro u hu'
    rw [nmV, if_neg (nx2 (okV (es := es) hu')), if_neg (nx1 (okV (es := es) hu'))]; exact f.mkV u hu'
  · intro a ha
    rcases insE_mem.1 ha with rfl | ha
    · rw [nmT, nmB]; simp [x12, bitI]
    · have : a.id ≠ e.id := fun h => hi (h ▸ List.mem_map_of_mem ha)
      rw [(hT ha).1, (hT ha).2, if_neg (nx2 (okT ha)), if_neg (nx1 (okT ha)), if_neg (nx2 (okB ha)), if_neg (nx1 (okB ha)), if_neg this]
      exact f.mkE a ha
  · intro i
    by_cases h2 : i = x2
    · simp [h2]
    · by_cases h1 : i = x1
      · simp [h1]
      · simp only [if_neg h1, if_neg h2]; exact f.mb i
theorem FI.cut (f : FI rows V n vl el wl sp T vs es kv ke nm) (rok : RowsOk n rows) {e : E} (he : e ∈ es) :
    ∃ T0 l X Y, rows.Perm (l :: (sp.map one1 ++ T0)) ∧ nm (.t e.id) ∈ l ∧ Rot l (nm (.t e.id) :: (X ++ nm (.b e.id) :: Y)) ∧ X ≠ [] ∧ Y ≠ [] ∧
      ∀ rows3, rows3.Perm ([nm (.t e.id)] :: X :: [nm (.b e.id)] :: Y :: (sp.map one1 ++ T0)) →
        FI rows3 V n vl (delK el e.id) (delK (delK wl (nm (.t e.id))) (nm (.b e.id))) (sp ++ [nm (.t e.id)] ++ [nm (.b e.id)]) (X :: Y :: T0) vs (noE es e.id) kv ke nm := by
  obtain ⟨h1, h2, h3⟩ := f.row rok (okT he)
  obtain ⟨X, Y, rt, tX, tY, mX, mY⟩ := h3.cut f.N he h2
  obtain ⟨T0, pT, pr⟩ := f.off h1
  refine ⟨T0, _, X, Y, pr, h2, rt, tX.ne, tY.ne, fun rows3 p3 => ?_⟩
  have ht := f.N.tb he he
  have nd : (nm (.t e.id) :: (X ++ nm (.b e.id) :: Y)).Nodup := rt.perm.nodup_iff.1 (rok.nd _ (f.inT h1))
  have hdj := (rok.perm pr).dj
  rw [List.pairwise_cons] at hdj
  have dis : ∀ l ∈ T0, ∀ x, x ∈ rowOf rows (nm (.t e.id)) → x ∉ l := fun l hl x hx => hdj.1 l (by simp [hl]) x hx
  have sub : ∀ {a}, a ∈ noE es e.id → a ∈ es ∧ a.id ≠ e.id := fun h => noE_mem.1 h
  have ids' : ∀ {i}, i ∈ (noE es e.id).map E.id → i ∈ es.map E.id ∧ i ≠ e.id := fun h => by
    obtain ⟨a, ha, rfl⟩ := List.mem_map.1 h
    exact ⟨List.mem_map_of_mem (sub ha).1, (sub ha).2⟩
  have ok' : ∀ {q}, okP vs (noE es e.id) q → okP vs es q ∧ q ≠ .t e.id ∧ q ≠ .b e.id := by
    intro q hq
    cases q with
    | v i => exact ⟨hq, (fun h => by cases h), fun h => by cases h⟩
    | t i => exact ⟨(ids' hq).1, fun h => by injection h with h; exact (ids' hq).2 h, fun h => by cases h⟩
    | b i => exact ⟨(ids' hq).1, (fun h => by cases h), fun h => by injection h with h; exact (ids' hq).2 h⟩
  have nt : ∀ {q}, okP vs (noE es e.id) q → nm q ≠ nm (.t e.id) := fun hq h => (ok' hq).2.1 (f.N.inj _ _ (ok' hq).1 (okT he) h)
  have nb : ∀ {q}, okP vs (noE es e.id) q → nm q ≠ nm (.b e.id) := fun hq h => (ok' hq).2.2 (f.N.inj _ _ (ok' hq).1 (okB he) h)
  have le' : (noE es e.id).length + 1 = es.length := by
    have := congrArg List.length (noE_ids es e.id f.N.ids)
    rw [List.length_map, List.length_erase_of_mem (List.mem_map_of_mem he), List.length_map] at this
    have : 0 < es.length := List.length_pos_of_mem he
    omega
  have mono : ∀ {l}, Tour vs es nm l → nm (.t e.id) ∉ l → Tour vs (noE es e.id) nm l := fun h hn => h.mono f.N (fun u hu _ => ⟨hu, rfl⟩) fun a ha m => ⟨noE_mem.2 ⟨ha, fun h => hn (by rw [← h]; exact m)⟩, rfl, rfl⟩
  have tl := pT.length_eq
  simp only [List.length_cons] at tl
  have tc := f.tc; have cn := f.cn
  refine ⟨⟨fun p q hp hq h => f.N.inj _ _ (ok' hp).1 (ok' hq).1 h, sorted_nodup (noE_sorted _ f.ess), fun a ha => f.N.ends a (sub ha).1⟩, f.vss, noE_sorted _ f.ess, f.vr, fun a ha => f.er a (sub ha).1, f.vlen, f.lv, f.vln, ?_, ?_, ?_, ⟨?_, ?_, ?_, ?_⟩, fun p hp => f.pos p (ok' hp).1, ?_, ?_, ?_, f.nb, f.mkV, fun a ha => f.mkE a (sub ha).1, f.mb⟩
  · intro i
    rw [lk_delK]
    by_cases h : e.id = i
    · rw [if_pos h, if_neg fun hh => (ids' hh).2 h.symm]
    · rw [if_neg h, f.le]
      by_cases hh : i ∈ es.map E.id
      · obtain ⟨a, ha, rfl⟩ := List.mem_map.1 hh
        rw [if_pos hh, if_pos (List.mem_map_of_mem (noE_mem.2 ⟨ha, Ne.symm h⟩))]
      · rw [if_neg hh, if_neg fun hx => hh (ids' hx).1]
  · intro p hp
    rw [lk_delK, if_neg (Ne.symm (nb hp)), lk_delK, if_neg (Ne.symm (nt hp))]; exact f.lw p (ok' hp).1
  · rw [lk_delK]; split
    · rfl
    · rw [lk_delK]; split
      · rfl
      · exact f.lz
  · refine p3.trans ?_
    rw [List.map_append, List.map_append]
    have : ([nm (.t e.id)] :: X :: [nm (.b e.id)] :: Y :: (sp.map one1 ++ T0)).Perm ((sp.map one1 ++ [[nm (.t e.id)], [nm (.b e.id)]]) ++ X :: Y :: T0) := by
      have e1 : [nm (.t e.id)] :: X :: [nm (.b e.id)] :: Y :: (sp.map one1 ++ T0) = [[nm (.t e.id)], X, [nm (.b e.id)], Y] ++ (sp.map one1 ++ T0) := rfl
      have e2 : (sp.map one1 ++ [[nm (.t e.id)], [nm (.b e.id)]]) ++ X :: Y :: T0 = (sp.map one1 ++ [[nm (.t e.id)], [nm (.b e.id)], X, Y]) ++ T0 := by simp
      rw [e1, e2, ← List.append_assoc]
      refine List.Perm.append_right _ ?_
      refine (List.perm_append_comm).trans ?_
      exact (((List.Perm.swap _ _ _).cons _)).append_left _
    refine this.trans ?_
    have e3 : sp.map one1 ++ List.map one1 [nm (.t e.id)] ++ List.map one1 [nm (.b e.id)] ++ X :: Y :: T0 = (sp.map one1 ++ [[nm (.t e.id)], [nm (.b e.id)]]) ++ X :: Y :: T0 := by simp [one1]
    rw [e3]
  · rw [List.nodup_append, List.nodup_append]
    refine ⟨⟨f.fr.spn, by simp, fun a ha b hb h => ?_⟩, by simp, fun a ha b hb h => ?_⟩
    · simp only [List.mem_singleton] at hb
      exact f.fr.spd a ha ⟨_, okT he, h.trans hb⟩
    · simp only [List.mem_singleton] at hb
      rcases List.mem_append.1 ha with ha | ha
      · exact f.fr.spd a ha ⟨_, okB he, h.trans hb⟩
      · simp only [List.mem_singleton] at ha
        exact ht (ha.symm.trans (h.trans hb))
  · rintro x hx ⟨p, hp, rfl⟩
    rcases List.mem_append.1 hx with hx | hx
    · rcases List.mem_append.1 hx with hx | hx
      · exact f.fr.spd _ hx ⟨p, (ok' hp).1, rfl⟩
      · simp only [List.mem_singleton] at hx; exact nt hp hx
    · simp only [List.mem_singleton] at hx; exact nb hp hx
  · rintro x ⟨p, hp, rfl⟩
    exact f.fr.kn _ ⟨p, (ok' hp).1, rfl⟩
  · rw [List.nodup_cons] at nd
    intro l hl
    rcases List.mem_cons.1 hl with rfl | hl
    · exact mono tX fun h => nd.1 (by simp [h])
    rcases List.mem_cons.1 hl with rfl | hl
    · exact mono tY fun h => nd.1 (by simp [h])
    · exact mono (f.tt l (pT.mem_iff.2 (by simp [hl]))) (dis l hl _ h2)
  · simp only [List.length_cons]; omega
  · simp only [List.length_append, List.length_singleton]; omega
theorem FI.markV (f : FI rows V n vl el wl sp T vs es kv ke nm) {v : Int} (hv : v ∈ vs) (on : Bool) : FI rows (fun i => if i = nm (.v v) then (1, bitI on, 0) else V i) n vl el wl sp T vs es (fun i => if i = v then on else kv i) ke nm := by
  refine ⟨f.N, f.vss, f.ess, f.vr, f.er, f.vlen, f.lv, f.vln, f.le, f.lw, f.lz, f.fr, f.pos, f.tt, f.tc, f.cn, f.nb, fun u hu => ?_, fun e he => ?_, fun x => ?_⟩
  · by_cases h : u = v
    · subst h; simp
    · rw [if_neg fun hh => h (f.N.vv hu hv hh)]; simp only [if_neg h]; exact f.mkV u hu
  · rw [if_neg fun hh => f.N.vt hv he hh.symm, if_neg fun hh => f.N.vb hv he hh.symm]; exact f.mkE e he
  · by_cases h : x = nm (.v v)
    · simp only [if_pos h]; cases on <;> simp [bitI]
    · simp only [if_neg h]; exact f.mb x
theorem FI.markE (f : FI rows V n vl el wl sp T vs es kv ke nm) {e : E} (he : e ∈ es) (on : Bool) : FI rows (fun i => if i = nm (.t e.id) then (0, 0, bitI on) else V i) n vl el wl sp T vs es kv (fun i => if i = e.id then on else ke i) nm := by
  refine ⟨f.N, f.vss, f.ess, f.vr, f.er, f.vlen, f.lv, f.vln, f.le, f.lw, f.lz, f.fr, f.pos, f.tt, f.tc, f.cn, f.nb, fun u hu => ?_, fun a ha => ?_, fun x => ?_⟩
  · rw [if_neg (f.N.vt hu he)]; exact f.mkV u hu
  · rw [if_neg (f.N.tb he ha).symm]
    by_cases h : a.id = e.id
    · have := ids_inj f.N.ids ha he h
      subst this
      simp; exact (f.mkE a ha).2
    · rw [if_neg fun hh => h (by rw [f.N.tt ha he hh])]; simp only [if_neg h]; exact f.mkE a ha
  · by_cases h : x = nm (.t e.id)
    · simp only [if_pos h]; cases on <;> simp [bitI]
    · simp only [if_neg h]; exact f.mb x
end
end Go.Proofs.YtbhhbnnmdekjiaaGreat.Rd
namespace Go.Proofs.YtbhhbnnmdekjiaaGreat.Rd
open Go.Dn Go.RowKit Go.Maps
set_option maxRecDepth 100000
def RepE (w : World) (Fp : Nat → Prop) (F : Nat) (vs : List Int) (es : List E) (kv ke : Int → Bool) : Prop :=
  ∃ b rows V vl el wl sp T nm, b.F = F ∧ (∀ k, Fp k ↔ Fe b k) ∧ EM w b rows V vl el wl sp ∧ FI rows V b.r.n vl el wl sp T vs es kv ke nm
theorem RepE.other {w w' : World} {Fp Q : Nat → Prop} {F : Nat} {vs : List Int} {es : List E} {kv ke : Int → Bool} (h : RepE w Fp F vs es kv ke) (k : Keeps Q w w') (hQ : ∀ k, Q k → ¬ Fp k) : RepE w' Fp F vs es kv ke := by
  obtain ⟨b, rows, V, vl, el, wl, sp, T, nm, h1, h2, h3, h4⟩ := h
  exact ⟨b, rows, V, vl, el, wl, sp, T, nm, h1, h2, h3.other k fun k hk hf => hQ k hk ((h2 k).2 hf), h4⟩
theorem RepE.below {w w' : World} {Fp : Nat → Prop} {F : Nat} {vs : List Int} {es : List E} {kv ke : Int → Bool} (h : RepE w Fp F vs es kv ke) (k : Below w.heap.size w w') : RepE w' Fp F vs es kv ke := h.other (Q := fun _ => False) (.of_below k) fun _ h => h.elim
theorem RepE.lt {w : World} {Fp : Nat → Prop} {F : Nat} {vs : List Int} {es : List E} {kv ke : Int → Bool} (h : RepE w Fp F vs es kv ke) : ∀ k, Fp k → k < w.heap.size := by
  obtain ⟨b, rows, V, vl, el, wl, sp, T, nm, h1, h2, h3, h4⟩ := h
  exact fun k hk => h3.lt k ((h2 k).1 hk)
theorem _root_.Go.Dn.HB.ri {w : World} {b : Nat} {cs : Array Value} {t : TypeId} (h : HB w b cs t) (l : List Int) (hcs : cs.toList = l.map (.int .i64)) : RI w (some ⟨b, 0, none⟩) l := fun i hi => by
  refine ⟨_, rfl, ?_⟩
  rw [h.cell, ← Array.getElem?_toList, hcs]
  simp [hi]
theorem badId1_ok (i : Int) (w : World) : Calls Tryz.prog 88 #[.int .i64 i] w fun e w' => (∃ b, e = .returned (.bool b) ∧ (b = true ↔ badI i)) ∧ w' = w := by
  apply f_euler_badId_1.ok
  unfold f_euler_badId_1.wp
  unfold badI
  by_cases h : i < 1
  · exact sel_t (by simpa using h) ⟨⟨true, rfl, by simp [h]⟩, rfl⟩
  · exact sel_f (by simpa using h) ⟨⟨_, rfl, by simp [h]⟩, rfl⟩
theorem ixf_l0 {w : World} {A : Option Addr} {l : List Int} {c : Nat} (r : RI w A l) (hl : l.length ≤ 1000) {K0 : World → Prop} {Kr : Int → World → Prop} (h0 : (∀ i ∈ l, ¬ badI i) → K0 w) (h1 : ∀ j : Nat, j < l.length → (∃ i ∈ l, badI i) → Kr (j : Int) w) : ∀ (m i : Nat), l.length - i = m → i ≤ l.length → (∀ x ∈ l.take i, ¬ badI x) →
    f_slices_IndexFunc_int_int.l0 (m + 1) A l.length c (l.length : Int) (i : Int) w K0 Kr := by
  intro m
  induction m with
  | zero =>
    intro i hm hi ht
    have : i = l.length := by omega
    subst this
    unfold f_slices_IndexFunc_int_int.l0
    exact sel_f (by simp) (h0 (by rw [List.take_length] at ht; exact ht))
  | succ m ih =>
    intro i hm hi ht
    have hlt : i < l.length := by omega
    obtain ⟨a, rfl, q⟩ := r i hlt
    unfold f_slices_IndexFunc_int_int.l0
    refine sel_t (by simpa using hlt) (optB_some rfl (req_intro (by simp; omega) (ldI_intro (x := l[i]) (by rw [Int.toNat_natCast, Nat.mul_one]; exact q) ?_)))
    refine (badId1_ok _ _).mono ?_
    rintro _ w2 ⟨⟨b, rfl, hb⟩, rfl⟩
    refine ⟨b, rfl, ?_⟩
    by_cases hx : badI l[i]
    · exact sel_t (hb.2 hx) (h1 i hlt ⟨_, List.getElem_mem hlt, hx⟩)
    · refine sel_f (Bool.eq_false_iff.2 fun h => hx (hb.1 h)) ?_
      rw [w64_in (by omega), show (i : Int) + 1 = ((i + 1 : Nat) : Int) by omega]
      refine ih (i + 1) (by omega) (by omega) fun x hxm => ?_
      rw [List.take_succ_eq_append_getElem hlt, List.mem_append, List.mem_singleton] at hxm
      rcases hxm with h | rfl
      · exact ht x h
      · exact hx
theorem badId_ok {w : World} {A : Option Addr} {l : List Int} {n c : Nat} (r : RI w A l) (hn : n = l.length) (hl : l.length ≤ 1000) :
    Calls Tryz.prog 60 #[.slice A n c] w fun e w' => (∃ b, e = .returned (.bool b) ∧ (b = true ↔ ∃ i ∈ l, badI i)) ∧ w' = w := by
  subst hn
  apply f_euler_badId.ok
  unfold f_euler_badId.wp
  have key : Calls Tryz.prog 58 #[.slice A l.length c, .func (.func 88) #[] #[]] w fun e w' => (∃ b, e = .returned (.bool b) ∧ (b = true ↔ ∃ i ∈ l, badI i)) ∧ w' = w := by
    apply f_slices_ContainsFunc_int_int.ok
    unfold f_slices_ContainsFunc_int_int.wp
    have k2 : Calls Tryz.prog 87 #[.slice A l.length c, .func (.func 88) #[] #[]] w fun e w' => (∃ x : Int, e = .returned (.int .i64 x) ∧ (x ≥ 0 ↔ ∃ i ∈ l, badI i)) ∧ w' = w := by
      apply f_slices_IndexFunc_int_int.ok
      unfold f_slices_IndexFunc_int_int.wp
      refine ⟨l.length + 1, ixf_l0 r hl (fun h _ => ⟨⟨_, rfl, ?_⟩, rfl⟩) (fun j hj h _ => ⟨⟨_, rfl, ?_⟩, rfl⟩) l.length 0 (by omega) (by omega) (by simp)⟩
      · constructor
        · intro h; omega
        · rintro ⟨i, hi, hb⟩; exact absurd hb (h i hi)
      · exact ⟨fun _ => h, fun _ => by omega⟩
    refine k2.mono ?_
    rintro _ w2 ⟨⟨x, rfl, hx⟩, rfl⟩
    exact ⟨x, rfl, ⟨_, rfl, by simpa using hx⟩, rfl⟩
  refine key.mono ?_
  rintro _ w2 ⟨⟨b, rfl, hb⟩, rfl⟩
  exact ⟨b, rfl, ⟨b, rfl, hb⟩, rfl⟩
def lkV (vl : List (Int × Nat)) (i : Int) : Nat := (lk vl i).getD 0
def lkE (el : List (Int × (Nat × Nat))) (i : Int) : Nat × Nat := (lk el i).getD (0, 0)
def lkW (wl : List (Nat × (Bool × Int))) (x : Nat) : Bool × Int := (lk wl x).getD (false, 0)
section
variable {w : World} {b : EB} {rows : List (List Nat)} {V : Nat → Int × Int × Int} {vl : List (Int × Nat)} {el : List (Int × (Nat × Nat))} {wl : List (Nat × (Bool × Int))} {sp : List Nat}
theorem EM.lookV (h : EM w b rows V vl el wl sp) {i : Int} (hi : W64 i) {K : Value → World → Prop} (hk : K (.int .i64 (lkV vl i : Int)) w) : Runs Tryz.prog (Instr.lookup 64 (.map (some b.mv)) (.int .i64 i) false) w K := by
  refine h.gv.look KTv (x := i) hi (zI w) ?_
  unfold lkV at hk
  cases hq : lk vl i with
  | none => rw [hq] at hk; exact hk
  | some n => rw [hq] at hk; exact hk
theorem EM.lookE (h : EM w b rows V vl el wl sp) {i : Int} (hi : W64 i) {K : Value → World → Prop} (hk : K (.tuple #[.agg #[.int .i64 ((lkE el i).1 : Int), .int .i64 ((lkE el i).2 : Int)], .bool (lk el i).isSome]) w) : Runs Tryz.prog (Instr.lookup 105 (.map (some b.me)) (.int .i64 i) true) w K := by
  refine h.ge.look2 KTe (x := i) hi (zA w) ?_
  unfold lkE at hk
  cases hq : lk el i with
  | none => rw [hq] at hk; exact hk
  | some n => rw [hq] at hk; exact hk
theorem EM.lookW (h : EM w b rows V vl el wl sp) {x : Nat} (hx : okN x) {K : Value → World → Prop} (hk : K (.agg #[.bool (lkW wl x).1, .int .i64 (lkW wl x).2]) w) : Runs Tryz.prog (Instr.lookup 106 (.map (some b.mw)) (.int .i64 (x : Int)) false) w K := by
  refine h.gw.look KTw (x := x) hx (zP w) ?_
  unfold lkW at hk
  cases hq : lk wl x with
  | none => rw [hq] at hk; exact hk
  | some n => rw [hq] at hk; exact hk
variable {n : Nat} {T : List (List Nat)} {vs : List Int} {es : List E} {kv ke : Int → Bool} {nm : Pl → Nat}
theorem FI.lkv (f : FI rows V n vl el wl sp T vs es kv ke nm) (i : Int) : lkV vl i = if i ∈ vs then nm (.v i) else 0 := by unfold lkV; rw [f.lv]; split <;> rfl
theorem FI.lkv0 (f : FI rows V n vl el wl sp T vs es kv ke nm) (i : Int) : lkV vl i = 0 ↔ i ∉ vs := by
  rw [f.lkv]
  by_cases h : i ∈ vs
  · rw [if_pos h]; have := f.pos _ (okV (es := es) h); constructor
    · intro; omega
    · intro h2; exact absurd h h2
  · rw [if_neg h]; exact ⟨fun _ => h, fun _ => rfl⟩
theorem FI.lke (f : FI rows V n vl el wl sp T vs es kv ke nm) (i : Int) : (lk el i).isSome = decide (i ∈ es.map E.id) := by rw [f.le]; split <;> simp_all
theorem FI.lke' (f : FI rows V n vl el wl sp T vs es kv ke nm) {e : E} (he : e ∈ es) : lkE el e.id = (nm (.t e.id), nm (.b e.id)) := by unfold lkE; rw [f.le, if_pos (List.mem_map_of_mem he)]; rfl
theorem FI.lkw (f : FI rows V n vl el wl sp T vs es kv ke nm) {p : Pl} (hp : okP vs es p) : lkW wl (nm p) = plOf p := by unfold lkW; rw [f.lw p hp]; rfl
theorem FI.spr (f : FI rows V n vl el wl sp T vs es kv ke nm) (rok : RowsOk n rows) : ∀ x ∈ sp, 0 < x ∧ x < n := fun x hx => by
  have : [x] ∈ rows := f.fr.rw.mem_iff.2 (by rw [List.mem_append, List.mem_map]; exact .inl ⟨x, hx, rfl⟩)
  exact (rok.mem x).1 ⟨_, this, by simp⟩
end
theorem in64_small {x : Int} (h0 : 0 ≤ x) (h : x ≤ 1) : In64 x := ⟨by omega, by omega⟩
def kvA (vs : List Int) (kv : Int → Bool) (v : Int) : Int → Bool := fun i => if addVC vs v = 0 ∧ i = v then false else kv i
section
variable {w : World} {Fp : Nat → Prop} {F : Nat} {vs : List Int} {es : List E} {kv ke : Int → Bool}
theorem AddV_ok (h : RepE w Fp F vs es kv ke) {v : Int} (hv : W64 v) :
    Calls Tryz.prog 47 #[.pointer (some ⟨F, 0, none⟩), .int .i64 v] w fun e w' => ∃ Fp', e = .returned (.int .i64 (addVC vs v)) ∧ RepE w' Fp' F (addVr vs v) es (kvA vs kv v) ke ∧ Upd Fp w w' Fp' := by
  have same : ∀ {w' c}, Below w.heap.size w w' → addVC vs v = c → c ≠ 0 → ∃ Fp', Ending.returned (.int .i64 c) = .returned (.int .i64 (addVC vs v)) ∧ RepE w' Fp' F (addVr vs v) es (kvA vs kv v) ke ∧ Upd Fp w w' Fp' := by
    intro w' c g hc h0
    have e1 : addVr vs v = vs := by unfold addVr; rw [hc, if_neg h0]
    have e2 : kvA vs kv v = kv := by funext i; unfold kvA; rw [hc, if_neg (fun hh => h0 hh.1)]
    rw [e1, e2, hc]
    exact ⟨Fp, rfl, h.below g, .below g⟩
  have hR := h
  obtain ⟨b, rows, V, vl, el, wl, sp, T, nm, rfl, hF, hm, hf⟩ := h
  apply f_euler_Forest_AddV.ok
  unfold f_euler_Forest_AddV.wp
  refine al_new fun w1 b1 e1 s1 hb1 g1 => ?_
  refine (badId_ok (hb1.ri [v] rfl) rfl (by simp)).mono ?_
  rintro _ w2 ⟨⟨c, rfl, hc⟩, rfl⟩
  have hc' : c = true ↔ badI v := by simpa using hc
  refine ⟨c, rfl, ?_⟩
  by_cases hb : badI v
  · exact sel_t (hc'.2 hb) (same g1 (by unfold addVC; rw [if_pos hb]) (by decide))
  refine sel_f (Bool.eq_false_iff.2 fun hh => hb (hc'.1 hh)) ?_
  have m1 := hm.below g1
  refine hb_ldM (j := 1) m1.hf rfl (m1.lookV hv ⟨_, rfl, ?_⟩)
  by_cases hin : v ∈ vs
  · refine sel_t ?_ (same g1 (by unfold addVC; rw [if_neg hb, if_pos hin]) (by decide))
    have := mt (hf.lkv0 v).1 (fun hh => hh hin)
    simp; omega
  refine sel_f (by rw [(hf.lkv0 v).2 hin]; simp) (hb_ldM (j := 1) m1.hf rfl (m1.gv.len KTv ⟨_, rfl, ?_⟩))
  rw [hf.vln]
  by_cases hl : 2048 ≤ vs.length
  · exact sel_t (by simp; omega) (same g1 (by unfold addVC; rw [if_neg hb, if_neg hin, if_pos hl]) (by decide))
  refine sel_f (by simp; omega) (drW_intro ?_)
  have m2 := m1.below (Below.refl _ _).drew
  have hnb := hf.nb
  refine ⟨fun w' => w'.cell? ((⟨b.F, 0, none⟩ : Addr).add 1) = some (.map (some b.mv)), (m2.hf.cell 1).trans rfl, _, fun w' h' => h', ?_⟩
  refine (make_ok m2 (by omega) (hf.spr hm.rope.rok) (false, v) (1, 0, 0) ⟨in64_small (by decide) (by decide), in64_small (by decide) (by decide), in64_small (by decide) (by decide)⟩).mono ?_
  rintro _ w3 ⟨b', rows', V', sp', x, rfl, mk⟩
  have m3 := mk.em
  have c1 : w3.cell? ((⟨b.F, 0, none⟩ : Addr).add 1) = some (.map (some b.mv)) := by rw [← mk.F, ← mk.ms.1]; exact (m3.hf.cell 1).trans rfl
  have hz : addVC vs v = 0 := by unfold addVC; rw [if_neg hb, if_neg hin, if_neg hl]
  refine ⟨_, rfl, c1, ?_⟩
  rw [← mk.ms.1]
  refine m3.gv.upd KTv (x := v) hv (v := x) fun w4 g4 k4 => ?_
  obtain ⟨m4, u4⟩ := m3.mapV g4 k4
  have f4 := hf.addV hm.rope.rok hm.rope.pos hb hin (by omega) mk.it
  have e1 : addVr vs v = wiI vs v := by unfold addVr; rw [if_pos hz]
  have e2 : kvA vs kv v = fun i => if i = v then false else kv i := by funext i; unfold kvA; simp [hz]
  rw [e1, e2, hz]
  rw [mk.V] at m4
  refine ⟨Fe b', rfl, ⟨b', _, _, _, _, _, _, _, _, mk.F, fun _ => .rfl, m4, f4⟩, ?_⟩
  have u : Upd (Fe b) w w4 (Fe b') := (((Upd.below g1).trans (Upd.below (Below.refl _ _).drew)).trans mk.upd).trans u4
  exact ⟨u.kp.mono fun k _ hk => (hF k).2 hk, fun k hk => (u.fr k hk).imp (hF k).2 id⟩
end
end Go.Proofs.YtbhhbnnmdekjiaaGreat.Rd
namespace Go.Proofs.YtbhhbnnmdekjiaaGreat.Rd
open Go.Dn Go.RowKit Go.Sort Go.Shelf
set_option maxRecDepth 100000
def sortA_ren : Go.Shelf.Ren := ⟨fun | 5 => 85 | 8 => 106 | 7 => 105 | 19 => 135 | 20 => 136 | 10 => 127 | 11 => 128 | 12 => 129 | 13 => 130 | 14 => 131 | 15 => 132 | 16 => 125 | 17 => 133 | 18 => 134 | 30 => 141 | 31 => 142 | 32 => 143 | 33 => 144 | 34 => 145 | 35 => 140 | 40 => 147 | n => n, fun | 23 => 22 | 25 => 3 | 3 => 3 | 32 => 155 | 22 => 22 | 0 => 0 | 44 => 182 | 46 => 141 | 4 => 4 | 36 => 176 | 35 => 175 | 41 => 113 | 5 => 5 | 9 => 9 | 53 => 188 | 57 => 191 | 63 => 196 | 64 => 36 | n => n, fun | n => n⟩
theorem sortA : Go.Proofs.SlLaysM.n5 Tryz.prog sortA_ren where
  mixed := by kernel_rfl
  f5 := ⟨"slices.Sort[[]int,int]", by decide, Tryz.func85.trans (congrArg some (by kernel_rfl))⟩
  f7 := ⟨"slices.pdqsortOrdered[int]", by decide, Tryz.func105.trans (congrArg some (by kernel_rfl))⟩
  f8 := Tryz.func106.trans (congrArg some (by kernel_rfl))
  f10 := ⟨"slices.insertionSortOrdered[int]", by decide, Tryz.func127.trans (congrArg some (by kernel_rfl))⟩
  f11 := ⟨"slices.heapSortOrdered[int]", by decide, Tryz.func128.trans (congrArg some (by kernel_rfl))⟩
  f12 := ⟨"slices.breakPatternsOrdered[int]", by decide, Tryz.func129.trans (congrArg some (by kernel_rfl))⟩
  f13 := ⟨"slices.choosePivotOrdered[int]", by decide, Tryz.func130.trans (congrArg some (by kernel_rfl))⟩
  f14 := ⟨"slices.reverseRangeOrdered[int]", by decide, Tryz.func131.trans (congrArg some (by kernel_rfl))⟩
  f15 := ⟨"slices.partialInsertionSortOrdered[int]", by decide, Tryz.func132.trans (congrArg some (by kernel_rfl))⟩
  f16 := ⟨"cmp.Less[int]", by decide, Tryz.func125.trans (congrArg some (by kernel_rfl))⟩
  f17 := ⟨"slices.partitionEqualOrdered[int]", by decide, Tryz.func133.trans (congrArg some (by kernel_rfl))⟩
  f18 := ⟨"slices.partitionOrdered[int]", by decide, Tryz.func134.trans (congrArg some (by kernel_rfl))⟩
  f19 := Tryz.func135.trans (congrArg some (by kernel_rfl))
  f20 := Tryz.func136.trans (congrArg some (by kernel_rfl))
  f30 := ⟨"slices.siftDownOrdered[int]", by decide, Tryz.func141.trans (congrArg some (by kernel_rfl))⟩
  f31 := Tryz.func142.trans (congrArg some (by kernel_rfl))
  f32 := Tryz.func143.trans (congrArg some (by kernel_rfl))
  f33 := ⟨"slices.medianAdjacentOrdered[int]", by decide, Tryz.func144.trans (congrArg some (by kernel_rfl))⟩
  f34 := ⟨"slices.medianOrdered[int]", by decide, Tryz.func145.trans (congrArg some (by kernel_rfl))⟩
  f35 := ⟨"cmp.isNaN[int]", by decide, Tryz.func140.trans (congrArg some (by kernel_rfl))⟩
  f40 := ⟨"slices.order2Ordered[int]", by decide, Tryz.func147.trans (congrArg some (by kernel_rfl))⟩
  t0 := Tryz.underlying0
  a0 := Tryz.isAgg0
  z0 := Tryz.sizeOf0
  v0 := Tryz.zeroValue0
  t3 := Tryz.underlying3
  a3 := Tryz.isAgg3
  z3 := Tryz.sizeOf3
  v3 := Tryz.zeroValue3
  t4 := Tryz.underlying4
  a4 := Tryz.isAgg4
  z4 := Tryz.sizeOf4
  v4 := Tryz.zeroValue4
  t5 := Tryz.underlying5
  a5 := Tryz.isAgg5
  z5 := Tryz.sizeOf5
  v5 := Tryz.zeroValue5
  t9 := Tryz.underlying9
  a9 := Tryz.isAgg9
  z9 := Tryz.sizeOf9
  v9 := Tryz.zeroValue9
  t22 := Tryz.underlying22
  a22 := Tryz.isAgg22
  z22 := Tryz.sizeOf22
  v22 := Tryz.zeroValue22
  t23 := Tryz.underlying22
  a23 := Tryz.isAgg22
  z23 := Tryz.sizeOf22
  v23 := Tryz.zeroValue22
  t25 := Tryz.underlying3
  a25 := Tryz.isAgg3
  z25 := Tryz.sizeOf3
  v25 := Tryz.zeroValue3
  t32 := Tryz.underlying155
  a32 := Tryz.isAgg155
  z32 := Tryz.sizeOf155
  v32 := Tryz.zeroValue155
  t35 := Tryz.underlying175
  a35 := Tryz.isAgg175
  z35 := Tryz.sizeOf175
  v35 := Tryz.zeroValue175
  t36 := Tryz.underlying176
  a36 := Tryz.isAgg176
  z36 := Tryz.sizeOf176
  v36 := Tryz.zeroValue176
  t41 := Tryz.underlying113
  a41 := Tryz.isAgg113
  z41 := Tryz.sizeOf113
  v41 := Tryz.zeroValue113
  t44 := Tryz.underlying182
  a44 := Tryz.isAgg182
  z44 := Tryz.sizeOf182
  v44 := Tryz.zeroValue182
  t46 := Tryz.underlying141
  a46 := Tryz.isAgg141
  z46 := Tryz.sizeOf141
  v46 := Tryz.zeroValue141
  t53 := Tryz.underlying188
  a53 := Tryz.isAgg188
  z53 := Tryz.sizeOf188
  v53 := Tryz.zeroValue188
  t57 := Tryz.underlying191
  a57 := Tryz.isAgg191
  z57 := Tryz.sizeOf191
  v57 := Tryz.zeroValue191
  t63 := Tryz.underlying196
  a63 := Tryz.isAgg196
  z63 := Tryz.sizeOf196
  v63 := Tryz.zeroValue196
  t64 := Tryz.underlying36
  a64 := Tryz.isAgg36
  z64 := Tryz.sizeOf36
  v64 := Tryz.zeroValue36
def compactA_ren : Go.Shelf.Ren := ⟨fun | 43 => 86 | n => n, fun | 22 => 22 | 23 => 3 | 3 => 3 | 4 => 4 | 0 => 0 | n => n, fun | n => n⟩
theorem compactA : Go.Proofs.SlLaysN.n43 Tryz.prog compactA_ren where
  mixed := by kernel_rfl
  f43 := ⟨"slices.Compact[[]int,int]", by decide, Tryz.func86.trans (congrArg some (by kernel_rfl))⟩
  t0 := Tryz.underlying0
  a0 := Tryz.isAgg0
  z0 := Tryz.sizeOf0
  v0 := Tryz.zeroValue0
  t3 := Tryz.underlying3
  a3 := Tryz.isAgg3
  z3 := Tryz.sizeOf3
  v3 := Tryz.zeroValue3
  t4 := Tryz.underlying4
  a4 := Tryz.isAgg4
  z4 := Tryz.sizeOf4
  v4 := Tryz.zeroValue4
  t22 := Tryz.underlying22
  a22 := Tryz.isAgg22
  z22 := Tryz.sizeOf22
  v22 := Tryz.zeroValue22
  t23 := Tryz.underlying3
  a23 := Tryz.isAgg3
  z23 := Tryz.sizeOf3
  v23 := Tryz.zeroValue3
  i23 := by kernel_rfl
theorem own_holds {w : World} {B g c : Nat} {l : List Int} (ho : OwnI w B TI (some ⟨g, 0, none⟩) c l) : Go.Sort.Holds (Value.int .i64) w g 0 l.toArray := by
  intro j hj
  have hj' : j < l.length := by simpa using hj
  have h1 := World.ownsRow.cellAt ho j (by omega)
  have h2 := World.ownsRow.frozenAt ho j
  rw [Nat.zero_add]
  refine ⟨?_, h2⟩
  rw [h1, List.getElem?_map, List.getElem?_eq_getElem hj', getElem!_pos l.toArray j hj]
  rfl
theorem putRow_heap (w : World) (n g : Nat) (d : Array Int) (cur : Array Value) (e : TypeId) (f : Nat × Nat) (h : w.heap[g]? = some (.cells cur e f)) : (putRow (Value.int .i64) (Go.Sort.ahead w n) g 0 d).heap[g]? = some (.cells (putCells (Value.int .i64) 0 d cur) e f) ∧ ∀ k, k ≠ g → (putRow (Value.int .i64) (Go.Sort.ahead w n) g 0 d).heap[k]? = w.heap[k]? := by
  constructor
  · show (w.heap.modify g _)[g]? = _
    rw [Array.getElem?_modify, if_pos rfl, h]; rfl
  · intro k hk
    show (w.heap.modify g _)[k]? = _
    rw [Array.getElem?_modify, if_neg (Ne.symm hk)]
theorem putCells_take (d : Array Int) (cur : Array Value) (h : d.size ≤ cur.size) : (putCells (Value.int .i64) 0 d cur).toList.take d.size = d.toList.map (Value.int .i64) := by
  apply List.ext_getElem?
  intro k
  rw [List.getElem?_take]
  split
  · rename_i hk
    rw [Array.getElem?_toList]
    unfold putCells
    rw [Array.getElem?_mapIdx, Array.getElem?_eq_getElem (by omega), Option.map_some, if_pos ⟨by omega, by omega⟩, List.getElem?_map, Array.getElem?_toList, Array.getElem?_eq_getElem hk, Nat.sub_zero, getElem!_pos d k hk]
    rfl
  · rename_i hk
    rw [List.getElem?_eq_none (by simp; omega)]
theorem own_put {w : World} {B g c : Nat} {l d : List Int} (ho : OwnI w B TI (some ⟨g, 0, none⟩) c l) (hd : d.length = l.length) (n : Nat) : OwnI (putRow (Value.int .i64) (Go.Sort.ahead w n) g 0 d.toArray) B TI (some ⟨g, 0, none⟩) c d ∧ Keeps (fun k => k = g) w (putRow (Value.int .i64) (Go.Sort.ahead w n) g 0 d.toArray) := by
  obtain ⟨hl, h⟩ := ho
  rcases h with ⟨h, _⟩ | ⟨g', cap, cur, hv, hb, hg, hn, hm, hs, ht⟩
  · cases h
  · injection hv with h1 h2 h3
    injection h1 with h1; injection h1 with h1; subst h1; subst h3
    obtain ⟨p1, p2⟩ := putRow_heap w n g d.toArray cur TI (0, 0) hg
    refine ⟨⟨by simp, .inr ⟨g, c, _, rfl, hb, p1, by omega, hm, by simp [putCells]; omega, ?_⟩⟩, rfl, rfl, rfl, by simp [Go.Sort.ahead], fun k _ hk => p2 k hk⟩
    have := putCells_take d.toArray cur (by simp; omega)
    rw [Nat.mul_one]
    simpa using this
theorem below_grow (w : World) (os : Array Obj) : Below w.heap.size w (grow w os) := ⟨rfl, rfl, rfl, by simp, fun k hk => heap_grow_old w os hk⟩
def srt (l : List Int) : List Int := l.mergeSort fun x y => decide (x ≤ y)
theorem OwnI.addr {w : World} {B c : Nat} {A : Option Addr} {l : List Int} (ho : OwnI w B TI A c l) : (A = none ∧ l = [] ∧ c = 0) ∨ ∃ g, A = some ⟨g, 0, none⟩ ∧ g < w.heap.size ∧ l.length ≤ c := by
  have ho' := ho
  obtain ⟨hl, h⟩ := ho
  rcases h with ⟨h, h0⟩ | ⟨g, cap, cur, hv, hb, hg, hn, hm, hs, ht⟩
  · injection h with h1 h2 h3
    exact .inl ⟨h1, List.length_eq_zero_iff.1 h0, h3⟩
  · injection hv with h1 h2 h3
    exact .inr ⟨g, h1, (Array.getElem?_eq_some_iff.1 hg).1, by omega⟩
theorem Sort_ok {w : World} {B c : Nat} {A : Option Addr} {l : List Int} {n : Nat} (ho : OwnI w B TI A c l) (hn : n = l.length) (hl : l.length ≤ 1000000) : Calls Tryz.prog 85 #[.slice A n c] w fun e w' => e = .returned (.tuple #[]) ∧ OwnI w' B TI A c (srt l) ∧ Keeps (Ob A) w w' := by
  subst hn
  rcases OwnI.addr ho with ⟨rfl, rfl, rfl⟩ | ⟨g, rfl, hg, hc⟩
  · refine (show Calls Tryz.prog 85 #[.slice none 0 0] w _ from (AnyM.slices_Sort_int_none sortA none 0 w)).mono ?_
    rintro e w' ⟨rfl, rfl⟩
    exact ⟨rfl, by simpa [srt] using ho, .refl _ _⟩
  · refine (show Calls Tryz.prog 85 #[.slice (some ⟨g, 0, none⟩) l.length c] w _ from (AnyM.slices_Sort_int sortA g 0 c l w (own_holds ho) hg (by omega))).mono ?_
    rintro e w' ⟨rfl, n, os, rfl⟩
    obtain ⟨o2, k2⟩ := own_put ho (d := srt l) (List.length_mergeSort l) n
    refine ⟨rfl, o2.keeps (S := fun _ => False) (.of_below (below_grow _ os)) fun _ _ => id, (k2.mono fun k _ hk => ⟨_, rfl, hk.symm⟩).trans (.of_below (below_grow _ os))⟩
def cmp (l : List Int) : List Int := Go.Lib.compact l
theorem compact_le (l : List Int) : (Go.Lib.compact l).length ≤ l.length := by
  unfold Go.Lib.compact Go.Lib.compactUpTo
  rw [List.length_map]
  exact Nat.le_trans (List.length_filter_le _ _) (by simp)
theorem Compact_ok {w : World} {B c : Nat} {A : Option Addr} {l : List Int} {n : Nat} (ho : OwnI w B TI A c l) (hn : n = l.length) (hl : l.length ≤ 1000000) : Calls Tryz.prog 86 #[.slice A n c] w fun e w' => e = .returned (.slice A (cmp l).length c) ∧ OwnI w' B TI A c (cmp l) ∧ Keeps (Ob A) w w' := by
  subst hn
  rcases OwnI.addr ho with ⟨rfl, rfl, rfl⟩ | ⟨g, rfl, hg, hc⟩
  · refine (show Calls Tryz.prog 86 #[.slice none 0 0] w _ from (AnyG.slices_Compact_int_empty compactA none 0 w)).mono ?_
    rintro e w' ⟨rfl, rfl⟩
    exact ⟨rfl, ho, .refl _ _⟩
  · refine (show Calls Tryz.prog 86 #[.slice (some ⟨g, 0, none⟩) l.length c] w _ from (AnyG.slices_Compact_int compactA g 0 c l w (own_holds ho) (by omega) hc)).mono ?_
    rintro e w' ⟨rfl, n, rfl⟩
    have hle := compact_le l
    obtain ⟨o2, k2⟩ := own_put ho (d := Go.Lib.compact l ++ List.replicate (l.length - (Go.Lib.compact l).length) 0) (by simp; omega) n
    refine ⟨rfl, ?_, k2.mono fun k _ hk => ⟨_, rfl, hk.symm⟩⟩
    generalize putRow (Value.int .i64) (Go.Sort.ahead w n) g 0 (Go.Lib.compact l ++ List.replicate (l.length - (Go.Lib.compact l).length) 0).toArray = w' at *
    have key : ∀ (m : Nat) (d : List Int), OwnI w' B TI (some ⟨g, 0, none⟩) c (d ++ List.replicate m 0) → OwnI w' B TI (some ⟨g, 0, none⟩) c d := by
      intro m
      induction m with
      | zero => intro d h; simpa using h
      | succ m ih =>
        intro d h
        rw [List.replicate_succ', ← List.append_assoc] at h
        exact ih d (OwnI.pop h)
    exact key _ _ o2
theorem srt_perm (l : List Int) : (srt l).Perm l := List.mergeSort_perm l _
theorem srt_sorted (l : List Int) : (srt l).Pairwise (· ≤ ·) :=
  (List.pairwise_mergeSort (fun a b c h1 h2 => by simp only [decide_eq_true_eq] at *; omega) (fun a b => by simp only [Bool.or_eq_true, decide_eq_true_eq]; omega) l).imp fun h => by simpa using h
theorem cmp_sorted {l : List Int} (h : l.Pairwise (· ≤ ·)) : (cmp l).Pairwise (· < ·) ∧ ∀ x, x ∈ cmp l ↔ x ∈ l := by
  have ix : ∀ {i j : Nat} (hi : i < l.length) (hj : j < l.length), i ≤ j → l[i] ≤ l[j] := by
    intro i j hi hj hij
    rcases Nat.lt_or_eq_of_le hij with hlt | rfl
    · exact List.pairwise_iff_getElem.1 h i j hi hj hlt
    · exact Int.le_refl _
  have key : ∀ m, m ≤ l.length → (Go.Lib.compactUpTo l.toArray m).Pairwise (· < ·) ∧ ∀ x, x ∈ Go.Lib.compactUpTo l.toArray m ↔ x ∈ l.take m := by
    intro m
    induction m with
    | zero => intro _; simp [Go.Lib.compactUpTo]
    | succ m ih =>
      intro hm
      have hlt : m < l.length := by omega
      obtain ⟨i1, i2⟩ := ih (by omega)
      have gm : l.toArray[m]! = l[m] := by rw [getElem!_pos l.toArray m (by simpa using hlt)]; rfl
      rw [Go.Lib.compactUpTo_succ, gm, List.take_succ_eq_append_getElem hlt]
      by_cases h0 : m = 0
      · subst h0
        have : Go.Lib.keeps l.toArray 0 = true := by simp [Go.Lib.keeps]
        rw [this]
        simp [Go.Lib.compactUpTo]
      · have hp : m - 1 < l.length := by omega
        have gp : l.toArray[m - 1]! = l[m - 1] := by rw [getElem!_pos l.toArray (m - 1) (by simpa using hp)]; rfl
        have hmem : l[m - 1] ∈ l.take m := by
          rw [List.mem_take_iff_getElem]
          exact ⟨m - 1, by omega, rfl⟩
        have le' : ∀ x, x ∈ l.take m → x ≤ l[m - 1] := by
          intro x hx
          rw [List.mem_take_iff_getElem] at hx
          obtain ⟨i, hi, rfl⟩ := hx
          exact ix (by omega) hp (by omega)
        by_cases e : l[m] = l[m - 1]
        · have : Go.Lib.keeps l.toArray m = false := Go.Lib.keeps_neg (by omega) (by rw [gm, gp, e])
          rw [this]
          simp only [Bool.false_eq_true, if_false, List.append_nil]
          refine ⟨i1, fun x => ?_⟩
          rw [i2, List.mem_append, List.mem_singleton, e]
          exact ⟨.inl, fun hh => hh.elim id fun hh => hh ▸ hmem⟩
        · have : Go.Lib.keeps l.toArray m = true := Go.Lib.keeps_pos (by rw [gm, gp]; exact e)
          rw [this]
          simp only [if_true]
          refine ⟨List.pairwise_append.2 ⟨i1, List.pairwise_singleton _ _, fun x hx y hy => ?_⟩, fun x => ?_⟩
          · rw [List.mem_singleton] at hy; subst hy
            have a := le' x ((i2 x).1 hx)
            have b := ix hp hlt (by omega)
            omega
          · rw [List.mem_append, List.mem_append, i2]
  have := key l.length (Nat.le_refl _)
  unfold cmp Go.Lib.compact
  rw [List.take_length] at this
  exact this
theorem sorted_ext {l m : List Int} (h : l.Pairwise (· < ·)) (k : m.Pairwise (· < ·)) (e : ∀ x, x ∈ l ↔ x ∈ m) : l = m := by
  have p : l.Perm m := (List.perm_ext_iff_of_nodup (sorted_nodup h) (sorted_nodup k)).2 e
  exact p.eq_of_pairwise (le := fun x y => x < y) (fun a b _ _ h1 h2 => by omega) h k
end Go.Proofs.YtbhhbnnmdekjiaaGreat.Rd
namespace Go.Proofs.YtbhhbnnmdekjiaaGreat.Rd
open Go.Dn Go.RowKit
set_option maxRecDepth 100000
section
variable {w : World} {Fp : Nat → Prop} {F : Nat} {vs : List Int} {es : List E} {kv ke : Int → Bool}
theorem upd_iff {b b' : EB} {w w' : World} (hF : ∀ k, Fp k ↔ Fe b k) (u : Upd (Fe b) w w' (Fe b')) : Upd Fp w w' (Fe b') := ⟨u.kp.mono fun k _ hk => (hF k).2 hk, fun k hk => (u.fr k hk).imp (hF k).2 id⟩
theorem DelV_ok (h : RepE w Fp F vs es kv ke) {v : Int} (hv : W64 v) :
    Calls Tryz.prog 53 #[.pointer (some ⟨F, 0, none⟩), .int .i64 v] w fun e w' => ∃ Fp', e = .returned (.int .i64 (delVC vs es v)) ∧ RepE w' Fp' F (delVr vs es v) es kv ke ∧ Upd Fp w w' Fp' := by
  have same : ∀ {w' c}, Below w.heap.size w w' → delVC vs es v = c → c ≠ 0 → ∃ Fp', Ending.returned (.int .i64 c) = .returned (.int .i64 (delVC vs es v)) ∧ RepE w' Fp' F (delVr vs es v) es kv ke ∧ Upd Fp w w' Fp' := by
    intro w' c g hc h0
    have e1 : delVr vs es v = vs := by unfold delVr; rw [hc, if_neg h0]
    rw [e1, hc]
    exact ⟨Fp, rfl, h.below g, .below g⟩
  obtain ⟨b, rows, V, vl, el, wl, sp, T, nm, rfl, hF, hm, hf⟩ := h
  apply f_euler_Forest_DelV.ok
  unfold f_euler_Forest_DelV.wp
  refine hb_ldM (j := 1) hm.hf rfl (hm.lookV hv ⟨_, rfl, ?_⟩)
  refine al_new fun w1 b1 e1 s1 hb1 g1 => ?_
  refine (badId_ok (hb1.ri [v] rfl) rfl (by simp)).mono ?_
  rintro _ w2 ⟨⟨c, rfl, hc⟩, rfl⟩
  have hc' : c = true ↔ badI v := by simpa using hc
  refine ⟨c, rfl, ?_⟩
  by_cases hb : badI v
  · exact sel_t (hc'.2 hb) (same g1 (by unfold delVC; rw [if_pos hb]) (by decide))
  refine sel_f (Bool.eq_false_iff.2 fun hh => hb (hc'.1 hh)) ?_
  by_cases hin : v ∈ vs
  case neg =>
    exact sel_t (by rw [(hf.lkv0 v).2 hin]; rfl) (same g1 (by unfold delVC; rw [if_neg hb, if_pos hin]) (by decide))
  have hx := hf.pos _ (okV (es := es) hin)
  have hl : lkV vl v = nm (.v v) := by rw [hf.lkv, if_pos hin]
  have hn : nm (.v v) < b.r.n := hf.fr.kn _ ⟨_, okV (es := es) hin, rfl⟩
  rw [hl]
  have m1 := hm.below g1
  refine sel_f (by simp; omega) (hb_ldP0 m1.hf rfl ((Size_ok m1.rope _).mono ?_))
  rintro _ w3 ⟨rfl, g3⟩
  have hs : sizeE b.r.n rows ((nm (.v v) : Nat) : Int) = (((rowOf rows (nm (.v v))).length : Int), 0) := by
    unfold sizeE
    have : Bd b.r.n ((nm (.v v) : Nat) : Int) = false := by simp [Bd]; omega
    rw [this]; simp
  rw [hs]
  have hsz := hf.size1 hm.rope.rok hin
  have g13 := g1.trans (g3.mono g1.size)
  refine ⟨_, _, rfl, ?_⟩
  by_cases hd : 0 < deg es v
  · exact sel_t (by have := hsz.2 hd; simp; omega) (same g13 (by unfold delVC; rw [if_neg hb, if_neg (by simpa using hin), if_pos hd]) (by decide))
  refine sel_f (by have := mt hsz.1 hd; simp; omega) ?_
  have m3 := m1.below g3
  have hnb := hf.nb
  have hcn := hf.cn
  refine (drop_ok m3 (by omega) (x := nm (.v v)) (by unfold okN; omega)).mono ?_
  rintro _ w4 ⟨rfl, b', m4, eF, er, u4⟩
  refine ⟨rfl, ?_⟩
  rw [← eF]
  refine hb_ldM (j := 1) m4.hf rfl (m4.gv.del KTv (x := v) hv fun w5 g5 k5 => ⟨rfl, ?_⟩)
  obtain ⟨m5, u5⟩ := m4.mapV g5 k5
  have hd0 : deg es v = 0 := by have := deg_nn es v; omega
  have hc0 : delVC vs es v = 0 := by unfold delVC; rw [if_neg hb, if_neg (by simpa using hin), if_neg hd]
  obtain ⟨T', f5⟩ := hf.delV hm.rope.rok hm.gv.nd hin hd0
  have e1 : delVr vs es v = woI vs v := by unfold delVr; rw [if_pos hc0]
  rw [e1, hc0]
  rw [← er] at f5
  refine ⟨Fe b', rfl, ⟨b', _, _, _, _, _, _, _, _, rfl, fun _ => .rfl, m5, f5⟩, upd_iff hF (((Upd.below g13).trans u4).trans u5)⟩
theorem Has_ok' (h : RepE w Fp F vs es kv ke) {i : Int} (hi : W64 i) :
    Calls Tryz.prog 61 #[.pointer (some ⟨F, 0, none⟩), .int .i64 i] w fun e w' => e = .returned (.bool (decide (i ∈ es.map E.id))) ∧ Below w.heap.size w w' := by
  obtain ⟨b, rows, V, vl, el, wl, sp, T, nm, rfl, hF, hm, hf⟩ := h
  apply f_euler_Forest_Has.ok
  unfold f_euler_Forest_Has.wp
  refine hb_ldM (j := 2) hm.hf rfl (hm.lookE hi ⟨_, _, _, rfl, ?_⟩)
  refine al_new fun w1 b1 e1 s1 h1 g1 => hb_st0 h1 (by simp) fun w2 h2 k2 => hb_st (j := 1) h2 (by simp) fun w3 h3 k3 => ⟨by rw [hf.lke], ?_⟩
  exact g1.trans ((k2.trans k3).below g1.size fun i hi e => by omega)
end
theorem nodup_map_on {α β : Type} {f : α → β} : ∀ {l : List α}, l.Nodup → (∀ x ∈ l, ∀ y ∈ l, f x = f y → x = y) → (l.map f).Nodup
  | [], _, _ => by simp
  | a :: l, nd, h => by
    rw [List.nodup_cons] at nd
    rw [List.map_cons, List.nodup_cons]
    refine ⟨fun hm => ?_, nodup_map_on nd.2 fun x hx y hy => h x (by simp [hx]) y (by simp [hy])⟩
    obtain ⟨b, hb, e⟩ := List.mem_map.1 hm
    have := h b (by simp [hb]) a (by simp) e
    exact nd.1 (this ▸ hb)
open Classical in
noncomputable def cmpV (vs : List Int) (es : List E) (u : Int) : List Int := vs.filter fun v => decide (Cn es u v)
open Classical in
noncomputable def cmpE (es : List E) (u : Int) : List Int := (es.filter fun e => decide (Cn es u e.u)).map E.id
theorem cmpV_mem {vs : List Int} {es : List E} {u v : Int} : v ∈ cmpV vs es u ↔ v ∈ vs ∧ Cn es u v := by simp [cmpV]
theorem cmpE_mem {es : List E} {u i : Int} : i ∈ cmpE es u ↔ ∃ e ∈ es, e.id = i ∧ Cn es u e.u := by
  simp only [cmpE, List.mem_map, List.mem_filter, decide_eq_true_eq]
  constructor
  · rintro ⟨e, ⟨h1, h2⟩, h3⟩; exact ⟨e, h1, h3, h2⟩
  · rintro ⟨e, h1, h3, h2⟩; exact ⟨e, ⟨h1, h2⟩, h3⟩
theorem cmpV_sorted {vs : List Int} (h : vs.Pairwise (· < ·)) (es : List E) (u : Int) : (cmpV vs es u).Pairwise (· < ·) := h.filter _
theorem cmpE_sorted {es : List E} (h : (es.map E.id).Pairwise (· < ·)) (u : Int) : (cmpE es u).Pairwise (· < ·) := h.sublist (List.Sublist.map _ List.filter_sublist)
def sel1 (wl : List (Nat × (Bool × Int))) (edge : Bool) (l : List Nat) : List Int := (l.filter fun x => (lkW wl x).1 == edge).map fun x => (lkW wl x).2
theorem sel1_app (wl : List (Nat × (Bool × Int))) (edge : Bool) (l m : List Nat) : sel1 wl edge (l ++ m) = sel1 wl edge l ++ sel1 wl edge m := by simp [sel1]
theorem sel1_le (wl : List (Nat × (Bool × Int))) (edge : Bool) (l : List Nat) : (sel1 wl edge l).length ≤ l.length := by unfold sel1; rw [List.length_map]; exact List.length_filter_le _ _
section
variable {rows : List (List Nat)} {V : Nat → Int × Int × Int} {n : Nat} {vl : List (Int × Nat)} {el : List (Int × (Nat × Nat))} {wl : List (Nat × (Bool × Int))} {sp : List Nat} {T : List (List Nat)} {vs : List Int} {es : List E} {kv ke : Int → Bool} {nm : Pl → Nat}
theorem FI.place (f : FI rows V n vl el wl sp T vs es kv ke nm) (rok : RowsOk n rows) {u : Int} (hu : u ∈ vs) {x : Nat} (hx : x ∈ rowOf rows (nm (.v u))) : ∃ p, okP vs es p ∧ x = nm p := (f.row rok (okV (es := es) hu)).2.2.ok f.N x hx
theorem FI.selV (f : FI rows V n vl el wl sp T vs es kv ke nm) (rok : RowsOk n rows) {u : Int} (hu : u ∈ vs) (v : Int) : v ∈ sel1 wl false (rowOf rows (nm (.v u))) ↔ v ∈ cmpV vs es u := by
  rw [cmpV_mem]
  unfold sel1
  rw [List.mem_map]
  constructor
  · rintro ⟨x, hx, rfl⟩
    rw [List.mem_filter] at hx
    obtain ⟨p, hp, rfl⟩ := f.place rok hu hx.1
    rw [f.lkw hp] at hx ⊢
    cases p with
    | v i =>
      refine ⟨hp, (f.same rok hu hp).1 ?_⟩
      exact (rok.rowOf_eq (f.inT (f.row rok (okV (es := es) hu)).1) hx.1).symm
    | t i => simp [plOf] at hx
    | b i => simp [plOf] at hx
  · rintro ⟨hv, hc⟩
    have e := (f.same rok hu hv).2 hc
    refine ⟨nm (.v v), ?_, by rw [f.lkw (okV (es := es) hv)]; rfl⟩
    rw [List.mem_filter, f.lkw (okV (es := es) hv)]
    exact ⟨by rw [e]; exact (f.row rok (okV (es := es) hv)).2.1, rfl⟩
theorem FI.selE (f : FI rows V n vl el wl sp T vs es kv ke nm) (rok : RowsOk n rows) {u : Int} (hu : u ∈ vs) (i : Int) : i ∈ sel1 wl true (rowOf rows (nm (.v u))) ↔ i ∈ cmpE es u := by
  rw [cmpE_mem]
  unfold sel1
  rw [List.mem_map]
  have hrow := f.row rok (okV (es := es) hu)
  constructor
  · rintro ⟨x, hx, rfl⟩
    rw [List.mem_filter] at hx
    obtain ⟨p, hp, rfl⟩ := f.place rok hu hx.1
    rw [f.lkw hp] at hx ⊢
    cases p with
    | v i => simp [plOf] at hx
    | t i =>
      obtain ⟨e, he, rfl⟩ := List.mem_map.1 hp
      exact ⟨e, he, rfl, (f.edge rok hu he).1 hx.1⟩
    | b i =>
      obtain ⟨e, he, rfl⟩ := List.mem_map.1 hp
      exact ⟨e, he, rfl, (f.edge rok hu he).1 (hrow.2.2.closed f.N he (.inr hx.1)).1⟩
  · rintro ⟨e, he, rfl, hc⟩
    refine ⟨nm (.t e.id), ?_, by rw [f.lkw (okT he)]; rfl⟩
    rw [List.mem_filter, f.lkw (okT he)]
    exact ⟨(f.edge rok hu he).2 hc, rfl⟩
theorem FI.row_le (f : FI rows V n vl el wl sp T vs es kv ke nm) (rok : RowsOk n rows) {u : Int} (hu : u ∈ vs) : (rowOf rows (nm (.v u))).length ≤ n := by
  have h := f.inT (f.row rok (okV (es := es) hu)).1
  exact nodup_le _ _ (rok.nd _ h) fun i hi => ((rok.mem i).1 ⟨_, h, hi⟩).2
theorem FI.countV (f : FI rows V n vl el wl sp T vs es kv ke nm) (rok : RowsOk n rows) {u : Int} (hu : u ∈ vs) : (rowOf rows (nm (.v u))).countP (fun x => !(lkW wl x).1) = (cmpV vs es u).length := by
  have hrow := f.row rok (okV (es := es) hu)
  have nd := rok.nd _ (f.inT hrow.1)
  have nds : (sel1 wl false (rowOf rows (nm (.v u)))).Nodup := by
    unfold sel1
    refine nodup_map_on (nd.filter _) ?_
    intro x hx y hy e
    rw [List.mem_filter] at hx hy
    obtain ⟨p, hp, rfl⟩ := f.place rok hu hx.1
    obtain ⟨q, hq, rfl⟩ := f.place rok hu hy.1
    rw [f.lkw hp] at hx e
    rw [f.lkw hq] at hy e
    cases p <;> cases q <;> simp [plOf] at hx hy e
    rw [e]
  have p := (List.perm_ext_iff_of_nodup nds (sorted_nodup (cmpV_sorted f.vss es u))).2 (f.selV rok hu)
  rw [← p.length_eq, List.countP_eq_length_filter]
  unfold sel1
  rw [List.length_map]
  congr 1
  apply List.filter_congr
  intro x _
  cases (lkW wl x).1 <;> rfl
end
theorem list_l0 {b : EB} {rows : List (List Nat)} {V : Nat → Int × Int × Int} {vl : List (Int × Nat)} {el : List (Int × (Nat × Nat))} {wl : List (Nat × (Bool × Int))} {sp : List Nat} {w0 : World} (h0 : EM w0 b rows V vl el wl sp) {l : List Nat} (hl : l.length ≤ 100000) (hx : ∀ x ∈ l, okN x) {An : Option Addr} {cn : Nat} (rn : RI w0 An (zs l)) (edge : Bool) {K0 : Option Addr → Nat → Nat → World → Prop}
    (hk : ∀ A c w', OwnI w' w0.heap.size TI A c (sel1 wl edge l) → Below w0.heap.size w0 w' → K0 A (sel1 wl edge l).length c w') : ∀ (m i : Nat) (w : World) (A : Option Addr) (nn c : Nat), l.length - i = m → i ≤ l.length → OwnI w w0.heap.size TI A c (sel1 wl edge (l.take i)) → nn = (sel1 wl edge (l.take i)).length → Below w0.heap.size w0 w →
    f_euler_Forest_list.l0 (m + 1) ⟨b.F, 0, none⟩ edge A nn c An l.length cn (l.length : Int) (i : Int) w K0 := by
  intro m
  induction m with
  | zero =>
    intro i w A nn c hm hi ho hnn hb
    have : i = l.length := by omega
    subst this
    rw [List.take_length] at ho hnn
    subst hnn
    unfold f_euler_Forest_list.l0
    exact sel_f (by simp) (hk A c w ho hb)
  | succ m ih =>
    intro i w A nn c hm hi ho hnn hb
    have hlt : i < l.length := by omega
    have hw : IntKind.i64.wrap ((i : Int) + 1) = ((i + 1 : Nat) : Int) := by rw [w64_in (by omega)]; omega
    obtain ⟨a, rfl, q⟩ := (rn.belw hb) i (by rw [zs_len]; exact hlt)
    have hz : (zs l)[i]'(by rw [zs_len]; exact hlt) = (l[i] : Int) := by simp [zs]
    rw [hz] at q
    have hm0 := h0.below hb
    have htk : sel1 wl edge (l.take (i + 1)) = if (lkW wl l[i]).1 == edge then sel1 wl edge (l.take i) ++ [(lkW wl l[i]).2] else sel1 wl edge (l.take i) := by
      rw [List.take_succ_eq_append_getElem hlt, sel1_app]
      cases h : (lkW wl l[i]).1 == edge <;> simp [sel1, h]
    have hlen : (sel1 wl edge (l.take i)).length ≤ l.length := Nat.le_trans (sel1_le _ _ _) (by rw [List.length_take]; omega)
    unfold f_euler_Forest_list.l0
    refine sel_t (by simpa using hlt) (optB_some rfl (req_intro (by simp; omega) (ldI_intro (by rw [Int.toNat_natCast, Nat.mul_one]; exact q) ?_)))
    refine hb_ldM (j := 3) hm0.hf rfl (hm0.lookW (hx _ (List.getElem_mem hlt)) ⟨_, _, rfl, ?_⟩)
    refine al_new fun w1 b1 e1 s1 h1 g1 => hb_st0 h1 (by simp) fun w2 h2 k2 => hb_st (j := 1) h2 (by simp) fun w3 h3 k3 => hb_ldB0 h3 rfl ?_
    have g3 : Below w.heap.size w w3 := g1.trans ((k2.trans k3).below g1.size fun i hi e => by omega)
    have hb3 := hb.trans (g3.mono hb.size)
    have o3 := ho.keeps (S := fun _ => False) (.of_below g3) fun _ _ => id
    by_cases he : ((lkW wl l[i]).1 == edge) = true
    · refine sel_t he (hb_ldI (j := 1) h3 rfl (put_in o3 hnn hb3.size (by omega) fun A4 c4 w4 o4 k4 f4 => ?_))
      rw [hw]
      refine ih (i + 1) w4 _ _ c4 (by omega) (by omega) (by rw [htk, if_pos he]; exact o4) (by rw [htk, if_pos he]) (hb3.trans (k4.below hb3.size fun k hk ⟨a', ha', hh⟩ => ?_))
      have := (o3.block a' ha').1; omega
    · refine sel_f (by simpa using he) ?_
      rw [hw]
      exact ih (i + 1) w3 A nn c (by omega) (by omega) (by rw [htk, if_neg he]; exact o3) (by rw [htk, if_neg he]; exact hnn) hb3
noncomputable def lstE (vs : List Int) (es : List E) (u : Int) (edge : Bool) : List Int := if edge = true then cmpE es u else cmpV vs es u
theorem list_ok {w : World} {Fp : Nat → Prop} {F : Nat} {vs : List Int} {es : List E} {kv ke : Int → Bool} (h : RepE w Fp F vs es kv ke) {u : Int} (hu : W64 u) (edge : Bool) :
    Calls Tryz.prog 57 #[.pointer (some ⟨F, 0, none⟩), .int .i64 u, .bool edge] w fun e w' => ∃ A c out, e = .returned (.tuple #[.slice A out.length c, .int .i64 (if u ∈ vs then 0 else 51)]) ∧ OwnI w' w.heap.size TI A c out ∧ out = (if u ∈ vs then lstE vs es u edge else []) ∧ Below w.heap.size w w' := by
  obtain ⟨b, rows, V, vl, el, wl, sp, T, nm, rfl, hF, hm, hf⟩ := h
  apply f_euler_Forest_list.ok
  unfold f_euler_Forest_list.wp
  have b1 : Below w.heap.size w w.drew := (Below.refl _ _).drew
  have m1 := hm.below b1
  refine drW_intro ⟨fun w' => w' = w.drew, rfl, _, fun w' e => by subst e; exact (m1.hf.cell 0).trans rfl, _, fun w' e => by subst e; exact (m1.hf.cell 1).trans rfl, ?_⟩
  refine m1.lookV hu ⟨_, rfl, rfl, (List_ok m1.rope _).mono ?_⟩
  rintro _ w2 ⟨A2, c2, rfl, o2, g2⟩
  refine ⟨_, _, _, _, rfl, ?_⟩
  by_cases hin : u ∈ vs
  case neg =>
    have e0 : lkV vl u = 0 := (hf.lkv0 u).2 hin
    have : listE b.r.n rows ((lkV vl u : Nat) : Int) = ([], 150) := by unfold listE; rw [e0]; simp [Bd]
    rw [this, if_neg hin, if_neg hin]
    exact sel_t rfl ⟨none, 0, [], rfl, OwnI.none _ _ _, rfl, b1.trans g2⟩
  have hl : lkV vl u = nm (.v u) := by rw [hf.lkv, if_pos hin]
  have hp := hf.pos _ (okV (es := es) hin)
  have hn : nm (.v u) < b.r.n := hf.fr.kn _ ⟨_, okV (es := es) hin, rfl⟩
  have hli : listE b.r.n rows ((lkV vl u : Nat) : Int) = (rowOf rows (nm (.v u)), 0) := by
    unfold listE
    rw [hl]
    have : Bd b.r.n ((nm (.v u) : Nat) : Int) = false := by simp [Bd]; omega
    rw [this]; simp
  rw [hli] at o2 ⊢
  rw [if_pos hin, if_pos hin]
  have rok := hm.rope.rok
  have hrl := hf.row_le rok hin
  have hnb := hf.nb
  have m2 := m1.below g2
  have hxs : ∀ x ∈ rowOf rows (nm (.v u)), okN x := fun x hx => by
    have := ((rok.mem x).1 ⟨_, hf.inT (hf.row rok (okV (es := es) hin)).1, hx⟩).2
    unfold okN; omega
  refine sel_f rfl ⟨(rowOf rows (nm (.v u))).length + 1, list_l0 m2 (by omega) hxs o2.reads edge (fun A c w3 o3 g3 => ?_) _ 0 w2 none 0 0 (by omega) (by omega) (by simpa [sel1] using OwnI.none _ _ _) (by simp [sel1]) (Below.refl _ _)⟩
  intro _
  have sl := sel1_le wl edge (rowOf rows (nm (.v u)))
  refine (Sort_ok o3 rfl (by omega)).mono ?_
  rintro _ w4 ⟨rfl, o4, k4⟩
  have sl4 : (srt (sel1 wl edge (rowOf rows (nm (.v u))))).length = (sel1 wl edge (rowOf rows (nm (.v u)))).length := (srt_perm _).length_eq
  refine ⟨rfl, (Compact_ok o4 sl4.symm (by omega)).mono ?_⟩
  rintro _ w5 ⟨rfl, o5, k5⟩
  have h02 : w.heap.size ≤ w2.heap.size := by have := g2.size; have := b1.size; omega
  have bb : ∀ {k}, k < w2.heap.size → ¬ Ob A k := fun hk ⟨a, ha, e⟩ => by have := (o3.block a ha).1; omega
  have g5 : Below w2.heap.size w2 w5 := g3.trans ((k4.trans k5).below g3.size fun k hk hh => bb hk hh)
  refine ⟨_, _, _, rfl, A, c, _, rfl, o5.mono h02, ?_, (b1.trans g2).trans (g5.mono h02)⟩
  obtain ⟨c1, c2⟩ := cmp_sorted (srt_sorted (sel1 wl edge (rowOf rows (nm (.v u)))))
  cases edge with
  | true =>
    exact sorted_ext c1 (cmpE_sorted hf.ess u) fun x => by rw [c2, (srt_perm _).mem_iff]; exact hf.selE rok hin x
  | false =>
    exact sorted_ext c1 (cmpV_sorted hf.vss es u) fun x => by rw [c2, (srt_perm _).mem_iff]; exact hf.selV rok hin x
theorem Verts_ok' {w : World} {Fp : Nat → Prop} {F : Nat} {vs : List Int} {es : List E} {kv ke : Int → Bool} (h : RepE w Fp F vs es kv ke) {u : Int} (hu : W64 u) :
    Calls Tryz.prog 38 #[.pointer (some ⟨F, 0, none⟩), .int .i64 u] w fun e w' => ∃ A c out, e = .returned (.tuple #[.slice A out.length c, .int .i64 (if u ∈ vs then 0 else 51)]) ∧ OwnI w' w.heap.size TI A c out ∧ out = (if u ∈ vs then cmpV vs es u else []) ∧ Below w.heap.size w w' := by
  apply f_euler_Forest_Verts.ok
  unfold f_euler_Forest_Verts.wp
  refine (list_ok h hu false).mono ?_
  rintro _ w2 ⟨A, c, out, rfl, o, e, g⟩
  exact ⟨_, _, _, _, rfl, A, c, out, rfl, o, by rw [e]; unfold lstE; simp, g⟩
def fTwo (mv : Nat) (x y : Int) (i : Nat) (v : Value) : Prop := match i with
  | 3 => v = .map (some mv) | 9 => v = .map (some mv) | 5 => v = .int .i64 x | 11 => v = .int .i64 y
  | _ => True
section
variable {w : World} {b : EB} {rows : List (List Nat)} {V : Nat → Int × Int × Int} {n : Nat} {vl : List (Int × Nat)} {el : List (Int × (Nat × Nat))} {wl : List (Nat × (Bool × Int))} {sp : List Nat} {T : List (List Nat)} {vs : List Int} {es : List E} {kv ke : Int → Bool} {nm : Pl → Nat}
theorem FI.bd (f : FI rows V n vl el wl sp T vs es kv ke nm) {p : Pl} (hp : okP vs es p) : Bd n ((nm p : Nat) : Int) = false := by
  have h1 := f.pos _ hp
  have h2 : nm p < n := f.fr.kn _ ⟨_, hp, rfl⟩
  simp [Bd]; omega
open Classical in
theorem FI.sameE (f : FI rows V n vl el wl sp T vs es kv ke nm) (rok : RowsOk n rows) {u v : Int} (hu : u ∈ vs) (hv : v ∈ vs) : Rd.sameE n rows ((nm (.v u) : Nat) : Int) ((nm (.v v) : Nat) : Int) = (decide (Cn es u v), 0) := by
  unfold Rd.sameE
  rw [f.bd (okV (es := es) hu), f.bd (okV (es := es) hv)]
  simp only [Bool.or_self, Bool.false_eq_true, if_false, Int.toNat_natCast, f.same rok hu hv]
theorem FI.lkv1 (f : FI rows V n vl el wl sp T vs es kv ke nm) {i : Int} (hi : i ∈ vs) : lkV vl i = nm (.v i) ∧ (((nm (.v i) : Nat) : Int) == 0) = false := by
  have := f.pos _ (okV (es := es) hi)
  exact ⟨by rw [f.lkv, if_pos hi], by simp; omega⟩
end
theorem fk {m : Nat} {me : Option Nat} (h : Value.map me = .map (some m)) : me = some m := by injection h
theorem fi {x y : Int} (h : Value.int .i64 x = .int .i64 y) : x = y := by injection h
def jC (vs : List Int) (es : List E) (u v : Int) (j : Bool) : Prop := u ∈ vs → v ∈ vs → (j = true ↔ Cn es u v)
section
variable {w : World} {Fp : Nat → Prop} {F : Nat} {vs : List Int} {es : List E} {kv ke : Int → Bool}
open Classical in
theorem Joined_ok' (h : RepE w Fp F vs es kv ke) {u v : Int} (hu : W64 u) (hv : W64 v) :
    Calls Tryz.prog 37 #[.pointer (some ⟨F, 0, none⟩), .int .i64 u, .int .i64 v] w fun e w' => e = .returned (.tuple #[.bool (decide (u ∈ vs ∧ v ∈ vs ∧ Cn es u v)), .int .i64 (if u ∈ vs ∧ v ∈ vs then 0 else 51)]) ∧ Below w.heap.size w w' := by
  obtain ⟨b, rows, V, vl, el, wl, sp, T, nm, rfl, hF, hm, hf⟩ := h
  apply f_euler_Forest_Joined.ok
  unfold f_euler_Forest_Joined.wp
  have b1 : Below w.heap.size w w.drew := (Below.refl _ _).drew
  have m1 := hm.below b1
  refine drW_intro ⟨f_euler_Forest_Joined.h1_ok .., fun x y => Below x.heap.size x y, fun i x _ => fTwo b.mv (lkV vl u) (lkV vl v) i x, fun _ => Below.refl _ _, fun x y z h1 h2 => h1.trans (h2.mono h1.size), fun i v x y _ _ h => h, ?_, ?_⟩
  · refine ⟨fun _ w4 g => hb_ldM (m1.below g).hf rfl ⟨Below.refl _ _, rfl⟩, fun _ w6 g me3 f3 => ?_, fun _ w4 g => hb_ldM (m1.below g).hf rfl ⟨Below.refl _ _, rfl⟩, fun _ w6 g me3 f3 => ?_, trivial⟩
    · rw [fk f3]; exact (m1.below g).lookV hu ⟨_, rfl, Below.refl _ _, rfl⟩
    · rw [fk f3]; exact (m1.below g).lookV hv ⟨_, rfl, Below.refl _ _, rfl⟩
  · intro w3 g me3 f3 xe5 f5 me9 f9 xe11 f11
    rw [fi f5, fi f11]
    have g1 := b1.trans g
    have m3 := m1.below g
    by_cases hin : u ∈ vs
    case neg => exact sel_t (by rw [(hf.lkv0 u).2 hin]; rfl) ⟨by simp [hin], g1⟩
    refine sel_f (by rw [(hf.lkv1 hin).1]; exact (hf.lkv1 hin).2) ?_
    by_cases hjn : v ∈ vs
    case neg => exact sel_t (by rw [(hf.lkv0 v).2 hjn]; rfl) ⟨by simp [hjn], g1⟩
    refine sel_f (by rw [(hf.lkv1 hjn).1]; exact (hf.lkv1 hjn).2) (hb_ldP0 m3.hf rfl ((Same_ok m3.rope _ _).mono ?_))
    rintro _ w4 ⟨rfl, g4⟩
    rw [(hf.lkv1 hin).1, (hf.lkv1 hjn).1, hf.sameE hm.rope.rok hin hjn]
    exact ⟨_, _, rfl, by simp [hin, hjn], g1.trans (g4.mono g1.size)⟩
theorem Rd_join (rows : List (List Nat)) (n x y : Nat) (bx : Bd n (x : Int) = false) (by' : Bd n (y : Int) = false) (hne : rowOf rows x ≠ rowOf rows y) : joinS n rows (x : Int) (y : Int) = joinR rows x y := by
  unfold joinS
  rw [bx, by']
  simp only [Bool.or_self, Bool.false_eq_true, if_false, Int.toNat_natCast]
  rw [if_neg hne]
theorem join_step {b : EB} {rows : List (List Nat)} {V : Nat → Int × Int × Int} {vl : List (Int × Nat)} {el : List (Int × (Nat × Nat))} {wl : List (Nat × (Bool × Int))} {sp : List Nat} (h : EM w b rows V vl el wl sp) {la lb : List Nat} {R : List (List Nat)} {x y : Nat} (p : rows.Perm (la :: lb :: R)) (hx : x ∈ la) (hy : y ∈ lb) {K : Int → World → Prop}
    (hK : ∀ c w' rows', EM w' b rows' V vl el wl sp → rows'.Perm ((la ++ lb) :: R) → Upd (Fe b) w w' (Fe b) → K c w') :
    ldP w (⟨b.F, 0, none⟩ : Addr) fun q => Calls Tryz.prog 64 #[.pointer q, .int .i64 (x : Int), .int .i64 (y : Int)] w fun e w' => ∃ c : Int, e = .returned (.int .i64 c) ∧ K c w' := by
  refine hb_ldP0 h.hf rfl ((Join_ok h.rope (x : Int) (y : Int)).mono ?_)
  rintro e w3 ⟨rfl, hr3, k3⟩
  obtain ⟨h3, u3⟩ := h.ropeT hr3 k3
  have hx1 := rows_in h p hx
  have p' : rows.Perm (lb :: la :: R) := p.trans (.swap _ _ _)
  have hy1 := rows_in h p' hy
  have dj := (h.rope.rok.perm p).dj
  rw [List.pairwise_cons] at dj
  have hne : rowOf rows x ≠ rowOf rows y := by
    rw [hx1.2.2.1, hy1.2.2.1]
    rintro rfl
    exact dj.1 la (by simp) x hx hx
  rw [Rd_join rows _ x y hx1.2.2.2 hy1.2.2.2 hne] at h3
  exact ⟨_, rfl, hK _ _ _ h3 (join_perm h.rope.rok p hx hy) u3⟩
theorem Link_j0 {b : EB} {rows : List (List Nat)} {V : Nat → Int × Int × Int} {vl : List (Int × Nat)} {el : List (Int × (Nat × Nat))} {wl : List (Nat × (Bool × Int))} {sp : List Nat} (h : EM w b rows V vl el wl sp) {lu lv : List Nat} {R : List (List Nat)} {x y t k : Nat} (p : rows.Perm (lu :: lv :: [t] :: [k] :: R)) (hx : x ∈ lu) (hy : y ∈ lv) {Kr : Int → World → Prop}
    (hK : ∀ w' rows' A B, EM w' b rows' V vl el wl sp → Rot lu (x :: A) → Rot lv (y :: B) → rows'.Perm (((x :: A) ++ t :: ((y :: B) ++ [k])) :: R) → Upd (Fe b) w w' (Fe b) → Kr 0 w') :
    f_euler_Forest_Link.j0 ⟨b.F, 0, none⟩ (x : Int) (y : Int) (t : Int) (k : Int) w Kr := by
  unfold f_euler_Forest_Link.j0
  refine (turn_ok h p hx).mono ?_
  rintro _ w1 ⟨rfl, A, r1, h1, rA, p1, u1⟩
  refine ⟨rfl, (turn_ok h1 (p1.trans (.swap _ _ _)) hy).mono ?_⟩
  rintro _ w2 ⟨rfl, B, r2, h2, rB, p2, u2⟩
  refine ⟨rfl, ?_⟩
  have q2 : r2.Perm ((x :: A) :: [t] :: (y :: B) :: [k] :: R) := p2.trans ((List.Perm.swap _ _ _).trans ((List.Perm.swap _ _ _).cons _))
  refine join_step h2 q2 (by simp) (by simp) fun c3 w3 r3 h3 p3 u3 => ?_
  refine join_step h3 p3 (by simp) (by simp) fun c4 w4 r4 h4 p4 u4 => ?_
  refine join_step h4 p4 (by simp) (by simp) fun c5 w5 r5 h5 p5 u5 => ?_
  refine hK w5 r5 A B h5 rA rB ?_ ((((u1.trans u2).trans u3).trans u4).trans u5)
  have e : x :: A ++ [t] ++ y :: B ++ [k] = (x :: A) ++ t :: ((y :: B) ++ [k]) := by simp
  rw [← e]; exact p5
def keL (vs : List Int) (es : List E) (ke : Int → Bool) (e : E) (j : Bool) : Int → Bool := fun i => if linkC vs es e j = 0 ∧ i = e.id then false else ke i
open Classical in
theorem Link_ok (h : RepE w Fp F vs es kv ke) {e : E} (h1 : W64 e.id) (h2 : W64 e.u) (h3 : W64 e.v) (h0 : e.w = 0) :
    Calls Tryz.prog 41 #[.pointer (some ⟨F, 0, none⟩), .int .i64 e.id, .int .i64 e.u, .int .i64 e.v] w fun en w' => ∃ j Fp', jC vs es e.u e.v j ∧ en = .returned (.int .i64 (linkC vs es e j)) ∧ RepE w' Fp' F vs (linkEr vs es e j) kv (keL vs es ke e j) ∧ Upd Fp w w' Fp' := by
  have hw0 : ¬ (e.w < 0 ∨ 1099511627776 < e.w) := by rw [h0]; omega
  have same : ∀ {w' c j}, Below w.heap.size w w' → jC vs es e.u e.v j → linkC vs es e j = c → c ≠ 0 → ∃ j Fp', jC vs es e.u e.v j ∧ Ending.returned (.int .i64 c) = .returned (.int .i64 (linkC vs es e j)) ∧ RepE w' Fp' F vs (linkEr vs es e j) kv (keL vs es ke e j) ∧ Upd Fp w w' Fp' := by
    intro w' c j g hj hc h0
    have e1 : linkEr vs es e j = es := by unfold linkEr; rw [hc, if_neg h0]
    have e2 : keL vs es ke e j = ke := by funext i; unfold keL; rw [hc, if_neg (fun hh => h0 hh.1)]
    exact ⟨j, Fp, hj, by rw [hc], by rw [e1, e2]; exact h.below g, .below g⟩
  have anyj : ∃ j, jC vs es e.u e.v j := by
    by_cases hc : Cn es e.u e.v
    · exact ⟨true, fun _ _ => ⟨fun _ => hc, fun _ => rfl⟩⟩
    · exact ⟨false, fun _ _ => ⟨(fun hh => by cases hh), fun hh => absurd hh hc⟩⟩
  obtain ⟨b, rows, V, vl, el, wl, sp, T, nm, rfl, hF, hm, hf⟩ := h
  obtain ⟨j0, hj0⟩ := anyj
  apply f_euler_Forest_Link.ok
  unfold f_euler_Forest_Link.wp
  refine al_new fun w1 b1 e1 s1 hb1 g1 => ?_
  refine (badId_ok (hb1.ri [e.id, e.u, e.v] rfl) rfl (by simp)).mono ?_
  rintro _ w2 ⟨⟨c, rfl, hc⟩, rfl⟩
  have hc' : c = true ↔ badI e.id ∨ badI e.u ∨ badI e.v := by simpa using hc
  refine ⟨c, rfl, ?_⟩
  by_cases hb : badI e.id ∨ badI e.u ∨ badI e.v
  · exact sel_t (hc'.2 hb) (same g1 hj0 (by unfold linkC; rw [if_pos hb]) (by decide))
  refine sel_f (Bool.eq_false_iff.2 fun hh => hb (hc'.1 hh)) ?_
  have m1 := hm.below g1
  have hR : RepE w2 Fp b.F vs es kv ke := ⟨b, rows, V, vl, el, wl, sp, T, nm, rfl, hF, m1, hf⟩
  refine (Has_ok' hR h1).mono ?_
  rintro _ w3 ⟨rfl, g3⟩
  have g13 := g1.trans (g3.mono g1.size)
  refine ⟨_, rfl, ?_⟩
  by_cases hid : e.id ∈ es.map E.id
  · exact sel_t (by simpa using hid) (same g13 hj0 (by unfold linkC; rw [if_neg hb, if_neg hw0, if_pos hid]) (by decide))
  refine sel_f (decide_eq_false hid) ?_
  have m3 := m1.below g3
  have bd : Below w3.heap.size w3 w3.drew := (Below.refl _ _).drew
  have m4 := m3.below bd
  refine drW_intro ⟨f_euler_Forest_Link.h5_ok .., fun x y => Below x.heap.size x y, fun i x _ => fTwo b.mv (lkV vl e.u) (lkV vl e.v) i x, fun _ => Below.refl _ _, fun x y z h1 h2 => h1.trans (h2.mono h1.size), fun i v x y _ _ h => h, ?_, ?_⟩
  · refine ⟨fun _ w4 g => hb_ldM (m4.below g).hf rfl ⟨Below.refl _ _, rfl⟩, fun _ w6 g me3 f3 => ?_, fun _ w4 g => hb_ldM (m4.below g).hf rfl ⟨Below.refl _ _, rfl⟩, fun _ w6 g me3 f3 => ?_, trivial⟩
    · rw [fk f3]; exact (m4.below g).lookV h2 ⟨_, rfl, Below.refl _ _, rfl⟩
    · rw [fk f3]; exact (m4.below g).lookV h3 ⟨_, rfl, Below.refl _ _, rfl⟩
  intro w5 g me3 f3 xe5 f5 me9 f9 xe11 f11
  rw [fi f5, fi f11]
  have g15 := g13.trans ((bd.trans g).mono g13.size)
  have m5 := m4.below g
  by_cases hin : e.u ∈ vs
  case neg => exact sel_t (by rw [(hf.lkv0 _).2 hin]; rfl) (same g15 hj0 (by unfold linkC; rw [if_neg hb, if_neg hw0, if_neg hid, if_pos (fun hh => hin hh.1)]) (by decide))
  refine sel_f (by rw [(hf.lkv1 hin).1]; exact (hf.lkv1 hin).2) ?_
  by_cases hjn : e.v ∈ vs
  case neg => exact sel_t (by rw [(hf.lkv0 _).2 hjn]; rfl) (same g15 hj0 (by unfold linkC; rw [if_neg hb, if_neg hw0, if_neg hid, if_pos (fun hh => hjn hh.2)]) (by decide))
  refine sel_f (by rw [(hf.lkv1 hjn).1]; exact (hf.lkv1 hjn).2) (hb_ldP0 m5.hf rfl ((Same_ok m5.rope _ _).mono ?_))
  rintro _ w6 ⟨rfl, g6⟩
  rw [(hf.lkv1 hin).1, (hf.lkv1 hjn).1, hf.sameE hm.rope.rok hin hjn]
  refine ⟨_, _, rfl, ?_⟩
  have g16 := g15.trans (g6.mono g15.size)
  have hnn : ¬ ¬ (e.u ∈ vs ∧ e.v ∈ vs) := fun hh => hh ⟨hin, hjn⟩
  by_cases hcn : Cn es e.u e.v
  · exact sel_t (by simpa using hcn) (same (j := true) g16 (fun _ _ => ⟨fun _ => hcn, fun _ => rfl⟩) (by unfold linkC; rw [if_neg hb, if_neg hw0, if_neg hid, if_neg hnn, if_pos rfl]) (by decide))
  refine sel_f (decide_eq_false hcn) ?_
  have m6 := m5.below g6
  have hnb := hf.nb
  have rok := hm.rope.rok
  refine (make_ok m6 (by omega) (hf.spr rok) (true, e.id) (0, 0, 0) ⟨in64_small (by decide) (by decide), in64_small (by decide) (by decide), in64_small (by decide) (by decide)⟩).mono ?_
  rintro _ w7 ⟨b7, rows7, V7, sp7, x1, rfl, mk7⟩
  refine ⟨_, rfl, ?_⟩
  rw [← mk7.F]
  have m7 := mk7.em
  obtain ⟨fr1, nk1, p1, l1, nn1, cnt1, cnb1, sub1⟩ := hf.fr.make rok hm.rope.pos mk7.it
  have sp7r : ∀ x ∈ sp7, 0 < x ∧ x < b7.r.n := fun x hx => by have := hf.spr rok x (sub1 x hx); omega
  refine (make_ok m7 (by rcases cnb1 with hh | ⟨_, hh⟩ <;> omega) sp7r (true, e.id) (0, 0, 0) ⟨in64_small (by decide) (by decide), in64_small (by decide) (by decide), in64_small (by decide) (by decide)⟩).mono ?_
  rintro _ w8 ⟨b8, rows8, V8, sp8, x2, rfl, mk8⟩
  refine ⟨_, rfl, ?_⟩
  rw [← mk8.F]
  have m8 := mk8.em
  refine hb_ldM (j := 2) m8.hf rfl (m8.ge.upd KTe (x := e.id) h1 (v := (x1, x2)) fun w9 g9 k9 => ?_)
  obtain ⟨m9, u9⟩ := m8.mapE g9 k9
  have hne : rowOf rows (nm (.v e.u)) ≠ rowOf rows (nm (.v e.v)) := fun hh => hcn ((hf.same rok hin hjn).1 hh)
  obtain ⟨T0, pm, fin⟩ := hf.link rok hm.rope.pos (e := e) (fun hh => hb (.inl hh)) hid hin hjn hne mk7.it m7.rope.rok mk8.it
  refine Link_j0 m9 pm (hf.row rok (okV (es := es) hin)).2.1 (hf.row rok (okV (es := es) hjn)).2.1 fun w10 rows10 A B m10 rA rB p10 u10 => ?_
  intro _
  have f10 := fin A B rows10 rA rB p10
  have hz : linkC vs es e false = 0 := by unfold linkC; rw [if_neg hb, if_neg hw0, if_neg hid, if_neg hnn, if_neg (by decide)]
  have e1 : linkEr vs es e false = insE es e := by unfold linkEr; rw [if_pos hz]
  have e2 : keL vs es ke e false = fun i => if i = e.id then false else ke i := by funext i; unfold keL; simp [hz]
  refine ⟨false, Fe b8, fun _ _ => ⟨(fun hh => by cases hh), fun hh => absurd hh hcn⟩, by rw [hz], ?_, ?_⟩
  · rw [e1, e2]
    rw [mk8.V, mk7.V] at m10
    exact ⟨b8, _, _, _, _, _, _, _, _, by rw [mk8.F, mk7.F], fun _ => .rfl, m10, f10⟩
  · exact upd_iff hF ((((Upd.below g16).trans mk7.upd).trans mk8.upd).trans (u9.trans u10))
end
theorem pieces_mid {P Q : List Nat} {b : Nat} (nd : (P ++ b :: Q).Nodup) (hP : P ≠ []) : pieces b (P ++ b :: Q) = [P, b :: Q] := by
  have hb : b ∉ P := fun h => by
    rw [List.nodup_append] at nd
    exact nd.2.2 b h b (by simp) rfl
  have ix : (P ++ b :: Q).idxOf b = P.length := by
    rw [List.idxOf_append, if_neg hb, List.idxOf_cons_self]; simp
  unfold pieces
  rw [if_pos (by simp), ix, if_neg (fun h => hP (List.length_eq_zero_iff.1 h)), List.take_left' rfl, List.drop_left' rfl]
section
variable {w : World} {Fp : Nat → Prop} {F : Nat} {vs : List Int} {es : List E} {kv ke : Int → Bool}
theorem Cut_ok' (h : RepE w Fp F vs es kv ke) {i : Int} (hi : W64 i) :
    Calls Tryz.prog 44 #[.pointer (some ⟨F, 0, none⟩), .int .i64 i] w fun e w' => ∃ Fp', e = .returned (.int .i64 (cutC es i)) ∧ RepE w' Fp' F vs (cutEr es i) kv ke ∧ Upd Fp w w' Fp' := by
  have same : ∀ {w' c}, Below w.heap.size w w' → cutC es i = c → c ≠ 0 → ∃ Fp', Ending.returned (.int .i64 c) = .returned (.int .i64 (cutC es i)) ∧ RepE w' Fp' F vs (cutEr es i) kv ke ∧ Upd Fp w w' Fp' := by
    intro w' c g hc h0
    have e1 : cutEr es i = es := by unfold cutEr; rw [hc, if_neg h0]
    rw [e1, hc]
    exact ⟨Fp, rfl, h.below g, .below g⟩
  obtain ⟨b, rows, V, vl, el, wl, sp, T, nm, rfl, hF, hm, hf⟩ := h
  apply f_euler_Forest_Cut.ok
  unfold f_euler_Forest_Cut.wp
  refine al_new fun w1 b1 e1 s1 hb1 g1 => ?_
  refine (badId_ok (hb1.ri [i] rfl) rfl (by simp)).mono ?_
  rintro _ w2 ⟨⟨c, rfl, hc⟩, rfl⟩
  have hc' : c = true ↔ badI i := by simpa using hc
  refine ⟨c, rfl, ?_⟩
  by_cases hb : badI i
  · exact sel_t (hc'.2 hb) (same g1 (by unfold cutC; rw [if_pos hb]) (by decide))
  refine sel_f (Bool.eq_false_iff.2 fun hh => hb (hc'.1 hh)) ?_
  have m1 := hm.below g1
  refine hb_ldM (j := 2) m1.hf rfl (m1.lookE hi ⟨_, _, _, rfl, ?_⟩)
  refine al_new fun w3 b3 e3 s3 hb3 g3 => hb_st0 hb3 (by simp) fun w4 hb4 k4 => hb_st (j := 1) hb4 (by simp) fun w5 hb5 k5 => ?_
  have g35 : Below w2.heap.size w2 w5 := g3.trans ((k4.trans k5).below g3.size fun i hi e => by omega)
  have g15 := g1.trans (g35.mono g1.size)
  rw [hf.lke]
  by_cases hin : i ∈ es.map E.id
  case neg => exact sel_t (by rw [decide_eq_false hin]; rfl) (same g15 (by unfold cutC; rw [if_neg hb, if_pos hin]) (by decide))
  refine sel_f (by rw [decide_eq_true hin]; rfl) (drW_intro ?_)
  obtain ⟨e, he, rfl⟩ := List.mem_map.1 hin
  rw [hf.lke' he] at hb5
  have hb5d : HB w5.drew b3 #[.int .i64 ((nm (.t e.id) : Nat) : Int), .int .i64 ((nm (.b e.id) : Nat) : Int)] 118 := hb5
  refine hb_ldI (j := 0) hb5d rfl (hb_ldI (j := 1) hb5d rfl ?_)
  have bd : Below w5.heap.size w5 w5.drew := (Below.refl _ _).drew
  have m5 := (m1.below g35).below bd
  have rok := hm.rope.rok
  obtain ⟨T0, l, X, Y, pr, ml, rt, nX, nY, fin⟩ := hf.cut rok he
  generalize hR : sp.map one1 ++ T0 = R at *
  refine (turn_ok m5 pr ml).mono ?_
  rintro _ w6 ⟨rfl, P, r6, m6, rt6, p6, u6⟩
  have nd6 := nodup_in m6 p6
  have eP : P = X ++ nm (.b e.id) :: Y := Rot.uniq nd6 (rt6.symm.trans rt)
  subst eP
  refine ⟨rfl, hb_ldP0 m6.hf rfl ((Cut_ok m6.rope ((nm (.b e.id) : Nat) : Int)).mono ?_)⟩
  rintro _ w7 ⟨rfl, hr7, k7⟩
  obtain ⟨m7, u7⟩ := m6.ropeT hr7 k7
  have mb : nm (.b e.id) ∈ nm (.t e.id) :: (X ++ nm (.b e.id) :: Y) := by simp
  have eC : cutS b.r.n r6 ((nm (.b e.id) : Nat) : Int) = cutR r6 (nm (.b e.id)) := by
    unfold cutS
    rw [(rows_in m6 p6 mb).2.2.2]; simp
  rw [eC] at m7
  have p7 : (cutR r6 (nm (.b e.id))).Perm ((nm (.t e.id) :: X) :: (nm (.b e.id) :: Y) :: R) := by
    have := cut_perm m6.rope.rok p6 mb
    rw [← List.cons_append, pieces_mid (by rw [List.cons_append]; exact nd6) (by simp)] at this
    exact this
  refine ⟨_, rfl, (alone_ok m7 nX p7).mono ?_⟩
  rintro _ w8 ⟨rfl, r8, m8, p8, u8⟩
  have q8 : r8.Perm ((nm (.b e.id) :: Y) :: [nm (.t e.id)] :: X :: R) := p8.trans ((((List.Perm.swap _ _ _).cons _)).trans (List.Perm.swap _ _ _))
  refine ⟨rfl, (alone_ok m8 nY q8).mono ?_⟩
  rintro _ w9 ⟨rfl, r9, m9, p9, u9⟩
  have hcn := hf.cn
  have hnb := hf.nb
  have nt : nm (.t e.id) < b.r.n := hf.fr.kn _ ⟨_, okT he, rfl⟩
  have nb : nm (.b e.id) < b.r.n := hf.fr.kn _ ⟨_, okB he, rfl⟩
  refine ⟨rfl, (drop_ok m9 (by omega) (x := nm (.t e.id)) (by unfold okN; omega)).mono ?_⟩
  rintro _ wA ⟨rfl, bA, mA, FA, rA, uA⟩
  rw [← FA]
  refine ⟨rfl, (drop_ok mA (by simp; omega) (x := nm (.b e.id)) (by unfold okN; omega)).mono ?_⟩
  rintro _ wB ⟨rfl, bB, mB, FB, rB, uB⟩
  rw [← FB]
  refine ⟨rfl, hb_ldM (j := 2) mB.hf rfl (mB.ge.del KTe (x := e.id) hi fun wC gC kC => ⟨rfl, ?_⟩)⟩
  obtain ⟨mC, uC⟩ := mB.mapE gC kC
  have f9 := fin r9 (p9.trans (by
    have e1 : [nm (.b e.id)] :: Y :: [nm (.t e.id)] :: X :: R = [[nm (.b e.id)], Y] ++ ([[nm (.t e.id)], X] ++ R) := rfl
    have e2 : [nm (.t e.id)] :: X :: [nm (.b e.id)] :: Y :: R = [[nm (.t e.id)], X] ++ ([[nm (.b e.id)], Y] ++ R) := rfl
    rw [e1, e2, ← List.append_assoc, ← List.append_assoc]
    exact List.perm_append_comm.append_right _))
  have hz : cutC es e.id = 0 := by unfold cutC; rw [if_neg hb, if_neg (fun hh => hh hin)]
  have e2 : cutEr es e.id = noE es e.id := by unfold cutEr; rw [if_pos hz]
  rw [e2, hz]
  have er : bB.r = b.r := rB.trans rA
  rw [← er] at f9
  refine ⟨Fe bB, rfl, ⟨bB, _, _, _, _, _, _, _, _, rfl, fun _ => .rfl, mC, f9⟩, upd_iff hF ?_⟩
  exact (((((((Upd.below g15).trans (Upd.below bd)).trans u6).trans u7).trans u8).trans u9).trans uA).trans (uB.trans uC)
end
section
variable {rows : List (List Nat)} {V : Nat → Int × Int × Int} {n : Nat} {vl : List (Int × Nat)} {el : List (Int × (Nat × Nat))} {wl : List (Nat × (Bool × Int))} {sp : List Nat} {T : List (List Nat)} {vs : List Int} {es : List E} {kv ke : Int → Bool} {nm : Pl → Nat}
theorem FI.sumV (f : FI rows V n vl el wl sp T vs es kv ke nm) (rok : RowsOk n rows) {u : Int} (hu : u ∈ vs) : (sm V (rowOf rows (nm (.v u)))).1 = ((cmpV vs es u).length : Int) := by
  rw [← f.countV rok hu]
  have hb := f.row_le rok hu
  have hnb := f.nb
  have key : ∀ (l : List Nat), (∀ x ∈ l, ∃ p, okP vs es p ∧ x = nm p) → (l.map fun i => (V i).1).sum = ((l.countP fun x => !(lkW wl x).1 : Nat) : Int) := by
    intro l
    induction l with
    | nil => intro _; rfl
    | cons x l ih =>
      intro hl
      have ih := ih fun y hy => hl y (by simp [hy])
      obtain ⟨p, hp, rfl⟩ := hl x (by simp)
      rw [List.map_cons, List.sum_cons, List.countP_cons, ih, f.lkw hp]
      cases p with
      | v i => rw [f.mkV i hp]; simp [plOf]; omega
      | t i =>
        obtain ⟨e, he, rfl⟩ := List.mem_map.1 hp
        rw [(f.mkE e he).1]; simp [plOf]
      | b i =>
        obtain ⟨e, he, rfl⟩ := List.mem_map.1 hp
        rw [(f.mkE e he).2]; simp [plOf]
  have hc : (rowOf rows (nm (.v u))).countP (fun x => !(lkW wl x).1) ≤ (rowOf rows (nm (.v u))).length := List.countP_le_length
  unfold sm
  simp only
  rw [key _ fun x hx => f.place rok hu hx]
  exact w64_in (by omega)
end
structure SzI (s0 : World) (R mv : Nat) (x : Int) (X : Int × Int × Int) (c : Int) (ls : Nat → Bool) (vv : Nat → Value) (w : World) : Prop where
  g : Below s0.heap.size s0 w
  a3 : ls 3 = true → vv 3 = .pointer (some ⟨R, 0, none⟩)
  a7 : ls 7 = true → vv 7 = .map (some mv)
  a9 : ls 9 = true → vv 9 = .int .i64 x
  aA : ls 10 = true → vv 10 = .tuple #[.agg #[.int .i64 X.1, .int .i64 X.2.1, .int .i64 X.2.2], .int .i64 c]
  o : ls 15 = true → ls 14 = true
  aB : ls 14 = true → ∃ B cs, vv 14 = .pointer (some ⟨B, 0, none⟩) ∧ s0.heap.size ≤ B ∧ HB w B cs 110 ∧ cs.size = 3 ∧ (ls 15 = true → cs = #[.int .i64 X.1, .int .i64 X.2.1, .int .i64 X.2.2])
theorem FSize_ok {w : World} {Fp : Nat → Prop} {F : Nat} {vs : List Int} {es : List E} {kv ke : Int → Bool} (h : RepE w Fp F vs es kv ke) {u : Int} (hu : W64 u) :
    Calls Tryz.prog 48 #[.pointer (some ⟨F, 0, none⟩), .int .i64 u] w fun e w' => e = .returned (.tuple #[.int .i64 (if u ∈ vs then ((cmpV vs es u).length : Int) else 0), .int .i64 (if u ∈ vs then 0 else 51)]) ∧ Below w.heap.size w w' := by
  obtain ⟨b, rows, V, vl, el, wl, sp, T, nm, rfl, hF, hm, hf⟩ := h
  apply f_euler_Forest_Size.ok
  unfold f_euler_Forest_Size.wp
  have b1 : Below w.heap.size w w.drew := (Below.refl _ _).drew
  have m1 := hm.below b1
  generalize hX : allE b.r.n rows V ((lkV vl u : Nat) : Int) = A
  refine drW_intro ⟨f_euler_Forest_Size.h1_ok .., SzI w.drew b.r.R b.mv (lkV vl u) A.1 A.2, ⟨Below.refl _ _, by simp, by simp, by simp, by simp, by simp, by simp⟩, ?_, ?_⟩
  · refine ⟨?_, ?_, ?_, ?_, ?_, ?_, trivial⟩
    · intro _ ls vv w2 hl hI
      refine hb_ldP0 (m1.below hI.g).hf rfl ⟨hI.g, ?_, ?_, ?_, ?_, hI.o, ?_⟩
      · exact fun _ => rfl
      · exact hI.a7
      · exact hI.a9
      · exact hI.aA
      · exact hI.aB
    · intro _ ls vv w2 hl hI
      refine hb_ldM (j := 1) (m1.below hI.g).hf rfl ⟨hI.g, ?_, ?_, ?_, ?_, hI.o, ?_⟩
      · exact hI.a3
      · exact fun _ => rfl
      · exact hI.a9
      · exact hI.aA
      · exact hI.aB
    · intro _ ls vv w2 hl hI me7 h7
      have := (hI.a7 h7.1).symm.trans h7.2
      injection this with this
      subst this
      refine (m1.below hI.g).lookV hu ⟨_, rfl, hI.g, ?_, ?_, ?_, ?_, hI.o, ?_⟩
      · exact hI.a3
      · exact hI.a7
      · exact fun _ => rfl
      · exact hI.aA
      · exact hI.aB
    · intro _ ls vv w2 hl hI pe3 h3 me7 h7 xe9 h9
      have e3 := (hI.a3 h3.1).symm.trans h3.2
      injection e3 with e3
      subst e3
      have e9 := (hI.a9 h9.1).symm.trans h9.2
      injection e9 with _ e9
      subst e9
      refine (All_ok (m1.below hI.g).rope _).mono ?_
      rintro _ w3 ⟨rfl, g3⟩
      rw [hX]
      refine ⟨_, _, _, _, rfl, hI.g.trans (g3.mono hI.g.size), ?_, ?_, ?_, ?_, hI.o, ?_⟩
      · exact hI.a3
      · exact hI.a7
      · exact hI.a9
      · exact fun _ => rfl
      · intro h14
        have h14 : ls 14 = true := h14
        obtain ⟨B, cs, q1, q2, q3, q4, q5⟩ := hI.aB h14
        exact ⟨B, cs, q1, q2, q3.below g3, q4, q5⟩
    · intro _ ls vv w2 hl hI
      have h15 : ls 15 = false := by
        cases h : ls 15 with
        | false => rfl
        | true => rw [hI.o h] at hl; cases hl
      have no15 : ∀ {p : Prop}, ls 15 = true → p := fun h => by
        rw [h15] at h; cases h
      refine al_new fun w3 b3 e3 s3 hb3 g3 => ⟨hI.g.trans (g3.mono hI.g.size), ?_, ?_, ?_, ?_, fun h => no15 h, ?_⟩
      · exact hI.a3
      · exact hI.a7
      · exact hI.a9
      · exact hI.aA
      · intro _
        exact ⟨b3, _, rfl, by have := hI.g.size; omega, hb3, rfl, fun h => no15 h⟩
    · intro _ ls vv w2 hl hI pe3 h3 me7 h7 xe9 h9 y0 y1 y2 yc hA ae14 hB
      obtain ⟨B, cs, q1, q2, q3, q4, q5⟩ := hI.aB hB.1
      have eB := q1.symm.trans hB.2
      injection eB with eB
      injection eB with eB
      subst eB
      have eA := (hI.aA hA.1).symm.trans hA.2
      simp only [Value.tuple.injEq, Array.mk.injEq, List.cons.injEq, Value.agg.injEq, Value.int.injEq, true_and, and_true] at eA
      obtain ⟨⟨rfl, rfl, rfl⟩, rfl⟩ := eA
      refine hb_st0 q3 (by omega) fun w3 h3' k3 => hb_st (j := 1) h3' (by simp; omega) fun w4 h4 k4 => hb_st (j := 2) h4 (by simp; omega) fun w5 h5 k5 => ⟨hI.g.trans ?_, ?_, ?_, ?_, ?_, ?_, ?_⟩
      · exact ((k3.trans k4).trans k5).below hI.g.size fun i hi e => by omega
      · exact hI.a3
      · exact hI.a7
      · exact hI.a9
      · exact hI.aA
      · exact fun _ => hB.1
      · intro _
        refine ⟨B, _, q1, q2, h5, by simpa using q4, fun _ => ?_⟩
        obtain ⟨l⟩ := cs
        match l, q4 with
        | [_, _, _], _ => rfl
  · intro ls vv w2 hI pe3 h3 me7 h7 xe9 h9 y0 y1 y2 yc hA ae14 hB hC
    obtain ⟨B, cs, q1, q2, q3, q4, q5⟩ := hI.aB hB.1
    have eB := q1.symm.trans hB.2
    injection eB with eB
    injection eB with eB
    subst eB
    have eA := (hI.aA hA.1).symm.trans hA.2
    simp only [Value.tuple.injEq, Array.mk.injEq, List.cons.injEq, Value.agg.injEq, Value.int.injEq, true_and, and_true] at eA
    obtain ⟨⟨rfl, rfl, rfl⟩, rfl⟩ := eA
    rw [q5 hC.1] at q3
    have g := b1.trans hI.g
    by_cases hin : u ∈ vs
    · have e0 : A = (sm V (rowOf rows (nm (.v u))), 0) := by
        rw [← hX]
        unfold allE
        rw [(hf.lkv1 hin).1, hf.bd (okV (es := es) hin)]
        simp
      refine sel_f (by rw [e0]; rfl) (hb_ldI0 q3 rfl ⟨?_, g⟩)
      rw [e0, if_pos hin, if_pos hin, hf.sumV hm.rope.rok hin]
    · have e0 : A = ((0, 0, 0), 150) := by
        rw [← hX]
        unfold allE
        rw [(hf.lkv0 u).2 hin]
        simp [Bd]
      refine sel_t (by rw [e0]; rfl) ⟨?_, g⟩
      rw [if_neg hin, if_neg hin]
theorem bit_ok (b : Bool) (w : World) : Calls Tryz.prog 66 #[.bool b] w fun e w' => e = .returned (.int .i64 (bitI b)) ∧ w' = w := by
  apply f_euler_bit.ok
  unfold f_euler_bit.wp
  cases b with
  | true => exact sel_t rfl ⟨rfl, rfl⟩
  | false => exact sel_f rfl ⟨rfl, rfl⟩
theorem bitI_in (b : Bool) : In64 (bitI b) := by cases b <;> exact in64_small (by decide) (by decide)
def kvM (vs : List Int) (kv : Int → Bool) (v : Int) (on : Bool) : Int → Bool := fun i => if v ∈ vs ∧ i = v then on else kv i
def keM (es : List E) (ke : Int → Bool) (k : Int) (on : Bool) : Int → Bool := fun i => if k ∈ es.map E.id ∧ i = k then on else ke i
section
variable {w : World} {Fp : Nat → Prop} {F : Nat} {vs : List Int} {es : List E} {kv ke : Int → Bool}
theorem MarkV_ok (h : RepE w Fp F vs es kv ke) {v : Int} (hv : W64 v) (on : Bool) :
    Calls Tryz.prog 67 #[.pointer (some ⟨F, 0, none⟩), .int .i64 v, .bool on] w fun e w' => e = .returned (.int .i64 (if v ∈ vs then 0 else 51)) ∧ RepE w' Fp F vs es (kvM vs kv v on) ke ∧ Upd Fp w w' Fp := by
  have hR := h
  obtain ⟨b, rows, V, vl, el, wl, sp, T, nm, rfl, hF, hm, hf⟩ := h
  apply f_euler_Forest_MarkV.ok
  unfold f_euler_Forest_MarkV.wp
  refine hb_ldM (j := 1) hm.hf rfl (hm.lookV hv ⟨_, rfl, ?_⟩)
  by_cases hin : v ∈ vs
  case neg =>
    refine sel_t (by rw [(hf.lkv0 v).2 hin]; rfl) ⟨by rw [if_neg hin], ?_, .below (Below.refl _ _)⟩
    have : kvM vs kv v on = kv := by funext i; unfold kvM; simp [hin]
    rw [this]; exact hR
  rw [(hf.lkv1 hin).1]
  refine sel_f (hf.lkv1 hin).2 (drW_intro ?_)
  have bd : Below w.heap.size w w.drew := (Below.refl _ _).drew
  have m1 := hm.below bd
  refine ⟨fun w' => w' = w.drew, rfl, _, fun w' e => by subst e; exact (m1.hf.cell 0).trans rfl, (bit_ok on _).mono ?_⟩
  rintro _ w2 ⟨rfl, rfl⟩
  refine ⟨_, rfl, rfl, (Set_ok m1.rope _ 1 (bitI on) 0 ⟨in64_small (by decide) (by decide), bitI_in on, in64_small (by decide) (by decide)⟩).mono ?_⟩
  rintro _ w3 ⟨rfl, hr3, k3⟩
  obtain ⟨m3, u3⟩ := m1.ropeT hr3 k3
  have bi := hf.bd (okV (es := es) hin)
  have eV : setV b.r.n V ((nm (.v v) : Nat) : Int) (1, bitI on, 0) = fun j => if j = nm (.v v) then (1, bitI on, 0) else V j := by unfold setV; rw [bi]; simp
  rw [eV] at m3
  have ek : kvM vs kv v on = fun i => if i = v then on else kv i := by funext i; unfold kvM; simp [hin]
  refine ⟨_, rfl, by unfold cutE; rw [bi, if_pos hin]; rfl, ?_, ?_⟩
  · rw [ek]; exact ⟨b, _, _, _, _, _, _, _, _, rfl, hF, m3, hf.markV hin on⟩
  · have u := (Upd.below (F := Fe b) bd).trans u3
    exact ⟨u.kp.mono fun k _ hk => (hF k).2 hk, fun k hk => .inl hk⟩
theorem MarkE_ok (h : RepE w Fp F vs es kv ke) {i : Int} (hi : W64 i) (on : Bool) :
    Calls Tryz.prog 42 #[.pointer (some ⟨F, 0, none⟩), .int .i64 i, .bool on] w fun e w' => e = .returned (.int .i64 (if i ∈ es.map E.id then 0 else 152)) ∧ RepE w' Fp F vs es kv (keM es ke i on) ∧ Upd Fp w w' Fp := by
  have hR := h
  obtain ⟨b, rows, V, vl, el, wl, sp, T, nm, rfl, hF, hm, hf⟩ := h
  apply f_euler_Forest_MarkE.ok
  unfold f_euler_Forest_MarkE.wp
  refine hb_ldM (j := 2) hm.hf rfl (hm.lookE hi ⟨_, _, _, rfl, ?_⟩)
  refine al_new fun w3 b3 e3 s3 hb3 g3 => hb_st0 hb3 (by simp) fun w4 hb4 k4 => hb_st (j := 1) hb4 (by simp) fun w5 hb5 k5 => ?_
  have g35 : Below w.heap.size w w5 := g3.trans ((k4.trans k5).below g3.size fun i hi e => by omega)
  rw [hf.lke]
  by_cases hin : i ∈ es.map E.id
  case neg =>
    refine sel_t (by rw [decide_eq_false hin]; rfl) ⟨by rw [if_neg hin], ?_, .below g35⟩
    have : keM es ke i on = ke := by funext j; unfold keM; simp only [hin, false_and, if_false]
    rw [this]; exact hR.below g35
  refine sel_f (by rw [decide_eq_true hin]; rfl) (drW_intro ?_)
  obtain ⟨e, he, rfl⟩ := List.mem_map.1 hin
  rw [hf.lke' he] at hb5
  have hb5d : HB w5.drew b3 #[.int .i64 ((nm (.t e.id) : Nat) : Int), .int .i64 ((nm (.b e.id) : Nat) : Int)] 118 := hb5
  have bd : Below w5.heap.size w5 w5.drew := (Below.refl _ _).drew
  have g5 := g35.trans (bd.mono g35.size)
  have m5 := hm.below g5
  refine ⟨fun w' => w' = w5.drew, rfl, _, fun w' e => by subst e; exact (m5.hf.cell 0).trans rfl, _, fun w' e => by subst e; exact (hb5d.cell 0).trans rfl, (bit_ok on _).mono ?_⟩
  rintro _ w6 ⟨rfl, rfl⟩
  refine ⟨_, rfl, rfl, (Set_ok m5.rope _ 0 0 (bitI on) ⟨in64_small (by decide) (by decide), in64_small (by decide) (by decide), bitI_in on⟩).mono ?_⟩
  rintro _ w7 ⟨rfl, hr3, k3⟩
  obtain ⟨m3, u3⟩ := m5.ropeT hr3 k3
  have bi := hf.bd (okT he)
  have eV : setV b.r.n V ((nm (.t e.id) : Nat) : Int) (0, 0, bitI on) = fun j => if j = nm (.t e.id) then (0, 0, bitI on) else V j := by unfold setV; rw [bi]; simp
  rw [eV] at m3
  have ek : keM es ke e.id on = fun i => if i = e.id then on else ke i := by funext j; unfold keM; simp only [hin, true_and]
  refine ⟨_, rfl, by unfold cutE; rw [bi, if_pos hin]; rfl, ?_, ?_⟩
  · rw [ek]; exact ⟨b, _, _, _, _, _, _, _, _, rfl, hF, m3, hf.markE he on⟩
  · have u := (Upd.below (F := Fe b) g5).trans u3
    exact ⟨u.kp.mono fun k _ hk => (hF k).2 hk, fun k hk => .inl hk⟩
end
def SomeS (l : List Int) (k : Int → Bool) (x : Int) : Prop := (x ∈ l ∧ k x = true) ∨ (x = 0 ∧ ∀ y ∈ l, k y = false)
section
variable {rows : List (List Nat)} {V : Nat → Int × Int × Int} {n : Nat} {vl : List (Int × Nat)} {el : List (Int × (Nat × Nat))} {wl : List (Nat × (Bool × Int))} {sp : List Nat} {T : List (List Nat)} {vs : List Int} {es : List E} {kv ke : Int → Bool} {nm : Pl → Nat}
theorem FI.someV (f : FI rows V n vl el wl sp T vs es kv ke nm) (rok : RowsOk n rows) {u : Int} (hu : u ∈ vs) : SomeS (cmpV vs es u) kv (lkW wl (firstMV V (rowOf rows (nm (.v u))))).2 ∧ firstMV V (rowOf rows (nm (.v u))) ≤ n := by
  have hrow := f.row rok (okV (es := es) hu)
  unfold firstMV
  cases hf : (rowOf rows (nm (.v u))).find? fun i => decide ((V i).2.1 > 0) with
  | none =>
    rw [List.find?_eq_none] at hf
    simp only [Option.getD_none]
    refine ⟨.inr ⟨by unfold lkW; rw [f.lz]; rfl, fun y hy => ?_⟩, by omega⟩
    obtain ⟨hy1, hy2⟩ := cmpV_mem.1 hy
    have e := (f.same rok hu hy1).2 hy2
    have := hf (nm (.v y)) (by rw [e]; exact (f.row rok (okV (es := es) hy1)).2.1)
    rw [f.mkV y hy1] at this
    cases hk : kv y with
    | false => rfl
    | true => rw [hk] at this; simp [bitI] at this
  | some x =>
    have h1 := List.mem_of_find?_eq_some hf
    have h2 := List.find?_some hf
    simp only [Option.getD_some]
    obtain ⟨p, hp, rfl⟩ := f.place rok hu h1
    refine ⟨.inl ?_, Nat.le_of_lt (f.fr.kn _ ⟨p, hp, rfl⟩)⟩
    rw [f.lkw hp]
    cases p with
    | v i =>
      rw [f.mkV i hp] at h2
      refine ⟨cmpV_mem.2 ⟨hp, (f.same rok hu hp).1 (rok.rowOf_eq (f.inT hrow.1) h1).symm⟩, ?_⟩
      show kv i = true
      cases hk : kv i with
      | true => rfl
      | false => rw [hk] at h2; simp [bitI] at h2
    | t i =>
      obtain ⟨e, he, rfl⟩ := List.mem_map.1 hp
      rw [(f.mkE e he).1] at h2; simp at h2
    | b i =>
      obtain ⟨e, he, rfl⟩ := List.mem_map.1 hp
      rw [(f.mkE e he).2] at h2; simp at h2
theorem FI.someE (f : FI rows V n vl el wl sp T vs es kv ke nm) (rok : RowsOk n rows) {u : Int} (hu : u ∈ vs) : SomeS (cmpE es u) ke (lkW wl (firstME V (rowOf rows (nm (.v u))))).2 ∧ firstME V (rowOf rows (nm (.v u))) ≤ n := by
  have hrow := f.row rok (okV (es := es) hu)
  unfold firstME
  cases hf : (rowOf rows (nm (.v u))).find? fun i => decide ((V i).2.2 > 0) with
  | none =>
    rw [List.find?_eq_none] at hf
    simp only [Option.getD_none]
    refine ⟨.inr ⟨by unfold lkW; rw [f.lz]; rfl, fun y hy => ?_⟩, by omega⟩
    obtain ⟨e, he, rfl, hc⟩ := cmpE_mem.1 hy
    have := hf (nm (.t e.id)) ((f.edge rok hu he).2 hc)
    rw [(f.mkE e he).1] at this
    cases hk : ke e.id with
    | false => rfl
    | true => rw [hk] at this; simp [bitI] at this
  | some x =>
    have h1 := List.mem_of_find?_eq_some hf
    have h2 := List.find?_some hf
    simp only [Option.getD_some]
    obtain ⟨p, hp, rfl⟩ := f.place rok hu h1
    refine ⟨.inl ?_, Nat.le_of_lt (f.fr.kn _ ⟨p, hp, rfl⟩)⟩
    rw [f.lkw hp]
    cases p with
    | v i => rw [f.mkV i hp] at h2; simp at h2
    | t i =>
      obtain ⟨e, he, rfl⟩ := List.mem_map.1 hp
      rw [(f.mkE e he).1] at h2
      refine ⟨cmpE_mem.2 ⟨e, he, rfl, (f.edge rok hu he).1 h1⟩, ?_⟩
      show ke e.id = true
      cases hk : ke e.id with
      | true => rfl
      | false => rw [hk] at h2; simp [bitI] at h2
    | b i =>
      obtain ⟨e, he, rfl⟩ := List.mem_map.1 hp
      rw [(f.mkE e he).2] at h2; simp at h2
end
section
variable {w : World} {Fp : Nat → Prop} {F : Nat} {vs : List Int} {es : List E} {kv ke : Int → Bool}
theorem SomeV_ok (h : RepE w Fp F vs es kv ke) {u : Int} (hu : W64 u) :
    Calls Tryz.prog 73 #[.pointer (some ⟨F, 0, none⟩), .int .i64 u] w fun e w' => ∃ x, e = .returned (.tuple #[.int .i64 x, .int .i64 (if u ∈ vs then 0 else 51)]) ∧ (u ∈ vs → SomeS (cmpV vs es u) kv x) ∧ (u ∉ vs → x = 0) ∧ Below w.heap.size w w' := by
  obtain ⟨b, rows, V, vl, el, wl, sp, T, nm, rfl, hF, hm, hf⟩ := h
  apply f_euler_Forest_SomeV.ok
  unfold f_euler_Forest_SomeV.wp
  have key : Calls Tryz.prog 96 #[.pointer (some ⟨b.F, 0, none⟩), .int .i64 u, .func (.func 98) #[] #[]] w fun e w' => ∃ x, e = .returned (.tuple #[.int .i64 x, .int .i64 (if u ∈ vs then 0 else 51)]) ∧ (u ∈ vs → SomeS (cmpV vs es u) kv x) ∧ (u ∉ vs → x = 0) ∧ Below w.heap.size w w' := by
    apply f_euler_Forest_some_V.ok
    unfold f_euler_Forest_some_V.wp
    have b1 : Below w.heap.size w w.drew := (Below.refl _ _).drew
    have m1 := hm.below b1
    refine drW_intro ⟨fun w' => w' = w.drew, rfl, _, fun w' e => by subst e; exact (m1.hf.cell 0).trans rfl, _, fun w' e => by subst e; exact (m1.hf.cell 1).trans rfl, ?_⟩
    refine m1.lookV hu ⟨_, rfl, rfl, ?_⟩
    apply f_euler_load_Seek_V.ok
    refine Seek_okV m1.rope (fun i _ _ => by have := (hf.mb i).2.1; omega) _ _ fun w2 g2 => ?_
    have g := b1.trans g2
    refine ⟨_, _, rfl, ?_⟩
    by_cases hin : u ∈ vs
    case neg =>
      have : seekEV b.r.n rows V ((lkV vl u : Nat) : Int) = (0, 150) := by unfold seekEV; rw [(hf.lkv0 u).2 hin]; simp [Bd]
      rw [this]
      exact sel_t rfl ⟨0, by rw [if_neg hin], fun h => absurd h hin, fun _ => rfl, g⟩
    have hs : seekEV b.r.n rows V ((lkV vl u : Nat) : Int) = (((firstMV V (rowOf rows (nm (.v u))) : Nat) : Int), 0) := by
      unfold seekEV
      rw [(hf.lkv1 hin).1, hf.bd (okV (es := es) hin)]
      simp
    rw [hs]
    obtain ⟨h1, h2⟩ := hf.someV hm.rope.rok hin
    have hnb := hf.nb
    have m2 := m1.below g2
    refine sel_f rfl (hb_ldM (j := 3) m2.hf rfl (m2.lookW (x := firstMV V (rowOf rows (nm (.v u)))) (by unfold okN; omega) ⟨_, _, rfl, _, by rw [if_pos hin], fun _ => h1, fun h => absurd hin h, g⟩))
  refine key.mono ?_
  rintro _ w2 ⟨x, rfl, h1, h2, g⟩
  exact ⟨_, _, rfl, x, rfl, h1, h2, g⟩
theorem SomeE_ok (h : RepE w Fp F vs es kv ke) {u : Int} (hu : W64 u) :
    Calls Tryz.prog 71 #[.pointer (some ⟨F, 0, none⟩), .int .i64 u] w fun e w' => ∃ x, e = .returned (.tuple #[.int .i64 x, .int .i64 (if u ∈ vs then 0 else 51)]) ∧ (u ∈ vs → SomeS (cmpE es u) ke x) ∧ (u ∉ vs → x = 0) ∧ Below w.heap.size w w' := by
  obtain ⟨b, rows, V, vl, el, wl, sp, T, nm, rfl, hF, hm, hf⟩ := h
  apply f_euler_Forest_SomeE.ok
  unfold f_euler_Forest_SomeE.wp
  have key : Calls Tryz.prog 96 #[.pointer (some ⟨b.F, 0, none⟩), .int .i64 u, .func (.func 97) #[] #[]] w fun e w' => ∃ x, e = .returned (.tuple #[.int .i64 x, .int .i64 (if u ∈ vs then 0 else 51)]) ∧ (u ∈ vs → SomeS (cmpE es u) ke x) ∧ (u ∉ vs → x = 0) ∧ Below w.heap.size w w' := by
    apply f_euler_Forest_some_E.ok
    unfold f_euler_Forest_some_E.wp
    have b1 : Below w.heap.size w w.drew := (Below.refl _ _).drew
    have m1 := hm.below b1
    refine drW_intro ⟨fun w' => w' = w.drew, rfl, _, fun w' e => by subst e; exact (m1.hf.cell 0).trans rfl, _, fun w' e => by subst e; exact (m1.hf.cell 1).trans rfl, ?_⟩
    refine m1.lookV hu ⟨_, rfl, rfl, ?_⟩
    apply f_euler_load_Seek_E.ok
    refine Seek_okE m1.rope (fun i _ _ => by have := (hf.mb i).2.2; omega) _ _ fun w2 g2 => ?_
    have g := b1.trans g2
    refine ⟨_, _, rfl, ?_⟩
    by_cases hin : u ∈ vs
    case neg =>
      have : seekEE b.r.n rows V ((lkV vl u : Nat) : Int) = (0, 150) := by unfold seekEE; rw [(hf.lkv0 u).2 hin]; simp [Bd]
      rw [this]
      exact sel_t rfl ⟨0, by rw [if_neg hin], fun h => absurd h hin, fun _ => rfl, g⟩
    have hs : seekEE b.r.n rows V ((lkV vl u : Nat) : Int) = (((firstME V (rowOf rows (nm (.v u))) : Nat) : Int), 0) := by
      unfold seekEE
      rw [(hf.lkv1 hin).1, hf.bd (okV (es := es) hin)]
      simp
    rw [hs]
    obtain ⟨h1, h2⟩ := hf.someE hm.rope.rok hin
    have hnb := hf.nb
    have m2 := m1.below g2
    refine sel_f rfl (hb_ldM (j := 3) m2.hf rfl (m2.lookW (x := firstME V (rowOf rows (nm (.v u)))) (by unfold okN; omega) ⟨_, _, rfl, _, by rw [if_pos hin], fun _ => h1, fun h => absurd hin h, g⟩))
  refine key.mono ?_
  rintro _ w2 ⟨x, rfl, h1, h2, g⟩
  exact ⟨_, _, rfl, x, rfl, h1, h2, g⟩
end
def nof : Int → Bool := fun _ => false
theorem New_ok' {w : World} {A : Option Addr} {sl : List Int} {n c : Nat} (hr : RI w A sl) (hn : n = sl.length) (hc0 : A = none → sl.length = 0 ∧ c = 0) (hlen : sl.length ≤ 17592186044416) :
    Calls Tryz.prog 52 #[.slice A n c] w fun e w' => ∃ F Fp, e = .returned (.pointer (some ⟨F, 0, none⟩)) ∧ RepE w' Fp F [] [] nof nof ∧ (∀ k, Fp k → w.heap.size ≤ k) ∧ Below w.heap.size w w' := by
  subst hn
  apply f_euler_New.ok
  unfold f_euler_New.wp
  refine (New_ok hr hc0 hlen).mono ?_
  rintro _ w1 ⟨r, rfl, hrope, rn, rB, g1⟩
  have h1 := hrope fun _ => (0, 0, 0)
  refine ⟨_, rfl, ?_⟩
  show alW w1 (.map #[] 0) _
  have am : ∀ {w : World} {K : Nat → World → Prop}, (∀ w' b, b = w.heap.size → w'.heap.size = b + 1 → w'.heap[b]? = some (Obj.map #[] 0) → w' = w.alloc (.map #[] 0) → Below w.heap.size w w' → K b w') → alW w (.map #[] 0) K :=
    fun {w K} h => h _ _ rfl (by simp) (MapKept.heap_alloc w _).1 rfl ((Below.refl _ _).alloc (Nat.le_refl _) _)
  refine am fun w2 bv ev sv hv qv gv => am fun w3 be ee se he qe ge => am fun w4 bw ew sw hw qw gw => al_new fun w5 bF eF sF hF gF => ?_
  have g13 : Below w1.heap.size w1 w5 := ((gv.trans (ge.mono (by omega))).trans (gw.mono (by omega))).trans (gF.mono (by omega))
  have hr5 := h1.below g13
  have lt1 := h1.lt
  have sap1 := h1.sap
  have mv0 : GM w2 eI eN W64 bv [] := by rw [qv, ev]; exact GM.new w1
  have me0 : GM w3 eI eA W64 be [] := by rw [qe, ee]; exact GM.new w2
  have mw0 : GM w4 eN eP okN bw [] := by rw [qw, ew]; exact GM.new w3
  have em : EM w5 ⟨bF, r, bv, be, bw, none, 0⟩ [] (fun _ => (0, 0, 0)) [] [] [] [] := by
    refine ⟨hF, hr5, ((mv0.below ge).below gw).below gF, (me0.below gw).below gF, mw0.below gF, OwnI.none _ _ _, ?_, (fun a ha => by cases ha), fun a ha => ?_⟩
    · simp only [EB.ix, List.nodup_cons, List.mem_cons, List.not_mem_nil, or_false, not_or, not_false_eq_true, List.nodup_nil, and_true]
      omega
    · have := sap1 a ha
      simp only [EB.ix, List.mem_cons, List.not_mem_nil, or_false, not_or]
      omega
  have fi : FI [] (fun _ => (0, 0, 0)) r.n [] [] [] [] [] [] [] nof nof fun _ => 0 := by
    have no : ∀ {p}, ¬ okP [] [] p := fun {p} h => by cases p <;> simp [okP] at h
    exact ⟨⟨fun p q hp => absurd hp no, by simp, by simp⟩, by simp, by simp, by simp, by simp, by simp, fun i => by simp [lk], rfl, fun i => by simp [lk], fun p hp => absurd hp no, rfl, ⟨.refl _, by simp, by simp, fun x ⟨p, hp, _⟩ => absurd hp no⟩, fun p hp => absurd hp no, by simp, rfl, by rw [rn]; rfl, by rw [rn]; decide, by simp, by simp, fun x => by simp⟩
  refine ⟨bF, Fe _, rfl, ⟨_, _, _, _, _, _, _, _, _, rfl, fun _ => .rfl, em, fi⟩, ?_, g1.trans (g13.mono g1.size)⟩
  have s1 := g1.size
  have lR : w.heap.size ≤ r.R := by have := lt1.2.2.1; omega
  have lg : w.heap.size ≤ r.g := by
    obtain ⟨N, ts, hp, _⟩ := h1
    have := hp.g_lt.1; omega
  rintro k (hk | ⟨a, ha, rfl⟩ | ⟨a, ha, rfl⟩)
  · simp only [EB.ix, List.mem_cons, List.not_mem_nil, or_false] at hk
    omega
  · cases ha
  · have ha : r.As = some a := ha
    have := (sap1 a ha).1; omega
end Go.Proofs.YtbhhbnnmdekjiaaGreat.Rd
