/- What holds of a forest of closed walks, in plain terms: its vertices, edges, against its maps and rows; a vertex and an edge that come and go · A forest that tells how far its trees reach, by its vertices and edges: New, AddV, DelV, Len · A forest that tells how far its trees reach: reach, Span, Ends, Distance · A forest that tells how far its trees reach: Link · A forest that tells how far its trees reach: Cut · One call of a script, on a forest that tells how far its trees reach and on the document's; scripts · A forest that tells how far its trees reach, in a law: steps; the document's example · What a row tells of a slice of records of whole numbers · What a row tells of a slice of calls (a number and an edge each), and of an edge · How long a slice among the arguments can be · What a row tells of seeds and of a script's calls; a call taken up · SpanOrder, walked: the document's forest goes through the script; a second forest filled backwards · SpanOrder, walked: two forests of the same edges tell the same -/
import Derived.Test.YtklnlnjgaadjbaaZ6H
import Derived.Test.YtklnlnjgaadjbaaZ6F
import Derived.Test.YtklnlnjgaadjbaaZ6B
import Derived.Test.YtklnlnjgaadjbaaZ6D
import Derived.ChangeArms
import Derived.DataReads
import Derived.WalkKit
import Derived.SizedLaws
import Derived.Test.YtklnlnjgaadjbaaZ6C
set_option linter.unusedSimpArgs false
set_option linter.unusedVariables false
namespace Go.Proofs.Ytklnlnjgaadjbaa.Rd
open Go.Dn Go.RowKit
set_option maxRecDepth 100000
def one1 (x : Nat) : List Nat := [x]
structure Fr (rows : List (List Nat)) (n : Nat) (sp : List Nat) (T : List (List Nat)) (K : Nat → Prop) : Prop where
  rw : rows.Perm (sp.map one1 ++ T)
  spn : sp.Nodup
  spd : ∀ x ∈ sp, ¬ K x
  kn : ∀ x, K x → x < n
theorem Fr.make {rows rows' : List (List Nat)} {n n' : Nat} {sp sp' : List Nat} {T : List (List Nat)} {K : Nat → Prop} {x : Nat} (f : Fr rows n sp T K) (rok : RowsOk n rows) (hp : 0 < n) (it : (sp = sp' ++ [x] ∧ rows' = rows ∧ n' = n) ∨ (sp = [] ∧ sp' = [] ∧ x = n ∧ rows' = rows ++ [[x]] ∧ n' = n + 1)) :
    Fr rows' n' sp' ([x] :: T) (fun y => K y ∨ y = x) ∧ ¬ K x ∧ 0 < x ∧ x < n' ∧ n ≤ n' ∧ n' + sp.length = n + sp'.length + 1 ∧ (n' = n ∨ (sp' = [] ∧ n' = n + 1)) ∧ (∀ y ∈ sp', y ∈ sp) := by
  rcases it with ⟨rfl, rfl, rfl⟩ | ⟨rfl, rfl, rfl, rfl, rfl⟩
  · have hx : [x] ∈ rows' := f.rw.mem_iff.2 (by simp [one1])
    have hr := (rok.mem x).1 ⟨_, hx, by simp⟩
    have nd := f.spn
    rw [List.nodup_append] at nd
    refine ⟨⟨?_, nd.1, ?_, ?_⟩, f.spd x (by simp), hr.1, hr.2, Nat.le_refl _, by simp; omega, .inl rfl, fun y hy => by simp [hy]⟩
    · have := f.rw
      rw [List.map_append] at this
      simpa [one1] using this
    · intro y hy hk
      rcases hk with hk | rfl
      · exact f.spd y (by simp [hy]) hk
      · exact nd.2.2 y hy y (by simp) rfl
    · rintro y (hy | rfl)
      · exact f.kn y hy
      · exact hr.2
  · refine ⟨⟨?_, by simp, by simp, ?_⟩, fun hk => ?_, hp, by omega, by omega, by simp, .inr ⟨rfl, rfl⟩, by simp⟩
    · have := f.rw
      simp only [List.map_nil, List.nil_append] at this ⊢
      exact (List.perm_append_comm (l₁ := rows)).trans (this.cons _)
    · rintro y (hy | rfl)
      · have := f.kn y hy; omega
      · omega
    · have := f.kn _ hk; omega
def Kn (vs : List Int) (es : List E) (nm : Pl → Nat) (x : Nat) : Prop := ∃ p, okP vs es p ∧ x = nm p
structure FI (rows : List (List Nat)) (V : Nat → Int) (n : Nat) (vl : List (Int × Nat)) (el : List (Int × (Nat × Nat))) (sp : List Nat) (T : List (List Nat)) (vs : List Int) (es : List E) (nm : Pl → Nat) : Prop where
  N : Nm vs es nm
  vnd : vs.Nodup
  lv : ∀ i, lk vl i = if i ∈ vs then some (nm (.v i)) else none
  vln : vl.length = vs.length
  le : ∀ i, lk el i = if i ∈ es.map E.id then some (nm (.t i), nm (.b i)) else none
  eln : el.length = es.length
  fr : Fr rows n sp T (Kn vs es nm)
  pos : ∀ p, okP vs es p → 0 < nm p
  tt : ∀ l ∈ T, Tour vs es nm l
  tc : T.length + es.length = vs.length
  cn : n = 1 + vs.length + 2 * es.length + sp.length
  nb : n ≤ 6145
  mkV : ∀ v ∈ vs, V (nm (.v v)) = v
  mkE : ∀ e ∈ es, V (nm (.t e.id)) = 0 ∧ V (nm (.b e.id)) = 0
section
variable {rows : List (List Nat)} {V : Nat → Int} {n : Nat} {vl : List (Int × Nat)} {el : List (Int × (Nat × Nat))} {sp : List Nat} {T : List (List Nat)} {vs : List Int} {es : List E} {nm : Pl → Nat}
theorem FI.row (f : FI rows V n vl el sp T vs es nm) (rok : RowsOk n rows) {p : Pl} (hp : okP vs es p) : rowOf rows (nm p) ∈ T ∧ nm p ∈ rowOf rows (nm p) ∧ Tour vs es nm (rowOf rows (nm p)) := by
  have hk : Kn vs es nm (nm p) := ⟨p, hp, rfl⟩
  obtain ⟨h1, h2⟩ := rok.rowOf_mem ⟨f.pos p hp, f.fr.kn _ hk⟩
  have h3 := f.fr.rw.mem_iff.1 h1
  rw [List.mem_append, List.mem_map] at h3
  rcases h3 with ⟨x, hx, e⟩ | h3
  · rw [← e] at h2
    simp only [one1, List.mem_singleton] at h2
    exact absurd (h2 ▸ hk) (f.fr.spd x hx)
  · exact ⟨h3, h2, f.tt _ h3⟩
theorem FI.inT (f : FI rows V n vl el sp T vs es nm) {l : List Nat} (hl : l ∈ T) : l ∈ rows := f.fr.rw.mem_iff.2 (by simp [hl])
theorem FI.ends (f : FI rows V n vl el sp T vs es nm) (rok : RowsOk n rows) {e : E} (he : e ∈ es) : rowOf rows (nm (.v e.u)) = rowOf rows (nm (.t e.id)) ∧ rowOf rows (nm (.v e.v)) = rowOf rows (nm (.t e.id)) ∧ rowOf rows (nm (.b e.id)) = rowOf rows (nm (.t e.id)) := by
  obtain ⟨h1, h2, h3⟩ := f.row rok (okT he)
  obtain ⟨_, c2, c3, c4⟩ := h3.closed f.N he (.inl h2)
  have hm := f.inT h1
  exact ⟨rok.rowOf_eq hm c3, rok.rowOf_eq hm c4, rok.rowOf_eq hm c2⟩
theorem FI.same (f : FI rows V n vl el sp T vs es nm) (rok : RowsOk n rows) {u v : Int} (hu : u ∈ vs) (hv : v ∈ vs) : rowOf rows (nm (.v u)) = rowOf rows (nm (.v v)) ↔ Cn es u v := by
  constructor
  · intro e
    obtain ⟨h1, h2, h3⟩ := f.row rok (okV (es := es) hu)
    obtain ⟨k1, k2, k3⟩ := f.row rok (okV (es := es) hv)
    rw [← e] at k2
    exact h3.conn f.N hu hv h2 k2
  · rintro ⟨p, hp⟩
    exact (hp.inv (Q := fun x => rowOf rows (nm (.v u)) = rowOf rows (nm (.v x))) (fun e he => by rw [(f.ends rok he).1, (f.ends rok he).2.1])) rfl
theorem FI.edge (f : FI rows V n vl el sp T vs es nm) (rok : RowsOk n rows) {u : Int} (hu : u ∈ vs) {e : E} (he : e ∈ es) : nm (.t e.id) ∈ rowOf rows (nm (.v u)) ↔ Cn es u e.u := by
  obtain ⟨h1, h2, h3⟩ := f.row rok (okT he)
  obtain ⟨k1, k2, k3⟩ := f.row rok (okV (es := es) hu)
  rw [← f.same rok hu (f.N.ends e he).1, (f.ends rok he).1]
  constructor
  · intro h; exact (rok.rowOf_eq (f.inT k1) h).symm
  · intro h; rw [h]; exact h2
theorem FI.le_vs (f : FI rows V n vl el sp T vs es nm) : es.length ≤ vs.length := by have := f.tc; omega
open Classical in
noncomputable def setN (nm : Pl → Nat) (p : Pl) (x : Nat) : Pl → Nat := fun q => if q = p then x else nm q
theorem setN_same (nm : Pl → Nat) (p : Pl) (x : Nat) : setN nm p x p = x := by simp [setN]
theorem setN_ne {nm : Pl → Nat} {p q : Pl} (x : Nat) (h : q ≠ p) : setN nm p x q = nm q := by simp [setN, h]
theorem lk_notmem {κ β : Type} [DecidableEq κ] {m : List (κ × β)} {x : κ} (h : lk m x = none) : hasK m x = false := by
  rw [Bool.eq_false_iff]
  intro hh
  obtain ⟨v, hv⟩ := hasK_iff.1 hh
  exact lk_none_iff.1 h _ hv rfl
theorem FI.addV (f : FI rows V n vl el sp T vs es nm) (rok : RowsOk n rows) (hpos : 0 < n) {v : Int} (hv : v ∉ vs) (hl : vs.length < 2048) {x n' : Nat} {sp' : List Nat} {rows' : List (List Nat)}
    (it : (sp = sp' ++ [x] ∧ rows' = rows ∧ n' = n) ∨ (sp = [] ∧ sp' = [] ∧ x = n ∧ rows' = rows ++ [[x]] ∧ n' = n + 1)) :
    FI rows' (fun i => if i = x then v else V i) n' (putK vl v x) el sp' ([x] :: T) (v :: vs) es (setN nm (.v v) x) := by
  obtain ⟨fr, nk, x0, xn, nn, cnt, cnb, sub⟩ := f.fr.make rok hpos it
  have ok' : ∀ {q}, okP (v :: vs) es q → q = .v v ∨ (okP vs es q ∧ q ≠ .v v) := by
    intro q hq
    cases q with
    | v i =>
      rcases List.mem_cons.1 hq with rfl | h
      · exact .inl rfl
      · exact .inr ⟨h, fun e => by injection e with e; exact hv (e ▸ h)⟩
    | t i => exact .inr ⟨hq, fun e => by cases e⟩
    | b i => exact .inr ⟨hq, fun e => by cases e⟩
  have nv : ∀ {i}, i ∈ vs → Pl.v i ≠ .v v := fun hi e => by injection e with e; exact hv (e ▸ hi)
  have nx : ∀ {p}, okP vs es p → nm p ≠ x := fun {p} hp e => nk ⟨p, hp, e.symm⟩
  have N' : Nm (v :: vs) es (setN nm (.v v) x) := by
    refine ⟨fun p q hp hq e => ?_, f.N.ids, fun e he => ⟨List.mem_cons.2 (.inr (f.N.ends e he).1), List.mem_cons.2 (.inr (f.N.ends e he).2)⟩⟩
    rcases ok' hp with rfl | ⟨hp, np⟩ <;> rcases ok' hq with rfl | ⟨hq, nq⟩
    · rfl
    · rw [setN_same, setN_ne _ nq] at e; exact absurd e.symm (nx hq)
    · rw [setN_same, setN_ne _ np] at e; exact absurd e (nx hp)
    · rw [setN_ne _ np, setN_ne _ nq] at e; exact f.N.inj _ _ hp hq e
  have lvv : lk vl v = none := by rw [f.lv, if_neg hv]
  have lwl : (v :: vs).length = vs.length + 1 := rfl
  have hes := f.le_vs
  refine ⟨N', List.nodup_cons.2 ⟨hv, f.vnd⟩, ?_, ?_, ?_, f.eln, ⟨fr.rw, fr.spn, ?_, ?_⟩, ?_, ?_, ?_, ?_, ?_, ?_, ?_⟩
  · intro i
    rw [lk_putK]
    by_cases e : v = i
    · subst e; rw [if_pos rfl, if_pos (List.mem_cons.2 (.inl rfl)), setN_same]
    · rw [if_neg e, f.lv]
      by_cases hi : i ∈ vs
      · rw [if_pos hi, if_pos (List.mem_cons.2 (.inr hi)), setN_ne _ (nv hi)]
      · rw [if_neg hi, if_neg fun hh => by rcases List.mem_cons.1 hh with h | h; exact e h.symm; exact hi h]
  · rw [length_putK, lk_notmem lvv, lwl]; simp [f.vln]
  · intro i
    rw [f.le, setN_ne _ (fun e => by cases e), setN_ne _ (fun e => by cases e)]
  · rintro y hy ⟨p, hp, rfl⟩
    rcases ok' hp with rfl | ⟨hp, np⟩
    · rw [setN_same] at hy; exact fr.spd x hy (.inr rfl)
    · rw [setN_ne _ np] at hy; exact fr.spd _ hy (.inl ⟨p, hp, rfl⟩)
  · rintro y ⟨p, hp, rfl⟩
    rcases ok' hp with rfl | ⟨hp, np⟩
    · rw [setN_same]; exact xn
    · rw [setN_ne _ np]; exact fr.kn _ (.inl ⟨p, hp, rfl⟩)
  · intro p hp
    rcases ok' hp with rfl | ⟨hp, np⟩
    · rw [setN_same]; exact x0
    · rw [setN_ne _ np]; exact f.pos p hp
  · intro l hl
    rcases List.mem_cons.1 hl with rfl | hl
    · have := Tour.one (vs := (v :: vs)) (es := es) (nm := setN nm (.v v) x) (v := v) (List.mem_cons.2 (.inl rfl))
      rw [setN_same] at this; exact this
    · exact (f.tt l hl).mono f.N (fun u hu _ => ⟨List.mem_cons.2 (.inr hu), setN_ne _ (nv hu)⟩) fun e he _ => ⟨he, setN_ne _ (fun e => by cases e), setN_ne _ (fun e => by cases e)⟩
  · have := f.tc; simp only [List.length_cons, lwl]; omega
  · have := f.cn; rw [lwl]; omega
  · have := f.nb; have := f.cn
    rcases cnb with e | ⟨e1, e2⟩
    · omega
    · rw [e1] at cnt; simp only [List.length_nil] at cnt; omega
  · intro u hu
    rcases List.mem_cons.1 hu with rfl | hu
    · simp [setN_same]
    · simp only [setN_ne _ (nv hu), if_neg (nx (okV (es := es) hu))]; exact f.mkV u hu
  · intro e he
    simp only [setN_ne _ (show Pl.t e.id ≠ .v v by intro h; cases h), setN_ne _ (show Pl.b e.id ≠ .v v by intro h; cases h), if_neg (nx (okT he)), if_neg (nx (okB he))]
    exact f.mkE e he
theorem FI.degT (f : FI rows V n vl el sp T vs es nm) {l : List Nat} (h : Tour vs es nm l) {v : Int} (hv : v ∈ vs) : nm (.v v) ∈ l → l = [nm (.v v)] ∨ ∃ e ∈ es, e.u = v ∨ e.v = v := by
  induction h with
  | one h => intro m; simp only [List.mem_singleton] at m; rw [m]; exact .inl rfl
  | @rot a b h ih =>
    intro m
    refine (ih (by rw [List.mem_append] at m ⊢; exact m.symm)).imp (fun e => ?_) id
    cases a with
    | nil => simpa using e
    | cons y a =>
      rw [List.cons_append] at e
      injection e with e1 e2
      rw [List.append_eq_nil_iff] at e2
      rw [e1, e2.1, e2.2]; rfl
  | @link e A B he h1 h2 i1 i2 =>
    intro m
    refine .inr ?_
    obtain ⟨eu, ev⟩ := f.N.ends _ he
    rcases link_mem.1 m with m | m | m | m
    · rcases i1 m with h | h
      · injection h with h _
        exact ⟨e, he, .inl (f.N.vv eu hv h)⟩
      · exact h
    · exact absurd m (f.N.vt hv he)
    · rcases i2 m with h | h
      · injection h with h _
        exact ⟨e, he, .inr (f.N.vv ev hv h)⟩
      · exact h
    · exact absurd m (f.N.vb hv he)
theorem mem_perm {α : Type} {l : List α} {x : α} (h : x ∈ l) : ∃ R, l.Perm (x :: R) := by
  obtain ⟨a, b, rfl⟩ := List.append_of_mem h
  exact ⟨a ++ b, List.perm_middle⟩
theorem lk_del_len {β : Type} {m : List (Int × β)} (nd : NdK m) {x : Int} {v : β} (h : lk m x = some v) : (delK m x).length + 1 = m.length := by
  have hm := lk_some h
  clear h
  induction m with
  | nil => cases hm
  | cons p r ih =>
    unfold NdK at nd
    rw [List.map_cons, List.nodup_cons] at nd
    by_cases e : p.1 = x
    · have : delK (p :: r) x = r := by
        unfold delK
        rw [List.filter_cons_of_neg (by simp [e]), List.filter_eq_self]
        intro q hq
        have : q.1 ≠ x := fun h => nd.1 (by rw [e, ← h]; exact List.mem_map_of_mem hq)
        simpa using this
      rw [this]; rfl
    · have hm' : (x, v) ∈ r := by rcases List.mem_cons.1 hm with h | h; exact absurd (by rw [← h]) e; exact h
      have : delK (p :: r) x = p :: delK r x := by unfold delK; rw [List.filter_cons_of_pos (by simpa using e)]
      rw [this, List.length_cons, ih nd.2 hm']; rfl
theorem er_mem {l : List Int} (nd : l.Nodup) {x y : Int} : y ∈ l.erase x ↔ y ∈ l ∧ y ≠ x := by rw [nd.mem_erase_iff, and_comm]
theorem FI.delV (f : FI rows V n vl el sp T vs es nm) (rok : RowsOk n rows) (ndv : NdK vl) {v : Int} (hv : v ∈ vs) (hz : ∀ e ∈ es, e.u ≠ v ∧ e.v ≠ v) :
    ∃ T', FI rows V n (delK vl v) el (sp ++ [nm (.v v)]) T' (vs.erase v) es nm := by
  obtain ⟨h1, h2, h3⟩ := f.row rok (okV (es := es) hv)
  have hrow : rowOf rows (nm (.v v)) = [nm (.v v)] := by
    rcases f.degT h3 hv h2 with e | ⟨e, he, hh⟩
    · exact e
    · have := hz e he
      rcases hh with hh | hh
      · exact absurd hh this.1
      · exact absurd hh this.2
  rw [hrow] at h1
  obtain ⟨T', pT⟩ := mem_perm h1
  have ok' : ∀ {q}, okP (vs.erase v) es q → okP vs es q ∧ q ≠ .v v := by
    intro q hq
    cases q with
    | v i => exact ⟨((er_mem f.vnd).1 hq).1, fun e => by injection e with e; exact ((er_mem f.vnd).1 hq).2 e⟩
    | t i => exact ⟨hq, fun e => by cases e⟩
    | b i => exact ⟨hq, fun e => by cases e⟩
  have nx : ∀ {p}, okP vs es p → p ≠ .v v → nm p ≠ nm (.v v) := fun hp np e => np (f.N.inj _ _ hp (okV (es := es) hv) e)
  have pr : rows.Perm (sp.map one1 ++ [nm (.v v)] :: T') := f.fr.rw.trans (pT.append_left _)
  have dis : ∀ l ∈ T', nm (.v v) ∉ l := by
    have hdj := (rok.perm (pr.trans List.perm_middle)).dj
    rw [List.pairwise_cons] at hdj
    intro l hl
    exact hdj.1 l (by simp [hl]) _ (by simp)
  have wl' : (vs.erase v).length + 1 = vs.length := by have := List.length_pos_of_mem hv; rw [List.length_erase_of_mem hv]; omega
  have tl := pT.length_eq
  simp only [List.length_cons] at tl
  refine ⟨T', ⟨⟨fun p q hp hq e => f.N.inj _ _ (ok' hp).1 (ok' hq).1 e, f.N.ids, fun e he => ?_⟩, f.vnd.erase v, ?_, ?_, f.le, f.eln, ⟨?_, ?_, ?_, ?_⟩, fun p hp => f.pos p (ok' hp).1, ?_, ?_, ?_, f.nb, fun u hu => f.mkV u ((er_mem f.vnd).1 hu).1, f.mkE⟩⟩
  · have := hz e he
    exact ⟨(er_mem f.vnd).2 ⟨(f.N.ends e he).1, this.1⟩, (er_mem f.vnd).2 ⟨(f.N.ends e he).2, this.2⟩⟩
  · intro i
    rw [lk_delK]
    by_cases e : v = i
    · subst e; rw [if_pos rfl, if_neg fun h => ((er_mem f.vnd).1 h).2 rfl]
    · rw [if_neg e, f.lv]
      by_cases hi : i ∈ vs
      · rw [if_pos hi, if_pos ((er_mem f.vnd).2 ⟨hi, Ne.symm e⟩)]
      · rw [if_neg hi, if_neg fun h => hi ((er_mem f.vnd).1 h).1]
  · have := lk_del_len ndv (x := v) (v := nm (.v v)) (by rw [f.lv, if_pos hv])
    have := f.vln; omega
  · rw [List.map_append]
    have : sp.map one1 ++ List.map one1 [nm (.v v)] ++ T' = sp.map one1 ++ [nm (.v v)] :: T' := by simp [one1]
    rw [this]; exact pr
  · rw [List.nodup_append]
    refine ⟨f.fr.spn, by simp, fun a ha b hb e => ?_⟩
    simp only [List.mem_singleton] at hb
    exact f.fr.spd a ha ⟨_, okV (es := es) hv, e.trans hb⟩
  · rintro x hx ⟨p, hp, rfl⟩
    rcases List.mem_append.1 hx with hx | hx
    · exact f.fr.spd _ hx ⟨p, (ok' hp).1, rfl⟩
    · simp only [List.mem_singleton] at hx
      exact nx (ok' hp).1 (ok' hp).2 hx
  · rintro x ⟨p, hp, rfl⟩
    exact f.fr.kn _ ⟨p, (ok' hp).1, rfl⟩
  · intro l hl
    have hlT : l ∈ T := pT.mem_iff.2 (by simp [hl])
    refine (f.tt l hlT).mono f.N (fun u hu m => ⟨(er_mem f.vnd).2 ⟨hu, fun e => ?_⟩, rfl⟩) fun e he _ => ⟨he, rfl, rfl⟩
    subst e; exact dis l hl m
  · have := f.tc; omega
  · have := f.cn; simp only [List.length_append, List.length_singleton]; omega
theorem ids_cons {l : List E} {e : E} {i : Int} : i ∈ (e :: l).map E.id ↔ i = e.id ∨ i ∈ l.map E.id := by rw [List.map_cons, List.mem_cons]
theorem FI.off (f : FI rows V n vl el sp T vs es nm) {l : List Nat} (hl : l ∈ T) : ∃ T0, T.Perm (l :: T0) ∧ rows.Perm (l :: (sp.map one1 ++ T0)) := by
  obtain ⟨T0, pT⟩ := mem_perm hl
  exact ⟨T0, pT, (f.fr.rw.trans (pT.append_left _)).trans List.perm_middle⟩
theorem FI.link (f : FI rows V n vl el sp T vs es nm) (rok : RowsOk n rows) (hpos : 0 < n) {e : E} (hl : vs.length ≤ 2048) (hi : e.id ∉ es.map E.id) (hu : e.u ∈ vs) (hv : e.v ∈ vs) (hne : rowOf rows (nm (.v e.u)) ≠ rowOf rows (nm (.v e.v))) {x1 x2 n1 n2 : Nat} {sp1 sp2 : List Nat} {rows1 rows2 : List (List Nat)}
    (it1 : (sp = sp1 ++ [x1] ∧ rows1 = rows ∧ n1 = n) ∨ (sp = [] ∧ sp1 = [] ∧ x1 = n ∧ rows1 = rows ++ [[x1]] ∧ n1 = n + 1)) (rok1 : RowsOk n1 rows1)
    (it2 : (sp1 = sp2 ++ [x2] ∧ rows2 = rows1 ∧ n2 = n1) ∨ (sp1 = [] ∧ sp2 = [] ∧ x2 = n1 ∧ rows2 = rows1 ++ [[x2]] ∧ n2 = n1 + 1)) :
    ∃ T0, rows2.Perm (rowOf rows (nm (.v e.u)) :: rowOf rows (nm (.v e.v)) :: [x1] :: [x2] :: (sp2.map one1 ++ T0)) ∧
      ∀ A B rows3, Rot (rowOf rows (nm (.v e.u))) (nm (.v e.u) :: A) → Rot (rowOf rows (nm (.v e.v))) (nm (.v e.v) :: B) → rows3.Perm (((nm (.v e.u) :: A) ++ x1 :: ((nm (.v e.v) :: B) ++ [x2])) :: (sp2.map one1 ++ T0)) →
        FI rows3 (fun i => if i = x2 then 0 else if i = x1 then 0 else V i) n2 vl (putK el e.id (x1, x2)) sp2 (((nm (.v e.u) :: A) ++ x1 :: ((nm (.v e.v) :: B) ++ [x2])) :: T0) vs (e :: es) (setN (setN nm (.t e.id) x1) (.b e.id) x2) := by
  obtain ⟨fr1, nk1, p1, l1, nn1, cnt1, cnb1, sub1⟩ := f.fr.make rok hpos it1
  obtain ⟨fr2, nk2, p2, l2, nn2, cnt2, cnb2, sub2⟩ := fr1.make rok1 (by omega) it2
  obtain ⟨mu, uu, tu⟩ := f.row rok (okV (es := es) hu)
  obtain ⟨mv, vv, tv⟩ := f.row rok (okV (es := es) hv)
  generalize hlu : rowOf rows (nm (.v e.u)) = lu at *
  generalize hlv : rowOf rows (nm (.v e.v)) = lv at *
  obtain ⟨Ta, pa⟩ := mem_perm mu
  have mv' : lv ∈ Ta := by
    have := pa.mem_iff.1 mv
    rcases List.mem_cons.1 this with h | h
    · exact absurd h.symm hne
    · exact h
  obtain ⟨T0, pb⟩ := mem_perm mv'
  have pT : T.Perm (lu :: lv :: T0) := pa.trans (pb.cons _)
  refine ⟨T0, ?_, ?_⟩
  · refine fr2.rw.trans ?_
    have h1 : ([x2] :: [x1] :: T).Perm (lu :: lv :: [x1] :: [x2] :: T0) := by
      refine ((pT.cons _).cons _).trans ?_
      have e1 : [x2] :: [x1] :: lu :: lv :: T0 = [[x2], [x1], lu, lv] ++ T0 := rfl
      have e2 : lu :: lv :: [x1] :: [x2] :: T0 = [lu, lv, [x1], [x2]] ++ T0 := rfl
      rw [e1, e2]
      refine List.Perm.append_right _ ?_
      exact (List.perm_append_comm (l₁ := [[x2], [x1]]) (l₂ := [lu, lv])).trans (((List.Perm.swap _ _ _).cons _).cons _)
    refine (h1.append_left _).trans ?_
    have e3 : ∀ (S : List (List Nat)), (S ++ lu :: lv :: [x1] :: [x2] :: T0).Perm (lu :: lv :: [x1] :: [x2] :: (S ++ T0)) := fun S => by
      have : S ++ lu :: lv :: [x1] :: [x2] :: T0 = (S ++ [lu, lv, [x1], [x2]]) ++ T0 := by simp
      rw [this]
      have := (List.perm_append_comm (l₁ := S) (l₂ := [lu, lv, [x1], [x2]])).append_right T0
      simpa using this
    exact e3 _
  intro A B rows3 rA rB p3
  have x12 : x1 ≠ x2 := fun h => nk2 (.inr h.symm)
  have nx1 : ∀ {p}, okP vs es p → nm p ≠ x1 := fun {p} hp h => nk1 ⟨p, hp, h.symm⟩
  have nx2 : ∀ {p}, okP vs es p → nm p ≠ x2 := fun {p} hp h => nk2 (.inl ⟨p, hp, h.symm⟩)
  have ok' : ∀ {q}, okP vs (e :: es) q → q = .t e.id ∨ q = .b e.id ∨ (okP vs es q ∧ q ≠ .t e.id ∧ q ≠ .b e.id) := by
    intro q hq
    cases q with
    | v i => exact .inr (.inr ⟨hq, (fun h => by cases h), fun h => by cases h⟩)
    | t i =>
      rcases ids_cons.1 hq with rfl | h
      · exact .inl rfl
      · exact .inr (.inr ⟨h, fun e => by injection e with e; exact hi (e ▸ h), fun h => by cases h⟩)
    | b i =>
      rcases ids_cons.1 hq with rfl | h
      · exact .inr (.inl rfl)
      · exact .inr (.inr ⟨h, (fun h => by cases h), fun e => by injection e with e; exact hi (e ▸ h)⟩)
  have nmT : setN (setN nm (.t e.id) x1) (.b e.id) x2 (.t e.id) = x1 := by rw [setN_ne _ (fun h => by cases h), setN_same]
  have nmB : setN (setN nm (.t e.id) x1) (.b e.id) x2 (.b e.id) = x2 := setN_same _ _ _
  have nmO : ∀ {q}, q ≠ .t e.id → q ≠ .b e.id → setN (setN nm (.t e.id) x1) (.b e.id) x2 q = nm q := fun h1 h2 => by rw [setN_ne _ h2, setN_ne _ h1]
  have nmV : ∀ i, setN (setN nm (.t e.id) x1) (.b e.id) x2 (.v i) = nm (.v i) := fun i => nmO (fun h => by cases h) (fun h => by cases h)
  generalize hnm : setN (setN nm (.t e.id) x1) (.b e.id) x2 = nm' at *
  have hT : ∀ {a : E}, a ∈ es → nm' (.t a.id) = nm (.t a.id) ∧ nm' (.b a.id) = nm (.b a.id) := fun {a} ha => by
    have : a.id ≠ e.id := fun h => hi (h ▸ List.mem_map_of_mem ha)
    exact ⟨nmO (fun h => by injection h with h; exact this h) (fun h => by cases h), nmO (fun h => by cases h) (fun h => by injection h with h; exact this h)⟩
  have N' : Nm vs (e :: es) nm' := by
    refine ⟨fun p q hp hq h => ?_, List.nodup_cons.2 ⟨hi, f.N.ids⟩, fun a ha => ?_⟩
    · rcases ok' hp with rfl | rfl | ⟨hp, np1, np2⟩ <;> rcases ok' hq with rfl | rfl | ⟨hq, nq1, nq2⟩
      · rfl
      · rw [nmT, nmB] at h; exact absurd h x12
      · rw [nmT, nmO nq1 nq2] at h; exact absurd h.symm (nx1 hq)
      · rw [nmT, nmB] at h; exact absurd h.symm x12
      · rfl
      · rw [nmB, nmO nq1 nq2] at h; exact absurd h.symm (nx2 hq)
      · rw [nmT, nmO np1 np2] at h; exact absurd h (nx1 hp)
      · rw [nmB, nmO np1 np2] at h; exact absurd h (nx2 hp)
      · rw [nmO np1 np2, nmO nq1 nq2] at h; exact f.N.inj _ _ hp hq h
    · rcases List.mem_cons.1 ha with rfl | ha
      · exact ⟨hu, hv⟩
      · exact f.N.ends a ha
  have lel : (e :: es).length = es.length + 1 := rfl
  have mono : ∀ {l}, Tour vs es nm l → Tour vs (e :: es) nm' l := fun h => h.mono f.N (fun u hu _ => ⟨hu, nmV u⟩) fun a ha _ => ⟨List.mem_cons.2 (.inr ha), hT ha⟩
  have tl := pT.length_eq
  simp only [List.length_cons] at tl
  have tc := f.tc; have cn := f.cn; have nb := f.nb
  have kk : ∀ {x}, Kn vs (e :: es) nm' x → (Kn vs es nm x ∨ x = x1) ∨ x = x2 := by
    rintro x ⟨p, hp, rfl⟩
    rcases ok' hp with rfl | rfl | ⟨hp, np1, np2⟩
    · exact .inl (.inr nmT)
    · exact .inr nmB
    · rw [nmO np1 np2]; exact .inl (.inl ⟨p, hp, rfl⟩)
  refine ⟨N', f.vnd, ?_, f.vln, ?_, ?_, ⟨?_, fr2.spn, fun x hx hk => fr2.spd x hx (kk hk), fun x hk => fr2.kn x (kk hk)⟩, ?_, ?_, ?_, ?_, ?_, ?_, ?_⟩
  · intro i; rw [f.lv]; simp only [nmV]
  · intro i
    rw [lk_putK]
    by_cases h : e.id = i
    · subst h; rw [if_pos rfl, if_pos (ids_cons.2 (.inl rfl)), nmT, nmB]
    · rw [if_neg h, f.le]
      by_cases hh : i ∈ es.map E.id
      · obtain ⟨a, ha, rfl⟩ := List.mem_map.1 hh
        rw [if_pos hh, if_pos (ids_cons.2 (.inr hh)), (hT ha).1, (hT ha).2]
      · rw [if_neg hh, if_neg fun hx => by rcases ids_cons.1 hx with h' | h'; exact h h'.symm; exact hh h']
  · have : lk el e.id = none := by rw [f.le, if_neg hi]
    rw [length_putK, lk_notmem this, lel]; simp [f.eln]
  · exact p3.trans List.perm_middle.symm
  · intro p hp
    rcases ok' hp with rfl | rfl | ⟨hp, np1, np2⟩
    · rw [nmT]; exact p1
    · rw [nmB]; exact p2
    · rw [nmO np1 np2]; exact f.pos p hp
  · intro l hl
    rcases List.mem_cons.1 hl with rfl | hl
    · have j1 := mono (tu.of_rot rA)
      have j2 := mono (tv.of_rot rB)
      rw [← nmV e.u] at j1
      rw [← nmV e.v] at j2
      have := Tour.link (List.mem_cons.2 (.inl rfl)) j1 j2
      rw [nmT, nmB, nmV, nmV] at this
      exact this
    · exact mono (f.tt l (pT.mem_iff.2 (by simp [hl])))
  · simp only [List.length_cons, lel]; omega
  · rw [lel]; omega
  · rw [lel] at *
    rcases cnb2 with h2 | ⟨h2, h3⟩
    · rcases cnb1 with h1 | ⟨h1, h4⟩
      · omega
      · rw [h1] at cnt1 sub2
        have e2 : sp2 = [] := by cases sp2 with | nil => rfl | cons a _ => exact absurd (sub2 a (by simp)) (by simp)
        rw [h1, e2] at cnt2
        simp only [List.length_nil] at cnt1 cnt2
        omega
    · rw [h2] at cnt2
      simp only [List.length_nil] at cnt2
      omega
  · intro u hu'
    rw [nmV, if_neg (nx2 (okV (es := es) hu')), if_neg (nx1 (okV (es := es) hu'))]; exact f.mkV u hu'
  · intro a ha
    rcases List.mem_cons.1 ha with rfl | ha
    · rw [nmT, nmB]; simp [x12]
    · rw [(hT ha).1, (hT ha).2, if_neg (nx2 (okT ha)), if_neg (nx1 (okT ha)), if_neg (nx2 (okB ha)), if_neg (nx1 (okB ha))]
      exact f.mkE a ha
theorem FI.cut (f : FI rows V n vl el sp T vs es nm) (rok : RowsOk n rows) (nde : NdK el) {e : E} (he : e ∈ es) :
    ∃ T0 l X Y, rows.Perm (l :: (sp.map one1 ++ T0)) ∧ nm (.t e.id) ∈ l ∧ Rot l (nm (.t e.id) :: (X ++ nm (.b e.id) :: Y)) ∧ X ≠ [] ∧ Y ≠ [] ∧
      ∀ rows3, rows3.Perm ([nm (.t e.id)] :: X :: [nm (.b e.id)] :: Y :: (sp.map one1 ++ T0)) →
        FI rows3 V n vl (delK el e.id) (sp ++ [nm (.t e.id), nm (.b e.id)]) (X :: Y :: T0) vs (noE es e.id) nm := by
  obtain ⟨h1, h2, h3⟩ := f.row rok (okT he)
  obtain ⟨X, Y, rt, tX, tY, mX, mY⟩ := h3.cut f.N he h2
  obtain ⟨T0, pT, pr⟩ := f.off h1
  refine ⟨T0, _, X, Y, pr, h2, rt, tX.ne, tY.ne, fun rows3 p3 => ?_⟩
  have ht := f.N.tb he he
  have nd : (nm (.t e.id) :: (X ++ nm (.b e.id) :: Y)).Nodup := rt.perm.nodup_iff.1 (rok.nd _ (f.inT h1))
  have hdj := (rok.perm pr).dj
  rw [List.pairwise_cons] at hdj
  have dis : ∀ l ∈ T0, ∀ x, x ∈ rowOf rows (nm (.t e.id)) → x ∉ l := fun l hl x hx => hdj.1 l (by simp [hl]) x hx
  have sub : ∀ {a}, a ∈ noE es e.id → a ∈ es ∧ a.id ≠ e.id := fun h => noE_mem.1 h
  have ids' : ∀ {i}, i ∈ (noE es e.id).map E.id → i ∈ es.map E.id ∧ i ≠ e.id := fun h => by
    obtain ⟨a, ha, rfl⟩ := List.mem_map.1 h
    exact ⟨List.mem_map_of_mem (sub ha).1, (sub ha).2⟩
  have ok' : ∀ {q}, okP vs (noE es e.id) q → okP vs es q ∧ q ≠ .t e.id ∧ q ≠ .b e.id := by
    intro q hq
    cases q with
    | v i => exact ⟨hq, (fun h => by cases h), fun h => by cases h⟩
    | t i => exact ⟨(ids' hq).1, fun h => by injection h with h; exact (ids' hq).2 h, fun h => by cases h⟩
    | b i => exact ⟨(ids' hq).1, (fun h => by cases h), fun h => by injection h with h; exact (ids' hq).2 h⟩
  have nt : ∀ {q}, okP vs (noE es e.id) q → nm q ≠ nm (.t e.id) := fun hq h => (ok' hq).2.1 (f.N.inj _ _ (ok' hq).1 (okT he) h)
  have nb : ∀ {q}, okP vs (noE es e.id) q → nm q ≠ nm (.b e.id) := fun hq h => (ok' hq).2.2 (f.N.inj _ _ (ok' hq).1 (okB he) h)
  have le' : (noE es e.id).length + 1 = es.length := by
    have := congrArg List.length (noE_ids es e.id f.N.ids)
    rw [List.length_map, List.length_erase_of_mem (List.mem_map_of_mem he), List.length_map] at this
    have : 0 < es.length := List.length_pos_of_mem he
    omega
  have mono : ∀ {l}, Tour vs es nm l → nm (.t e.id) ∉ l → Tour vs (noE es e.id) nm l := fun h hn => h.mono f.N (fun u hu _ => ⟨hu, rfl⟩) fun a ha m => ⟨noE_mem.2 ⟨ha, fun h => hn (by rw [← h]; exact m)⟩, rfl, rfl⟩
  have tl := pT.length_eq
  simp only [List.length_cons] at tl
  have tc := f.tc; have cn := f.cn
  rw [show sp ++ [nm (.t e.id), nm (.b e.id)] = sp ++ [nm (.t e.id)] ++ [nm (.b e.id)] by simp]
  refine ⟨⟨fun p q hp hq h => f.N.inj _ _ (ok' hp).1 (ok' hq).1 h, f.N.ids.sublist (List.Sublist.map _ List.filter_sublist), fun a ha => f.N.ends a (sub ha).1⟩, f.vnd, f.lv, f.vln, ?_, ?_, ⟨?_, ?_, ?_, ?_⟩, fun p hp => f.pos p (ok' hp).1, ?_, ?_, ?_, f.nb, f.mkV, fun a ha => f.mkE a (sub ha).1⟩
  · intro i
    rw [lk_delK]
    by_cases h : e.id = i
    · rw [if_pos h, if_neg fun hh => (ids' hh).2 h.symm]
    · rw [if_neg h, f.le]
      by_cases hh : i ∈ es.map E.id
      · obtain ⟨a, ha, rfl⟩ := List.mem_map.1 hh
        rw [if_pos hh, if_pos (List.mem_map_of_mem (noE_mem.2 ⟨ha, Ne.symm h⟩))]
      · rw [if_neg hh, if_neg fun hx => hh (ids' hx).1]
  · have := lk_del_len nde (x := e.id) (v := (nm (.t e.id), nm (.b e.id))) (by rw [f.le, if_pos (List.mem_map_of_mem he)])
    have := f.eln; omega
  · refine p3.trans ?_
    rw [List.map_append, List.map_append]
    have : ([nm (.t e.id)] :: X :: [nm (.b e.id)] :: Y :: (sp.map one1 ++ T0)).Perm ((sp.map one1 ++ [[nm (.t e.id)], [nm (.b e.id)]]) ++ X :: Y :: T0) := by
      have e1 : [nm (.t e.id)] :: X :: [nm (.b e.id)] :: Y :: (sp.map one1 ++ T0) = [[nm (.t e.id)], X, [nm (.b e.id)], Y] ++ (sp.map one1 ++ T0) := rfl
      have e2 : (sp.map one1 ++ [[nm (.t e.id)], [nm (.b e.id)]]) ++ X :: Y :: T0 = (sp.map one1 ++ [[nm (.t e.id)], [nm (.b e.id)], X, Y]) ++ T0 := by simp
      rw [e1, e2, ← List.append_assoc]
      refine List.Perm.append_right _ ?_
      refine (List.perm_append_comm).trans ?_
      exact (((List.Perm.swap _ _ _).cons _)).append_left _
    refine this.trans ?_
    have e3 : sp.map one1 ++ List.map one1 [nm (.t e.id)] ++ List.map one1 [nm (.b e.id)] ++ X :: Y :: T0 = (sp.map one1 ++ [[nm (.t e.id)], [nm (.b e.id)]]) ++ X :: Y :: T0 := by simp [one1]
    rw [e3]
  · rw [List.nodup_append, List.nodup_append]
    refine ⟨⟨f.fr.spn, by simp, fun a ha b hb h => ?_⟩, by simp, fun a ha b hb h => ?_⟩
    · simp only [List.mem_singleton] at hb
      exact f.fr.spd a ha ⟨_, okT he, h.trans hb⟩
    · simp only [List.mem_singleton] at hb
      rcases List.mem_append.1 ha with ha | ha
      · exact f.fr.spd a ha ⟨_, okB he, h.trans hb⟩
      · simp only [List.mem_singleton] at ha
        exact ht (ha.symm.trans (h.trans hb))
  · rintro x hx ⟨p, hp, rfl⟩
    rcases List.mem_append.1 hx with hx | hx
    · rcases List.mem_append.1 hx with hx | hx
      · exact f.fr.spd _ hx ⟨p, (ok' hp).1, rfl⟩
      · simp only [List.mem_singleton] at hx; exact nt hp hx
    · simp only [List.mem_singleton] at hx; exact nb hp hx
  · rintro x ⟨p, hp, rfl⟩
    exact f.fr.kn _ ⟨p, (ok' hp).1, rfl⟩
  · rw [List.nodup_cons] at nd
    intro l hl
    rcases List.mem_cons.1 hl with rfl | hl
    · exact mono tX fun h => nd.1 (by simp [h])
    rcases List.mem_cons.1 hl with rfl | hl
    · exact mono tY fun h => nd.1 (by simp [h])
    · exact mono (f.tt l (pT.mem_iff.2 (by simp [hl]))) (dis l hl _ h2)
  · simp only [List.length_cons]; omega
  · simp only [List.length_append, List.length_singleton]; omega
end
end Go.Proofs.Ytklnlnjgaadjbaa.Rd
namespace Go.Proofs.Ytklnlnjgaadjbaa.Rd
open Go.Dn Go.RowKit Go.Maps
set_option maxRecDepth 100000
def RepS (w : World) (Fp : Nat → Prop) (F : Nat) (vs : List Int) (es : List E) : Prop :=
  ∃ b rows V vl el sp T nm Fl, b.F = F ∧ (∀ k, Fp k ↔ Fe b Fl k) ∧ EM w b rows V vl el sp Fl vs es ∧ FI rows V b.r.n vl el sp T vs es nm
theorem RepS.other {w w' : World} {Fp Q : Nat → Prop} {F : Nat} {vs : List Int} {es : List E} (h : RepS w Fp F vs es) (k : Keeps Q w w') (hQ : ∀ k, Q k → ¬ Fp k) : RepS w' Fp F vs es := by
  obtain ⟨b, rows, V, vl, el, sp, T, nm, Fl, h1, h2, h3, h4⟩ := h
  exact ⟨b, rows, V, vl, el, sp, T, nm, Fl, h1, h2, h3.other k fun k hk hf => hQ k hk ((h2 k).2 hf), h4⟩
theorem RepS.below {w w' : World} {Fp : Nat → Prop} {F : Nat} {vs : List Int} {es : List E} (h : RepS w Fp F vs es) (k : Below w.heap.size w w') : RepS w' Fp F vs es := h.other (Q := fun _ => False) (.of_below k) fun _ h => h.elim
theorem RepS.lt {w : World} {Fp : Nat → Prop} {F : Nat} {vs : List Int} {es : List E} (h : RepS w Fp F vs es) : ∀ k, Fp k → k < w.heap.size := by
  obtain ⟨b, rows, V, vl, el, sp, T, nm, Fl, h1, h2, h3, h4⟩ := h
  exact fun k hk => h3.lt k ((h2 k).1 hk)
theorem RepS.ve {w : World} {Fp : Nat → Prop} {F : Nat} {vs : List Int} {es : List E} (h : RepS w Fp F vs es) : VE vs es := by
  obtain ⟨b, rows, V, vl, el, sp, T, nm, Fl, h1, h2, h3, h4⟩ := h
  exact h3.lc.ve
theorem upd_iff {Fp : Nat → Prop} {b b' : EB} {Fl Fl' : Nat → Prop} {w w' : World} (hF : ∀ k, Fp k ↔ Fe b Fl k) (u : Upd (Fe b Fl) w w' (Fe b' Fl')) : Upd Fp w w' (Fe b' Fl') := ⟨u.kp.mono fun k _ hk => (hF k).2 hk, fun k hk => (u.fr k hk).imp (hF k).2 id⟩
theorem _root_.Go.Dn.HB.ri {w : World} {b : Nat} {cs : Array Value} {t : TypeId} (h : HB w b cs t) (l : List Int) (hcs : cs.toList = l.map (.int .i64)) : RI w (some ⟨b, 0, none⟩) l := fun i hi => by
  refine ⟨_, rfl, ?_⟩
  rw [h.cell, ← Array.getElem?_toList, hcs]
  simp [hi]
def lkV (vl : List (Int × Nat)) (i : Int) : Nat := (lk vl i).getD 0
def lkE (el : List (Int × (Nat × Nat))) (i : Int) : Nat × Nat := (lk el i).getD (0, 0)
section
variable {w w' : World} {b : EB} {rows : List (List Nat)} {V : Nat → Int} {vl : List (Int × Nat)} {el : List (Int × (Nat × Nat))} {sp : List Nat} {Fl : Nat → Prop} {n : Nat} {T : List (List Nat)} {vs vs' : List Int} {es es' : List E} {nm : Pl → Nat}
theorem EM.lookV (h : EM w b rows V vl el sp Fl vs es) {i : Int} (hi : W64 i) {K : Value → World → Prop} (hk : K (.int .i64 (lkV vl i : Int)) w) : Runs Try.prog (Instr.lookup 63 (.map (some b.mv)) (.int .i64 i) false) w K := by
  refine h.gv.look KTv (x := i) hi (zI w) ?_
  unfold lkV at hk
  cases hq : lk vl i with
  | none => rw [hq] at hk; exact hk
  | some n => rw [hq] at hk; exact hk
theorem EM.lookE (h : EM w b rows V vl el sp Fl vs es) {i : Int} (hi : W64 i) {K : Value → World → Prop} (hk : K (.tuple #[.agg #[.int .i64 ((lkE el i).1 : Int), .int .i64 ((lkE el i).2 : Int)], .bool (lk el i).isSome]) w) : Runs Try.prog (Instr.lookup 64 (.map (some b.me)) (.int .i64 i) true) w K := by
  refine h.ge.look2 KTe (x := i) hi (zA w) ?_
  unfold lkE at hk
  cases hq : lk el i with
  | none => rw [hq] at hk; exact hk
  | some n => rw [hq] at hk; exact hk
theorem FI.lkv (f : FI rows V n vl el sp T vs es nm) (i : Int) : lkV vl i = if i ∈ vs then nm (.v i) else 0 := by unfold lkV; rw [f.lv]; split <;> rfl
theorem FI.lke (f : FI rows V n vl el sp T vs es nm) (i : Int) : (lk el i).isSome = decide (i ∈ es.map E.id) := by rw [f.le]; split <;> simp_all
theorem FI.lke' (f : FI rows V n vl el sp T vs es nm) {e : E} (he : e ∈ es) : lkE el e.id = (nm (.t e.id), nm (.b e.id)) := by unfold lkE; rw [f.le, if_pos (List.mem_map_of_mem he)]; rfl
theorem FI.spr (f : FI rows V n vl el sp T vs es nm) : ∀ x ∈ sp, [x] ∈ rows := fun x hx => f.fr.rw.mem_iff.2 (by rw [List.mem_append, List.mem_map]; exact .inl ⟨x, hx, rfl⟩)
theorem cn_ja (g : VE vs es) {u v : Int} (h : Cn es u v) : Ja es u v := by
  obtain ⟨p, hp⟩ := h
  obtain ⟨q, hq, nq, _⟩ := hp.red2 g.hi g.hw
  exact ⟨q, hq, nq⟩
theorem ja_cn {u v : Int} (h : Ja es u v) : Cn es u v := by obtain ⟨p, hp, _⟩ := h; exact ⟨p, hp⟩
theorem dS_mono (g : VE vs es) (g' : VE vs' es') (hs : ∀ e ∈ es, e ∈ es') {u v : Int} (hu : u ∈ vs) (hu' : u ∈ vs') (h : Ja es u v) : dS es' u v = dS es u v := by
  obtain ⟨p, hp, np⟩ := h
  rw [dS_of g hu hp np, dS_of g' hu' (hp.mono hs) np]
theorem m4_of (g : VE vs es) {l : List Int} (h : ∀ x ∈ l, x ∈ vs) (hj : ∀ x ∈ l, ∀ y ∈ l, Ja es x y) : M4 (dS es) l :=
  ⟨fun x hx => by have := g.vr x (h x hx); omega, fun x hx => dS_self g x, fun x hx y hy => dS_symm g (h x hx) (h y hy), fun x hx y hy z hz t ht => dS_four g (h x hx) (hj x hx y hy) (hj x hx z hz) (hj x hx t ht)⟩
theorem FI.vx (f : FI rows V n vl el sp T vs es nm) (g : VE vs es) {l : List Nat} (h : Tour vs es nm l) {x : Int} : x ∈ vxs V l ↔ x ∈ vs ∧ nm (.v x) ∈ l := by
  rw [vxs_mem]
  constructor
  · rintro ⟨h0, i, hi, rfl⟩
    obtain ⟨p, hp, rfl⟩ := h.ok f.N i hi
    cases p with
    | v u =>
      have hu : u ∈ vs := hp
      rw [f.mkV u hu]; exact ⟨hu, hi⟩
    | t i =>
      obtain ⟨e, he, rfl⟩ := List.mem_map.1 hp
      exact absurd (f.mkE e he).1 h0
    | b i =>
      obtain ⟨e, he, rfl⟩ := List.mem_map.1 hp
      exact absurd (f.mkE e he).2 h0
  · rintro ⟨hx, hm⟩
    exact ⟨by have := g.vr x hx; omega, _, hm, f.mkV x hx⟩
theorem FI.vxj (f : FI rows V n vl el sp T vs es nm) (g : VE vs es) {l : List Nat} (h : Tour vs es nm l) {x y : Int} (hx : x ∈ vxs V l) (hy : y ∈ vxs V l) : x ∈ vs ∧ y ∈ vs ∧ Ja es x y := by
  obtain ⟨h1, h2⟩ := (f.vx g h).1 hx
  obtain ⟨k1, k2⟩ := (f.vx g h).1 hy
  exact ⟨h1, k1, cn_ja g (h.conn f.N h1 k1 h2 k2)⟩
theorem FI.tour4 (f : FI rows V n vl el sp T vs es nm) (g : VE vs es) {l : List Nat} (h : Tour vs es nm l) : M4 (dS es) (vxs V l) := m4_of g (fun x hx => (f.vxj g h hx hx).1) fun x hx y hy => (f.vxj g h hx hy).2.2
theorem FI.dist (f : FI rows V n vl el sp T vs es nm) (g : VE vs es) (g' : VE vs es') (hs : ∀ e ∈ es, e ∈ es') : ∀ l ∈ rows, ∀ x ∈ vxs V l, ∀ y ∈ vxs V l, dS es' x y = dS es x y := by
  intro l hl x hx y hy
  have hl := f.fr.rw.mem_iff.1 hl
  rw [List.mem_append, List.mem_map] at hl
  rcases hl with ⟨i, hi, rfl⟩ | hl
  · unfold one1 at hx hy
    rw [vxs_one] at hx hy
    split at hx
    · cases hx
    · rename_i hne
      rw [if_neg hne] at hy
      rw [List.mem_singleton] at hx hy
      subst hx; subst hy
      rw [dS_self g, dS_self g']
  · obtain ⟨h1, h2, h3⟩ := f.vxj g (f.tt l hl) hx hy
    exact dS_mono g g' hs h1 h1 h3
end
theorem NewS_ok {w : World} {A : Option Addr} {sl : List Int} {n c : Nat} (hn : n = sl.length) (hr : RI w A sl) (hc0 : A = none → sl.length = 0 ∧ c = 0) (hlen : sl.length ≤ 17592186044416) :
    Calls Try.prog 7 #[.slice A n c] w fun e w' => ∃ Fp F, e = .returned (.pointer (some ⟨F, 0, none⟩)) ∧ RepS w' Fp F [] [] ∧ Below w.heap.size w w' ∧ ∀ k, Fp k → w.heap.size ≤ k := by
  subst hn
  apply f_span_New.ok
  unfold f_span_New.wp
  refine (NewT_ok hr hc0 hlen).mono ?_
  rintro _ w1 ⟨r, rfl, hr1, hn1, hB, g1⟩
  refine ⟨_, rfl, (New_ok w1).mono ?_⟩
  rintro _ w2 ⟨Fl, L, rfl, hl, g2, fl2⟩
  refine ⟨_, rfl, alW_intro (alW_intro (al_new fun w5 b5 e5 s5 h5 g5 => ?_))⟩
  have o2 := GM.new (eK := eI) (eV := eN) (okK := W64) w2
  obtain ⟨mv, hmv⟩ : ∃ mv, w2.heap.size = mv := ⟨_, rfl⟩
  have k3 : Below w2.heap.size w2 (w2.alloc (.map #[] 0)) := (Below.refl _ _).alloc (Nat.le_refl _) _
  have s3 : (w2.alloc (.map #[] 0)).heap.size = w2.heap.size + 1 := by simp
  generalize hw3 : w2.alloc (.map #[] 0) = w3 at *
  have o3 := GM.new (eK := eI) (eV := eA) (okK := W64) w3
  obtain ⟨me, hme⟩ : ∃ me, w3.heap.size = me := ⟨_, rfl⟩
  have k4 : Below w3.heap.size w3 (w3.alloc (.map #[] 0)) := (Below.refl _ _).alloc (Nat.le_refl _) _
  have s4 : (w3.alloc (.map #[] 0)).heap.size = w3.heap.size + 1 := by simp
  generalize hw4 : w3.alloc (.map #[] 0) = w4 at *
  have sz1 := g1.size
  have sz2 := g2.size
  have g25 : Below w2.heap.size w2 w5 := (k3.trans (k4.mono (by omega))).trans (g5.mono (by omega))
  have g15 : Below w1.heap.size w1 w5 := g2.trans (g25.mono sz2)
  have ro := (hr1 (dS []) (fun _ => 0) b5).below g15
  have rlt := (hr1 (dS []) (fun _ => 0) b5).lt
  have rsap := (hr1 (dS []) (fun _ => 0) b5).sap
  have lo1 : ∀ a, r.As = some a → w.heap.size ≤ a.block := fun a ha => by have := (rsap a ha).1; simp at this; omega
  rw [hmv] at o2; rw [hme] at o3
  have h5 : HB w5 b5 (fC ⟨b5, { r with F := b5 }, L, mv, me, none, 0⟩ 0) TF := by
    rw [hmv, hme] at h5; exact h5
  have nlt : ∀ k, Fl k → k < w2.heap.size := hl.lt
  have rg := rlt.2.2.1
  refine ⟨Fe ⟨b5, { r with F := b5 }, L, mv, me, none, 0⟩ Fl, b5, rfl, ⟨⟨b5, { r with F := b5 }, L, mv, me, none, 0⟩, [], fun _ => 0, [], [], [], [], fun _ => 0, Fl, rfl, fun _ => .rfl, ⟨h5, ro, (o2.below (k4.mono (by omega))).below (g5.mono (by omega)), o3.below g5, OwnI.none _ _ _, hl.below g25, ?_, (fun a ha => by cases ha), ?_, ?_, (fun a ha => by cases ha), ?_, rfl⟩, ?_⟩, ?_, ?_⟩
  · simp only [EB.ix, List.nodup_cons, List.mem_cons, List.not_mem_nil, or_false, not_or, not_false_eq_true, List.nodup_nil, and_true]
    obtain ⟨q1, q2, q3, q4⟩ := rlt
    simp at q1 q2 q3 q4
    omega
  · intro a ha
    obtain ⟨q1, q2, q3, q4⟩ := rsap a ha
    obtain ⟨p1, p2, p3, p4⟩ := rlt
    simp at p1 p2 q1 q2 q3 q4
    simp only [EB.ix, List.mem_cons, List.not_mem_nil, or_false, not_or]
    omega
  · intro k hk hf
    have h1 := fl2 k hf
    have h2 := nlt k hf
    obtain ⟨p1, p2, p3, p4⟩ := rlt
    simp at p1 p2
    simp only [EB.ix, List.mem_cons, List.not_mem_nil, or_false] at hk
    omega
  · intro a ha hf
    have h1 := fl2 _ hf
    have := (rsap a ha).2.1
    omega
  · refine ⟨⟨fun p q hp hq e => ?_, by simp, by simp⟩, by simp, fun i => by simp [lk], rfl, fun i => by simp [lk], rfl, ⟨by simp, by simp, by simp, ?_⟩, fun p hp => ?_, by simp, rfl, ?_, ?_, by simp, by simp⟩
    · cases p <;> simp [okP] at hp
    · rintro x ⟨p, hp, _⟩
      cases p <;> simp [okP] at hp
    · cases p <;> simp [okP] at hp
    · show r.n = _; rw [hn1]; rfl
    · show r.n ≤ _; rw [hn1]; omega
  · exact g1.trans (g15.mono g1.size)
  · rintro k (hk | ⟨a, ha, _⟩ | ⟨a, ha, rfl⟩ | hk)
    · obtain ⟨p1, p2, p3, p4⟩ := rlt
      have q := (World.ownsRow.lt (ro.lt.2.1 |> fun _ => (by exact (hr1 (dS []) (fun _ => 0) b5).choose_spec.choose_spec.1.own)) r.g rfl).1
      simp at p1 p2 p3 q
      simp only [EB.ix, List.mem_cons, List.not_mem_nil, or_false] at hk
      omega
    · cases ha
    · exact lo1 a ha
    · have := fl2 k hk; omega
section
variable {w : World} {Fp : Nat → Prop} {F : Nat} {vs : List Int} {es : List E}
theorem AddVS_ok (h : RepS w Fp F vs es) {v : Int} (hv : W64 v) :
    Calls Try.prog 22 #[.pointer (some ⟨F, 0, none⟩), .int .i64 v] w fun e w' => ∃ Fp', e = .returned (.int .i64 (addVC vs v)) ∧ RepS w' Fp' F (addVs vs v) es ∧ Upd Fp w w' Fp' := by
  obtain ⟨b, rows, V, vl, el, sp, T, nm, Fl, rfl, hF, hm, hf⟩ := h
  apply f_span_Forest_AddV.ok
  unfold f_span_Forest_AddV.wp
  refine hb_ldP (j := 1) hm.hf rfl ((AddV_ok hm.lc).mono ?_)
  rintro _ w1 ⟨rfl, Fl1, r1, u1⟩
  obtain ⟨m1, u1⟩ := hm.pathS r1 u1 fun _ _ _ _ _ _ => rfl
  refine ⟨_, rfl, ?_⟩
  by_cases hz : addVC vs v = 0
  case neg =>
    have e1 : addVs vs v = vs := by unfold addVs; rw [if_neg hz]
    rw [e1] at m1 ⊢
    exact sel_t (by simpa using hz) ⟨Fe b Fl1, rfl, ⟨b, _, _, _, _, _, _, _, Fl1, rfl, fun _ => .rfl, m1, hf⟩, upd_iff hF u1⟩
  have e1 : addVs vs v = v :: vs := by unfold addVs; rw [if_pos hz]
  obtain ⟨hb, hin, hl⟩ : ¬ badI v ∧ v ∉ vs ∧ vs.length < 2048 := by
    unfold addVC at hz
    split at hz
    · cases hz
    · rename_i h1
      split at hz
      · cases hz
      · rename_i h2
        split at hz
        · cases hz
        · exact ⟨h1, h2, by omega⟩
  rw [e1] at m1 ⊢
  rw [hz]
  refine sel_f rfl (drW_intro ?_)
  have m2 := m1.below (Below.refl _ _).drew
  have hnb := hf.nb
  refine ⟨fun w' => w'.cell? ((⟨b.F, 0, none⟩ : Addr).add 2) = some (.map (some b.mv)), (m2.hf.cell 2).trans rfl, _, fun w' h' => h', ?_⟩
  have hv0 : v ≠ 0 := fun e => hb (by unfold badI; omega)
  have hmk := makeS_ok m2 (by omega) hf.spr hv fun _ => dS_self m2.lc.ve v
  have eR : rcC b.F (oneR v) = #[.pointer (some ⟨b.F, 0, none⟩), .int .i64 v, .int .i64 v, .int .i64 0] := by unfold oneR; rw [if_neg hv0]; rfl
  rw [eR] at hmk
  refine hmk.mono ?_
  rintro _ w3 ⟨b', rows', V', sp', x, rfl, mk⟩
  have m3 := mk.em
  have c1 : w3.cell? ((⟨b.F, 0, none⟩ : Addr).add 2) = some (.map (some b.mv)) := by rw [← mk.F, ← mk.ms.1]; exact (m3.hf.cell 2).trans rfl
  refine ⟨_, rfl, c1, ?_⟩
  rw [← mk.ms.1]
  refine m3.gv.upd KTv (x := v) hv (v := x) fun w4 g4 k4 => ?_
  obtain ⟨m4, u4⟩ := m3.mapV g4 k4
  have f4 := hf.addV hm.rope.rok hm.rope.pos hin (by omega) mk.it
  rw [mk.V] at m4
  exact ⟨Fe b' Fl1, rfl, ⟨b', _, _, _, _, _, _, _, Fl1, mk.F, fun _ => .rfl, m4, f4⟩, upd_iff hF (((u1.trans (Upd.below (Below.refl _ _).drew)).trans mk.upd).trans u4)⟩
theorem DelVS_ok (h : RepS w Fp F vs es) {v : Int} (hv : W64 v) :
    Calls Try.prog 25 #[.pointer (some ⟨F, 0, none⟩), .int .i64 v] w fun e w' => ∃ Fp', e = .returned (.int .i64 (delVC vs es v)) ∧ RepS w' Fp' F (delVs vs es v) es ∧ Upd Fp w w' Fp' := by
  obtain ⟨b, rows, V, vl, el, sp, T, nm, Fl, rfl, hF, hm, hf⟩ := h
  apply f_span_Forest_DelV.ok
  unfold f_span_Forest_DelV.wp
  refine hb_ldP (j := 1) hm.hf rfl ((DelV_ok hm.lc).mono ?_)
  rintro _ w1 ⟨rfl, Fl1, r1, u1⟩
  obtain ⟨m1, u1⟩ := hm.pathS r1 u1 fun _ _ _ _ _ _ => rfl
  refine ⟨_, rfl, ?_⟩
  by_cases hz : delVC vs es v = 0
  case neg =>
    have e1 : delVs vs es v = vs := by unfold delVs; rw [if_neg hz]
    rw [e1] at m1 ⊢
    exact sel_t (by simpa using hz) ⟨Fe b Fl1, rfl, ⟨b, _, _, _, _, _, _, _, Fl1, rfl, fun _ => .rfl, m1, hf⟩, upd_iff hF u1⟩
  have e1 : delVs vs es v = vs.erase v := by unfold delVs; rw [if_pos hz]
  obtain ⟨hb, hin, hd⟩ : ¬ badI v ∧ v ∈ vs ∧ ¬ 0 < deg es v := by
    unfold delVC at hz
    split at hz
    · cases hz
    · rename_i h1
      split at hz
      · cases hz
      · rename_i h2
        split at hz
        · cases hz
        · rename_i h3; exact ⟨h1, Classical.not_not.1 h2, h3⟩
  have hd0 := deg_zero.1 (show deg es v = 0 by have := deg_nn es v; omega)
  rw [e1] at m1 ⊢
  rw [hz]
  refine sel_f rfl (drW_intro ?_)
  have m2 := m1.below (Below.refl _ _).drew
  have hl : lkV vl v = nm (.v v) := by rw [hf.lkv, if_pos hin]
  refine ⟨fun a => HB a b.F (fC b sp.length) TF, m2.hf, _, _, _, fun a ha => (ha.cell 4).trans rfl, _, fun a ha => (ha.cell 2).trans rfl, m2.lookV hv ⟨_, rfl, m2.hf, ?_⟩⟩
  rw [hl]
  refine al_new fun w3 b3 e3 s3 h3 g3 => ⟨m2.hf.below g3, ?_⟩
  have m3 := m2.below g3
  have hcn := hf.cn
  have hnb := hf.nb
  have hB : b.r.B ≤ w3.heap.size := by have := m3.rope.lt; omega
  refine app_in m3.so (by rw [zs_len]) h3 hB (by rw [zs_len]; omega) fun A' c' w4 o4 k4 f4 => ⟨_, _, _, rfl, ?_⟩
  have e2 : zs sp ++ [((nm (.v v) : Nat) : Int)] = zs (sp ++ [nm (.v v)]) := by rw [zs_app]; rfl
  rw [e2] at o4 ⊢
  rw [zs_len]
  refine ⟨m3.hf.keeps k4 fun ⟨a, ha, e⟩ => (m3.da a ha).1 (by rw [e]; exact inF b), m3.spareS o4 k4 (fun a ha => by injection ha with ha; subst ha; exact f4) fun w5 m5 u5 => hb_ldM (j := 2) m5.hf rfl (m5.gv.del KTv (x := v) hv fun w6 g6 k6 => ⟨rfl, ?_⟩)⟩
  obtain ⟨m6, u6⟩ := m5.mapV g6 k6
  obtain ⟨T', f5⟩ := hf.delV hm.rope.rok hm.gv.nd hin hd0
  exact ⟨Fe { b with A := some A', c := c' } Fl1, rfl, ⟨{ b with A := some A', c := c' }, _, _, _, _, _, _, _, Fl1, rfl, fun _ => .rfl, m6, f5⟩, upd_iff hF ((((u1.trans (Upd.below (Below.refl _ _).drew)).trans (Upd.below g3)).trans u5).trans u6)⟩
theorem LenS_ok (h : RepS w Fp F vs es) : Calls Try.prog 10 #[.pointer (some ⟨F, 0, none⟩)] w fun e w' => e = .returned (.tuple #[.int .i64 (vs.length : Int), .int .i64 (es.length : Int)]) ∧ Below w.heap.size w w' := by
  obtain ⟨b, rows, V, vl, el, sp, T, nm, Fl, rfl, hF, hm, hf⟩ := h
  apply f_span_Forest_Len.ok
  unfold f_span_Forest_Len.wp
  have b1 : Below w.heap.size w w.drew := (Below.refl _ _).drew
  have m1 := hm.below b1
  refine drW_intro ⟨fun a => HB a b.F (fC b sp.length) TF, m1.hf, _, fun a ha => (ha.cell 2).trans rfl, _, fun a ha => (ha.cell 3).trans rfl, m1.gv.len KTv ⟨_, rfl, m1.hf, m1.ge.len KTe ⟨_, rfl, ?_, b1⟩⟩⟩
  rw [hf.vln, hf.eln]
end
def Ct (vs : List Int) (es : List E) (u x : Int) : Prop := x ∈ vs ∧ Ja es u x
structure IsSp (vs : List Int) (es : List E) (u s : Int) : Prop where
  at_ : ∃ a b, Ct vs es u a ∧ Ct vs es u b ∧ dS es a b = s
  le : ∀ x y, Ct vs es u x → Ct vs es u y → dS es x y ≤ s
theorem IsSp.uniq {vs : List Int} {es : List E} {u s t : Int} (h : IsSp vs es u s) (k : IsSp vs es u t) : s = t := by
  obtain ⟨a, b, h1, h2, h3⟩ := h.at_
  obtain ⟨c, d, k1, k2, k3⟩ := k.at_
  have := h.le c d k1 k2
  have := k.le a b h1 h2
  omega
theorem IsSp.same {vs : List Int} {es : List E} {u v s : Int} (g : VE vs es) (h : IsSp vs es u s) (hj : Ja es u v) : IsSp vs es v s := by
  have key : ∀ x, Ct vs es u x ↔ Ct vs es v x := fun x => ⟨fun hx => ⟨hx.1, hj.symm.trans g hx.2⟩, fun hx => ⟨hx.1, hj.trans g hx.2⟩⟩
  obtain ⟨a, b, h1, h2, h3⟩ := h.at_
  exact ⟨⟨a, b, (key a).1 h1, (key b).1 h2, h3⟩, fun x y hx hy => h.le x y ((key x).2 hx) ((key y).2 hy)⟩
structure Fr2 (vs : List Int) (es : List E) (u : Int) (m : Rc) : Prop where
  a : Ct vs es u m.a
  b : Ct vs es u m.b
  d : dS es m.a m.b = m.d
  le : ∀ x y, Ct vs es u x → Ct vs es u y → dS es x y ≤ m.d
theorem Fr2.sp {vs : List Int} {es : List E} {u : Int} {m : Rc} (h : Fr2 vs es u m) : IsSp vs es u m.d := ⟨⟨_, _, h.a, h.b, h.d⟩, h.le⟩
section
variable {rows : List (List Nat)} {V : Nat → Int} {vl : List (Int × Nat)} {el : List (Int × (Nat × Nat))} {sp : List Nat} {n : Nat} {T : List (List Nat)} {vs : List Int} {es : List E} {nm : Pl → Nat}
theorem FI.ct (f : FI rows V n vl el sp T vs es nm) (rok : RowsOk n rows) (g : VE vs es) {u : Int} (hu : u ∈ vs) {x : Int} : x ∈ vxs V (rowOf rows (nm (.v u))) ↔ Ct vs es u x := by
  obtain ⟨h1, h2, h3⟩ := f.row rok (okV (es := es) hu)
  rw [f.vx g h3]
  constructor
  · rintro ⟨hx, hm⟩
    exact ⟨hx, cn_ja g (h3.conn f.N hu hx h2 hm)⟩
  · rintro ⟨hx, hj⟩
    refine ⟨hx, ?_⟩
    rw [(f.same rok hu hx).2 (ja_cn hj)]
    exact (f.row rok (okV (es := es) hx)).2.1
theorem FI.far (f : FI rows V n vl el sp T vs es nm) (rok : RowsOk n rows) (g : VE vs es) {u : Int} (hu : u ∈ vs) {m : Rc} (h : Fa (dS es) (vxs V (rowOf rows (nm (.v u)))) m) : Fr2 vs es u m := by
  have ct := fun {x} => f.ct rok g hu (x := x)
  have hne : vxs V (rowOf rows (nm (.v u))) ≠ [] := fun e => by
    have := ct.2 (show Ct vs es u u from ⟨hu, Ja.refl es u⟩)
    rw [e] at this; cases this
  obtain ⟨h1, h2⟩ := h.nz hne
  exact ⟨ct.1 h1.a, ct.1 h1.b, h1.d.symm, fun x y hx hy => h2 x (ct.2 hx) y (ct.2 hy)⟩
end
structure SzI (s0 : World) (F R mv : Nat) (x : Int) (G : Rc → Prop) (c : Int) (ls : Nat → Bool) (vv : Nat → Value) (w : World) : Prop where
  g : Below s0.heap.size s0 w
  a3 : ls 3 = true → vv 3 = .pointer (some ⟨R, 0, none⟩)
  a7 : ls 7 = true → vv 7 = .map (some mv)
  a9 : ls 9 = true → vv 9 = .int .i64 x
  aA : ls 10 = true → ∃ m, G m ∧ vv 10 = .tuple #[.agg (rcC F m), .int .i64 c]
  o : ls 15 = true → ls 14 = true
  aB : ls 14 = true → ∃ B cs, vv 14 = .pointer (some ⟨B, 0, none⟩) ∧ s0.heap.size ≤ B ∧ HB w B cs 60 ∧ cs.size = 4 ∧ (ls 15 = true → ∃ m, G m ∧ cs = rcC F m)
theorem putR4' {w : World} {b : Nat} {cs : Array Value} {t : TypeId} (h : HB w b cs t) (hc : cs.size = 4) {F : Nat} (m : Rc) {p : Option Addr} {x y z : Int} (hp : p = pF F m.f ∧ x = m.a ∧ y = m.b ∧ z = m.d) {K : World → Prop} (hk : ∀ w', HB w' b (rcC F m) t → Keeps (fun k => k = b) w w' → K w') :
    stW w (⟨b, 0, none⟩ : Addr) (.pointer p) fun w1 => stW w1 ((⟨b, 0, none⟩ : Addr).add 1) (.int .i64 x) fun w2 => stW w2 ((⟨b, 0, none⟩ : Addr).add 2) (.int .i64 y) fun w3 => stW w3 ((⟨b, 0, none⟩ : Addr).add 3) (.int .i64 z) K := by
  obtain ⟨rfl, rfl, rfl, rfl⟩ := hp
  exact putR4 h hc m hk
section
variable {w : World} {Fp : Nat → Prop} {F : Nat} {vs : List Int} {es : List E}
theorem reachS_ok (h : RepS w Fp F vs es) {u : Int} (hu : W64 u) :
    Calls Try.prog 31 #[.pointer (some ⟨F, 0, none⟩), .int .i64 u] w fun e w' => (∃ m, e = .returned (.tuple #[.agg (rcC F m), .int .i64 (if u ∈ vs then 0 else 51)]) ∧ (u ∉ vs → m = zR) ∧ (u ∈ vs → Fr2 vs es u m)) ∧ Below w.heap.size w w' := by
  obtain ⟨b, rows, V, vl, el, sp, T, nm, Fl, rfl, hF, hm, hf⟩ := h
  have rok := hm.rope.rok
  have g := hm.lc.ve
  apply f_span_Forest_reach.ok
  unfold f_span_Forest_reach.wp
  refine al_new fun w1 b1 e1 s1 hb1 g1 => ?_
  have hb1 : HB w1 b1 (rcC b.F zR) 60 := hb1
  have bd : Below w1.heap.size w1 w1.drew := (Below.refl _ _).drew
  have m1 := (hm.below g1).below bd
  have hb1 := hb1.below bd
  have g01 := g1.trans (bd.mono g1.size)
  refine drW_intro ⟨f_span_Forest_reach.h1_ok .., SzI w1.drew b.F b.r.R b.mv (lkV vl u) (fun m => (u ∉ vs → m = zR) ∧ (u ∈ vs → Fr2 vs es u m)) (if u ∈ vs then 0 else 150), ⟨Below.refl _ _, by simp, by simp, by simp, by simp, by simp, by simp⟩, ?_, ?_⟩
  · refine ⟨?_, ?_, ?_, ?_, ?_, ?_, trivial⟩
    · intro _ ls vv w2 hl hI
      exact hb_ldP0 (m1.below hI.g).hf rfl ⟨hI.g, fun _ => rfl, hI.a7, hI.a9, hI.aA, hI.o, hI.aB⟩
    · intro _ ls vv w2 hl hI
      exact hb_ldM (j := 2) (m1.below hI.g).hf rfl ⟨hI.g, hI.a3, fun _ => rfl, hI.a9, hI.aA, hI.o, hI.aB⟩
    · intro _ ls vv w2 hl hI me7 h7
      have := (hI.a7 h7.1).symm.trans h7.2
      injection this with this
      subst this
      exact (m1.below hI.g).lookV hu ⟨_, rfl, hI.g, hI.a3, hI.a7, fun _ => rfl, hI.aA, hI.o, hI.aB⟩
    · intro _ ls vv w2 hl hI pe3 h3 me7 h7 xe9 h9
      have e3 := (hI.a3 h3.1).symm.trans h3.2
      injection e3 with e3
      subst e3
      have e9 := (hI.a9 h9.1).symm.trans h9.2
      injection e9 with _ e9
      subst e9
      have m2 := m1.below hI.g
      refine (All_ok m2.rope _).mono ?_
      rintro _ w3 ⟨⟨m, rfl, hz, hfa⟩, g3⟩
      have hcode : (if Bd b.r.n ((lkV vl u : Nat) : Int) = true then (150 : Int) else 0) = if u ∈ vs then 0 else 150 := by
        rw [hf.lkv]
        by_cases hin : u ∈ vs
        · rw [if_pos hin, if_pos hin, if_neg]
          have h1 := hf.pos _ (okV (es := es) hin)
          have h2 : nm (.v u) < b.r.n := hf.fr.kn _ ⟨_, okV (es := es) hin, rfl⟩
          simp [Bd]; omega
        · rw [if_neg hin, if_neg hin, if_pos (by simp [Bd])]
      rw [hcode, hm.rF]
      refine ⟨_, _, _, _, _, rfl, hI.g.trans (g3.mono hI.g.size), hI.a3, hI.a7, hI.a9, fun _ => ⟨m, ⟨fun hn => ?_, fun hin => ?_⟩, rfl⟩, hI.o, ?_⟩
      · exact hz (by rw [hf.lkv, if_neg hn]; simp [Bd])
      · have h1 := hf.pos _ (okV (es := es) hin)
        have h2 : nm (.v u) < b.r.n := hf.fr.kn _ ⟨_, okV (es := es) hin, rfl⟩
        have := hfa (by rw [hf.lkv, if_pos hin]; simp [Bd]; omega)
        rw [hf.lkv, if_pos hin, Int.toNat_natCast] at this
        exact hf.far rok g hin this
      · intro h14
        have h14 : ls 14 = true := h14
        obtain ⟨B, cs, q1, q2, q3, q4, q5⟩ := hI.aB h14
        exact ⟨B, cs, q1, q2, q3.below g3, q4, q5⟩
    · intro _ ls vv w2 hl hI
      have h15 : ls 15 = false := by
        cases h : ls 15 with
        | false => rfl
        | true => rw [hI.o h] at hl; cases hl
      have no15 : ∀ {p : Prop}, ls 15 = true → p := fun h => by
        rw [h15] at h; cases h
      refine al_new fun w3 b3 e3 s3 hb3 g3 => ⟨hI.g.trans (g3.mono hI.g.size), hI.a3, hI.a7, hI.a9, hI.aA, fun h => no15 h, ?_⟩
      intro _
      exact ⟨b3, _, rfl, by have := hI.g.size; omega, hb3, rfl, fun h => no15 h⟩
    · intro _ ls vv w2 hl hI pe3 h3 me7 h7 xe9 h9 p0 x1 x2 x3 x4 h10 ae14 h14
      obtain ⟨B, cs, q1, q2, q3, q4, q5⟩ := hI.aB h14.1
      have eB := q1.symm.trans h14.2
      injection eB with eB
      injection eB with eB
      subst eB
      obtain ⟨m, hG, eA⟩ := hI.aA h10.1
      have eA := eA.symm.trans h10.2
      injection eA with eA
      have e0 : (#[.agg (rcC b.F m), .int .i64 (if u ∈ vs then 0 else 150)] : Array Value).toList = #[.agg #[.pointer p0, .int .i64 x1, .int .i64 x2, .int .i64 x3], .int .i64 x4].toList := by rw [eA]
      injection e0 with e1 e2
      injection e1 with e1
      have e3 : (rcC b.F m).toList = #[.pointer p0, .int .i64 x1, .int .i64 x2, .int .i64 x3].toList := by rw [e1]
      injection e3 with f1 e3
      injection e3 with f2 e3
      injection e3 with f3 e3
      injection e3 with f4 _
      injection f1 with f1; injection f2 with _ f2; injection f3 with _ f3; injection f4 with _ f4
      refine putR4' q3 q4 (F := b.F) m ⟨f1.symm, f2.symm, f3.symm, f4.symm⟩ fun w3 h3' k3 => ⟨hI.g.trans (k3.below hI.g.size fun k hk e => by omega), hI.a3, hI.a7, hI.a9, hI.aA, fun _ => h14.1, fun _ => ⟨B, _, h14.2, q2, h3', rfl, fun _ => ⟨m, hG, rfl⟩⟩⟩
  · intro ls vv w2 hI pe3 h3 me7 h7 xe9 h9 p0 x1 x2 x3 x4 h10 ae14 h14 h15
    obtain ⟨B, cs, q1, q2, q3, q4, q5⟩ := hI.aB h14.1
    have eB := q1.symm.trans h14.2
    injection eB with eB
    injection eB with eB
    subst eB
    obtain ⟨m, hG, rfl⟩ := q5 h15.1
    obtain ⟨m', _, eA⟩ := hI.aA h10.1
    have eA := eA.symm.trans h10.2
    injection eA with eA
    have e0 : (#[.agg (rcC b.F m'), .int .i64 (if u ∈ vs then 0 else 150)] : Array Value).toList = #[.agg #[.pointer p0, .int .i64 x1, .int .i64 x2, .int .i64 x3], .int .i64 x4].toList := by rw [eA]
    injection e0 with _ e2
    injection e2 with e2 _
    injection e2 with _ e2
    have hb2 := hb1.below hI.g
    have l1 := hb1.lt
    have fin : ∀ {w5 : World}, Keeps (fun k => k = b1) w2 w5 → Below w.heap.size w w5 := fun k => (g01.trans (hI.g.mono g01.size)).trans (k.below (by have := g01.size; have := hI.g.size; omega) fun k hk e => by omega)
    by_cases hin : u ∈ vs
    · rw [if_pos hin] at e2
      subst e2
      rw [if_pos hin]
      exact sel_f rfl (getR4 q3 (putR4 hb2 rfl (F := b.F) m fun w5 h5 k5 => getR4 h5 ⟨⟨m, rfl, hG.1, hG.2⟩, fin k5⟩))
    · rw [if_neg hin] at e2
      subst e2
      rw [if_neg hin]
      exact sel_t rfl (putR4 hb2 rfl (F := b.F) zR fun w5 h5 k5 => getR4 h5 ⟨⟨zR, rfl, fun _ => rfl, fun h => absurd h hin⟩, fin k5⟩)
theorem SpanS_ok (h : RepS w Fp F vs es) {u : Int} (hu : W64 u) :
    Calls Try.prog 13 #[.pointer (some ⟨F, 0, none⟩), .int .i64 u] w fun e w' => (∃ s, e = .returned (.tuple #[.int .i64 s, .int .i64 (if u ∈ vs then 0 else 51)]) ∧ (u ∉ vs → s = 0) ∧ (u ∈ vs → IsSp vs es u s)) ∧ Below w.heap.size w w' := by
  apply f_span_Forest_Span.ok
  unfold f_span_Forest_Span.wp
  refine (reachS_ok h hu).mono ?_
  rintro _ w1 ⟨⟨m, rfl, h1, h2⟩, g1⟩
  refine ⟨_, _, _, _, _, rfl, al_new fun w2 b2 e2 s2 hb2 g2 => putR4 hb2 rfl (F := F) m fun w3 h3 k3 => hb_ldI (j := 3) h3 rfl ⟨⟨m.d, rfl, fun hn => by rw [h1 hn]; rfl, fun hin => (h2 hin).sp⟩, ?_⟩⟩
  have := g1.size
  exact (g1.trans (g2.mono g1.size)).trans (k3.below (by have := g2.size; omega) fun k hk e => by omega)
theorem EndsS_ok (h : RepS w Fp F vs es) {u : Int} (hu : W64 u) :
    Calls Try.prog 14 #[.pointer (some ⟨F, 0, none⟩), .int .i64 u] w fun e w' => (∃ x y, e = .returned (.tuple #[.int .i64 x, .int .i64 y, .int .i64 (if u ∈ vs then 0 else 51)]) ∧ (u ∉ vs → x = 0 ∧ y = 0) ∧ (u ∈ vs → Ct vs es u x ∧ Ct vs es u y ∧ IsSp vs es u (dS es x y) ∧ (dS es x y = 0 → x = u ∧ y = u))) ∧ Below w.heap.size w w' := by
  have g := h.ve
  apply f_span_Forest_Ends.ok
  unfold f_span_Forest_Ends.wp
  refine (reachS_ok h hu).mono ?_
  rintro _ w1 ⟨⟨m, rfl, h1, h2⟩, g1⟩
  refine ⟨_, _, _, _, _, rfl, al_new fun w2 b2 e2 s2 hb2 g2 => putR4 hb2 rfl (F := F) m fun w3 h3 k3 => hb_ldI (j := 3) h3 rfl ?_⟩
  have s1 := g1.size
  have g3 : Below w.heap.size w w3 := (g1.trans (g2.mono g1.size)).trans (k3.below (by have := g2.size; omega) fun k hk e => by omega)
  have j0 : ∀ {w4 : World} {m' : Rc} {Kr : Int → Int → Int → World → Prop}, HB w4 b2 (rcC F m') 60 → (u ∉ vs → Kr 0 0 51 w4) → (u ∈ vs → ∀ x y, ((x = m'.a ∧ y = m'.b) ∨ (x = m'.b ∧ y = m'.a)) → Kr x y 0 w4.drew) → f_span_Forest_Ends.j0 ⟨b2, 0, none⟩ (if u ∈ vs then 0 else 51) w4 Kr := by
    intro w4 m' Kr h4 k1 k2
    unfold f_span_Forest_Ends.j0
    by_cases hin : u ∈ vs
    · rw [if_pos hin]
      have h4d : HB w4.drew b2 (rcC F m') 60 := h4
      refine sel_f rfl (drW_intro (hb_ldI (j := 1) h4d rfl (hb_ldI (j := 2) h4d rfl (hb_ldI (j := 1) h4d rfl (hb_ldI (j := 2) h4d rfl (k2 hin _ _ ?_))))))
      by_cases hlt : m'.b < m'.a
      · rw [if_pos hlt, if_neg (by omega)]; exact .inr ⟨rfl, rfl⟩
      · rw [if_neg hlt]
        by_cases hlt2 : m'.b > m'.a
        · rw [if_pos hlt2]; exact .inl ⟨rfl, rfl⟩
        · rw [if_neg hlt2]
          have : m'.a = m'.b := by omega
          exact .inl ⟨rfl, this⟩
    · rw [if_neg hin]
      exact sel_t rfl (k1 hin)
  by_cases hd : m.d = 0
  · refine sel_t (by simp [hd]) (hb_st (j := 1) h3 (by simp [rcC]) fun w4 h4 k4 => hb_st (j := 2) h4 (by simp [rcC]) fun w5 h5 k5 => ?_)
    have h5 : HB w5 b2 (rcC F ⟨m.f, u, u, m.d⟩) 60 := h5
    have g5 : Below w.heap.size w w5 := g3.trans ((k4.trans k5).below (by have := g3.size; omega) fun k hk e => by omega)
    refine j0 h5 (fun hn _ => ⟨⟨0, 0, by rw [if_neg hn], fun _ => ⟨rfl, rfl⟩, fun hh => absurd hh hn⟩, g5⟩) fun hin x y hxy _ => ⟨⟨x, y, by rw [if_pos hin], fun hh => absurd hin hh, fun _ => ?_⟩, g5.drew⟩
    obtain ⟨ex, ey⟩ : x = u ∧ y = u := by rcases hxy with h | h <;> exact h
    have := (h2 hin).sp
    rw [hd] at this
    have hc : Ct vs es u u := ⟨hin, Ja.refl es u⟩
    rw [ex, ey]
    exact ⟨hc, hc, by rw [dS_self g]; exact this, fun _ => ⟨rfl, rfl⟩⟩
  · refine sel_f (by simpa using hd) (j0 h3 (fun hn _ => ⟨⟨0, 0, by rw [if_neg hn], fun _ => ⟨rfl, rfl⟩, fun hh => absurd hh hn⟩, g3⟩) fun hin x y hxy _ => ⟨⟨x, y, by rw [if_pos hin], fun hh => absurd hin hh, fun _ => ?_⟩, g3.drew⟩)
    have f2 := h2 hin
    rcases hxy with ⟨rfl, rfl⟩ | ⟨rfl, rfl⟩
    · exact ⟨f2.a, f2.b, by rw [f2.d]; exact f2.sp, fun h0 => absurd (f2.d.symm.trans h0) hd⟩
    · have e := dS_symm g f2.b.1 f2.a.1
      exact ⟨f2.b, f2.a, by rw [e, f2.d]; exact f2.sp, fun h0 => absurd (f2.d.symm.trans (e.symm.trans h0)) hd⟩
def aCode (vs : List Int) (es : List E) (u v c : Int) : Prop := (c = 51 ∧ ¬ (u ∈ vs ∧ v ∈ vs)) ∨ (c = 61 ∧ u ∈ vs ∧ v ∈ vs ∧ ¬ Ja es u v) ∨ (c = 0 ∧ u ∈ vs ∧ v ∈ vs ∧ Ja es u v)
theorem _root_.Go.Dn.AlongR.code {u v : Int} {mx : E} {W K c : Int} (h : AlongR vs es u v mx W K c) : aCode vs es u v c := by
  rcases h with ⟨h, _, _, _, rfl⟩ | ⟨hu, hv, h, _, _, _, rfl⟩ | ⟨hu, hv, p, hp, np, _, _, _, rfl⟩
  · exact .inl ⟨rfl, h⟩
  · exact .inr (.inl ⟨rfl, hu, hv, h⟩)
  · exact .inr (.inr ⟨rfl, hu, hv, p, hp, np⟩)
theorem DistanceS_ok (h : RepS w Fp F vs es) {u v : Int} (hu : W64 u) (hv : W64 v) :
    Calls Try.prog 15 #[.pointer (some ⟨F, 0, none⟩), .int .i64 u, .int .i64 v] w fun e w' => ∃ c, e = .returned (.tuple #[.int .i64 (dS es u v), .int .i64 c]) ∧ aCode vs es u v c ∧ ∃ Fp', RepS w' Fp' F vs es ∧ Upd Fp w w' Fp' := by
  obtain ⟨b, rows, V, vl, el, sp, T, nm, Fl, rfl, hF, hm, hf⟩ := h
  have g := hm.lc.ve
  apply f_span_Forest_Distance.ok
  unfold f_span_Forest_Distance.wp
  refine hb_ldP (j := 1) hm.hf rfl ((Along_ok hm.lc hu hv).mono ?_)
  rintro _ w1 ⟨⟨mx, W, K, code, rfl, ha⟩, r1, u1⟩
  obtain ⟨m1, v1⟩ := hm.pathS r1 u1 fun _ _ _ _ _ _ => rfl
  refine ⟨_, _, _, _, _, _, _, rfl, agg5 (mx := mx) (W := W) (K := K) fun w2 b2 e2 hb2 g2 => ?_⟩
  refine hb_ldC (j := 4) hb2 rfl (fl_int (ha.in53 g).1 ⟨_, rfl, code, by rw [g.along0 ha], ha.code, Fe b Fl, ⟨b, _, _, _, _, _, _, _, Fl, rfl, fun _ => .rfl, m1.below g2, hf⟩, upd_iff hF (v1.trans (Upd.below g2))⟩)
end
def fTwo (mv : Nat) (u v x y : Int) (i : Nat) (w : Value) : Prop := match i with
  | 3 => w = .map (some mv) | 10 => w = .map (some mv) | 5 => w = .int .i64 u | 12 => w = .int .i64 v | 6 => w = .int .i64 x | 13 => w = .int .i64 y
  | _ => True
theorem fk {m : Nat} {me : Option Nat} (h : Value.map me = .map (some m)) : me = some m := by injection h
theorem fi {x y : Int} (h : Value.int .i64 x = .int .i64 y) : x = y := by injection h
section
variable {w : World} {b : EB} {rows : List (List Nat)} {V : Nat → Int} {vl : List (Int × Nat)} {el : List (Int × (Nat × Nat))} {sp : List Nat} {Fl : Nat → Prop} {vs : List Int} {es : List E}
theorem link_l0s (h : EM w b rows V vl el sp Fl vs es) {l m : List Nat} {R : List (List Nat)} (p : rows.Perm (l :: m :: R)) {x y : Nat} (hx : x ∈ l) (hy : y ∈ m) (h4 : M4 (dS es) (vxs V (l ++ m))) {bA : Nat} {cs : Array Value} {tA : TypeId} (hA : HB w bA cs tA) (nA : ¬ Fe b Fl bA) {i : Nat} (hi : i < 3) (hc : cs[i]? = some (.int .i64 (y : Int))) {k : Nat} {K0 : World → Prop}
    (hK : ∀ w' rows', EM w' b rows' V vl el sp Fl vs es → rows'.Perm ((l ++ m) :: R) → HB w' bA cs tA → Upd (Fe b Fl) w w' (Fe b Fl) → f_span_Forest_Link.l0 k ⟨b.F, 0, none⟩ (x : Int) (some ⟨bA, 0, none⟩) 3 3 ((3 : Nat) : Int) ((i + 1 : Nat) : Int) w' K0) :
    f_span_Forest_Link.l0 (k + 1) ⟨b.F, 0, none⟩ (x : Int) (some ⟨bA, 0, none⟩) 3 3 ((3 : Nat) : Int) (i : Int) w K0 := by
  have hw : IntKind.i64.wrap ((i : Int) + 1) = ((i + 1 : Nat) : Int) := by rw [w64_in (by omega)]; omega
  unfold f_span_Forest_Link.l0
  refine sel_t (by simp; omega) (optB_some rfl (req_intro (by simp; omega) ?_))
  rw [Int.toNat_natCast, Nat.mul_one]
  refine hb_ldI hA hc (hb_ldP0 h.hf rfl (join_st h p hx hy h4 fun w1 rows1 h1 p1 u1 => ?_))
  rw [hw]
  exact hK w1 rows1 h1 p1 (hA.keeps u1.kp nA) u1
end
section
variable {w : World} {Fp : Nat → Prop} {F : Nat} {vs : List Int} {es : List E}
theorem LinkS_ok (h : RepS w Fp F vs es) {e : E} (hid : W64 e.id) (hu : W64 e.u) (hv : W64 e.v) :
    Calls Try.prog 16 #[.pointer (some ⟨F, 0, none⟩), .agg #[.int .i64 e.id, .int .i64 e.u, .int .i64 e.v, .int .i64 e.w]] w fun en w' => ∃ j : Bool, (e.u ∈ vs → e.v ∈ vs → (j = true ↔ Jn es e.u e.v)) ∧ en = .returned (.int .i64 (linkC vs es e j)) ∧ ∃ Fp', RepS w' Fp' F vs (linkE vs es e j) ∧ Upd Fp w w' Fp' := by
  obtain ⟨b, rows, V, vl, el, sp, T, nm, Fl, rfl, hF, hm, hf⟩ := h
  have g := hm.lc.ve
  apply f_span_Forest_Link.ok
  unfold f_span_Forest_Link.wp
  refine al_new fun w1 b1 e1 s1 hb1 g1 => drW_intro ?_
  have hb1 : HB w1 b1 (eC e) 33 := hb1
  have bd : Below w1.heap.size w1 w1.drew := (Below.refl _ _).drew
  have m1 := (hm.below g1).below bd
  have hb1 := hb1.below bd
  have U1 : Upd (Fe b Fl) w w1.drew (Fe b Fl) := (Upd.below g1).trans (Upd.below bd)
  have nb1 : ¬ Fe b Fl b1 := fun hh => by have := hm.lt _ hh; omega
  refine hb_ldP (j := 1) m1.hf rfl (hb_ldI0 hb1 rfl (hb_ldI (j := 1) hb1 rfl (hb_ldI (j := 2) hb1 rfl (hb_ldI (j := 3) hb1 rfl ((Link_ok m1.lc hu hv).mono ?_)))))
  rintro _ w2 ⟨j, hj, rfl, Fl2, r2, u2⟩
  have g2 := r2.ve
  have hsub : ∀ a ∈ es, a ∈ linkE vs es e j := fun a ha => by unfold linkE; split; exact List.mem_cons_of_mem _ ha; exact ha
  obtain ⟨m2, v2⟩ := m1.pathS r2 u2 (hf.dist g g2 hsub)
  have U2 := U1.trans v2
  have hb2 := hb1.keeps u2.kp fun hh => nb1 (.inr (.inr (.inr hh)))
  have nb2 : ¬ Fe b Fl2 b1 := fun hh => by
    rcases v2.fr _ hh with h1 | h1
    · exact nb1 h1
    · have := hb1.lt; omega
  refine ⟨_, rfl, ?_⟩
  by_cases hz : linkC vs es e j = 0
  case neg =>
    have e1 : linkE vs es e j = es := by unfold linkE; rw [if_neg hz]
    refine sel_t (by simpa using hz) ⟨j, hj, rfl, Fe b Fl2, ?_, upd_iff hF U2⟩
    rw [e1] at m2 ⊢
    exact ⟨b, _, _, _, _, _, _, _, Fl2, rfl, fun _ => .rfl, m2, hf⟩
  have e1 : linkE vs es e j = e :: es := by unfold linkE; rw [if_pos hz]
  obtain ⟨hb, hni, hin, hjn, hjf⟩ : ¬ (badI e.id ∨ badI e.u ∨ badI e.v) ∧ e.id ∉ es.map E.id ∧ e.u ∈ vs ∧ e.v ∈ vs ∧ j = false := by
    unfold linkC at hz
    split at hz
    · cases hz
    · rename_i h1
      split at hz
      · cases hz
      · split at hz
        · cases hz
        · rename_i h3
          split at hz
          · cases hz
          · rename_i h4
            split at hz
            · cases hz
            · rename_i h5
              have h4 := Classical.not_not.1 h4
              exact ⟨h1, h3, h4.1, h4.2, Bool.eq_false_iff.2 h5⟩
  have hnj : ¬ Ja es e.u e.v := fun hh => by have := (hj hin hjn).2 hh; rw [hjf] at this; cases this
  rw [e1] at m2 g2
  refine sel_f (by rw [hz]; rfl) ?_
  have bd2 : Below w2.heap.size w2 w2.drew := (Below.refl _ _).drew
  have m3 := m2.below bd2
  have hb3 := hb2.below bd2
  refine drW_intro ⟨f_span_Forest_Link.h4_ok .., fun x y => Below x.heap.size x y, fun i x _ => fTwo b.mv e.u e.v (lkV vl e.u) (lkV vl e.v) i x, fun _ => Below.refl _ _, fun x y z h1 h2 => h1.trans (h2.mono h1.size), fun i v x y _ _ h => h, ?_, ?_⟩
  · refine ⟨fun _ w4 g => hb_ldM (j := 2) (m3.below g).hf rfl ⟨Below.refl _ _, rfl⟩, fun _ w4 g => hb_ldI (j := 1) (hb3.below g) rfl ⟨Below.refl _ _, rfl⟩, fun _ w6 g me3 f3 xe5 f5 => ?_, fun _ w4 g => hb_ldM (j := 2) (m3.below g).hf rfl ⟨Below.refl _ _, rfl⟩, fun _ w4 g => hb_ldI (j := 2) (hb3.below g) rfl ⟨Below.refl _ _, rfl⟩, fun _ w6 g me3 f3 xe5 f5 => ?_, trivial⟩
    · rw [fk f3, fi f5]; exact (m3.below g).lookV hu ⟨_, rfl, Below.refl _ _, rfl⟩
    · rw [fk f3, fi f5]; exact (m3.below g).lookV hv ⟨_, rfl, Below.refl _ _, rfl⟩
  intro w5 g5 me3 f3 xe5 f5 xe6 f6 me10 f10 xe12 f12 xe13 f13
  rw [fi f6, fi f13]
  have m5 := m3.below g5
  have hb5 := hb3.below g5
  have U5 : Upd (Fe b Fl) w w5 (Fe b Fl2) := (U2.trans (Upd.below bd2)).trans (Upd.below g5)
  have lku : lkV vl e.u = nm (.v e.u) := by rw [hf.lkv, if_pos hin]
  have lkv' : lkV vl e.v = nm (.v e.v) := by rw [hf.lkv, if_pos hjn]
  rw [lku, lkv']
  have rok := hm.rope.rok
  have hnb := hf.nb
  have hvl := g.vl
  have hz0 : (0 : Int) ≠ 0 → dS (e :: es) 0 0 = 0 := fun h => absurd rfl h
  have mk1 := makeS_ok m5 (by omega) hf.spr (v := 0) (by decide) hz0
  refine mk1.mono ?_
  rintro _ w7 ⟨b7, rows7, V7, sp7, x1, rfl, mk7⟩
  refine ⟨_, rfl, ?_⟩
  rw [← mk7.F]
  have m7 := mk7.em
  obtain ⟨fr1, nk1, p1, l1, nn1, cnt1, cnb1, sub1⟩ := hf.fr.make rok hm.rope.pos mk7.it
  have sp7r : ∀ x ∈ sp7, [x] ∈ rows7 := fun x hx => fr1.rw.mem_iff.2 (by rw [List.mem_append, List.mem_map]; exact .inl ⟨x, hx, rfl⟩)
  have mk2 := makeS_ok m7 (by rcases cnb1 with hh | ⟨_, hh⟩ <;> omega) sp7r (v := 0) (by decide) hz0
  refine mk2.mono ?_
  rintro _ w8 ⟨b8, rows8, V8, sp8, x2, rfl, mk8⟩
  refine ⟨_, rfl, drW_intro ?_⟩
  rw [← mk8.F]
  have m8 := mk8.em.below (Below.refl _ _).drew
  have U8 : Upd (Fe b Fl) w w8.drew (Fe b8 Fl2) := ((U5.trans mk7.upd).trans mk8.upd).trans (Upd.below (Below.refl _ _).drew)
  have U58 : Upd (Fe b Fl2) w5 w8.drew (Fe b8 Fl2) := (mk7.upd.trans mk8.upd).trans (Upd.below (Below.refl _ _).drew)
  have hb8 : HB w8.drew b1 (eC e) 33 := hb5.keeps U58.kp nb2
  refine hb_ldM (j := 3) m8.hf rfl (hb_ldI0 hb8 rfl (m8.ge.upd KTe (x := e.id) hid (v := (x1, x2)) fun w9 g9 k9 => ?_))
  obtain ⟨m9, u9⟩ := m8.mapE g9 k9
  have hne : rowOf rows (nm (.v e.u)) ≠ rowOf rows (nm (.v e.v)) := fun hh => hnj (cn_ja g ((hf.same rok hin hjn).1 hh))
  obtain ⟨T0, pm, fin⟩ := hf.link rok hm.rope.pos (e := e) hvl hni hin hjn hne mk7.it m7.rope.rok mk8.it
  have hxu := (hf.row rok (okV (es := es) hin)).2.1
  have hxv := (hf.row rok (okV (es := es) hjn)).2.1
  refine (turn_ok m9 pm hxu).mono ?_
  rintro _ w10 ⟨rfl, A, r10, m10, rA, p10, u10⟩
  refine ⟨rfl, (turn_ok m10 (p10.trans (.swap _ _ _)) hxv).mono ?_⟩
  rintro _ w11 ⟨rfl, B, r11, m11, rB, p11, u11⟩
  refine ⟨rfl, al_new fun w12 bA eA zA hA gA => ?_⟩
  have m12 := m11.below gA
  have nA : ¬ Fe b8 Fl2 bA := fun hh => by have := m11.lt _ hh; omega
  have q12 : r11.Perm ((nm (.v e.u) :: A) :: [x1] :: (nm (.v e.v) :: B) :: [x2] :: (sp8.map one1 ++ T0)) := p11.trans ((List.Perm.swap _ _ _).trans ((List.Perm.swap _ _ _).cons _))
  have eW : (((nm (.v e.u) :: A) ++ [x1]) ++ (nm (.v e.v) :: B)) ++ [x2] = (nm (.v e.u) :: A) ++ x1 :: ((nm (.v e.v) :: B) ++ [x2]) := by simp
  have f0 := fin A B _ rA rB (List.Perm.refl _)
  have t0 := f0.tt _ List.mem_cons_self
  have hVV : V8 = fun i => if i = x2 then 0 else if i = x1 then 0 else V i := by rw [mk8.V, mk7.V]
  have h4 : M4 (dS (e :: es)) (vxs V8 ((((nm (.v e.u) :: A) ++ [x1]) ++ (nm (.v e.v) :: B)) ++ [x2])) := by
    rw [eW, hVV]; exact f0.tour4 g2 t0
  have sub4 : ∀ {l : List Nat}, (∀ i ∈ l, i ∈ (((nm (.v e.u) :: A) ++ [x1]) ++ (nm (.v e.v) :: B)) ++ [x2]) → M4 (dS (e :: es)) (vxs V8 l) := fun hs => h4.mono (vxs_mono hs)
  refine ⟨4, link_l0s m12 q12 (by simp) (by simp) (sub4 fun i hi => List.mem_append_left _ (List.mem_append_left _ hi)) hA nA (i := 0) (by decide) rfl fun w13 r13 m13 p13 hA13 u13 => link_l0s m13 p13 (by simp) (by simp) (sub4 fun i hi => List.mem_append_left _ hi) hA13 nA (i := 1) (by decide) rfl fun w14 r14 m14 p14 hA14 u14 => link_l0s m14 p14 (by simp) (by simp) h4 hA14 nA (i := 2) (by decide) rfl fun w15 r15 m15 p15 hA15 u15 => ?_⟩
  unfold f_span_Forest_Link.l0
  refine sel_f (by decide) fun _ => ⟨j, hj, by rw [hz], Fe b8 Fl2, ?_, upd_iff hF ((((((U8.trans u9).trans u10).trans u11).trans (Upd.below gA)).trans u13).trans (u14.trans u15))⟩
  rw [eW] at p15
  have f15 := fin A B r15 rA rB p15
  rw [e1]
  rw [hVV] at m15
  exact ⟨b8, _, _, _, _, _, _, _, Fl2, by rw [mk8.F, mk7.F], fun _ => .rfl, m15, f15⟩
end
theorem pieces_mid {P Q : List Nat} {b : Nat} (nd : (P ++ b :: Q).Nodup) (hP : P ≠ []) : pieces b (P ++ b :: Q) = [P, b :: Q] := by
  have hb : b ∉ P := fun h => by
    rw [List.nodup_append] at nd
    exact nd.2.2 b h b (by simp) rfl
  have ix : (P ++ b :: Q).idxOf b = P.length := by
    rw [List.idxOf_append, if_neg hb, List.idxOf_cons_self]; simp
  unfold pieces
  rw [if_pos (by simp), ix, if_neg (fun h => hP (List.length_eq_zero_iff.1 h)), List.take_left' rfl, List.drop_left' rfl]
theorem app2_in {w : World} {B : Nat} {A : Option Addr} {n c : Nat} {l : List Int} (ho : OwnI w B TI A c l) (hn : n = l.length) {b : Nat} {x y : Int} {t : TypeId} (hb : HB w b #[.int .i64 x, .int .i64 y] t) (hB : B ≤ w.heap.size) (hl : l.length ≤ 1000000) {K : Value → World → Prop}
    (hK : ∀ A' c' w', OwnI w' B TI (some A') c' (l ++ [x, y]) → Keeps (Ob A) w w' → (A = some A' ∨ w.heap.size ≤ A'.block) → K (.slice (some A') (l ++ [x, y]).length c') w') :
    Runs Try.prog (Builtin.append_ #[22, 22] 22 #[.slice A n c, .slice (some (⟨b, 0, none⟩ : Addr)) 2 2]) w K := by
  obtain ⟨i, hi, hz, hs, hby⟩ := TIn.info
  subst hn
  have hnews : ∀ j u, ([x, y].map (Value.int .i64))[j]? = some u → w.cell? ((⟨b, 0, none⟩ : Addr).add j) = some u := fun j u hj => by
    rw [hb.cell, ← Array.getElem?_toList]; exact hj
  have hone : ∀ u ∈ [x, y].map (Value.int .i64), u.oneCell' = true := int_one _
  have hwrap : ∀ (A' : Option Addr) (c' : Nat) (w' : World), w'.ownsRow B TI 1 (.slice A' (l.length + 2) c') (l.length + 2) (l.map (.int .i64) ++ [x, y].map (.int .i64)) → OwnI w' B TI A' c' (l ++ [x, y]) := by
    intro A' c' w' h
    unfold OwnI
    rw [List.length_append, List.map_append]; exact h
  obtain ⟨v', w', hrun, ho', hg, _⟩ := run_append_own (P := Try.prog) w B 22 22 TI i (.int .i64 0) 1 8 TIn.und hi hz hs hby rfl (by decide) (.slice A l.length c) l.length _ ho ⟨b, 0, none⟩ 2 2 ([x, y].map (.int .i64)) (by simp) hnews hone (by unfold maxLen; omega) (by omega) hB
  have hk : Keeps (Ob A) w w' := ⟨hg.os, hg.tape, hg.output, hg.size, fun k hk hn => hg.block k hk fun e => hn (ob_own e)⟩
  obtain ⟨A', c', rfl⟩ : ∃ A' c', v' = .slice (some A') (l.length + 2) c' := by
    obtain ⟨_, h⟩ := ho'
    rcases h with ⟨h1, h2⟩ | ⟨g, cap, cur, hv, _⟩
    · omega
    · exact ⟨_, _, hv⟩
  refine runs_of hrun ?_
  have := hK A' c' w' (hwrap _ _ _ ho') hk ?_
  · rw [List.length_append] at this; exact this
  · rcases ho.2 with ⟨h1, h2⟩ | ⟨g, cap, cur, hv, hbg, hgg, hnc, hcm, hcs, htake⟩
    · injection h1 with h1 _ h3; subst h1; subst h3
      have hl : l = [] := List.length_eq_zero_iff.mp h2
      subst hl
      have hr2 := run_append_nil (P := Try.prog) w 22 22 TI i (.int .i64 0) TIn.und hi hz ⟨b, 0, none⟩ 2 2 ([x, y].map (.int .i64)) (by rw [hs]; simp) hnews (by omega) (by omega) (by rw [hby]; omega)
      have hr2' : (Builtin.append_ #[22, 22] 22 #[Value.slice none ([] : List Int).length 0, .slice (some ⟨b, 0, none⟩) 2 2]).run Try.prog w = _ := hr2
      rw [hr2'] at hrun
      injection hrun with hv hw
      injection hv with hv
      injection hv with hv
      rw [← hv]; exact .inr (Nat.le_refl _)
    · injection hv with hA hn hc
      subst hA; subst hc
      by_cases hroom : l.length + 2 ≤ c
      · obtain ⟨w2, hrun2, _⟩ := run_append_fits (P := Try.prog) w B 22 22 TI i 1 TIn.und hi hs g l.length c _ ho ⟨b, 0, none⟩ 2 2 ([x, y].map (.int .i64)) (by simp) hnews hone hroom
        rw [hrun2] at hrun
        injection hrun with hv _
        injection hv with hv; exact .inl hv
      · have hr2 := run_append_grow (P := Try.prog) w 22 22 TI i (.int .i64 0) TIn.und hi hz ⟨g, 0, none⟩ l.length c (l.map (.int .i64)) (by rw [hs]; simp) (ho.cells (g := g) rfl) ⟨b, 0, none⟩ 2 2 ([x, y].map (.int .i64)) (by rw [hs]; simp) hnews (by omega) (by omega)
          (by rw [hby]; exact growslice_fits (by omega) (by omega))
        rw [hr2] at hrun
        injection hrun with hv hw
        injection hv with hv
        injection hv with hv
        rw [← hv]; exact .inr (Nat.le_refl _)
section
variable {w : World} {b : EB} {rows : List (List Nat)} {V : Nat → Int} {vl : List (Int × Nat)} {el : List (Int × (Nat × Nat))} {sp : List Nat} {Fl : Nat → Prop} {vs : List Int} {es : List E}
theorem cut_l0s (h : EM w b rows V vl el sp Fl vs es) {X : List Nat} {R : List (List Nat)} {x : Nat} (hX : X ≠ []) (p : rows.Perm ((x :: X) :: R)) {y0 y1 : Int} {i : Nat} (hi : i < 2) (hc : (#[.int .i64 y0, .int .i64 y1] : Array Value)[i]? = some (.int .i64 (x : Int))) {k : Nat} {K0 : World → Prop}
    (hK : ∀ w' rows', EM w' b rows' V vl el sp Fl vs es → rows'.Perm ([x] :: X :: R) → Upd (Fe b Fl) w w' (Fe b Fl) → f_span_Forest_Cut.l0 k ⟨b.F, 0, none⟩ y0 y1 ((i + 1 : Nat) : Int) w' K0) :
    f_span_Forest_Cut.l0 (k + 1) ⟨b.F, 0, none⟩ y0 y1 (i : Int) w K0 := by
  have hw : IntKind.i64.wrap ((i : Int) + 1) = ((i + 1 : Nat) : Int) := by rw [w64_in (by omega)]; omega
  obtain ⟨x0, xn, rx, bx⟩ := rows_in h p (x := x) (by simp)
  obtain ⟨y, Y, rfl⟩ : ∃ y Y, X = y :: Y := by cases X with | nil => exact absurd rfl hX | cons y Y => exact ⟨y, Y, rfl⟩
  have a1 : atE b.r.n rows (x : Int) 1 = ((y : Int), 0) := by
    unfold atE
    rw [bx]
    simp only [Bool.false_eq_true, if_false, Int.toNat_natCast, rx]
    rw [if_neg (by simp only [List.length_cons]; omega)]; rfl
  unfold f_span_Forest_Cut.l0
  refine sel_t (by simp; omega) (req_intro (by simp; omega) ?_)
  rw [Int.toNat_natCast]
  refine optB_some hc (req_intro (by decide) (hb_ldP0 h.hf rfl ((At_ok h.rope (x : Int) 1).mono ?_)))
  rintro e w1 ⟨rfl, b1⟩
  rw [a1]
  have h1 := h.below b1
  have my : y ∈ x :: y :: Y := by simp
  have nd := nodup_in h p
  refine ⟨_, _, rfl, sel_t rfl (hb_ldP0 h1.hf rfl (cut_st h1 p my fun w2 rows2 h2 p2 u2 => ?_))⟩
  have := pieces_mid (P := [x]) (b := y) (Q := Y) nd (by simp)
  rw [show x :: y :: Y = [x] ++ y :: Y from rfl, this] at p2
  rw [hw]
  exact hK w2 rows2 h2 p2 ((Upd.below b1).trans u2)
end
section
variable {w : World} {Fp : Nat → Prop} {F : Nat} {vs : List Int} {es : List E}
theorem CutS_ok (h : RepS w Fp F vs es) {i : Int} (hi : W64 i) :
    Calls Try.prog 17 #[.pointer (some ⟨F, 0, none⟩), .int .i64 i] w fun e w' => e = .returned (.int .i64 (cutC es i)) ∧ ∃ Fp', RepS w' Fp' F vs (cutE es i) ∧ Upd Fp w w' Fp' := by
  obtain ⟨b, rows, V, vl, el, sp, T, nm, Fl, rfl, hF, hm, hf⟩ := h
  have g := hm.lc.ve
  apply f_span_Forest_Cut.ok
  unfold f_span_Forest_Cut.wp
  refine hb_ldM (j := 3) hm.hf rfl (hm.lookE hi ⟨_, _, _, rfl, ?_⟩)
  refine al_new fun w3 b3 e3 s3 hb3 g3 => hb_st0 hb3 (by simp) fun w4 hb4 k4 => hb_st (j := 1) hb4 (by simp) fun w5 hb5 k5 => ?_
  have g15 : Below w.heap.size w w5 := g3.trans ((k4.trans k5).below g3.size fun i hi e => by omega)
  have m5 := hm.below g15
  rw [hf.lke]
  by_cases hin : i ∈ es.map E.id
  case neg =>
    refine sel_t (by rw [decide_eq_false hin]; rfl) (hb_ldP (j := 1) m5.hf rfl ((Cut_ok m5.lc hi).mono ?_))
    rintro _ w6 ⟨rfl, Fl6, r6, u6⟩
    have hz : cutC es i ≠ 0 := by unfold cutC; rw [if_pos hin]; split <;> decide
    have e1 : cutE es i = es := by unfold cutE; rw [if_neg hz]
    rw [e1] at r6 ⊢
    obtain ⟨m6, v6⟩ := m5.pathS r6 u6 fun _ _ _ _ _ _ => rfl
    exact ⟨_, rfl, rfl, Fe b Fl6, ⟨b, _, _, _, _, _, _, _, Fl6, rfl, fun _ => .rfl, m6, hf⟩, upd_iff hF ((Upd.below g15).trans v6)⟩
  refine sel_f (by rw [decide_eq_true hin]; rfl) ?_
  obtain ⟨e, he, rfl⟩ := List.mem_map.1 hin
  rw [hf.lke' he] at hb5
  have hb5 : HB w5 b3 #[.int .i64 ((nm (.t e.id) : Nat) : Int), .int .i64 ((nm (.b e.id) : Nat) : Int)] 82 := hb5
  have n3 : ¬ Fe b Fl b3 := fun hh => by have := hm.lt _ hh; omega
  have rok := hm.rope.rok
  obtain ⟨T0, l, X, Y, pr, ml, rt, nX, nY, fin⟩ := hf.cut rok hm.ge.nd he
  generalize hR : sp.map one1 ++ T0 = R at *
  refine hb_ldI (j := 0) hb5 rfl ((turn_ok m5 pr ml).mono ?_)
  rintro _ w6 ⟨rfl, P, r6, m6, rt6, p6, u6⟩
  have hb6 := hb5.keeps u6.kp n3
  have nd6 := nodup_in m6 p6
  have eP : P = X ++ nm (.b e.id) :: Y := Rot.uniq nd6 (rt6.symm.trans rt)
  subst eP
  have bd : Below w6.heap.size w6 w6.drew := (Below.refl _ _).drew
  have m6d := m6.below bd
  have hb6d := hb6.below bd
  have mb : nm (.b e.id) ∈ nm (.t e.id) :: (X ++ nm (.b e.id) :: Y) := by simp
  refine ⟨rfl, drW_intro (hb_ldP0 m6d.hf rfl (hb_ldI (j := 1) hb6d rfl (cut_st m6d p6 mb fun w7 r7 m7 p7 u7 => ?_)))⟩
  have hb7 := hb6d.keeps u7.kp n3
  rw [← List.cons_append, pieces_mid (by rw [List.cons_append]; exact nd6) (by simp)] at p7
  have p7 : r7.Perm ((nm (.t e.id) :: X) :: (nm (.b e.id) :: Y) :: R) := p7
  refine hb_ldI0 hb7 rfl (hb_ldI (j := 1) hb7 rfl ⟨3, cut_l0s m7 nX p7 (i := 0) (by decide) rfl fun w8 r8 m8 p8 u8 => ?_⟩)
  have q8 : r8.Perm ((nm (.b e.id) :: Y) :: [nm (.t e.id)] :: X :: R) := p8.trans ((((List.Perm.swap _ _ _).cons _)).trans (List.Perm.swap _ _ _))
  refine cut_l0s m8 nY q8 (i := 1) (by decide) rfl fun w9 r9 m9 p9 u9 => ?_
  unfold f_span_Forest_Cut.l0
  refine sel_f (by decide) fun _ => drW_intro ?_
  have hcn := hf.cn
  have hnb := hf.nb
  have bd9 : Below w9.heap.size w9 w9.drew := (Below.refl _ _).drew
  have mA := m9.below bd9
  have hbA := ((hb7.keeps u8.kp n3).keeps u9.kp n3).below bd9
  have hB : b.r.B ≤ w9.drew.heap.size := by have := mA.rope.lt; omega
  have esl : slB (⟨b3, 0, none⟩ : Addr) 0 2 1 = ⟨b3, 0, none⟩ := rfl
  refine ⟨fun a => HB a b.F (fC b sp.length) TF, mA.hf, _, _, _, fun a ha => (ha.cell 4).trans rfl, ?_⟩
  rw [esl]
  refine app2_in mA.so (by rw [zs_len]) hbA hB (by rw [zs_len]; omega) fun A' c' wB oB kB fB => ⟨_, _, _, rfl, ?_⟩
  have e2 : zs sp ++ [((nm (.t e.id) : Nat) : Int), ((nm (.b e.id) : Nat) : Int)] = zs (sp ++ [nm (.t e.id), nm (.b e.id)]) := by rw [zs_app]; rfl
  rw [e2] at oB ⊢
  rw [zs_len]
  refine ⟨mA.hf.keeps kB fun ⟨a, ha, e⟩ => (mA.da a ha).1 (by rw [e]; exact inF b), mA.spareS oB kB (fun a ha => by injection ha with ha; subst ha; exact fB) fun wC mC uC => hb_ldM (j := 3) mC.hf rfl (mC.ge.del KTe (x := e.id) hi fun wD gD kD => ⟨rfl, ?_⟩)⟩
  obtain ⟨mD, uD⟩ := mC.mapE gD kD
  have f9 := fin r9 (p9.trans (by
    have e1 : [nm (.b e.id)] :: Y :: [nm (.t e.id)] :: X :: R = [[nm (.b e.id)], Y] ++ ([[nm (.t e.id)], X] ++ R) := rfl
    have e2 : [nm (.t e.id)] :: X :: [nm (.b e.id)] :: Y :: R = [[nm (.t e.id)], X] ++ ([[nm (.b e.id)], Y] ++ R) := rfl
    rw [e1, e2, ← List.append_assoc, ← List.append_assoc]
    exact List.perm_append_comm.append_right _))
  refine hb_ldP (j := 1) mD.hf rfl ((Cut_ok mD.lc hi).mono ?_)
  rintro _ wE ⟨rfl, FlE, rE, uE⟩
  have hb : ¬ badI e.id := fun hh => by have := g.er e he; unfold badI at hh; omega
  have hz : cutC es e.id = 0 := by unfold cutC; rw [if_neg hb, if_neg (fun hh => hh hin)]
  have e3 : cutE es e.id = noE es e.id := by unfold cutE; rw [if_pos hz]
  rw [e3] at rE ⊢
  have gE := rE.ve
  obtain ⟨mE, vE⟩ := mD.pathS rE uE fun l hl x hx y hy => (f9.dist gE g (fun a ha => (noE_mem.1 ha).1) l hl x hx y hy).symm
  refine ⟨_, rfl, rfl, Fe { b with A := some A', c := c' } FlE, ⟨{ b with A := some A', c := c' }, _, _, _, _, _, _, _, FlE, rfl, fun _ => .rfl, mE, f9⟩, upd_iff hF ?_⟩
  exact (((((((((Upd.below g15).trans u6).trans (Upd.below bd)).trans u7).trans u8).trans u9).trans (Upd.below bd9)).trans uC).trans uD).trans vE
end
end Go.Proofs.Ytklnlnjgaadjbaa.Rd
namespace Go.Proofs.Ytklnlnjgaadjbaa.Rd
open Go.Dn Go.RowKit
set_option maxRecDepth 100000
theorem FI.perm {rows : List (List Nat)} {V : Nat → Int} {n : Nat} {vl : List (Int × Nat)} {el : List (Int × (Nat × Nat))} {sp : List Nat} {T : List (List Nat)} {vs vs' : List Int} {es es' : List E} {nm : Pl → Nat} (f : FI rows V n vl el sp T vs es nm) (p : vs.Perm vs') (q : es.Perm es') : FI rows V n vl el sp T vs' es' nm := by
  have ok' : ∀ {x}, okP vs' es' x ↔ okP vs es x := by
    intro x
    cases x with
    | v i => exact p.mem_iff.symm
    | t i => exact (q.map E.id).mem_iff.symm
    | b i => exact (q.map E.id).mem_iff.symm
  have kn : ∀ x, Kn vs' es' nm x ↔ Kn vs es nm x := fun x => ⟨fun ⟨y, hy, e⟩ => ⟨y, ok'.1 hy, e⟩, fun ⟨y, hy, e⟩ => ⟨y, ok'.2 hy, e⟩⟩
  refine ⟨⟨fun x y hx hy e => f.N.inj x y (ok'.1 hx) (ok'.1 hy) e, (q.map E.id).nodup_iff.1 f.N.ids, fun e he => ?_⟩, p.nodup_iff.1 f.vnd, fun i => ?_, f.vln.trans p.length_eq, fun i => ?_, f.eln.trans q.length_eq, ⟨f.fr.rw, f.fr.spn, fun x hx hk => f.fr.spd x hx ((kn x).1 hk), fun x hk => f.fr.kn x ((kn x).1 hk)⟩, fun x hx => f.pos x (ok'.1 hx), fun l hl => ?_, ?_, ?_, f.nb, fun v hv => f.mkV v (p.mem_iff.2 hv), fun e he => f.mkE e (q.mem_iff.2 he)⟩
  · have := f.N.ends e (q.mem_iff.2 he)
    exact ⟨p.mem_iff.1 this.1, p.mem_iff.1 this.2⟩
  · rw [f.lv]; simp only [p.mem_iff]
  · rw [f.le]; simp only [(q.map E.id).mem_iff]
  · exact (f.tt l hl).mono f.N (fun v hv _ => ⟨p.mem_iff.1 hv, rfl⟩) fun e he _ => ⟨q.mem_iff.1 he, rfl, rfl⟩
  · have := f.tc; rw [← p.length_eq, ← q.length_eq]; exact this
  · have := f.cn; rw [← p.length_eq, ← q.length_eq]; exact this
theorem RepS.perm {w : World} {F : Nat → Prop} {R : Nat} {vs vs' : List Int} {es es' : List E} (h : RepS w F R vs es) (p : vs.Perm vs') (q : es.Perm es') : RepS w F R vs' es' := by
  obtain ⟨b, rows, V, vl, el, sp, T, nm, Fl, h1, h2, h3, h4⟩ := h
  have r1 := h3.lc.perm p (.refl _)
  obtain ⟨m1, _⟩ := h3.pathS r1 (Upd.below (Below.refl _ w)) fun _ _ _ _ _ _ => rfl
  have f1 := h4.perm p (.refl _)
  have r2 := m1.lc.perm (.refl _) q
  obtain ⟨m2, _⟩ := m1.pathS r2 (Upd.below (Below.refl _ w)) (f1.dist m1.lc.ve r2.ve fun e he => q.mem_iff.1 he)
  exact ⟨b, rows, V, vl, el, sp, T, nm, Fl, h1, h2, m2, f1.perm (.refl _) q⟩
structure LG (w0 w : World) (F : Nat → Prop) (R : Nat) (vs : List Int) (es : List E) : Prop where
  rep : RepS w F R vs es
  lo : ∀ k, F k → w0.heap.size ≤ k
  bel : Below w0.heap.size w0 w
section
variable {w0 w w' : World} {F F' : Nat → Prop} {R b : Nat} {vs vs' : List Int} {es es' : List E} {cs : Array Value} {t : TypeId}
theorem LG.call (h : LG w0 w F R vs es) (r : RepS w' F' R vs' es') (u : Upd F w w' F') : LG w0 w' F' R vs' es' :=
  ⟨r, fun k hk => by
    rcases u.fr k hk with h1 | h1
    · exact h.lo k h1
    · exact Nat.le_trans h.bel.size h1, h.bel.trans (u.kp.below h.bel.size fun k hk hf => by have := h.lo k hf; omega)⟩
theorem LG.below (h : LG w0 w F R vs es) (hb : Below w.heap.size w w') : LG w0 w' F R vs es := ⟨h.rep.below hb, h.lo, h.bel.trans (hb.mono h.bel.size)⟩
theorem LG.new (h : LG w0 w F R vs es) (hb : Below w.heap.size w w') {b : Nat} (e : w.heap.size ≤ b) (hh : HB w' b cs t) : Lo w0 w' F b cs t := ⟨hh, fun hf => by have := h.rep.lt b hf; omega, Nat.le_trans h.bel.size e⟩
theorem LG.perm (h : LG w0 w F R vs es) (p : vs.Perm vs') (q : es.Perm es') : LG w0 w F R vs' es' := ⟨h.rep.perm p q, h.lo, h.bel⟩
end
structure L3 (w0 w : World) (F : Nat → Prop) (R : Nat) (st : List Int × List E) (s : RS) (sr : List Int × List E) : Prop where
  f : LG w0 w F R st.1 st.2
  r : RF w s sr.1 sr.2
  d : ∀ k, Rb s k → ¬ F k
section
variable {w0 w w' : World} {F F' : Nat → Prop} {R : Nat} {st st' sr sr' : List Int × List E} {s s' : RS}
theorem L3.below (h : L3 w0 w F R st s sr) (hb : Below w.heap.size w w') : L3 w0 w' F R st s sr := ⟨h.f.below hb, h.r.belw hb, h.d⟩
theorem L3.ref (h : L3 w0 w F R st s sr) (hr : RF w' s' sr'.1 sr'.2) (hs : Sb w s s') (hb : Below w.heap.size w w') : L3 w0 w' F R st s' sr' :=
  ⟨h.f.below hb, hr, fun k hk hf => by
    rcases hs.b k hk with h1 | h1
    · exact h.d k h1 hf
    · have := h.f.rep.lt k hf; omega⟩
theorem L3.call (h : L3 w0 w F R st s sr) {vs : List Int} {es : List E} (hf : LG w0 w' F' R vs es) (hk : ∀ b cs t, Lo w0 w F b cs t → Lo w0 w' F' b cs t) (u : Upd F w w' F') (p : vs.Perm st'.1) (q : es.Perm st'.2) : L3 w0 w' F' R st' s sr :=
  ⟨hf.perm p q, h.r.keeps u.kp h.d, fun k hk hf' => by
    rcases u.fr k hf' with h1 | h1
    · exact h.d k hk h1
    · have := h.r.lt k hk; omega⟩
end
structure DoesS (w0 w : World) (F : Nat → Prop) (R : Nat) (st sr : List Int × List E) (s : RS) (o : Int × E) (en : Ending) (w' : World) : Prop where
  ex : ∃ F' s', en = .returned (.tuple #[.agg (rsC s'), .bool (cdO st o == cdO sr o)]) ∧ L3 w0 w' F' R (stp st o) s' (stp sr o) ∧ (∀ b cs t, Lo w0 w F b cs t → Lo w0 w' F' b cs t) ∧ Sb w s s'
theorem doesS_fin {w0 w w3 w4 w5 : World} {F F' : Nat → Prop} {R b5 : Nat} {st sr st' sr' : List Int × List E} {s s' : RS} {o : Int × E} {x y : Int} {cs5 : Array Value} (hr : RF w s sr.1 sr.2) (n5 : w.heap.size ≤ b5) (h5 : Lo w0 w3 F b5 cs5 31) (hlo : ∀ b cs t, Lo w0 w F b cs t → Lo w0 w3 F b cs t)
    (H4 : L3 w0 w4 F' R st' s sr) (k4 : ∀ b cs t, Lo w0 w3 F b cs t → Lo w0 w4 F' b cs t) (r5 : RF w5 s' sr'.1 sr'.2) (sb5 : Sb w4 s s') (g5 : Below w4.heap.size w4 w5) (es : stp st o = st') (er : stp sr o = sr') (ex : cdO st o = x) (ey : cdO sr o = y) (hc5 : cs5.size = 4) (hsz : w.heap.size ≤ w4.heap.size) :
      (alW w5 (.cells #[.slice none 0 0, .slice none 0 0, .slice none 0 0, .slice none 0 0] 31) fun b w0' => stW w0' (⟨b, 0, none⟩ : Addr) (.slice s'.A0 s'.n0 s'.c0) fun w1 => stW w1 ((⟨b, 0, none⟩ : Addr).add 1) (.slice s'.A1 s'.n1 s'.c1) fun w2 => stW w2 ((⟨b, 0, none⟩ : Addr).add 2) (.slice s'.A2 s'.n2 s'.c2) fun w3 => stW w3 ((⟨b, 0, none⟩ : Addr).add 3) (.slice s'.A3 s'.n3 s'.c3) fun w4 =>
      ldS w4 (⟨b, 0, none⟩ : Addr) fun A0 n0 c0 => ldS w4 ((⟨b, 0, none⟩ : Addr).add 1) fun A1 n1 c1 => ldS w4 ((⟨b, 0, none⟩ : Addr).add 2) fun A2 n2 c2 => ldS w4 ((⟨b, 0, none⟩ : Addr).add 3) fun A3 n3 c3 =>
      stW w4 (⟨b5, 0, none⟩ : Addr) (.slice A0 n0 c0) fun w1 => stW w1 ((⟨b5, 0, none⟩ : Addr).add 1) (.slice A1 n1 c1) fun w2 => stW w2 ((⟨b5, 0, none⟩ : Addr).add 2) (.slice A2 n2 c2) fun w3 => stW w3 ((⟨b5, 0, none⟩ : Addr).add 3) (.slice A3 n3 c3) fun w4 =>
      ldS w4 (⟨b5, 0, none⟩ : Addr) fun A0 n0 c0 => ldS w4 ((⟨b5, 0, none⟩ : Addr).add 1) fun A1 n1 c1 => ldS w4 ((⟨b5, 0, none⟩ : Addr).add 2) fun A2 n2 c2 => ldS w4 ((⟨b5, 0, none⟩ : Addr).add 3) fun A3 n3 c3 =>
        DoesS w0 w F R st sr s o (.returned (.tuple #[.agg #[.slice A0 n0 c0, .slice A1 n1 c1, .slice A2 n2 c2, .slice A3 n3 c3], .bool (x == y)])) w4) := by
  subst es; subst er; subst ex; subst ey
  have H5 := H4.ref r5 sb5 g5
  have l5 := (k4 _ _ _ h5).below g5
  refine pass4 s' fun w6 g6 => ?_
  have H6 := H5.below g6
  have l6 := l5.below g6
  refine ret4 l6.hb hc5 s' fun w7 h7 k7 => ⟨F', s', rfl, ?_, fun b cs t hl => ?_, ⟨fun k hk => (sb5.b k hk).imp id fun h => Nat.le_trans hsz h⟩⟩
  · have bb : Below w0.heap.size w0 w7 := H6.f.bel.trans (k7.below H6.f.bel.size fun i hi e => by have := l6.lo; omega)
    refine ⟨⟨H6.f.rep.other k7 fun k e hf => l6.nF (e ▸ hf), H6.f.lo, bb⟩, H6.r.keeps k7 fun k hk e => ?_, H6.d⟩
    rcases sb5.b k hk with h8 | h8
    · have := hr.lt k h8; omega
    · have := (k4 _ _ _ h5).hb.lt; omega
  · have := ((k4 _ _ _ (hlo _ _ _ hl)).below g5).below g6
    exact ⟨this.hb.keeps k7 fun e => by have := hl.hb.lt; omega, this.nF, this.lo⟩
theorem doesS_ok {w0 w : World} {F : Nat → Prop} {R : Nat} {st sr : List Int × List E} {s : RS} (h : L3 w0 w F R st s sr) (g : RG sr.1 sr.2) (hel : sr.2.length ≤ 4095) {o : Int × E} (ho : OpW o) :
    Calls Try.prog 9 #[.pointer (some ⟨R, 0, none⟩), .agg (rsC s), .agg (oC o)] w (DoesS w0 w F R st sr s o) := by
  apply f_law20_does.ok
  unfold f_law20_does.wp
  refine al_new fun w1 b1 e1 s1 h1 g1 => al_new fun w2 b3 e3 s3 h3 g2 => al_new fun w3 b5 e5 s5 h5 g3 => ?_
  have hb := (g1.trans (g2.mono (by omega))).trans (g3.mono (by omega))
  have H := h.below hb
  have h1 : Lo w0 w3 F b1 (rsC s) 31 := h.f.new (hb.mono (Nat.le_refl _)) (by omega) ((h1.below g2).below g3)
  have h3 : Lo w0 w3 F b3 (oC o) 35 := h.f.new (hb.mono (Nat.le_refl _)) (by omega) (h3.below g3)
  have h5 : Lo w0 w3 F b5 #[.slice none 0 0, .slice none 0 0, .slice none 0 0, .slice none 0 0] 31 := h.f.new (hb.mono (Nat.le_refl _)) (by omega) h5
  have hlo : ∀ b cs t, Lo w0 w F b cs t → Lo w0 w3 F b cs t := fun b cs t hl => hl.below hb
  have n5 : w.heap.size ≤ b5 := by omega
  refine hb_ldI0 h3.hb rfl ?_
  by_cases k1 : o.1 = 1
  · refine sel_t (by simp [k1]) (hb_ldI2 h3.hb (i := 1) (j := 1) rfl ?_)
    refine (AddVS_ok H.f.rep ho.u).mono ?_
    rintro _ w4 ⟨F', rfl, r4, u4⟩
    have H4 : L3 w0 w4 F' R (addVr st.1 o.2.u, st.2) s sr := H.call (H.f.call r4 u4) (fun b cs t hl => hl.call u4) u4 (addV_perm _ _) (.refl _)
    refine ⟨_, rfl, get4 (h1.call u4).hb (hb_ldI2 (h3.call u4).hb (i := 1) (j := 1) rfl ((RAddV_ok H4.r o.2.u).mono ?_))⟩
    rintro _ w5 ⟨s', rfl, r5, sb5, g5⟩
    refine ⟨s'.A0, s'.n0, s'.c0, s'.A1, s'.n1, s'.c1, s'.A2, s'.n2, s'.c2, s'.A3, s'.n3, s'.c3, _, rfl, ?_⟩
    exact doesS_fin h.r n5 h5 hlo H4 (fun b cs t hl => hl.call u4) (sr' := (addVr sr.1 o.2.u, sr.2)) r5 sb5 g5 (by unfold stp; rw [if_pos k1]) (by unfold stp; rw [if_pos k1]) (by unfold cdO; rw [if_pos k1]) (by unfold cdO; rw [if_pos k1]) rfl (Nat.le_trans hb.size u4.kp.size)
  refine sel_f (by simp [k1]) ?_
  by_cases k2 : o.1 = 2
  · refine sel_t (by simp [k2]) (hb_ldI2 h3.hb (i := 1) (j := 1) rfl ?_)
    refine (DelVS_ok H.f.rep ho.u).mono ?_
    rintro _ w4 ⟨F', rfl, r4, u4⟩
    have H4 : L3 w0 w4 F' R (delVr st.1 st.2 o.2.u, st.2) s sr := H.call (H.f.call r4 u4) (fun b cs t hl => hl.call u4) u4 (by rw [delV_perm H.f.rep.ve.vnd]) (.refl _)
    refine ⟨_, rfl, get4 (h1.call u4).hb (hb_ldI2 (h3.call u4).hb (i := 1) (j := 1) rfl ((RDelV_ok H4.r o.2.u).mono ?_))⟩
    rintro _ w5 ⟨s', rfl, r5, sb5, g5⟩
    refine ⟨s'.A0, s'.n0, s'.c0, s'.A1, s'.n1, s'.c1, s'.A2, s'.n2, s'.c2, s'.A3, s'.n3, s'.c3, _, rfl, ?_⟩
    exact doesS_fin h.r n5 h5 hlo H4 (fun b cs t hl => hl.call u4) (sr' := (delVr sr.1 sr.2 o.2.u, sr.2)) r5 sb5 g5 (by unfold stp; rw [if_neg k1, if_pos k2]) (by unfold stp; rw [if_neg k1, if_pos k2]) (by unfold cdO; rw [if_neg k1, if_pos k2]) (by unfold cdO; rw [if_neg k1, if_pos k2]) rfl (Nat.le_trans hb.size u4.kp.size)
  refine sel_f (by simp [k2]) ?_
  by_cases k3 : o.1 = 3
  · refine sel_t (by simp [k3]) (hb_ldI h3.hb (j := 1) rfl (hb_ldI2 h3.hb (i := 1) (j := 1) rfl (hb_ldI2 h3.hb (i := 1) (j := 2) rfl (hb_ldI2 h3.hb (i := 1) (j := 3) rfl ?_))))
    refine (LinkS_ok H.f.rep (e := o.2) ho.i ho.u ho.v).mono ?_
    rintro _ w4 ⟨j, hj, rfl, F', r4, u4⟩
    have H4 : L3 w0 w4 F' R (st.1, linkEr st.1 st.2 o.2 (jnB st.2 o.2.u o.2.v)) s sr := H.call (H.f.call r4 u4) (fun b cs t hl => hl.call u4) u4 (.refl _) (linkE_perm hj)
    refine ⟨_, rfl, get4 (h1.call u4).hb (hb_ldI (h3.call u4).hb (j := 1) rfl (hb_ldI2 (h3.call u4).hb (i := 1) (j := 1) rfl (hb_ldI2 (h3.call u4).hb (i := 1) (j := 2) rfl (hb_ldI2 (h3.call u4).hb (i := 1) (j := 3) rfl ((RLink_ok H4.r g hel o.2).mono ?_)))))⟩
    rintro _ w5 ⟨s', j', hj', rfl, r5, sb5, g5⟩
    refine ⟨s'.A0, s'.n0, s'.c0, s'.A1, s'.n1, s'.c1, s'.A2, s'.n2, s'.c2, s'.A3, s'.n3, s'.c3, _, rfl, ?_⟩
    have e5 : linkEr sr.1 sr.2 o.2 j' = linkEr sr.1 sr.2 o.2 (jnB sr.2 o.2.u o.2.v) := by unfold linkEr; rw [linkC_j hj']
    rw [e5] at r5
    exact doesS_fin h.r n5 h5 hlo H4 (fun b cs t hl => hl.call u4) (sr' := (sr.1, linkEr sr.1 sr.2 o.2 (jnB sr.2 o.2.u o.2.v))) r5 sb5 g5 (by unfold stp; rw [if_neg k1, if_neg k2, if_pos k3]) (by unfold stp; rw [if_neg k1, if_neg k2, if_pos k3]) (by unfold cdO; rw [if_neg k1, if_neg k2, if_pos k3]; exact (linkC_j hj).symm) (by unfold cdO; rw [if_neg k1, if_neg k2, if_pos k3]; exact (linkC_j hj').symm) rfl (Nat.le_trans hb.size u4.kp.size)
  refine sel_f (by simp [k3]) ?_
  by_cases k4 : o.1 = 4
  · refine sel_t (by simp [k4]) (hb_ldI h3.hb (j := 1) rfl ?_)
    refine (CutS_ok H.f.rep ho.i).mono ?_
    rintro _ w4 ⟨rfl, F', r4, u4⟩
    have H4 : L3 w0 w4 F' R (st.1, cutEr st.2 o.2.id) s sr := H.call (H.f.call r4 u4) (fun b cs t hl => hl.call u4) u4 (.refl _) (.refl _)
    refine ⟨_, rfl, get4 (h1.call u4).hb (hb_ldI (h3.call u4).hb (j := 1) rfl ((RCut_ok H4.r o.2.id).mono ?_))⟩
    rintro _ w5 ⟨s', rfl, r5, sb5, g5⟩
    refine ⟨s'.A0, s'.n0, s'.c0, s'.A1, s'.n1, s'.c1, s'.A2, s'.n2, s'.c2, s'.A3, s'.n3, s'.c3, _, rfl, ?_⟩
    exact doesS_fin h.r n5 h5 hlo H4 (fun b cs t hl => hl.call u4) (sr' := (sr.1, cutEr sr.2 o.2.id)) r5 sb5 g5 (by unfold stp; rw [if_neg k1, if_neg k2, if_neg k3, if_pos k4]) (by unfold stp; rw [if_neg k1, if_neg k2, if_neg k3, if_pos k4]) (by unfold cdO; rw [if_neg k1, if_neg k2, if_neg k3, if_pos k4]) (by unfold cdO; rw [if_neg k1, if_neg k2, if_neg k3, if_pos k4]) rfl (Nat.le_trans hb.size u4.kp.size)
  refine sel_f (by simp [k4]) (get4 h1.hb (ret4 h5.hb rfl s fun w4 h4 q4 => ⟨F, s, ?_, ?_, fun b cs t hl => ?_, .refl _ _⟩))
  · unfold cdO; rw [if_neg k1, if_neg k2, if_neg k3, if_neg k4, if_neg k1, if_neg k2, if_neg k3, if_neg k4]; rfl
  · have bb : Below w0.heap.size w0 w4 := H.f.bel.trans (q4.below H.f.bel.size fun i hi e => by have := h5.lo; omega)
    unfold stp; rw [if_neg k1, if_neg k2, if_neg k3, if_neg k4, if_neg k1, if_neg k2, if_neg k3, if_neg k4]
    exact ⟨⟨H.f.rep.other q4 fun k e hf => h5.nF (e ▸ hf), H.f.lo, bb⟩, H.r.keeps q4 fun k hk e => by have := h.r.lt k hk; omega, H.d⟩
  · have := hlo _ _ _ hl
    exact ⟨this.hb.keeps q4 fun e => by have := hl.hb.lt; omega, this.nF, this.lo⟩
structure Sds (w : World) (A : Option Addr) (n c : Nat) (l : List Int) : Prop where
  r : RI w A l
  n : n = l.length
  c0 : A = none → l.length = 0 ∧ c = 0
  le : l.length ≤ 17592186044416
theorem Sds.belw {w w' : World} {A : Option Addr} {n c : Nat} {l : List Int} (h : Sds w A n c l) (hb : Below w.heap.size w w') : Sds w' A n c l := ⟨h.r.below hb (Nat.le_refl _), h.n, h.c0, h.le⟩
section
variable {w0 w : World} {F : Nat → Prop} {R : Nat} {vs : List Int} {es : List E}
theorem gspan (h : LG w0 w F R vs es) {u : Int} (hu : W64 u) {Q : Int → Int → World → Prop} (hQ : ∀ w' s, LG w0 w' F R vs es → Below w.heap.size w w' → (u ∉ vs → s = 0) → (u ∈ vs → IsSp vs es u s) → Q s (if u ∈ vs then 0 else 51) w') :
    Calls Try.prog 13 #[.pointer (some ⟨R, 0, none⟩), .int .i64 u] w fun e w' => ∃ (x y : Int), e = .returned (.tuple #[.int .i64 x, .int .i64 y]) ∧ Q x y w' := by
  refine (SpanS_ok h.rep hu).mono ?_
  rintro _ w1 ⟨⟨s, rfl, h1, h2⟩, g1⟩
  exact ⟨_, _, rfl, hQ w1 s (h.below g1) g1 h1 h2⟩
theorem gends (h : LG w0 w F R vs es) {u : Int} (hu : W64 u) {Q : Int → Int → Int → World → Prop} (hQ : ∀ w' x y, LG w0 w' F R vs es → Below w.heap.size w w' → (u ∉ vs → x = 0 ∧ y = 0) → (u ∈ vs → Ct vs es u x ∧ Ct vs es u y ∧ IsSp vs es u (dS es x y) ∧ (dS es x y = 0 → x = u ∧ y = u)) → Q x y (if u ∈ vs then 0 else 51) w') :
    Calls Try.prog 14 #[.pointer (some ⟨R, 0, none⟩), .int .i64 u] w fun e w' => ∃ (x y z : Int), e = .returned (.tuple #[.int .i64 x, .int .i64 y, .int .i64 z]) ∧ Q x y z w' := by
  refine (EndsS_ok h.rep hu).mono ?_
  rintro _ w1 ⟨⟨x, y, rfl, h1, h2⟩, g1⟩
  exact ⟨_, _, _, rfl, hQ w1 x y (h.below g1) g1 h1 h2⟩
theorem gdist (h : LG w0 w F R vs es) {u v : Int} (hu : W64 u) (hv : W64 v) {Q : Int → Int → World → Prop} (hQ : ∀ w' F' c, LG w0 w' F' R vs es → (∀ b cs t, Lo w0 w F b cs t → Lo w0 w' F' b cs t) → Upd F w w' F' → aCode vs es u v c → Q (dS es u v) c w') :
    Calls Try.prog 15 #[.pointer (some ⟨R, 0, none⟩), .int .i64 u, .int .i64 v] w fun e w' => ∃ (x y : Int), e = .returned (.tuple #[.int .i64 x, .int .i64 y]) ∧ Q x y w' := by
  refine (DistanceS_ok h.rep hu hv).mono ?_
  rintro _ w1 ⟨c, rfl, hc, F', r1, u1⟩
  exact ⟨_, _, rfl, hQ w1 F' c (h.call r1 u1) (fun b cs t hl => hl.call u1) u1 hc⟩
theorem gaddV (h : LG w0 w F R vs es) {v : Int} (hv : W64 v) {Q : Int → World → Prop} (hQ : ∀ w' F', LG w0 w' F' R (addVs vs v) es → (∀ b cs t, Lo w0 w F b cs t → Lo w0 w' F' b cs t) → Upd F w w' F' → Q (addVC vs v) w') :
    Calls Try.prog 22 #[.pointer (some ⟨R, 0, none⟩), .int .i64 v] w fun e w' => ∃ x : Int, e = .returned (.int .i64 x) ∧ Q x w' := by
  refine (AddVS_ok h.rep hv).mono ?_
  rintro _ w1 ⟨F', rfl, r1, u1⟩
  exact ⟨_, rfl, hQ w1 F' (h.call r1 u1) (fun b cs t hl => hl.call u1) u1⟩
theorem glink (h : LG w0 w F R vs es) {e : E} (hi : W64 e.id) (hu : W64 e.u) (hv : W64 e.v) {Q : Int → World → Prop} (hQ : ∀ w' F' j, (e.u ∈ vs → e.v ∈ vs → (j = true ↔ Jn es e.u e.v)) → LG w0 w' F' R vs (linkE vs es e j) → (∀ b cs t, Lo w0 w F b cs t → Lo w0 w' F' b cs t) → Upd F w w' F' → Q (linkC vs es e j) w') :
    Calls Try.prog 16 #[.pointer (some ⟨R, 0, none⟩), .agg #[.int .i64 e.id, .int .i64 e.u, .int .i64 e.v, .int .i64 e.w]] w fun en w' => ∃ x : Int, en = .returned (.int .i64 x) ∧ Q x w' := by
  refine (LinkS_ok h.rep hi hu hv).mono ?_
  rintro _ w1 ⟨j, hj, rfl, F', r1, u1⟩
  exact ⟨_, rfl, hQ w1 F' j hj (h.call r1 u1) (fun b cs t hl => hl.call u1) u1⟩
theorem gcut (h : LG w0 w F R vs es) {i : Int} (hi : W64 i) {Q : Int → World → Prop} (hQ : ∀ w' F', LG w0 w' F' R vs (cutE es i) → (∀ b cs t, Lo w0 w F b cs t → Lo w0 w' F' b cs t) → Upd F w w' F' → Q (cutC es i) w') :
    Calls Try.prog 17 #[.pointer (some ⟨R, 0, none⟩), .int .i64 i] w fun en w' => ∃ x : Int, en = .returned (.int .i64 x) ∧ Q x w' := by
  refine (CutS_ok h.rep hi).mono ?_
  rintro _ w1 ⟨rfl, F', r1, u1⟩
  exact ⟨_, rfl, hQ w1 F' (h.call r1 u1) (fun b cs t hl => hl.call u1) u1⟩
theorem glen (h : LG w0 w F R vs es) {Q : Int → Int → World → Prop} (hQ : ∀ w', LG w0 w' F R vs es → Below w.heap.size w w' → Q (vs.length : Int) (es.length : Int) w') :
    Calls Try.prog 10 #[.pointer (some ⟨R, 0, none⟩)] w fun en w' => ∃ (x y : Int), en = .returned (.tuple #[.int .i64 x, .int .i64 y]) ∧ Q x y w' := by
  refine (LenS_ok h.rep).mono ?_
  rintro _ w1 ⟨rfl, g1⟩
  exact ⟨_, _, rfl, hQ w1 (h.below g1) g1⟩
theorem gnew {n c : Nat} {A : Option Addr} {sl : List Int} (hb : Below w0.heap.size w0 w) (hs : Sds w A n c sl) {Q : Option Addr → World → Prop} (hQ : ∀ w' F R, LG w0 w' F R [] [] → Below w.heap.size w w' → (∀ k, F k → w.heap.size ≤ k) → Q (some ⟨R, 0, none⟩) w') :
    Calls Try.prog 7 #[.slice A n c] w fun e w' => ∃ p : Option Addr, e = .returned (.pointer p) ∧ Q p w' := by
  refine (NewS_ok hs.n hs.r hs.c0 hs.le).mono ?_
  rintro _ w1 ⟨F, R, rfl, r1, g1, lo1⟩
  exact ⟨_, rfl, hQ w1 F R ⟨r1, fun k hk => Nat.le_trans hb.size (lo1 k hk), hb.trans (g1.mono hb.size)⟩ g1 lo1⟩
end
theorem wka {es : List E} {e : E} {u y : Int} {p : List E} (he : e ∈ es) (hu : e.u = u) (h : Wk es e.v p y) : Wk es u (e :: p) y := .cons he (.inl hu) (by unfold oth; rw [if_pos hu]; exact h)
theorem wkb {es : List E} {e : E} {u y : Int} {p : List E} (he : e ∈ es) (hv : e.v = u) (hn : e.u ≠ u) (h : Wk es e.u p y) : Wk es u (e :: p) y := .cons he (.inr hv) (by unfold oth; rw [if_neg hn]; exact h)
def a1 : E := ⟨1, 1, 2, 3⟩
def a2 : E := ⟨2, 2, 3, 4⟩
def a3 : E := ⟨3, 2, 4, 5⟩
theorem jn_no {es : List E} {u v : Int} {P : Int → Prop} (hP : ∀ e ∈ es, P e.u ↔ P e.v) (hu : P u) (hv : ¬ P v) : ¬ Jn es u v := fun ⟨p, hp, _⟩ => hv (hp.inv hP hu)
theorem m3 {x : Int} (h : x ∈ ([4, 3, 2, 1] : List Int)) : x = 1 ∨ x = 2 ∨ x = 3 ∨ x = 4 := by
  simp only [List.mem_cons, List.not_mem_nil, or_false] at h; omega
section
variable {vs : List Int} {es : List E}
theorem ex_ds (g : VE [4, 3, 2, 1] es) (h1 : a1 ∈ es) (h2 : a2 ∈ es) : dS es 1 2 = 3 ∧ dS es 1 3 = 7 ∧ dS es 2 3 = 4 ∧ dS es 2 1 = 3 ∧ dS es 3 1 = 7 ∧ dS es 3 2 = 4 := by
  have d12 : dS es 1 2 = 3 := dS_of g (by decide) (wka h1 rfl (.nil _)) trivial
  have d13 : dS es 1 3 = 7 := dS_of g (by decide) (wka h1 rfl (wka h2 rfl (.nil _))) ⟨by decide, trivial⟩
  have d23 : dS es 2 3 = 4 := dS_of g (by decide) (wka h2 rfl (.nil _)) trivial
  exact ⟨d12, d13, d23, by rw [dS_symm g (by decide) (by decide)]; exact d12, by rw [dS_symm g (by decide) (by decide)]; exact d13, by rw [dS_symm g (by decide) (by decide)]; exact d23⟩
theorem ex_d4 (g : VE [4, 3, 2, 1] es) (h1 : a1 ∈ es) (h2 : a2 ∈ es) (h3 : a3 ∈ es) : dS es 1 4 = 8 ∧ dS es 2 4 = 5 ∧ dS es 3 4 = 9 ∧ dS es 4 1 = 8 ∧ dS es 4 2 = 5 ∧ dS es 4 3 = 9 := by
  have d14 : dS es 1 4 = 8 := dS_of g (by decide) (wka h1 rfl (wka h3 rfl (.nil _))) ⟨by decide, trivial⟩
  have d24 : dS es 2 4 = 5 := dS_of g (by decide) (wka h3 rfl (.nil _)) trivial
  have d34 : dS es 3 4 = 9 := dS_of g (by decide) (wkb h2 rfl (by decide) (wka h3 rfl (.nil _))) ⟨by decide, trivial⟩
  exact ⟨d14, d24, d34, by rw [dS_symm g (by decide) (by decide)]; exact d14, by rw [dS_symm g (by decide) (by decide)]; exact d24, by rw [dS_symm g (by decide) (by decide)]; exact d34⟩
theorem ex_ja (h1 : a1 ∈ es) (h2 : a2 ∈ es) : Ja es 1 2 ∧ Ja es 1 3 := ⟨⟨_, wka h1 rfl (.nil _), trivial⟩, ⟨_, wka h1 rfl (wka h2 rfl (.nil _)), ⟨by decide, trivial⟩⟩⟩
theorem ex_all (g : VE [4, 3, 2, 1] es) (h1 : a1 ∈ es) (h2 : a2 ∈ es) (h3 : a3 ∈ es) : IsSp [4, 3, 2, 1] es 1 9 ∧ ∀ x y, Ct [4, 3, 2, 1] es 1 x → Ct [4, 3, 2, 1] es 1 y → dS es x y = 9 → (x = 3 ∧ y = 4) ∨ (x = 4 ∧ y = 3) := by
  obtain ⟨d12, d13, d23, d21, d31, d32⟩ := ex_ds g h1 h2
  obtain ⟨d14, d24, d34, d41, d42, d43⟩ := ex_d4 g h1 h2 h3
  have d0 := dS_self g
  have j4 : Ja es 1 4 := ⟨_, wka h1 rfl (wka h3 rfl (.nil _)), ⟨by decide, trivial⟩⟩
  refine ⟨⟨⟨3, 4, ⟨by decide, (ex_ja h1 h2).2⟩, ⟨by decide, j4⟩, d34⟩, fun x y hx hy => ?_⟩, fun x y hx hy h => ?_⟩
  · rcases m3 hx.1 with rfl | rfl | rfl | rfl <;> rcases m3 hy.1 with rfl | rfl | rfl | rfl <;> simp [d12, d13, d23, d21, d31, d32, d14, d24, d34, d41, d42, d43, d0]
  · rcases m3 hx.1 with rfl | rfl | rfl | rfl <;> rcases m3 hy.1 with rfl | rfl | rfl | rfl <;> simp [d12, d13, d23, d21, d31, d32, d14, d24, d34, d41, d42, d43, d0] at h ⊢
theorem ex_cut (g : VE [4, 3, 2, 1] [a2, a1]) : IsSp [4, 3, 2, 1] [a2, a1] 1 7 ∧ IsSp [4, 3, 2, 1] [a2, a1] 4 0 := by
  have h1 : a1 ∈ [a2, a1] := by simp
  have h2 : a2 ∈ [a2, a1] := by simp
  obtain ⟨d12, d13, d23, d21, d31, d32⟩ := ex_ds g h1 h2
  have d0 := dS_self g
  have no4 : ∀ x, x ≠ 4 → ¬ Ja [a2, a1] x 4 := fun x hx hj => jn_no (P := fun y => y ≠ 4) (fun e he => by
    simp only [List.mem_cons, List.not_mem_nil, or_false] at he
    rcases he with rfl | rfl <;> decide) hx (by simp) hj
  have no1 : ¬ Ja [a2, a1] 1 4 := no4 1 (by decide)
  refine ⟨⟨⟨1, 3, ⟨by decide, Ja.refl _ _⟩, ⟨by decide, (ex_ja h1 h2).2⟩, d13⟩, fun x y hx hy => ?_⟩, ⟨⟨4, 4, ⟨by decide, Ja.refl _ _⟩, ⟨by decide, Ja.refl _ _⟩, d0 4⟩, fun x y hx hy => ?_⟩⟩
  · have nx : x ≠ 4 := fun e => no1 (e ▸ hx.2)
    have ny : y ≠ 4 := fun e => no1 (e ▸ hy.2)
    rcases m3 hx.1 with rfl | rfl | rfl | rfl <;> rcases m3 hy.1 with rfl | rfl | rfl | rfl <;> simp [d12, d13, d23, d21, d31, d32, d0] at nx ny ⊢
  · have ex : x = 4 := Classical.byContradiction fun h => no4 x h hx.2.symm
    have ey : y = 4 := Classical.byContradiction fun h => no4 y h hy.2.symm
    rw [ex, ey, d0]; exact Int.le_refl _
end
theorem ex_link {vs : List Int} {es : List E} {e : E} {j : Bool} (hj : e.u ∈ vs → e.v ∈ vs → (j = true ↔ Jn es e.u e.v)) (hu : e.u ∈ vs) (hv : e.v ∈ vs) (hn : ¬ Jn es e.u e.v) (h0 : linkC vs es e false = 0) : linkC vs es e j = 0 ∧ linkE vs es e j = e :: es := by
  have : j = false := Bool.eq_false_iff.2 fun h => hn ((hj hu hv).1 h)
  subst this
  exact ⟨h0, by unfold linkE; rw [if_pos h0]⟩
theorem aliveS_ok (w : World) : Calls Try.prog 8 #[] w fun e w' => e = .returned (.bool true) ∧ Below w.heap.size w w' := by
  apply f_law20_alive.ok
  unfold f_law20_alive.wp
  have W : ∀ z : Int, 0 ≤ z → z ≤ 100 → W64 z := fun z h1 h2 => by unfold W64; omega
  refine al_new fun w1 b1 e1 z1 h1 g1 => ?_
  refine gnew (w0 := w) g1 ⟨h1.ri [4] rfl, rfl, (fun h => by cases h), by simp⟩ fun w2 F2 R h2 _ _ => sel_f rfl ⟨5, ?_⟩
  unfold f_law20_alive.l0
  refine sel_t (by decide) (gaddV h2 (W 1 (by decide) (by decide)) fun w3 F3 h3 _ _ => sel_f (by decide) ?_)
  unfold f_law20_alive.l0
  rw [show IntKind.i64.wrap ((1 : Int) + 1) = 2 from by decide]
  refine sel_t (by decide) (gaddV h3 (W 2 (by decide) (by decide)) fun w4 F4 h4 _ _ => sel_f (by decide) ?_)
  unfold f_law20_alive.l0
  rw [show IntKind.i64.wrap ((2 : Int) + 1) = 3 from by decide]
  refine sel_t (by decide) (gaddV h4 (W 3 (by decide) (by decide)) fun w5 F5 h5 _ _ => sel_f (by decide) ?_)
  unfold f_law20_alive.l0
  rw [show IntKind.i64.wrap ((3 : Int) + 1) = 4 from by decide]
  refine sel_t (by decide) (gaddV h5 (W 4 (by decide) (by decide)) fun w6 F6 h6 _ _ => sel_f (by decide) ?_)
  unfold f_law20_alive.l0
  rw [show IntKind.i64.wrap ((4 : Int) + 1) = 5 from by decide]
  have h6 : LG w w6 F6 R [4, 3, 2, 1] [] := h6
  refine sel_f (by decide) fun _ => ?_
  refine glink h6 (e := a1) (W 1 (by decide) (by decide)) (W 1 (by decide) (by decide)) (W 2 (by decide) (by decide)) fun w7 F7 j1 hj1 h7 _ _ => ?_
  obtain ⟨c1, k1⟩ := ex_link hj1 (by decide) (by decide) (jn_no (P := fun x => x = 1) (by simp) (by decide) (by decide)) (by decide)
  rw [k1] at h7; rw [c1]
  refine glink h7 (e := a2) (W 2 (by decide) (by decide)) (W 2 (by decide) (by decide)) (W 3 (by decide) (by decide)) fun w8 F8 j2 hj2 h8 _ _ => ?_
  obtain ⟨c2, k2⟩ := ex_link hj2 (by decide) (by decide) (jn_no (P := fun x => x = 1 ∨ x = 2) (by simp [a1]) (by decide) (by decide)) (by decide)
  rw [k2] at h8; rw [c2]
  refine glink h8 (e := a3) (W 3 (by decide) (by decide)) (W 2 (by decide) (by decide)) (W 4 (by decide) (by decide)) fun w9 F9 j3 hj3 h9 _ _ => ?_
  obtain ⟨c3, k3⟩ := ex_link hj3 (by decide) (by decide) (jn_no (P := fun x => x = 1 ∨ x = 2 ∨ x = 3) (by simp [a1, a2]) (by decide) (by decide)) (by decide)
  rw [k3] at h9; rw [c3]
  have g9 := h9.rep.ve
  obtain ⟨s9, en9⟩ := ex_all g9 (by simp) (by simp) (by simp)
  refine gspan h9 (W 1 (by decide) (by decide)) fun w10 s h10 _ _ hs => gends h10 (W 1 (by decide) (by decide)) fun w11 x y h11 _ _ hxy => gdist h11 (W 1 (by decide) (by decide)) (W 3 (by decide) (by decide)) fun w12 F12 c h12 _ _ hc => ?_
  have es9 : s = 9 := (hs (by decide)).uniq s9
  obtain ⟨cx, cy, sxy, _⟩ := hxy (by decide)
  have exy := en9 x y cx cy (sxy.uniq s9)
  have d13 := (ex_ds g9 (by simp) (by simp)).2.1
  have ec : c = 0 := by
    rcases hc with ⟨_, h⟩ | ⟨_, _, _, h⟩ | ⟨h, _⟩
    · exact absurd ⟨by decide, by decide⟩ h
    · exact absurd (ex_ja (by simp) (by simp)).2 h
    · exact h
  rw [es9, d13, ec]
  refine gcut h12 (W 3 (by decide) (by decide)) fun w13 F13 h13 _ _ => ?_
  have ecut : cutE [a3, a2, a1] 3 = [a2, a1] := by simp [cutE, cutC, noE, badI, a1, a2, a3]
  rw [ecut] at h13
  obtain ⟨t1, t4⟩ := ex_cut h13.rep.ve
  refine gspan h13 (W 1 (by decide) (by decide)) fun w14 p h14 _ _ hp => gspan h14 (W 4 (by decide) (by decide)) fun w15 q h15 _ _ hq => glen h15 fun w16 h16 _ => ?_
  rw [(hp (by decide)).uniq t1, (hq (by decide)).uniq t4]
  rw [if_pos (show (1 : Int) ∈ [4, 3, 2, 1] by decide), if_pos (show (4 : Int) ∈ [4, 3, 2, 1] by decide)]
  refine sel_t rfl (sel_t rfl (sel_t rfl (sel_t rfl (sel_t rfl ?_))))
  have fin : ∀ {X Y : Prop}, X → sel ((0 : Int) == 0) X Y := fun h => sel_t rfl h
  rcases exy with ⟨rfl, rfl⟩ | ⟨rfl, rfl⟩
  · refine sel_t rfl (sel_t rfl (sel_t rfl (sel_t rfl (sel_t rfl (sel_t (by decide) (sel_t rfl (sel_t rfl (sel_t rfl (sel_t rfl (sel_t rfl ⟨rfl, h16.bel⟩))))))))))
  · refine sel_f rfl (sel_t rfl (sel_t rfl (sel_t rfl (sel_t rfl (sel_t rfl (sel_t (by decide) (sel_t rfl (sel_t rfl (sel_t rfl (sel_t rfl (sel_t rfl ⟨rfl, h16.bel⟩)))))))))))
theorem alive_stS {w : World} {Q : Bool → World → Prop} (hQ : ∀ w', Below w.heap.size w w' → Q true w') : Calls Try.prog 8 #[] w fun e w' => ∃ b : Bool, e = .returned (.bool b) ∧ Q b w' := by
  refine (aliveS_ok w).mono ?_
  rintro _ w1 ⟨rfl, g⟩
  exact ⟨_, rfl, hQ w1 g⟩
end Go.Proofs.Ytklnlnjgaadjbaa.Rd
namespace Go.Dn
open Go.RowKit
def IsRecs (ks : List IntKind) (w : World) (A : Option Addr) (len cap : Nat) (f : Nat → Nat → Int) : Prop :=
  (A = none ∧ len = 0 ∧ cap = 0) ∨
  ∃ a, A = some a ∧ len ≤ cap ∧ cap ≤ maxLen ∧ ∀ i, i < len → ∀ j (hj : j < ks.length), w.cell? (a.add (i * ks.length + j)) = some (.int ks[j] (f i j)) ∧ (Lit.int ks[j] (f i j)).wf = true
theorem IsRecs.below {ks : List IntKind} {w w' : World} {A : Option Addr} {len cap : Nat} {f : Nat → Nat → Int} (h : IsRecs ks w A len cap f) (hb : Below w.heap.size w w') : IsRecs ks w' A len cap f := by
  rcases h with h | ⟨a, rfl, h1, h2, h3⟩
  · exact .inl h
  · refine .inr ⟨a, rfl, h1, h2, fun i hi j hj => ?_⟩
    obtain ⟨hc, hw⟩ := h3 i hi j hj
    exact ⟨by rw [hb.cell (World.block_lt_of_cell? w _ hc)]; exact hc, hw⟩
theorem wf_i64 {n : Int} (h : (Lit.int .i64 n).wf = true) : -9223372036854775808 ≤ n ∧ n ≤ 9223372036854775807 := by
  simp [Lit.wf, IntKind.min, IntKind.max, IntKind.signed, IntKind.bits] at h
  omega
def ks5 : List IntKind := [.i64, .i64, .i64, .i64, .i64]
theorem one_int {H : Type} {enc : TypeId × Value → H} {P : Program} {w : World} {base : Nat} {spare : Nat → Bool} {held : Bool} {n : Nat} {t : TypeId} {k : IntKind} {cs : List Value} {j : Nat} {x : DataW H × List MemPlace} (hu : P.underlying t = some (.int k)) (hj : j < cs.length) (h : DataW.trod enc P w base spare held n t ((cs.drop j).take 1) = some x) : ∃ z, cs[j] = .int k z ∧ (Lit.int k z).wf = true := by
  obtain ⟨z, e1, _, e2⟩ := DataW.trod_int hu h
  refine ⟨z, ?_, e2⟩
  rw [List.drop_eq_getElem_cons hj, List.take_succ_cons, List.take_zero] at e1
  injection e1 with e1
theorem ints_of {H : Type} {enc : TypeId × Value → H} {P : Program} {w : World} {base : Nat} {spare : Nat → Bool} {held : Bool} {n m : Nat} {t : TypeId} {gs : Array Field} {cs : List Value} {x : DataW H × List MemPlace} (hu : P.underlying t = some (.struct gs)) (hgs : gs.toList.map (fun f => (f.offset, P.cellsOf f.type, P.underlying f.type)) = (List.range m).map fun j => (j, 1, some (.int .i64))) (hl : cs.length = m) (h : DataW.trod enc P w base spare held n t cs = some x) : ∀ j (hj : j < m), ∃ z, cs[j]'(by omega) = .int .i64 z ∧ (Lit.int .i64 z).wf = true := by
  intro j hj
  obtain ⟨xs, k, _, _, _, hxl, hf⟩ := DataW.trod_struct hu h
  have hsz : gs.size = m := by
    have := congrArg List.length hgs
    simpa using this
  have hfj : gs[j]? = some (gs[j]'(by omega)) := Array.getElem?_eq_getElem (by omega)
  have hrow := congrArg (fun l => l[j]?) hgs
  simp only [List.getElem?_map, Array.getElem?_toList, hfj, Option.map_some, List.getElem?_range hj] at hrow
  injection hrow with hrow
  simp only [Prod.mk.injEq] at hrow
  obtain ⟨ho, hco, hu⟩ := hrow
  have h3 := hf j _ hfj
  rw [ho, hco, List.getElem?_eq_getElem (by omega)] at h3
  exact one_int hu (by omega) h3
theorem open_ops {H : Type} {enc : TypeId × Value → H} {P : Program} {w : World} {base : Nat} {spare : Nat → Bool} {held : Bool} {fuel : Nat} {t e : TypeId} {fs gs : Array Field} {f0 f1 : Field} {A : Option Addr} {len cap : Nat} {x : DataW H × List MemPlace}
    (ht : P.underlying t = some (.slice e)) (he : P.underlying e = some (.struct fs)) (hc : P.cellsOf e = 5) (h0 : fs[0]? = some f0) (h1 : fs[1]? = some f1) (hsz : fs.size = 2) (o0 : f0.offset = 0) (o1 : f1.offset = 1) (c0 : P.cellsOf f0.type = 1) (c1 : P.cellsOf f1.type = 4) (u0 : P.underlying f0.type = some (.int .i64)) (u1 : P.underlying f1.type = some (.struct gs)) (hgs : gs.toList.map (fun f => (f.offset, P.cellsOf f.type, P.underlying f.type)) = (List.range 4).map fun j => (j, 1, some (.int .i64)))
    (h : DataW.trod enc P w base spare held fuel t [.slice A len cap] = some x) : ∃ f, IsRecs ks5 w A len cap f := by
  rcases DataW.trod_slice ht h with ⟨h0, _⟩ | ⟨a, len', cap', elems, rest, n, _, h1', rfl, hb, hl, hm, hlen, hel, hsp, hns⟩
  · injection h0 with h0; injection h0 with h0 h1 h2; subst h0; subst h1; subst h2
    exact ⟨fun _ _ => 0, .inl ⟨rfl, rfl, rfl⟩⟩
  · injection h1' with h1'; injection h1' with h0' h1' h2'; subst h0'; subst h1'; subst h2'
    have hk5 : ∀ j (hj : j < ks5.length), ks5[j] = IntKind.i64 := fun j hj => by
      match j, hj with
      | 0, _ => rfl | 1, _ => rfl | 2, _ => rfl | 3, _ => rfl | 4, _ => rfl
    have key : ∀ i, i < len → ∀ j (hj : j < 5), ∃ z, w.cell? (a.add (i * 5 + j)) = some (.int .i64 z) ∧ (Lit.int .i64 z).wf = true := by
      intro i hi j hj
      have h2 := hel i hi
      rw [List.getElem?_eq_getElem (by omega), Option.bind_eq_some_iff] at h2
      obtain ⟨cs', hcs, hy⟩ := h2
      obtain ⟨xs, m, _, _, hl2, hxl, hf⟩ := DataW.trod_struct he hy
      obtain ⟨hb', hl3, hcell⟩ := World.cells?_some hcs
      have hj2 : j < cs'.length := by rw [hl2, hc]; exact hj
      have h4 := hcell j (by rw [hc]; exact hj)
      rw [add_add, hc] at h4
      have hz : ∃ z, cs'[j] = .int .i64 z ∧ (Lit.int .i64 z).wf = true := by
        by_cases hj0 : j = 0
        · subst hj0
          have h3 := hf 0 f0 h0
          rw [o0, c0, List.getElem?_eq_getElem (by omega)] at h3
          exact one_int u0 hj2 h3
        · have h3 := hf 1 f1 h1
          rw [o1, c1, List.getElem?_eq_getElem (by omega)] at h3
          have hlen4 : ((cs'.drop 1).take 4).length = 4 := by rw [List.length_take, List.length_drop, hl2, hc]; rfl
          obtain ⟨z, e1, e2⟩ := ints_of u1 hgs hlen4 h3 (j - 1) (by omega)
          refine ⟨z, ?_, e2⟩
          rw [List.getElem_take, List.getElem_drop] at e1
          rw [← e1]
          congr 1; omega
      obtain ⟨z, e1, e2⟩ := hz
      refine ⟨z, ?_, e2⟩
      rw [h4, List.getElem?_eq_getElem hj2, e1]
    refine ⟨fun i j => if h : i < len ∧ j < 5 then Classical.choose (key i h.1 j h.2) else 0, .inr ⟨a, rfl, hl, hm, fun i hi j hj => ?_⟩⟩
    have hj5 : j < 5 := hj
    have := Classical.choose_spec (key i hi j hj5)
    rw [hk5 j hj]
    simpa [hi, hj5, ks5] using this
theorem ops_len {H : Type} {enc : TypeId × Value → H} {P : Program} {w : World} {base : Nat} {spare : Nat → Bool} {held : Bool} {fuel : Nat} {t e : TypeId} {by_ : Nat} {A : Option Addr} {len cap : Nat} {x : DataW H × List MemPlace}
    (ht : P.underlying t = some (.slice e)) (hby : P.bytesOf e = by_) (h : DataW.trod enc P w base spare held fuel t [.slice A len cap] = some x) (hw : ∀ v ∈ x.1.weights P t, v ≤ reachBytes) : len * by_ ≤ 140737488351232 := by
  rcases DataW.trod_slice ht h with ⟨h0, hx⟩ | ⟨a, len', cap', elems, rest, n, _, h1, hx, hbs, hl, hm, hlen, hel, hsp, hns⟩
  · injection h0 with h0; injection h0 with h0 h1 h2; subst h1; omega
  · injection h1 with h1; injection h1 with h0 h1 h2; subst h1
    rw [hx] at hw
    have := hw ((elems.map (·.1)).length * by_ + (rest.map (·.1)).length * by_) (by
      simp only [DataW.weights, ht, hby]
      rw [← Nat.add_mul]; exact List.mem_cons_self)
    unfold reachBytes at this
    simp only [List.length_map] at this
    rw [hlen] at this
    omega
end Go.Dn
namespace Go.Proofs.Ytklnlnjgaadjbaa.Rd
open Go.Dn Go.RowKit
set_option maxRecDepth 100000
theorem scr_of {w : World} {A : Option Addr} {n c : Nat} {f : Nat → Nat → Int} (h : IsRecs ks5 w A n c f) : Scr w A n ((List.range n).map fun i => (f i 0, (⟨f i 1, f i 2, f i 3, f i 4⟩ : E))) := by
  rcases h with ⟨rfl, rfl, rfl⟩ | ⟨a, rfl, h1, h2, h3⟩
  · exact ⟨fun i hi => by simp at hi, by simp, by simp, fun o ho => by simp at ho⟩
  · have k5 : ks5.length = 5 := rfl
    refine ⟨fun i hi => ⟨a, rfl, ?_⟩, by simp, by simp; unfold maxLen at h2; omega, fun o ho => ?_⟩
    · have hi' : i < n := by simpa using hi
      have key : ∀ j, j < 5 → w.cell? ((a.add (i * 5)).add j) = some (.int .i64 (f i j)) := fun j hj => by
        have := (h3 i hi' j hj).1
        rw [k5] at this
        rw [add_add, this]
        congr 2
        have : ∀ j (hj : j < 5), ks5[j] = IntKind.i64 := fun j hj => by
          match j, hj with
          | 0, _ => rfl | 1, _ => rfl | 2, _ => rfl | 3, _ => rfl | 4, _ => rfl
        exact this j hj
      rw [List.getElem_map, List.getElem_range]
      have k0 := key 0 (by omega)
      rw [add_add, Nat.add_zero] at k0
      exact ⟨k0, key 1 (by omega), key 2 (by omega), key 3 (by omega), key 4 (by omega)⟩
    · obtain ⟨i, hi, rfl⟩ := List.mem_map.1 ho
      have hi' : i < n := by simpa using hi
      exact ⟨wf_i64 (h3 i hi' 1 (by decide)).2, wf_i64 (h3 i hi' 2 (by decide)).2, wf_i64 (h3 i hi' 3 (by decide)).2, wf_i64 (h3 i hi' 4 (by decide)).2⟩
theorem sds_of {w : World} {A : Option Addr} {n c : Nat} {zs : List Int} (h : IsRow .i64 w A n c zs) (s : n * 8 ≤ 140737488351232) : ∃ l : List Int, Sds w A n c l := by
  rcases h with ⟨rfl, rfl, rfl, rfl⟩ | ⟨x, rfl, hl, hm, hz, hc, hw⟩
  · exact ⟨[], fun i hi => absurd hi (Nat.not_lt_zero _), rfl, fun _ => ⟨rfl, rfl⟩, by simp⟩
  · refine ⟨zs.take n, fun i hi => ?_, by simp; omega, (fun h => by cases h), by simp; omega⟩
    rw [List.length_take] at hi
    refine ⟨x, rfl, ?_⟩
    rw [hc i (by omega), List.getElem_take]
    congr 2
    simp [List.getD_eq_getElem?_getD, show i < zs.length by omega]
theorem op5S {w : World} {o : Int × E} {Q : Nat → World → Prop} (hQ : ∀ w' b, w.heap.size ≤ b → HB w' b (oC o) 35 → Below w.heap.size w w' → Q b w') :
    alW w (.cells #[.int .i64 (0 : Int), .int .i64 (0 : Int), .int .i64 (0 : Int), .int .i64 (0 : Int), .int .i64 (0 : Int)] 35) fun B w1 =>
      stW w1 (⟨B, 0, none⟩ : Addr) (.int .i64 o.1) fun w2 => stW w2 ((⟨B, 0, none⟩ : Addr).add 1) (.int .i64 o.2.id) fun w3 => stW w3 ((⟨B, 0, none⟩ : Addr).add 2) (.int .i64 o.2.u) fun w4 => stW w4 ((⟨B, 0, none⟩ : Addr).add 3) (.int .i64 o.2.v) fun w5 => stW w5 ((⟨B, 0, none⟩ : Addr).add 4) (.int .i64 o.2.w) fun w6 => Q B w6 := by
  refine al_new fun w1 b1 e1 s1 h1 g1 => ?_
  refine hb_st0 h1 (by simp) fun w2 h2 k2 => hb_st h2 (j := 1) (by simp) fun w3 h3 k3 => hb_st h3 (j := 2) (by simp) fun w4 h4 k4 => hb_st h4 (j := 3) (by simp) fun w5 h5 k5 => hb_st h5 (j := 4) (by simp) fun w6 h6 k6 => ?_
  have k := ((k2.trans k3).trans (k4.trans k5)).trans k6
  exact hQ w6 b1 (by omega) h6 (g1.trans ((k.below (B := w.heap.size) (by omega) fun i hi e => by omega)))
end Go.Proofs.Ytklnlnjgaadjbaa.Rd
namespace Go.Dn
open Go.RowKit
def sw (e : E) : E := ⟨e.id, e.v, e.u, e.w⟩
theorem oth_sw {e : E} {m : Int} (h : e.u = m ∨ e.v = m) : oth (sw e) m = oth e m := by
  unfold oth sw
  by_cases h1 : e.u = m
  · rw [if_pos h1]
    by_cases h2 : e.v = m
    · rw [if_pos h2, h1, h2]
    · rw [if_neg h2]
  · rw [if_neg h1, if_pos (h.resolve_left h1)]
theorem Wk.sw {es : List E} {u v : Int} {p : List E} (h : Wk es u p v) : Wk (es.map Go.Dn.sw) u (p.map Go.Dn.sw) v := by
  induction h with
  | nil => exact .nil _
  | cons he hm h ih => exact .cons (List.mem_map_of_mem he) hm.symm (by rw [oth_sw hm]; exact ih)
theorem NB.sw : ∀ {p : List E}, NB p → NB (p.map Go.Dn.sw)
  | [], _ => trivial
  | [_], _ => trivial
  | a :: b :: p, h => ⟨h.1, NB.sw h.2⟩
theorem sw_map (p : List E) : (p.map sw).map sw = p := by
  rw [List.map_map]
  conv => rhs; rw [← List.map_id p]
  rfl
theorem sumW_sw (p : List E) : sumW (p.map sw) = sumW p := by unfold sumW; rw [List.map_map]; rfl
theorem ids_sw (p : List E) : (p.map sw).map E.id = p.map E.id := by rw [List.map_map]; rfl
end Go.Dn
namespace Go.Proofs.Ytklnlnjgaadjbaa.Rd
open Go.Dn Go.RowKit
set_option maxRecDepth 100000
theorem Order_l0 {wS : World} {A : Option Addr} {c b9 : Nat} {l : List (Int × E)} (hr : RO wS A l) (hle : l.length ≤ 9223372036854775807) (hve : ∀ i, i ≤ l.length → VE (run (l.take i)).1 (run (l.take i)).2) (l9 : b9 < wS.heap.size) {K0 : World → Prop}
    (hA : ∀ i (hi : i < l.length), ∃ a, A = some a ∧ a.block ≠ b9)
    (k0 : ∀ w s, HB w b9 (rsC s) 31 → RF w s (run l).1 (run l).2 → (∀ k, Rb s k → wS.heap.size ≤ k) → Keeps (fun k => k = b9) wS w → K0 w) : ∀ (m i : Nat) (w : World) (s : RS), l.length - i = m → i ≤ l.length → HB w b9 (rsC s) 31 → RF w s (run (l.take i)).1 (run (l.take i)).2 → (∀ k, Rb s k → wS.heap.size ≤ k) → Keeps (fun k => k = b9) wS w →
      f_law20_SpanOrder.l0 (m + 1) (⟨b9, 0, none⟩ : Addr) A l.length c (l.length : Int) (i : Int) w K0 := by
  intro m
  induction m with
  | zero =>
    intro i w s hm hi h9 hf hrb hk
    have : i = l.length := by omega
    subst this
    rw [List.take_length] at hf
    unfold f_law20_SpanOrder.l0
    exact sel_f (by simp) (k0 w s h9 hf hrb hk)
  | succ m ih =>
    intro i w s hm hi h9 hf hrb hk
    have hlt : i < l.length := by omega
    obtain ⟨a, eA, h9a⟩ := hA i hlt
    obtain ⟨a', ea', q0⟩ := hr i hlt
    rw [eA] at ea'; injection ea' with ea'; subst ea'
    have q : RO1 w a i l[i] := by
      obtain ⟨c0, c1, c2, c3, c4⟩ := q0
      exact ⟨hk.cell c0 (by simpa only [add_block] using h9a), hk.cell c1 (by simpa only [add_block] using h9a), hk.cell c2 (by simpa only [add_block] using h9a), hk.cell c3 (by simpa only [add_block] using h9a), hk.cell c4 (by simpa only [add_block] using h9a)⟩
    have hw : IntKind.i64.wrap ((i : Int) + 1) = ((i + 1 : Nat) : Int) := by rw [w64_in (by omega)]; omega
    have e1 : run (l.take (i + 1)) = stp (run (l.take i)) l[i] := by rw [List.take_succ_eq_append_getElem hlt, run_snoc]
    have ve := hve i hi
    have hsz := hk.size
    have close : ∀ (w7 : World) (s' : RS), HB w7 b9 (rsC s') 31 → RF w7 s' (stp (run (l.take i)) l[i]).1 (stp (run (l.take i)) l[i]).2 → (∀ k, Rb s' k → wS.heap.size ≤ k) → Keeps (fun k => k = b9) wS w7 → f_law20_SpanOrder.l0 (m + 1) (⟨b9, 0, none⟩ : Addr) A l.length c (l.length : Int) (IntKind.i64.wrap ((i : Int) + 1)) w7 K0 := by
      intro w7 s' h9' hf' hrb' hk'
      rw [hw]
      exact ih (i + 1) w7 s' (by omega) (by omega) h9' (by rw [e1]; exact hf') hrb' hk'
    generalize run (l.take i) = st at hf ve close
    have len : st.2.length ≤ 4095 := by have := ve.el; omega
    unfold f_law20_SpanOrder.l0
    rw [eA] at close ⊢
    refine sel_t (by simpa using hlt) (optB_some rfl (req_intro (by simp; omega) (rowO q ?_)))
    refine op5S (o := l[i]) fun w2 b2 e2 h2 g2 => ?_
    have h92 := h9.below g2
    have hk2 := hk.trans (.of_below g2)
    refine get4 h92 (al_new fun w3 b3 e3 s3 h3 g3 => put4 h3 rfl s fun w4 h34 k4 => ?_)
    have sz2 := g2.size
    have l92 := h9.lt
    have lb2 := h2.lt
    have h24 : HB w4 b2 (oC l[i]) 35 := (h2.below g3).keeps k4 (by omega)
    have h94 : HB w4 b9 (rsC s) 31 := (h92.below g3).keeps k4 (by omega)
    have hb4 : Below w.heap.size w w4 := (g2.trans (g3.mono (by omega))).trans (k4.below (by have := g3.size; omega) fun i hi e => by omega)
    have hf4 := hf.belw hb4
    have hk4 := hk.trans (.of_below hb4)
    have lb3 := h34.lt
    have after : ∀ {w5 : World} {s' : RS}, RF w5 s' (stp st l[i]).1 (stp st l[i]).2 → Sb w4 s s' → Below w4.heap.size w4 w5 →
        (stW w5 (⟨b3, 0, none⟩ : Addr) (.slice s'.A0 s'.n0 s'.c0) fun w1 => stW w1 ((⟨b3, 0, none⟩ : Addr).add 1) (.slice s'.A1 s'.n1 s'.c1) fun w2 => stW w2 ((⟨b3, 0, none⟩ : Addr).add 2) (.slice s'.A2 s'.n2 s'.c2) fun w3 => stW w3 ((⟨b3, 0, none⟩ : Addr).add 3) (.slice s'.A3 s'.n3 s'.c3) fun w4 =>
          ldS w4 (⟨b3, 0, none⟩ : Addr) fun A0 n0 c0 => ldS w4 ((⟨b3, 0, none⟩ : Addr).add 1) fun A1 n1 c1 => ldS w4 ((⟨b3, 0, none⟩ : Addr).add 2) fun A2 n2 c2 => ldS w4 ((⟨b3, 0, none⟩ : Addr).add 3) fun A3 n3 c3 =>
          stW w4 (⟨b9, 0, none⟩ : Addr) (.slice A0 n0 c0) fun w1 => stW w1 ((⟨b9, 0, none⟩ : Addr).add 1) (.slice A1 n1 c1) fun w2 => stW w2 ((⟨b9, 0, none⟩ : Addr).add 2) (.slice A2 n2 c2) fun w3 => stW w3 ((⟨b9, 0, none⟩ : Addr).add 3) (.slice A3 n3 c3) fun w7 => f_law20_SpanOrder.l0 (m + 1) (⟨b9, 0, none⟩ : Addr) (some a) l.length c (l.length : Int) (IntKind.i64.wrap ((i : Int) + 1)) w7 K0) := by
      intro w5 s' hf5 hs5 g5
      have h35 := h34.below g5
      have h95 := h94.below g5
      refine ret4 h35 rfl s' fun w6 h36 k6 => put4 (h95.keeps k6 (by omega)) rfl s' fun w7 h97 k7 => ?_
      have nb : ∀ k, Rb s' k → k ≠ b3 ∧ k ≠ b9 := fun k hk => by
        rcases hs5.b k hk with h | h
        · have := hf.lt k h; have := hrb k h; omega
        · omega
      refine close w7 s' h97 ((hf5.keeps k6 fun k hk => (nb k hk).1).keeps k7 fun k hk => (nb k hk).2) (fun k hk => ?_) ?_
      · rcases hs5.b k hk with h | h
        · exact hrb k h
        · have := hk4.size; omega
      · exact ((hk4.trans (.of_below g5)).trans' k6 fun k hk e => by omega).trans k7
    refine hb_ldI0 h24 rfl ?_
    by_cases k1 : l[i].1 = 1
    · refine sel_t (by simp [k1]) (get4 h94 (hb_ldI2 h24 (i := 1) (j := 1) rfl ((RAddV_ok hf4 l[i].2.u).mono ?_)))
      rintro _ w5 ⟨s', rfl, r5, sb5, g5⟩
      refine ⟨s'.A0, s'.n0, s'.c0, s'.A1, s'.n1, s'.c1, s'.A2, s'.n2, s'.c2, s'.A3, s'.n3, s'.c3, _, rfl, after ?_ sb5 g5⟩
      unfold stp; rw [if_pos k1]; exact r5
    refine sel_f (by simp [k1]) ?_
    by_cases k2 : l[i].1 = 2
    · refine sel_t (by simp [k2]) (get4 h94 (hb_ldI2 h24 (i := 1) (j := 1) rfl ((RDelV_ok hf4 l[i].2.u).mono ?_)))
      rintro _ w5 ⟨s', rfl, r5, sb5, g5⟩
      refine ⟨s'.A0, s'.n0, s'.c0, s'.A1, s'.n1, s'.c1, s'.A2, s'.n2, s'.c2, s'.A3, s'.n3, s'.c3, _, rfl, after ?_ sb5 g5⟩
      unfold stp; rw [if_neg k1, if_pos k2]; exact r5
    refine sel_f (by simp [k2]) ?_
    by_cases k3 : l[i].1 = 3
    · refine sel_t (by simp [k3]) (get4 h94 (hb_ldI h24 (j := 1) rfl (hb_ldI2 h24 (i := 1) (j := 1) rfl (hb_ldI2 h24 (i := 1) (j := 2) rfl (hb_ldI2 h24 (i := 1) (j := 3) rfl ((RLink_ok hf4 ve.rg len l[i].2).mono ?_))))))
      rintro _ w5 ⟨s', j', hj', rfl, r5, sb5, g5⟩
      refine ⟨s'.A0, s'.n0, s'.c0, s'.A1, s'.n1, s'.c1, s'.A2, s'.n2, s'.c2, s'.A3, s'.n3, s'.c3, _, rfl, after ?_ sb5 g5⟩
      have e5 : linkEr st.1 st.2 l[i].2 j' = linkEr st.1 st.2 l[i].2 (jnB st.2 l[i].2.u l[i].2.v) := by unfold linkEr; rw [linkC_j hj']
      rw [e5] at r5
      unfold stp; rw [if_neg k1, if_neg k2, if_pos k3]; exact r5
    refine sel_f (by simp [k3]) ?_
    by_cases k4 : l[i].1 = 4
    · refine sel_t (by simp [k4]) (get4 h94 (hb_ldI h24 (j := 1) rfl ((RCut_ok hf4 l[i].2.id).mono ?_)))
      rintro _ w5 ⟨s', rfl, r5, sb5, g5⟩
      refine ⟨s'.A0, s'.n0, s'.c0, s'.A1, s'.n1, s'.c1, s'.A2, s'.n2, s'.c2, s'.A3, s'.n3, s'.c3, _, rfl, after ?_ sb5 g5⟩
      unfold stp; rw [if_neg k1, if_neg k2, if_neg k3, if_pos k4]; exact r5
    refine sel_f (by simp [k4]) (get4 h34 (put4 h94 rfl s fun w7 h97 k7 => close w7 s h97 ?_ hrb (hk4.trans k7)))
    unfold stp; rw [if_neg k1, if_neg k2, if_neg k3, if_neg k4]
    exact hf4.keeps k7 fun k hk e => by have := hrb k hk; omega
structure T2 (w0 w : World) (F : Nat → Prop) (R : Nat) (st : List Int × List E) (G : Nat → Prop) (R2 : Nat) (vs : List Int) (es : List E) : Prop where
  f : LG w0 w F R st.1 st.2
  g : LG w0 w G R2 vs es
  d : ∀ k, F k → ¬ G k
section
variable {w0 w w' : World} {F G G' : Nat → Prop} {R R2 b9 : Nat} {st : List Int × List E} {vs vs' : List Int} {es es' : List E} {s : RS}
theorem T2.callG (h : T2 w0 w F R st G R2 vs es) (r : RepS w' G' R2 vs' es') (u : Upd G w w' G') : T2 w0 w' F R st G' R2 vs' es' := by
  have g := h.g.call r u
  exact ⟨⟨h.f.rep.other u.kp fun k hg hf => h.d k hf hg, h.f.lo, g.bel⟩, g, fun k hf hg => by
    rcases u.fr k hg with h1 | h1
    · exact h.d k hf h1
    · have := h.f.rep.lt k hf; omega⟩
theorem T2.below (h : T2 w0 w F R st G R2 vs es) (hb : Below w.heap.size w w') : T2 w0 w' F R st G R2 vs es := ⟨h.f.below hb, h.g.below hb, h.d⟩
theorem T2.keeps (h : T2 w0 w F R st G R2 vs es) (k : Keeps (fun k => k = b9) w w') (h1 : ¬ F b9) (h2 : ¬ G b9) (hl : w0.heap.size ≤ b9) : T2 w0 w' F R st G R2 vs es := by
  have bb : Below w0.heap.size w0 w' := h.f.bel.trans (k.below h.f.bel.size fun i hi e => by omega)
  exact ⟨⟨h.f.rep.other k fun k e hf => h1 (e ▸ hf), h.f.lo, bb⟩, ⟨h.g.rep.other k fun k e hf => h2 (e ▸ hf), h.g.lo, bb⟩, h.d⟩
structure X2 (w : World) (G : Nat → Prop) (b9 : Nat) (s : RS) (st : List Int × List E) : Prop where
  h9 : HB w b9 (rsC s) 31
  n9 : ¬ G b9
  rf : RF w s st.1 st.2
  nr : ∀ k, Rb s k → ¬ G k
theorem X2.callG (h : X2 w G b9 s st) (u : Upd G w w' G') : X2 w' G' b9 s st :=
  ⟨h.h9.keeps u.kp h.n9, fun hg => by
    rcases u.fr _ hg with h1 | h1
    · exact h.n9 h1
    · have := h.h9.lt; omega, h.rf.keeps u.kp h.nr, fun k hk hg => by
    rcases u.fr _ hg with h1 | h1
    · exact h.nr k hk h1
    · have := h.rf.lt k hk; omega⟩
theorem X2.below (h : X2 w G b9 s st) (hb : Below w.heap.size w w') : X2 w' G b9 s st := ⟨h.h9.below hb, h.n9, h.rf.belw hb, h.nr⟩
theorem Order_l1 {K3 : World → Prop} {Kr : Bool → World → Prop} (ve : VE st.1 st.2) (k3 : ∀ w G, T2 w0 w F R st G R2 st.1 [] → X2 w G b9 s st → K3 w) : ∀ (i : Nat) (w : World) (G : Nat → Prop), i ≤ st.1.length → T2 w0 w F R st G R2 (st.1.drop i) [] → X2 w G b9 s st → f_law20_SpanOrder.l1 (i + 1) (some ⟨R2, 0, none⟩) (⟨b9, 0, none⟩ : Addr) ((i : Int) - 1) w K3 Kr := by
  intro i
  induction i with
  | zero =>
    intro w G hi h x
    unfold f_law20_SpanOrder.l1
    exact sel_f (by simp) (k3 w G h x)
  | succ i ih =>
    intro w G hi h x
    have hlt : i < st.1.length := by omega
    have hvl := ve.vl
    obtain ⟨a, hA, q⟩ := x.rf.v i hlt
    have hn := x.rf.nv
    have hi1 : ((i + 1 : Nat) : Int) - 1 = (i : Int) := by omega
    unfold f_law20_SpanOrder.l1
    rw [hi1]
    refine sel_t (by simp) (hb_ldS0 x.h9 rfl (optB_some hA (req_intro (by simp; omega) (ldI_intro (x := st.1[i]) (by rw [Int.toNat_natCast, Nat.mul_one]; exact q) ?_))))
    refine (AddVS_ok h.g.rep (by have := ve.vr _ (List.getElem_mem hlt); unfold W64; omega)).mono ?_
    rintro _ w2 ⟨G', rfl, r2, u2⟩
    have hdr := List.drop_eq_getElem_cons hlt
    have nd := ve.vnd.sublist (List.drop_sublist i st.1)
    rw [hdr, List.nodup_cons] at nd
    have ec : addVC (st.1.drop (i + 1)) st.1[i] = 0 := by
      have := ve.vr _ (List.getElem_mem hlt)
      unfold addVC
      rw [if_neg (by unfold badI; omega), if_neg nd.1, if_neg (by rw [List.length_drop]; omega)]
    have ee : addVs (st.1.drop (i + 1)) st.1[i] = st.1.drop i := by unfold addVs; rw [if_pos ec, hdr]
    rw [ee] at r2
    refine ⟨_, rfl, sel_f (by rw [ec]; rfl) ?_⟩
    rw [w64_in (by omega)]
    exact ih w2 G' (by omega) (h.callG r2 u2) (x.callG u2)
theorem Order_l2 {K5 : World → Prop} {Kr : Bool → World → Prop} (ve : VE st.1 st.2) (k5 : ∀ w G, T2 w0 w F R st G R2 st.1 (st.2.map Go.Dn.sw) → X2 w G b9 s st → K5 w) : ∀ (i : Nat) (w : World) (G : Nat → Prop), i ≤ st.2.length → T2 w0 w F R st G R2 st.1 ((st.2.drop i).map Go.Dn.sw) → X2 w G b9 s st → f_law20_SpanOrder.l2 (i + 1) (some ⟨R2, 0, none⟩) (⟨b9, 0, none⟩ : Addr) ((i : Int) - 1) w K5 Kr := by
  intro i
  induction i with
  | zero =>
    intro w G hi h x
    unfold f_law20_SpanOrder.l2
    exact sel_f (by simp) (k5 w G h x)
  | succ i ih =>
    intro w G hi h x
    have hlt : i < st.2.length := by omega
    have hel := ve.el
    obtain ⟨a, hA, q⟩ := x.rf.e i hlt
    have hn := x.rf.ne
    have hi1 : ((i + 1 : Nat) : Int) - 1 = (i : Int) := by omega
    have em := List.getElem_mem hlt
    have hdr := List.drop_eq_getElem_cons hlt
    have sub := List.drop_sublist (i + 1) st.2
    have nd := ve.eid.sublist ((List.drop_sublist i st.2).map E.id)
    rw [hdr, List.map_cons, List.nodup_cons] at nd
    have er := ve.er _ em
    have vr := ve.vr
    unfold f_law20_SpanOrder.l2
    rw [hi1]
    refine sel_t (by simp) (hb_ldS x.h9 (j := 1) rfl (optB_some hA (req_intro (by simp; omega) (rowE q ?_))))
    refine edge4 (e := st.2[i]) fun w2 b2 e2 h2 g2 => ?_
    refine hb_ldI0 h2 rfl (hb_ldI h2 (j := 2) rfl (hb_ldI h2 (j := 1) rfl (hb_ldI h2 (j := 3) rfl ?_)))
    have H3 := h.below g2
    have X3 := x.below g2
    generalize st.2[i] = e at *
    have wu1 : W64 e.u := by have := vr _ er.2.2.1; unfold W64; omega
    have wv1 : W64 e.v := by have := vr _ er.2.2.2.1; unfold W64; omega
    have wi1 : W64 e.id := by unfold W64; omega
    refine (LinkS_ok H3.g.rep (e := Go.Dn.sw e) wi1 wv1 wu1).mono ?_
    rintro _ w4 ⟨j, hj, rfl, G', r4, u4⟩
    have hj0 : j = false := by
      cases j with
      | false => rfl
      | true =>
        obtain ⟨p, hp, np⟩ := (hj er.2.2.2.1 er.2.2.1).1 rfl
        have hp2 := hp.sw
        rw [sw_map] at hp2
        have hp3 : Wk st.2 e.v (p.map Go.Dn.sw) e.u := hp2.mono fun x hx => sub.subset hx
        have hwk : Wk st.2 e.v [e] e.u := .cons em (.inr rfl) (by unfold oth; rw [if_neg er.2.2.2.2.1]; exact .nil _)
        have := ve.uq e.v e.u _ [e] er.2.2.2.1 hp3 np.sw hwk trivial
        have hme := hp2.mem
        rw [this] at hme
        exact absurd (List.mem_map_of_mem (hme e (by simp))) nd.1
    subst hj0
    have ec : linkC st.1 ((st.2.drop (i + 1)).map Go.Dn.sw) (Go.Dn.sw e) false = 0 := by
      have vu := vr _ er.2.2.1
      have vv := vr _ er.2.2.2.1
      unfold linkC
      rw [if_neg (by unfold badI; simp only [Go.Dn.sw]; omega), if_neg (by simp only [Go.Dn.sw]; omega), if_neg (by rw [ids_sw]; exact nd.1), if_neg (fun h => h ⟨er.2.2.2.1, er.2.2.1⟩), if_neg (by decide)]
    have ee : linkE st.1 ((st.2.drop (i + 1)).map Go.Dn.sw) (Go.Dn.sw e) false = (st.2.drop i).map Go.Dn.sw := by unfold linkE; rw [if_pos ec, hdr, List.map_cons]
    rw [ee] at r4
    have H4 := H3.callG r4 u4
    have X4 := X3.callG u4
    refine ⟨_, rfl, sel_f (by rw [ec]; rfl) ?_⟩
    rw [w64_in (by omega)]
    exact ih w4 G' (by omega) H4 X4
end
section
variable {vs : List Int} {es : List E}
theorem ja_sw {u v : Int} : Ja (es.map Go.Dn.sw) u v ↔ Ja es u v := by
  constructor
  · rintro ⟨p, hp, np⟩
    have h := hp.sw
    rw [sw_map] at h
    exact ⟨_, h, np.sw⟩
  · rintro ⟨p, hp, np⟩
    exact ⟨_, hp.sw, np.sw⟩
theorem dS_sw (g : VE vs es) (g' : VE vs (es.map Go.Dn.sw)) {u v : Int} (hu : u ∈ vs) : dS (es.map Go.Dn.sw) u v = dS es u v := by
  by_cases h : Ja es u v
  · obtain ⟨p, hp, np⟩ := h
    rw [dS_of g hu hp np, dS_of g' hu hp.sw np.sw, sumW_sw]
  · rw [dS_no h, dS_no fun k => h (ja_sw.1 k)]
theorem IsSp.sw (g : VE vs es) (g' : VE vs (es.map Go.Dn.sw)) {u s : Int} (h : IsSp vs (es.map Go.Dn.sw) u s) : IsSp vs es u s := by
  obtain ⟨⟨a, b, ha, hb, hab⟩, hle⟩ := h
  exact ⟨⟨a, b, ⟨ha.1, ja_sw.1 ha.2⟩, ⟨hb.1, ja_sw.1 hb.2⟩, by rw [← dS_sw g g' ha.1]; exact hab⟩, fun x y hx hy => by
    rw [← dS_sw g g' hx.1]
    exact hle x y ⟨hx.1, ja_sw.2 hx.2⟩ ⟨hy.1, ja_sw.2 hy.2⟩⟩
theorem aCode.sw {u v c d : Int} (h : aCode vs es u v c) (k : aCode vs (es.map Go.Dn.sw) u v d) : c = d := by
  unfold aCode at h k
  rw [ja_sw] at k
  rcases h with ⟨rfl, h⟩ | ⟨rfl, h1, h2, h⟩ | ⟨rfl, h1, h2, h⟩ <;> rcases k with ⟨rfl, k⟩ | ⟨rfl, k1, k2, k⟩ | ⟨rfl, k1, k2, k⟩ <;> first | rfl | (exfalso; simp_all)
end
theorem filledS_ok2 {w : World} {As : Option Addr} {ns cs : Nat} {sl : List Int} (hs : Sds w As ns cs sl) {A : Option Addr} {n c : Nat} {l : List (Int × E)} (h : Scr w A n l) :
    Calls Try.prog 12 #[.slice As ns cs, .slice A n c] w fun e w' => ∃ F R, e = .returned (.pointer (some ⟨R, 0, none⟩)) ∧ LG w w' F R (run l).1 (run l).2 ∧ ∀ i, i ≤ l.length → VE (run (l.take i)).1 (run (l.take i)).2 := by
  obtain ⟨hr, rfl, hle, hok⟩ := h
  apply f_law20_filled.ok
  unfold f_law20_filled.wp
  refine (NewS_ok hs.n hs.r hs.c0 hs.le).mono ?_
  rintro _ w1 ⟨F1, R, rfl, r1, g1, lo1⟩
  have h1 : LG w w1 F1 R (run (l.take 0)).1 (run (l.take 0)).2 := ⟨r1, lo1, g1⟩
  refine ⟨_, rfl, l.length + 1, ?_⟩
  have key : ∀ (m i : Nat) (w2 : World) (F : Nat → Prop), l.length - i = m → i ≤ l.length → LG w w2 F R (run (l.take i)).1 (run (l.take i)).2 → (∀ j, j ≤ i → VE (run (l.take j)).1 (run (l.take j)).2) →
      f_law20_filled.l0 (m + 1) A l.length c (some ⟨R, 0, none⟩) (i : Int) w2 (fun w13 => ∀ _ : Go.Dn.Fr, (fun e w' => ∃ F R, e = Ending.returned (.pointer (some ⟨R, 0, none⟩)) ∧ LG w w' F R (run l).1 (run l).2 ∧ ∀ i, i ≤ l.length → VE (run (l.take i)).1 (run (l.take i)).2) (.returned (.pointer (some ⟨R, 0, none⟩))) w13) := by
    intro m
    induction m with
    | zero =>
      intro i w2 F hm hi hf hv
      have : i = l.length := by omega
      subst this
      rw [List.take_length] at hf
      unfold f_law20_filled.l0
      exact sel_t rfl (sel_f (by simp) fun _ => ⟨F, R, rfl, hf, hv⟩)
    | succ m ih =>
      intro i w2 F hm hi hf hv
      have hlt : i < l.length := by omega
      obtain ⟨a, rfl, q⟩ := (hr.belw hf.bel) i hlt
      have hw : IntKind.i64.wrap ((i : Int) + 1) = ((i + 1 : Nat) : Int) := by rw [w64_in (by omega)]; omega
      unfold f_law20_filled.l0
      refine sel_t rfl (sel_t (by simpa using hlt) (optB_some rfl (req_intro (by simp; omega) (rowO q ?_))))
      have H : L3 w w2 F R (run (l.take i)) s0 ([], []) := ⟨hf, RF.zero w2, fun k hk => hk.elim (fun ⟨_, h, _⟩ => by cases h) (fun ⟨_, h, _⟩ => by cases h)⟩
      refine (doesS_ok H rg0 (by simp) (o := l[i]) (hok _ (List.getElem_mem hlt))).mono ?_
      rintro _ w3 ⟨F', s', rfl, H3, _⟩
      refine ⟨_, _, _, _, _, _, _, _, _, _, _, _, _, rfl, ?_⟩
      rw [hw]
      have e1 : run (l.take (i + 1)) = stp (run (l.take i)) l[i] := by rw [List.take_succ_eq_append_getElem hlt, run_snoc]
      have h3 := H3.f
      rw [← e1] at h3
      refine ih (i + 1) w3 F' (by omega) (by omega) h3 fun j hj => ?_
      by_cases hj2 : j ≤ i
      · exact hv j hj2
      · have : j = i + 1 := by omega
        subst this; exact h3.rep.ve
  exact key l.length 0 w1 F1 (by omega) (by omega) h1 fun j hj => by
    have : j = 0 := by omega
    subst this; exact h1.rep.ve
section
variable {w0 w w' : World} {F F' G G' : Nat → Prop} {R R2 b9 : Nat} {st : List Int × List E} {vs vs' : List Int} {es es' : List E} {s : RS}
theorem T2.callF (h : T2 w0 w F R st G R2 vs es) (r : LG w0 w' F' R st.1 st.2) (u : Upd F w w' F') : T2 w0 w' F' R st G R2 vs es :=
  ⟨r, ⟨h.g.rep.other u.kp fun k hf hg => h.d k hf hg, h.g.lo, r.bel⟩, fun k hf hg => by
    rcases u.fr k hf with h1 | h1
    · exact h.d k h1 hg
    · have := h.g.rep.lt k hg; omega⟩
theorem T2.callG' (h : T2 w0 w F R st G R2 vs es) (r : LG w0 w' G' R2 vs es) (u : Upd G w w' G') : T2 w0 w' F R st G' R2 vs es := h.callG r.rep u
theorem X2.other (h : X2 w F b9 s st) (k : X2 w G b9 s st) (u : Upd G w w' G') : X2 w' F b9 s st := ⟨(k.callG u).h9, h.n9, (k.callG u).rf, h.nr⟩
theorem Order_l3 {K7 : World → Prop} {Kr : Bool → World → Prop} {c : Nat} (ve : VE st.1 st.2) (ve2 : VE st.1 (st.2.map Go.Dn.sw)) (k7 : ∀ w, Below w0.heap.size w0 w → K7 w) : ∀ (m i : Nat) (w : World) (F G : Nat → Prop), st.1.length - i = m → i ≤ st.1.length → T2 w0 w F R st G R2 st.1 (st.2.map Go.Dn.sw) → X2 w F b9 s st → X2 w G b9 s st →
    f_law20_SpanOrder.l3 (m + 1) (some ⟨R, 0, none⟩) (some ⟨R2, 0, none⟩) (⟨b9, 0, none⟩ : Addr) s.A0 s.n0 c (st.1.length : Int) (i : Int) w K7 Kr := by
  intro m
  induction m with
  | zero =>
    intro i w F G hm hi T XF XG
    have : i = st.1.length := by omega
    subst this
    unfold f_law20_SpanOrder.l3
    exact sel_f (by simp) (k7 w T.f.bel)
  | succ m ih =>
    intro i w F G hm hi T XF XG
    have hlt : i < st.1.length := by omega
    have hl0 : 0 < st.1.length := by omega
    have hvl := ve.vl
    have hw : IntKind.i64.wrap ((i : Int) + 1) = ((i + 1 : Nat) : Int) := by rw [w64_in (by omega)]; omega
    obtain ⟨a, hA, q⟩ := XF.rf.v i hlt
    have hn := XF.rf.nv
    have mv := List.getElem_mem hlt
    have m0 := List.getElem_mem hl0
    have wv : W64 st.1[i] := by have := ve.vr _ mv; unfold W64; omega
    have wz : W64 st.1[0] := by have := ve.vr _ m0; unfold W64; omega
    unfold f_law20_SpanOrder.l3
    refine sel_t (by simpa using hlt) (optB_some hA (req_intro (by simp; omega) (ldI_intro (x := st.1[i]) (by rw [Int.toNat_natCast, Nat.mul_one]; exact q) ?_)))
    refine gspan T.f wv fun w1 x _ g1 _ hx => ?_
    have T1 := T.below g1
    refine gspan T1.g wv fun w2 y _ g2 _ hy => ?_
    have T2' := T1.below g2
    have XF2 := (XF.below g1).below g2
    have XG2 := (XG.below g1).below g2
    obtain ⟨a2, hA2, q2⟩ := XF2.rf.v 0 hl0
    refine hb_ldS0 XF2.h9 rfl (optB_some hA2 (req_intro (by simp; omega) (ldI_intro (x := st.1[0]) (by simpa using q2) ?_)))
    refine gdist T2'.f wv wz fun w3 F3 c1 L3 _ u3 hc1 => ?_
    have T3 := T2'.callF L3 u3
    have XG3 := XG2.other XF2 u3
    have XF3 := XF2.callG u3
    obtain ⟨a3, hA3, q3⟩ := XF3.rf.v 0 hl0
    refine hb_ldS0 XF3.h9 rfl (optB_some hA3 (req_intro (by simp; omega) (ldI_intro (x := st.1[0]) (by simpa using q3) ?_)))
    refine gdist T3.g wv wz fun w4 G4 c2 L4 _ u4 hc2 => ?_
    have T4 := T3.callG' L4 u4
    have XF4 := XF3.other XG3 u4
    have XG4 := XG3.callG u4
    rw [hw]
    have go := ih (i + 1) w4 F3 G4 (by omega) (by omega) T4 XF4 XG4
    by_cases h40 : (i : Int) < 40
    · refine sel_t (decide_eq_true h40) ?_
      have e1 : x = y := (hx mv).uniq ((hy mv).sw ve ve2)
      subst e1
      have e2 := hc1.sw hc2
      subst e2
      rw [if_pos mv, dS_sw ve ve2 mv]
      exact sel_f rfl (sel_f rfl (sel_f (by simp) (sel_f (by simp) (sel_f (by simp) go))))
    · exact sel_f (decide_eq_false h40) go
end
theorem SpanOrder_walk {w : World} {As : Option Addr} {ns cs : Nat} {sl : List Int} (hsd : Sds w As ns cs sl) {Ab : Option Addr} {nb cb : Nat} {sb : List Int} (hsb : Sds w Ab nb cb sb) {A : Option Addr} {n c : Nat} {l : List (Int × E)} (hs : Scr w A n l) :
    Calls Try.prog 6 #[.slice As ns cs, .slice Ab nb cb, .slice A n c] w fun en w' => en = .returned (.bool true) ∧ Below w.heap.size w w' := by
  apply f_law20_SpanOrder.ok
  unfold f_law20_SpanOrder.wp
  refine (filledS_ok2 hsd hs).mono ?_
  obtain ⟨hr, rfl, hle, hok⟩ := hs
  rintro _ w2 ⟨F, R, rfl, h2, hve⟩
  have ve := h2.rep.ve
  refine ⟨_, rfl, gnew h2.bel (hsb.belw h2.bel) fun w3 G R2 h3 g3 hG => sel_f rfl (sel_f rfl ?_)⟩
  have T3 : T2 w w3 F R (run l) G R2 [] [] := ⟨h2.below g3, h3, fun k hf hg => by have := h2.rep.lt k hf; have := hG k hg; omega⟩
  refine alive_stS fun w4 g4 => sel_f rfl ?_
  have T4 := T3.below g4
  refine al_new fun w5 b9 e5 s5 h5 g5 => put4 h5 rfl s0 fun w6 h6 k6 => ?_
  have T5 := T4.below g5
  have sz0 : w.heap.size ≤ b9 := by rw [e5]; exact T4.f.bel.size
  have nF : ¬ F b9 := fun hf => by have := T4.f.rep.lt b9 hf; omega
  have nG : ¬ G b9 := fun hf => by have := T4.g.rep.lt b9 hf; omega
  have T6 := T5.keeps k6 nF nG sz0
  have bw : Below w.heap.size w w6 := T6.f.bel
  have hr6 := hr.belw bw
  have hA : ∀ i (hi : i < l.length), ∃ a, A = some a ∧ a.block ≠ b9 := fun i hi => by
    obtain ⟨a, ha, q⟩ := hr i hi
    refine ⟨a, ha, fun e => ?_⟩
    have := World.block_lt_of_cell? w _ q.c0
    rw [add_block] at this
    omega
  refine ⟨l.length + 1, Order_l0 hr6 hle hve h6.lt hA (fun w7 s h97 hf7 hrb k7 => ?_) l.length 0 w6 s0 (by omega) (by omega) h6 (by exact RF.zero w6) (fun k hk => hk.elim (fun ⟨_, h, _⟩ => by cases h) (fun ⟨_, h, _⟩ => by cases h)) (Keeps.refl _ _)⟩
  intro _
  have T7 := T6.keeps k7 nF nG sz0
  have X7 : X2 w7 G b9 s (run l) := ⟨h97, nG, hf7, fun k hk hg => by have := hrb k hk; have := T6.g.rep.lt k hg; omega⟩
  have Y7 : X2 w7 F b9 s (run l) := ⟨h97, nF, hf7, fun k hk hg => by have := hrb k hk; have := T6.f.rep.lt k hg; omega⟩
  generalize run l = st at *
  have hvl := ve.vl
  have hel := ve.el
  have hnv := hf7.nv
  refine hb_ldS0 h97 rfl ?_
  rw [hnv, w64_in (by omega)]
  refine ⟨st.1.length + 1, Order_l1 ve (fun w8 G8 T8 X8 => ?_) st.1.length w7 G (Nat.le_refl _) (by rw [List.drop_length]; exact T7) X7⟩
  intro _
  have hne := X8.rf.ne
  refine hb_ldS X8.h9 (j := 1) rfl ?_
  rw [hne, w64_in (by omega)]
  refine ⟨st.2.length + 1, Order_l2 ve (fun w9 G9 T9 X9 => ?_) st.2.length w8 G8 (Nat.le_refl _) (by rw [List.drop_length]; exact T8) X8⟩
  intro _
  have Y9 : X2 w9 F b9 s st := ⟨X9.h9, nF, X9.rf, Y7.nr⟩
  have nv9 := X9.rf.nv
  refine hb_ldS0 X9.h9 rfl ?_
  have ve2 := T9.g.rep.ve
  have hl3 := Order_l3 (c := s.c0) (Kr := fun b w' => ∀ _ : Go.Dn.Fr, (Ending.returned (.bool b) = .returned (.bool true) ∧ Below w.heap.size w w')) (K7 := fun w' => ∀ _ : Go.Dn.Fr, (Ending.returned (.bool true) = .returned (.bool true) ∧ Below w.heap.size w w')) ve ve2 (fun w' hb _ => ⟨rfl, hb⟩) st.1.length 0 w9 F G9 (by omega) (by omega) T9 Y9 X9
  rw [nv9] at hl3 ⊢
  exact ⟨st.1.length + 1, hl3⟩
theorem SpanOrder_row {w : World} {A0 A1 A2 : Option Addr} {n0 c0 n1 c1 n2 c2 : Nat} {za zb : List Int} {f : Nat → Nat → Int} (h0 : IsRow .i64 w A0 n0 c0 za) (s0 : n0 * 8 ≤ 140737488351232) (h1 : IsRow .i64 w A1 n1 c1 zb) (s1 : n1 * 8 ≤ 140737488351232) (h2 : IsRecs ks5 w A2 n2 c2 f) (s2 : n2 * 40 ≤ 140737488351232) :
    Calls Try.prog 6 #[.slice A0 n0 c0, .slice A1 n1 c1, .slice A2 n2 c2] w fun e w' => e = .returned (.bool true) ∧ Below w.heap.size w w' := by
  obtain ⟨sa, ha⟩ := sds_of h0 s0
  obtain ⟨sb, hb⟩ := sds_of h1 s1
  exact SpanOrder_walk ha hb (scr_of h2)
end Go.Proofs.Ytklnlnjgaadjbaa.Rd
