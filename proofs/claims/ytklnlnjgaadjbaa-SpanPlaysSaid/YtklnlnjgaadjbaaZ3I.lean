/- What holds of a forest of closed walks, in plain terms: its vertices, edges, against its maps and rows; a vertex and an edge that come and go · A forest that tells how far its trees reach, by its vertices and edges: New, AddV, DelV, Len · A forest that tells how far its trees reach: reach, Span, Ends, Distance · A forest that tells how far its trees reach: Link · A forest that tells how far its trees reach: Cut · One call of a script, on a forest that tells how far its trees reach and on the document's; scripts · A forest that tells how far its trees reach, in a law: steps; the document's example · What a row tells of a slice of records of whole numbers · What a row tells of a slice of calls (a number and an edge each), and of an edge · How long a slice among the arguments can be · What a row tells of seeds and of a script's calls; a call taken up · The document's path, its greatest edge and its sum · The document's path and what it tells of it, walked · The document's distances, by going over the edges until nothing changes: what they are · The document's distances, walked · The document's span and distance, walked · SpanPlays, walked: what a forest tells of a vertex and of two -/
import Derived.Test.YtklnlnjgaadjbaaZ3H
import Derived.Test.YtklnlnjgaadjbaaZ3F
import Derived.Test.YtklnlnjgaadjbaaZ3B
import Derived.Test.YtklnlnjgaadjbaaZ3D
import Derived.ChangeArms
import Derived.DataReads
import Derived.WalkKit
import Derived.SizedLaws
import Derived.Test.YtklnlnjgaadjbaaZ3C
set_option linter.unusedSimpArgs false
set_option linter.unusedVariables false
namespace Go.Proofs.Ytklnlnjgaadjbaa.Rd
open Go.Dn Go.RowKit
set_option maxRecDepth 100000
def one1 (x : Nat) : List Nat := [x]
structure Fr (rows : List (List Nat)) (n : Nat) (sp : List Nat) (T : List (List Nat)) (K : Nat → Prop) : Prop where
 rw : rows.Perm (sp.map one1 ++ T)
 spn : sp.Nodup
 spd : ∀ x ∈ sp, ¬ K x
 kn : ∀ x, K x → x < n
theorem Fr.make {rows rows' : List (List Nat)} {n n' : Nat} {sp sp' : List Nat} {T : List (List Nat)} {K : Nat → Prop} {x : Nat} (f : Fr rows n sp T K) (rok : RowsOk n rows) (hp : 0 < n) (it : (sp = sp' ++ [x] ∧ rows' = rows ∧ n' = n) ∨ (sp = [] ∧ sp' = [] ∧ x = n ∧ rows' = rows ++ [[x]] ∧ n' = n + 1)) :
  Fr rows' n' sp' ([x] :: T) (fun y => K y ∨ y = x) ∧ ¬ K x ∧ 0 < x ∧ x < n' ∧ n ≤ n' ∧ n' + sp.length = n + sp'.length + 1 ∧ (n' = n ∨ (sp' = [] ∧ n' = n + 1)) ∧ (∀ y ∈ sp', y ∈ sp) := by
 rcases it with ⟨rfl, rfl, rfl⟩ | ⟨rfl, rfl, rfl, rfl, rfl⟩
 ·have hx : [x] ∈ rows' := f.rw.mem_iff.2 (by simp [one1])
  have hr := (rok.mem x).1 ⟨_, hx, by simp⟩
  have nd := f.spn
  rw [List.nodup_append] at nd
  refine ⟨⟨?_, nd.1, ?_, ?_⟩, f.spd x (by simp), hr.1, hr.2, Nat.le_refl _, by simp; omega, .inl rfl, fun y hy => by simp [hy]⟩
  ·have := f.rw
   rw [List.map_append] at this
   simpa [one1] using this
  ·intro y hy hk
   rcases hk with hk | rfl
   ·exact f.spd y (by simp [hy]) hk
   ·exact nd.2.2 y hy y (by simp) rfl
  ·rintro y (hy | rfl)
   ·exact f.kn y hy
   ·exact hr.2
 ·refine ⟨⟨?_, by simp, by simp, ?_⟩, fun hk => ?_, hp, by omega, by omega, by simp, .inr ⟨rfl, rfl⟩, by simp⟩
  ·have := f.rw
   simp only [List.map_nil, List.nil_append] at this ⊢
   exact (List.perm_append_comm (l₁ := rows)).trans (this.cons _)
  ·rintro y (hy | rfl)
   ·have := f.kn y hy; omega
   ·omega
  ·have := f.kn _ hk; omega
def Kn (vs : List Int) (es : List E) (nm : Pl → Nat) (x : Nat) : Prop := ∃ p, okP vs es p ∧ x = nm p
structure FI (rows : List (List Nat)) (V : Nat → Int) (n : Nat) (vl : List (Int × Nat)) (el : List (Int × (Nat × Nat))) (sp : List Nat) (T : List (List Nat)) (vs : List Int) (es : List E) (nm : Pl → Nat) : Prop where
 N : Nm vs es nm
 vnd : vs.Nodup
 lv : ∀ i, lk vl i = if i ∈ vs then some (nm (.v i)) else none
 vln : vl.length = vs.length
 le : ∀ i, lk el i = if i ∈ es.map E.id then some (nm (.t i), nm (.b i)) else none
 eln : el.length = es.length
 fr : Fr rows n sp T (Kn vs es nm)
 pos : ∀ p, okP vs es p → 0 < nm p
 tt : ∀ l ∈ T, Tour vs es nm l
 tc : T.length + es.length = vs.length
 cn : n = 1 + vs.length + 2 * es.length + sp.length
 nb : n ≤ 6145
 mkV : ∀ v ∈ vs, V (nm (.v v)) = v
 mkE : ∀ e ∈ es, V (nm (.t e.id)) = 0 ∧ V (nm (.b e.id)) = 0
section
variable {rows : List (List Nat)} {V : Nat → Int} {n : Nat} {vl : List (Int × Nat)} {el : List (Int × (Nat × Nat))} {sp : List Nat} {T : List (List Nat)} {vs : List Int} {es : List E} {nm : Pl → Nat}
theorem FI.row (f : FI rows V n vl el sp T vs es nm) (rok : RowsOk n rows) {p : Pl} (hp : okP vs es p) : rowOf rows (nm p) ∈ T ∧ nm p ∈ rowOf rows (nm p) ∧ Tour vs es nm (rowOf rows (nm p)) := by
 have hk : Kn vs es nm (nm p) := ⟨p, hp, rfl⟩
 obtain ⟨h1, h2⟩ := rok.rowOf_mem ⟨f.pos p hp, f.fr.kn _ hk⟩
 have h3 := f.fr.rw.mem_iff.1 h1
 rw [List.mem_append, List.mem_map] at h3
 rcases h3 with ⟨x, hx, e⟩ | h3
 ·rw [← e] at h2
  simp only [one1, List.mem_singleton] at h2
  exact absurd (h2 ▸ hk) (f.fr.spd x hx)
 ·exact ⟨h3, h2, f.tt _ h3⟩
theorem FI.inT (f : FI rows V n vl el sp T vs es nm) {l : List Nat} (hl : l ∈ T) : l ∈ rows := f.fr.rw.mem_iff.2 (by simp [hl])
theorem FI.ends (f : FI rows V n vl el sp T vs es nm) (rok : RowsOk n rows) {e : E} (he : e ∈ es) : rowOf rows (nm (.v e.u)) = rowOf rows (nm (.t e.id)) ∧ rowOf rows (nm (.v e.v)) = rowOf rows (nm (.t e.id)) ∧ rowOf rows (nm (.b e.id)) = rowOf rows (nm (.t e.id)) := by
 obtain ⟨h1, h2, h3⟩ := f.row rok (okT he)
 obtain ⟨_, c2, c3, c4⟩ := h3.closed f.N he (.inl h2)
 have hm := f.inT h1
 exact ⟨rok.rowOf_eq hm c3, rok.rowOf_eq hm c4, rok.rowOf_eq hm c2⟩
theorem FI.same (f : FI rows V n vl el sp T vs es nm) (rok : RowsOk n rows) {u v : Int} (hu : u ∈ vs) (hv : v ∈ vs) : rowOf rows (nm (.v u)) = rowOf rows (nm (.v v)) ↔ Cn es u v := by
 constructor
 ·intro e
  obtain ⟨h1, h2, h3⟩ := f.row rok (okV (es := es) hu)
  obtain ⟨k1, k2, k3⟩ := f.row rok (okV (es := es) hv)
  rw [← e] at k2
  exact h3.conn f.N hu hv h2 k2
 ·rintro ⟨p, hp⟩
  exact (hp.inv (Q := fun x => rowOf rows (nm (.v u)) = rowOf rows (nm (.v x))) (fun e he => by rw [(f.ends rok he).1, (f.ends rok he).2.1])) rfl
theorem FI.edge (f : FI rows V n vl el sp T vs es nm) (rok : RowsOk n rows) {u : Int} (hu : u ∈ vs) {e : E} (he : e ∈ es) : nm (.t e.id) ∈ rowOf rows (nm (.v u)) ↔ Cn es u e.u := by
 obtain ⟨h1, h2, h3⟩ := f.row rok (okT he)
 obtain ⟨k1, k2, k3⟩ := f.row rok (okV (es := es) hu)
 rw [← f.same rok hu (f.N.ends e he).1, (f.ends rok he).1]
 constructor
 ·intro h; exact (rok.rowOf_eq (f.inT k1) h).symm
 ·intro h; rw [h]; exact h2
theorem FI.le_vs (f : FI rows V n vl el sp T vs es nm) : es.length ≤ vs.length := by have := f.tc; omega
open Classical in
noncomputable def setN (nm : Pl → Nat) (p : Pl) (x : Nat) : Pl → Nat := fun q => if q = p then x else nm q
theorem setN_same (nm : Pl → Nat) (p : Pl) (x : Nat) : setN nm p x p = x := by simp [setN]
theorem setN_ne {nm : Pl → Nat} {p q : Pl} (x : Nat) (h : q ≠ p) : setN nm p x q = nm q := by simp [setN, h]
theorem lk_notmem {κ β : Type} [DecidableEq κ] {m : List (κ × β)} {x : κ} (h : lk m x = none) : hasK m x = false := by
 rw [Bool.eq_false_iff]
 intro hh
 obtain ⟨v, hv⟩ := hasK_iff.1 hh
 exact lk_none_iff.1 h _ hv rfl
theorem FI.addV (f : FI rows V n vl el sp T vs es nm) (rok : RowsOk n rows) (hpos : 0 < n) {v : Int} (hv : v ∉ vs) (hl : vs.length < 2048) {x n' : Nat} {sp' : List Nat} {rows' : List (List Nat)}
  (it : (sp = sp' ++ [x] ∧ rows' = rows ∧ n' = n) ∨ (sp = [] ∧ sp' = [] ∧ x = n ∧ rows' = rows ++ [[x]] ∧ n' = n + 1)) :
  FI rows' (fun i => if i = x then v else V i) n' (putK vl v x) el sp' ([x] :: T) (v :: vs) es (setN nm (.v v) x) := by
 obtain ⟨fr, nk, x0, xn, nn, cnt, cnb, sub⟩ := f.fr.make rok hpos it
 have ok' : ∀ {q}, okP (v :: vs) es q → q = .v v ∨ (okP vs es q ∧ q ≠ .v v) := by
  intro q hq
  cases q with
  | v i =>
   rcases List.mem_cons.1 hq with rfl | h
   ·exact .inl rfl
   ·exact .inr ⟨h, fun e => by injection e with e; exact hv (e ▸ h)⟩
  | t i => exact .inr ⟨hq, fun e => by cases e⟩
  | b i => exact .inr ⟨hq, fun e => by cases e⟩
 have nv : ∀ {i}, i ∈ vs → Pl.v i ≠ .v v := fun hi e => by injection e with e; exact hv (e ▸ hi)
 have nx : ∀ {p}, okP vs es p → nm p ≠ x := fun {p} hp e => nk ⟨p, hp, e.symm⟩
 have N' : Nm (v :: vs) es (setN nm (.v v) x) := by
  refine ⟨fun p q hp hq e => ?_, f.N.ids, fun e he => ⟨List.mem_cons.2 (.inr (f.N.ends e he).1), List.mem_cons.2 (.inr (f.N.ends e he).2)⟩⟩
  rcases ok' hp with rfl | ⟨hp, np⟩ <;> rcases ok' hq with rfl | ⟨hq, nq⟩
  ·rfl
  ·rw [setN_same, setN_ne _ nq] at e; exact absurd e.symm (nx hq)
  ·rw [setN_same, setN_ne _ np] at e; exact absurd e (nx hp)
  ·rw [setN_ne _ np, setN_ne _ nq] at e; exact f.N.inj _ _ hp hq e
 have lvv : lk vl v = none := by rw [f.lv, if_neg hv]
 have lwl : (v :: vs).length = vs.length + 1 := rfl
 have hes := f.le_vs
 refine ⟨N', List.nodup_cons.2 ⟨hv, f.vnd⟩, ?_, ?_, ?_, f.eln, ⟨fr.rw, fr.spn, ?_, ?_⟩, ?_, ?_, ?_, ?_, ?_, ?_, ?_⟩
 ·intro i
  rw [lk_putK]
  by_cases e : v = i
  ·subst e; rw [if_pos rfl, if_pos (List.mem_cons.2 (.inl rfl)), setN_same]
  ·rw [if_neg e, f.lv]
   by_cases hi : i ∈ vs
   ·rw [if_pos hi, if_pos (List.mem_cons.2 (.inr hi)), setN_ne _ (nv hi)]
   ·rw [if_neg hi, if_neg fun hh => by rcases List.mem_cons.1 hh with h | h; exact e h.symm; exact hi h]
 ·rw [length_putK, lk_notmem lvv, lwl]; simp [f.vln]
 ·intro i
  rw [f.le, setN_ne _ (fun e => by cases e), setN_ne _ (fun e => by cases e)]
 ·rintro y hy ⟨p, hp, rfl⟩
  rcases ok' hp with rfl | ⟨hp, np⟩
  ·rw [setN_same] at hy; exact fr.spd x hy (.inr rfl)
  ·rw [setN_ne _ np] at hy; exact fr.spd _ hy (.inl ⟨p, hp, rfl⟩)
 ·rintro y ⟨p, hp, rfl⟩
  rcases ok' hp with rfl | ⟨hp, np⟩
  ·rw [setN_same]; exact xn
  ·rw [setN_ne _ np]; exact fr.kn _ (.inl ⟨p, hp, rfl⟩)
 ·intro p hp
  rcases ok' hp with rfl | ⟨hp, np⟩
  ·rw [setN_same]; exact x0
  ·rw [setN_ne _ np]; exact f.pos p hp
 ·intro l hl
  rcases List.mem_cons.1 hl with rfl | hl
  ·have := Tour.one (vs := (v :: vs)) (es := es) (nm := setN nm (.v v) x) (v := v) (List.mem_cons.2 (.inl rfl))
   rw [setN_same] at this; exact this
  ·exact (f.tt l hl).mono f.N (fun u hu _ => ⟨List.mem_cons.2 (.inr hu), setN_ne _ (nv hu)⟩) fun e he _ => ⟨he, setN_ne _ (fun e => by cases e), setN_ne _ (fun e => by cases e)⟩
 ·have := f.tc; simp only [List.length_cons, lwl]; omega
 ·have := f.cn; rw [lwl]; omega
 ·have := f.nb; have := f.cn
  rcases cnb with e | ⟨e1, e2⟩
  ·omega
  ·rw [e1] at cnt; simp only [List.length_nil] at cnt; omega
 ·intro u hu
  rcases List.mem_cons.1 hu with rfl | hu
  ·simp [setN_same]
  ·simp only [setN_ne _ (nv hu), if_neg (nx (okV (es := es) hu))]; exact f.mkV u hu
 ·intro e he
  simp only [setN_ne _ (show Pl.t e.id ≠ .v v by intro h; cases h), setN_ne _ (show Pl.b e.id ≠ .v v by intro h; cases h), if_neg (nx (okT he)), if_neg (nx (okB he))]
  exact f.mkE e he
theorem FI.degT (f : FI rows V n vl el sp T vs es nm) {l : List Nat} (h : Tour vs es nm l) {v : Int} (hv : v ∈ vs) : nm (.v v) ∈ l → l = [nm (.v v)] ∨ ∃ e ∈ es, e.u = v ∨ e.v = v := by
 induction h with
 | one h => intro m; simp only [List.mem_singleton] at m; rw [m]; exact .inl rfl
 | @rot a b h ih =>
  intro m
  refine (ih (by rw [List.mem_append] at m ⊢; exact m.symm)).imp (fun e => ?_) id
  cases a with
  | nil => simpa using e
  | cons y a =>
   rw [List.cons_append] at e
   injection e with e1 e2
   rw [List.append_eq_nil_iff] at e2
   rw [e1, e2.1, e2.2]; rfl
 | @link e A B he h1 h2 i1 i2 =>
  intro m
  refine .inr ?_
  obtain ⟨eu, ev⟩ := f.N.ends _ he
  rcases link_mem.1 m with m | m | m | m
  ·rcases i1 m with h | h
   ·injection h with h _
    exact ⟨e, he, .inl (f.N.vv eu hv h)⟩
   ·exact h
  ·exact absurd m (f.N.vt hv he)
  ·rcases i2 m with h | h
   ·injection h with h _
    exact ⟨e, he, .inr (f.N.vv ev hv h)⟩
   ·exact h
  ·exact absurd m (f.N.vb hv he)
theorem mem_perm {α : Type} {l : List α} {x : α} (h : x ∈ l) : ∃ R, l.Perm (x :: R) := by
 obtain ⟨a, b, rfl⟩ := List.append_of_mem h
 exact ⟨a ++ b, List.perm_middle⟩
theorem lk_del_len {β : Type} {m : List (Int × β)} (nd : NdK m) {x : Int} {v : β} (h : lk m x = some v) : (delK m x).length + 1 = m.length := by
 have hm := lk_some h
 clear h
 induction m with
 | nil => cases hm
 | cons p r ih =>
  unfold NdK at nd
  rw [List.map_cons, List.nodup_cons] at nd
  by_cases e : p.1 = x
  ·have : delK (p :: r) x = r := by
    unfold delK
    rw [List.filter_cons_of_neg (by simp [e]), List.filter_eq_self]
    intro q hq
    have : q.1 ≠ x := fun h => nd.1 (by rw [e, ← h]; exact List.mem_map_of_mem hq)
    simpa using this
   rw [this]; rfl
  ·have hm' : (x, v) ∈ r := by rcases List.mem_cons.1 hm with h | h; exact absurd (by rw [← h]) e; exact h
   have : delK (p :: r) x = p :: delK r x := by unfold delK; rw [List.filter_cons_of_pos (by simpa using e)]
   rw [this, List.length_cons, ih nd.2 hm']; rfl
theorem er_mem {l : List Int} (nd : l.Nodup) {x y : Int} : y ∈ l.erase x ↔ y ∈ l ∧ y ≠ x := by rw [nd.mem_erase_iff, and_comm]
theorem FI.delV (f : FI rows V n vl el sp T vs es nm) (rok : RowsOk n rows) (ndv : NdK vl) {v : Int} (hv : v ∈ vs) (hz : ∀ e ∈ es, e.u ≠ v ∧ e.v ≠ v) :
  ∃ T', FI rows V n (delK vl v) el (sp ++ [nm (.v v)]) T' (vs.erase v) es nm := by
 obtain ⟨h1, h2, h3⟩ := f.row rok (okV (es := es) hv)
 have hrow : rowOf rows (nm (.v v)) = [nm (.v v)] := by
  rcases f.degT h3 hv h2 with e | ⟨e, he, hh⟩
  ·exact e
  ·have := hz e he
   rcases hh with hh | hh
   ·exact absurd hh this.1
   ·exact absurd hh this.2
 rw [hrow] at h1
 obtain ⟨T', pT⟩ := mem_perm h1
 have ok' : ∀ {q}, okP (vs.erase v) es q → okP vs es q ∧ q ≠ .v v := by
  intro q hq
  cases q with
  | v i => exact ⟨((er_mem f.vnd).1 hq).1, fun e => by injection e with e; exact ((er_mem f.vnd).1 hq).2 e⟩
  | t i => exact ⟨hq, fun e => by cases e⟩
  | b i => exact ⟨hq, fun e => by cases e⟩
 have nx : ∀ {p}, okP vs es p → p ≠ .v v → nm p ≠ nm (.v v) := fun hp np e => np (f.N.inj _ _ hp (okV (es := es) hv) e)
 have pr : rows.Perm (sp.map one1 ++ [nm (.v v)] :: T') := f.fr.rw.trans (pT.append_left _)
 have dis : ∀ l ∈ T', nm (.v v) ∉ l := by
  have hdj := (rok.perm (pr.trans List.perm_middle)).dj
  rw [List.pairwise_cons] at hdj
  intro l hl
  exact hdj.1 l (by simp [hl]) _ (by simp)
 have wl' : (vs.erase v).length + 1 = vs.length := by have := List.length_pos_of_mem hv; rw [List.length_erase_of_mem hv]; omega
 have tl := pT.length_eq
 simp only [List.length_cons] at tl
 refine ⟨T', ⟨⟨fun p q hp hq e => f.N.inj _ _ (ok' hp).1 (ok' hq).1 e, f.N.ids, fun e he => ?_⟩, f.vnd.erase v, ?_, ?_, f.le, f.eln, ⟨?_, ?_, ?_, ?_⟩, fun p hp => f.pos p (ok' hp).1, ?_, ?_, ?_, f.nb, fun u hu => f.mkV u ((er_mem f.vnd).1 hu).1, f.mkE⟩⟩
 ·have := hz e he
  exact ⟨(er_mem f.vnd).2 ⟨(f.N.ends e he).1, this.1⟩, (er_mem f.vnd).2 ⟨(f.N.ends e he).2, this.2⟩⟩
 ·intro i
  rw [lk_delK]
  by_cases e : v = i
  ·subst e; rw [if_pos rfl, if_neg fun h => ((er_mem f.vnd).1 h).2 rfl]
  ·rw [if_neg e, f.lv]
   by_cases hi : i ∈ vs
   ·rw [if_pos hi, if_pos ((er_mem f.vnd).2 ⟨hi, Ne.symm e⟩)]
   ·rw [if_neg hi, if_neg fun h => hi ((er_mem f.vnd).1 h).1]
 ·have := lk_del_len ndv (x := v) (v := nm (.v v)) (by rw [f.lv, if_pos hv])
  have := f.vln; omega
 ·rw [List.map_append]
  have : sp.map one1 ++ List.map one1 [nm (.v v)] ++ T' = sp.map one1 ++ [nm (.v v)] :: T' := by simp [one1]
  rw [this]; exact pr
 ·rw [List.nodup_append]
  refine ⟨f.fr.spn, by simp, fun a ha b hb e => ?_⟩
  simp only [List.mem_singleton] at hb
  exact f.fr.spd a ha ⟨_, okV (es := es) hv, e.trans hb⟩
 ·rintro x hx ⟨p, hp, rfl⟩
  rcases List.mem_append.1 hx with hx | hx
  ·exact f.fr.spd _ hx ⟨p, (ok' hp).1, rfl⟩
  ·simp only [List.mem_singleton] at hx
   exact nx (ok' hp).1 (ok' hp).2 hx
 ·rintro x ⟨p, hp, rfl⟩
  exact f.fr.kn _ ⟨p, (ok' hp).1, rfl⟩
 ·intro l hl
  have hlT : l ∈ T := pT.mem_iff.2 (by simp [hl])
  refine (f.tt l hlT).mono f.N (fun u hu m => ⟨(er_mem f.vnd).2 ⟨hu, fun e => ?_⟩, rfl⟩) fun e he _ => ⟨he, rfl, rfl⟩
  subst e; exact dis l hl m
 ·have := f.tc; omega
 ·have := f.cn; simp only [List.length_append, List.length_singleton]; omega
theorem ids_cons {l : List E} {e : E} {i : Int} : i ∈ (e :: l).map E.id ↔ i = e.id ∨ i ∈ l.map E.id := by rw [List.map_cons, List.mem_cons]
theorem FI.off (f : FI rows V n vl el sp T vs es nm) {l : List Nat} (hl : l ∈ T) : ∃ T0, T.Perm (l :: T0) ∧ rows.Perm (l :: (sp.map one1 ++ T0)) := by
 obtain ⟨T0, pT⟩ := mem_perm hl
 exact ⟨T0, pT, (f.fr.rw.trans (pT.append_left _)).trans List.perm_middle⟩
theorem FI.link (f : FI rows V n vl el sp T vs es nm) (rok : RowsOk n rows) (hpos : 0 < n) {e : E} (hl : vs.length ≤ 2048) (hi : e.id ∉ es.map E.id) (hu : e.u ∈ vs) (hv : e.v ∈ vs) (hne : rowOf rows (nm (.v e.u)) ≠ rowOf rows (nm (.v e.v))) {x1 x2 n1 n2 : Nat} {sp1 sp2 : List Nat} {rows1 rows2 : List (List Nat)}
  (it1 : (sp = sp1 ++ [x1] ∧ rows1 = rows ∧ n1 = n) ∨ (sp = [] ∧ sp1 = [] ∧ x1 = n ∧ rows1 = rows ++ [[x1]] ∧ n1 = n + 1)) (rok1 : RowsOk n1 rows1)
  (it2 : (sp1 = sp2 ++ [x2] ∧ rows2 = rows1 ∧ n2 = n1) ∨ (sp1 = [] ∧ sp2 = [] ∧ x2 = n1 ∧ rows2 = rows1 ++ [[x2]] ∧ n2 = n1 + 1)) :
  ∃ T0, rows2.Perm (rowOf rows (nm (.v e.u)) :: rowOf rows (nm (.v e.v)) :: [x1] :: [x2] :: (sp2.map one1 ++ T0)) ∧
   ∀ A B rows3, Rot (rowOf rows (nm (.v e.u))) (nm (.v e.u) :: A) → Rot (rowOf rows (nm (.v e.v))) (nm (.v e.v) :: B) → rows3.Perm (((nm (.v e.u) :: A) ++ x1 :: ((nm (.v e.v) :: B) ++ [x2])) :: (sp2.map one1 ++ T0)) →
    FI rows3 (fun i => if i = x2 then 0 else if i = x1 then 0 else V i) n2 vl (putK el e.id (x1, x2)) sp2 (((nm (.v e.u) :: A) ++ x1 :: ((nm (.v e.v) :: B) ++ [x2])) :: T0) vs (e :: es) (setN (setN nm (.t e.id) x1) (.b e.id) x2) := by
 obtain ⟨fr1, nk1, p1, l1, nn1, cnt1, cnb1, sub1⟩ := f.fr.make rok hpos it1
 obtain ⟨fr2, nk2, p2, l2, nn2, cnt2, cnb2, sub2⟩ := fr1.make rok1 (by omega) it2
 obtain ⟨mu, uu, tu⟩ := f.row rok (okV (es := es) hu)
 obtain ⟨mv, vv, tv⟩ := f.row rok (okV (es := es) hv)
 generalize hlu : rowOf rows (nm (.v e.u)) = lu at *
 generalize hlv : rowOf rows (nm (.v e.v)) = lv at *
 obtain ⟨Ta, pa⟩ := mem_perm mu
 have mv' : lv ∈ Ta := by
  have := pa.mem_iff.1 mv
  rcases List.mem_cons.1 this with h | h
  ·exact absurd h.symm hne
  ·exact h
 obtain ⟨T0, pb⟩ := mem_perm mv'
 have pT : T.Perm (lu :: lv :: T0) := pa.trans (pb.cons _)
 refine ⟨T0, ?_, ?_⟩
 ·refine fr2.rw.trans ?_
  have h1 : ([x2] :: [x1] :: T).Perm (lu :: lv :: [x1] :: [x2] :: T0) := by
   refine ((pT.cons _).cons _).trans ?_
   have e1 : [x2] :: [x1] :: lu :: lv :: T0 = [[x2], [x1], lu, lv] ++ T0 := rfl
   have e2 : lu :: lv :: [x1] :: [x2] :: T0 = [lu, lv, [x1], [x2]] ++ T0 := rfl
   rw [e1, e2]
   refine List.Perm.append_right _ ?_
   exact (List.perm_append_comm (l₁ := [[x2], [x1]]) (l₂ := [lu, lv])).trans (((List.Perm.swap _ _ _).cons _).cons _)
  refine (h1.append_left _).trans ?_
  have e3 : ∀ (S : List (List Nat)), (S ++ lu :: lv :: [x1] :: [x2] :: T0).Perm (lu :: lv :: [x1] :: [x2] :: (S ++ T0)) := fun S => by
   have : S ++ lu :: lv :: [x1] :: [x2] :: T0 = (S ++ [lu, lv, [x1], [x2]]) ++ T0 := by simp
   rw [this]
   have := (List.perm_append_comm (l₁ := S) (l₂ := [lu, lv, [x1], [x2]])).append_right T0
   simpa using this
  exact e3 _
 intro A B rows3 rA rB p3
 have x12 : x1 ≠ x2 := fun h => nk2 (.inr h.symm)
 have nx1 : ∀ {p}, okP vs es p → nm p ≠ x1 := fun {p} hp h => nk1 ⟨p, hp, h.symm⟩
 have nx2 : ∀ {p}, okP vs es p → nm p ≠ x2 := fun {p} hp h => nk2 (.inl ⟨p, hp, h.symm⟩)
 have ok' : ∀ {q}, okP vs (e :: es) q → q = .t e.id ∨ q = .b e.id ∨ (okP vs es q ∧ q ≠ .t e.id ∧ q ≠ .b e.id) := by
  intro q hq
  cases q with
  | v i => exact .inr (.inr ⟨hq, (fun h => by cases h), fun h => by cases h⟩)
  | t i =>
   rcases ids_cons.1 hq with rfl | h
   ·exact .inl rfl
   ·exact .inr (.inr ⟨h, fun e => by injection e with e; exact hi (e ▸ h), fun h => by cases h⟩)
  | b i =>
   rcases ids_cons.1 hq with rfl | h
   ·exact .inr (.inl rfl)
   ·exact .inr (.inr ⟨h, (fun h => by cases h), fun e => by injection e with e; exact hi (e ▸ h)⟩)
 have nmT : setN (setN nm (.t e.id) x1) (.b e.id) x2 (.t e.id) = x1 := by rw [setN_ne _ (fun h => by cases h), setN_same]
 have nmB : setN (setN nm (.t e.id) x1) (.b e.id) x2 (.b e.id) = x2 := setN_same _ _ _
 have nmO : ∀ {q}, q ≠ .t e.id → q ≠ .b e.id → setN (setN nm (.t e.id) x1) (.b e.id) x2 q = nm q := fun h1 h2 => by rw [setN_ne _ h2, setN_ne _ h1]
 have nmV : ∀ i, setN (setN nm (.t e.id) x1) (.b e.id) x2 (.v i) = nm (.v i) := fun i => nmO (fun h => by cases h) (fun h => by cases h)
 generalize hnm : setN (setN nm (.t e.id) x1) (.b e.id) x2 = nm' at *
 have hT : ∀ {a : E}, a ∈ es → nm' (.t a.id) = nm (.t a.id) ∧ nm' (.b a.id) = nm (.b a.id) := fun {a} ha => by
  have : a.id ≠ e.id := fun h => hi (h ▸ List.mem_map_of_mem ha)
  exact ⟨nmO (fun h => by injection h with h; exact this h) (fun h => by cases h), nmO (fun h => by cases h) (fun h => by injection h with h; exact this h)⟩
 have N' : Nm vs (e :: es) nm' := by
  refine ⟨fun p q hp hq h => ?_, List.nodup_cons.2 ⟨hi, f.N.ids⟩, fun a ha => ?_⟩
  ·rcases ok' hp with rfl | rfl | ⟨hp, np1, np2⟩ <;> rcases ok' hq with rfl | rfl | ⟨hq, nq1, nq2⟩
   ·rfl
   ·rw [nmT, nmB] at h; exact absurd h x12
   ·rw [nmT, nmO nq1 nq2] at h; exact absurd h.symm (nx1 hq)
   ·rw [nmT, nmB] at h; exact absurd h.symm x12
   ·rfl
   ·rw [nmB, nmO nq1 nq2] at h; exact absurd h.symm (nx2 hq)
   ·rw [nmT, nmO np1 np2] at h; exact absurd h (nx1 hp)
   ·rw [nmB, nmO np1 np2] at h; exact absurd h (nx2 hp)
   ·rw [nmO np1 np2, nmO nq1 nq2] at h; exact f.N.inj _ _ hp hq h
  ·rcases List.mem_cons.1 ha with rfl | ha
   ·exact ⟨hu, hv⟩
   ·exact f.N.ends a ha
 have lel : (e :: es).length = es.length + 1 := rfl
 have mono : ∀ {l}, Tour vs es nm l → Tour vs (e :: es) nm' l := fun h => h.mono f.N (fun u hu _ => ⟨hu, nmV u⟩) fun a ha _ => ⟨List.mem_cons.2 (.inr ha), hT ha⟩
 have tl := pT.length_eq
 simp only [List.length_cons] at tl
 have tc := f.tc; have cn := f.cn; have nb := f.nb
 have kk : ∀ {x}, Kn vs (e :: es) nm' x → (Kn vs es nm x ∨ x = x1) ∨ x = x2 := by
  rintro x ⟨p, hp, rfl⟩
  rcases ok' hp with rfl | rfl | ⟨hp, np1, np2⟩
  ·exact .inl (.inr nmT)
  ·exact .inr nmB
  ·rw [nmO np1 np2]; exact .inl (.inl ⟨p, hp, rfl⟩)
 refine ⟨N', f.vnd, ?_, f.vln, ?_, ?_, ⟨?_, fr2.spn, fun x hx hk => fr2.spd x hx (kk hk), fun x hk => fr2.kn x (kk hk)⟩, ?_, ?_, ?_, ?_, ?_, ?_, ?_⟩
 ·intro i; rw [f.lv]; simp only [nmV]
 ·intro i
  rw [lk_putK]
  by_cases h : e.id = i
  ·subst h; rw [if_pos rfl, if_pos (ids_cons.2 (.inl rfl)), nmT, nmB]
  ·rw [if_neg h, f.le]
   by_cases hh : i ∈ es.map E.id
   ·obtain ⟨a, ha, rfl⟩ := List.mem_map.1 hh
    rw [if_pos hh, if_pos (ids_cons.2 (.inr hh)), (hT ha).1, (hT ha).2]
   ·rw [if_neg hh, if_neg fun hx => by rcases ids_cons.1 hx with h' | h'; exact h h'.symm; exact hh h']
 ·have : lk el e.id = none := by rw [f.le, if_neg hi]
  rw [length_putK, lk_notmem this, lel]; simp [f.eln]
 ·exact p3.trans List.perm_middle.symm
 ·intro p hp
  rcases ok' hp with rfl | rfl | ⟨hp, np1, np2⟩
  ·rw [nmT]; exact p1
  ·rw [nmB]; exact p2
  ·rw [nmO np1 np2]; exact f.pos p hp
 ·intro l hl
  rcases List.mem_cons.1 hl with rfl | hl
  ·have j1 := mono (tu.of_rot rA)
   have j2 := mono (tv.of_rot rB)
   rw [← nmV e.u] at j1
   rw [← nmV e.v] at j2
   have := Tour.link (List.mem_cons.2 (.inl rfl)) j1 j2
   rw [nmT, nmB, nmV, nmV] at this
   exact this
  ·exact mono (f.tt l (pT.mem_iff.2 (by simp [hl])))
 ·simp only [List.length_cons, lel]; omega
 ·rw [lel]; omega
 ·rw [lel] at *
  rcases cnb2 with h2 | ⟨h2, h3⟩
  ·rcases cnb1 with h1 | ⟨h1, h4⟩
   ·omega
   ·rw [h1] at cnt1 sub2
    have e2 : sp2 = [] := by cases sp2 with | nil => rfl | cons a _ => exact absurd (sub2 a (by simp)) (by simp)
    rw [h1, e2] at cnt2
    simp only [List.length_nil] at cnt1 cnt2
    omega
  ·rw [h2] at cnt2
   simp only [List.length_nil] at cnt2
   omega
 ·intro u hu'
  rw [nmV, if_neg (nx2 (okV (es := es) hu')), if_neg (nx1 (okV (es := es) hu'))]; exact f.mkV u hu'
 ·intro a ha
  rcases List.mem_cons.1 ha with rfl | ha
  ·rw [nmT, nmB]; simp [x12]
  ·rw [(hT ha).1, (hT ha).2, if_neg (nx2 (okT ha)), if_neg (nx1 (okT ha)), if_neg (nx2 (okB ha)), if_neg (nx1 (okB ha))]
   exact f.mkE a ha
theorem FI.cut (f : FI rows V n vl el sp T vs es nm) (rok : RowsOk n rows) (nde : NdK el) {e : E} (he : e ∈ es) :
  ∃ T0 l X Y, rows.Perm (l :: (sp.map one1 ++ T0)) ∧ nm (.t e.id) ∈ l ∧ Rot l (nm (.t e.id) :: (X ++ nm (.b e.id) :: Y)) ∧ X ≠ [] ∧ Y ≠ [] ∧
   ∀ rows3, rows3.Perm ([nm (.t e.id)] :: X :: [nm (.b e.id)] :: Y :: (sp.map one1 ++ T0)) →
    FI rows3 V n vl (delK el e.id) (sp ++ [nm (.t e.id), nm (.b e.id)]) (X :: Y :: T0) vs (noE es e.id) nm := by
 obtain ⟨h1, h2, h3⟩ := f.row rok (okT he)
 obtain ⟨X, Y, rt, tX, tY, mX, mY⟩ := h3.cut f.N he h2
 obtain ⟨T0, pT, pr⟩ := f.off h1
 refine ⟨T0, _, X, Y, pr, h2, rt, tX.ne, tY.ne, fun rows3 p3 => ?_⟩
 have ht := f.N.tb he he
 have nd : (nm (.t e.id) :: (X ++ nm (.b e.id) :: Y)).Nodup := rt.perm.nodup_iff.1 (rok.nd _ (f.inT h1))
 have hdj := (rok.perm pr).dj
 rw [List.pairwise_cons] at hdj
 have dis : ∀ l ∈ T0, ∀ x, x ∈ rowOf rows (nm (.t e.id)) → x ∉ l := fun l hl x hx => hdj.1 l (by simp [hl]) x hx
 have sub : ∀ {a}, a ∈ noE es e.id → a ∈ es ∧ a.id ≠ e.id := fun h => noE_mem.1 h
 have ids' : ∀ {i}, i ∈ (noE es e.id).map E.id → i ∈ es.map E.id ∧ i ≠ e.id := fun h => by
  obtain ⟨a, ha, rfl⟩ := List.mem_map.1 h
  exact ⟨List.mem_map_of_mem (sub ha).1, (sub ha).2⟩
 have ok' : ∀ {q}, okP vs (noE es e.id) q → okP vs es q ∧ q ≠ .t e.id ∧ q ≠ .b e.id := by
  intro q hq
  cases q with
  | v i => exact ⟨hq, (fun h => by cases h), fun h => by cases h⟩
  | t i => exact ⟨(ids' hq).1, fun h => by injection h with h; exact (ids' hq).2 h, fun h => by cases h⟩
  | b i => exact ⟨(ids' hq).1, (fun h => by cases h), fun h => by injection h with h; exact (ids' hq).2 h⟩
 have nt : ∀ {q}, okP vs (noE es e.id) q → nm q ≠ nm (.t e.id) := fun hq h => (ok' hq).2.1 (f.N.inj _ _ (ok' hq).1 (okT he) h)
 have nb : ∀ {q}, okP vs (noE es e.id) q → nm q ≠ nm (.b e.id) := fun hq h => (ok' hq).2.2 (f.N.inj _ _ (ok' hq).1 (okB he) h)
 have le' : (noE es e.id).length + 1 = es.length := by
  have := congrArg List.length (noE_ids es e.id f.N.ids)
  rw [List.length_map, List.length_erase_of_mem (List.mem_map_of_mem he), List.length_map] at this
  have : 0 < es.length := List.length_pos_of_mem he
  omega
 have mono : ∀ {l}, Tour vs es nm l → nm (.t e.id) ∉ l → Tour vs (noE es e.id) nm l := fun h hn => h.mono f.N (fun u hu _ => ⟨hu, rfl⟩) fun a ha m => ⟨noE_mem.2 ⟨ha, fun h => hn (by rw [← h]; exact m)⟩, rfl, rfl⟩
 have tl := pT.length_eq
 simp only [List.length_cons] at tl
 have tc := f.tc; have cn := f.cn
 rw [show sp ++ [nm (.t e.id), nm (.b e.id)] = sp ++ [nm (.t e.id)] ++ [nm (.b e.id)] by simp]
 refine ⟨⟨fun p q hp hq h => f.N.inj _ _ (ok' hp).1 (ok' hq).1 h, f.N.ids.sublist (List.Sublist.map _ List.filter_sublist), fun a ha => f.N.ends a (sub ha).1⟩, f.vnd, f.lv, f.vln, ?_, ?_, ⟨?_, ?_, ?_, ?_⟩, fun p hp => f.pos p (ok' hp).1, ?_, ?_, ?_, f.nb, f.mkV, fun a ha => f.mkE a (sub ha).1⟩
 ·intro i
  rw [lk_delK]
  by_cases h : e.id = i
  ·rw [if_pos h, if_neg fun hh => (ids' hh).2 h.symm]
  ·rw [if_neg h, f.le]
   by_cases hh : i ∈ es.map E.id
   ·obtain ⟨a, ha, rfl⟩ := List.mem_map.1 hh
    rw [if_pos hh, if_pos (List.mem_map_of_mem (noE_mem.2 ⟨ha, Ne.symm h⟩))]
   ·rw [if_neg hh, if_neg fun hx => hh (ids' hx).1]
 ·have := lk_del_len nde (x := e.id) (v := (nm (.t e.id), nm (.b e.id))) (by rw [f.le, if_pos (List.mem_map_of_mem he)])
  have := f.eln; omega
 ·refine p3.trans ?_
  rw [List.map_append, List.map_append]
  have : ([nm (.t e.id)] :: X :: [nm (.b e.id)] :: Y :: (sp.map one1 ++ T0)).Perm ((sp.map one1 ++ [[nm (.t e.id)], [nm (.b e.id)]]) ++ X :: Y :: T0) := by
   have e1 : [nm (.t e.id)] :: X :: [nm (.b e.id)] :: Y :: (sp.map one1 ++ T0) = [[nm (.t e.id)], X, [nm (.b e.id)], Y] ++ (sp.map one1 ++ T0) := rfl
   have e2 : (sp.map one1 ++ [[nm (.t e.id)], [nm (.b e.id)]]) ++ X :: Y :: T0 = (sp.map one1 ++ [[nm (.t e.id)], [nm (.b e.id)], X, Y]) ++ T0 := by simp
   rw [e1, e2, ← List.append_assoc]
   refine List.Perm.append_right _ ?_
   refine (List.perm_append_comm).trans ?_
   exact (((List.Perm.swap _ _ _).cons _)).append_left _
  refine this.trans ?_
  have e3 : sp.map one1 ++ List.map one1 [nm (.t e.id)] ++ List.map one1 [nm (.b e.id)] ++ X :: Y :: T0 = (sp.map one1 ++ [[nm (.t e.id)], [nm (.b e.id)]]) ++ X :: Y :: T0 := by simp [one1]
  rw [e3]
 ·rw [List.nodup_append, List.nodup_append]
  refine ⟨⟨f.fr.spn, by simp, fun a ha b hb h => ?_⟩, by simp, fun a ha b hb h => ?_⟩
  ·simp only [List.mem_singleton] at hb
   exact f.fr.spd a ha ⟨_, okT he, h.trans hb⟩
  ·simp only [List.mem_singleton] at hb
   rcases List.mem_append.1 ha with ha | ha
   ·exact f.fr.spd a ha ⟨_, okB he, h.trans hb⟩
   ·simp only [List.mem_singleton] at ha
    exact ht (ha.symm.trans (h.trans hb))
 ·rintro x hx ⟨p, hp, rfl⟩
  rcases List.mem_append.1 hx with hx | hx
  ·rcases List.mem_append.1 hx with hx | hx
   ·exact f.fr.spd _ hx ⟨p, (ok' hp).1, rfl⟩
   ·simp only [List.mem_singleton] at hx; exact nt hp hx
  ·simp only [List.mem_singleton] at hx; exact nb hp hx
 ·rintro x ⟨p, hp, rfl⟩
  exact f.fr.kn _ ⟨p, (ok' hp).1, rfl⟩
 ·rw [List.nodup_cons] at nd
  intro l hl
  rcases List.mem_cons.1 hl with rfl | hl
  ·exact mono tX fun h => nd.1 (by simp [h])
  rcases List.mem_cons.1 hl with rfl | hl
  ·exact mono tY fun h => nd.1 (by simp [h])
  ·exact mono (f.tt l (pT.mem_iff.2 (by simp [hl]))) (dis l hl _ h2)
 ·simp only [List.length_cons]; omega
 ·simp only [List.length_append, List.length_singleton]; omega
end
end Go.Proofs.Ytklnlnjgaadjbaa.Rd
namespace Go.Proofs.Ytklnlnjgaadjbaa.Rd
open Go.Dn Go.RowKit Go.Maps
set_option maxRecDepth 100000
def RepS (w : World) (Fp : Nat → Prop) (F : Nat) (vs : List Int) (es : List E) : Prop :=
 ∃ b rows V vl el sp T nm Fl, b.F = F ∧ (∀ k, Fp k ↔ Fe b Fl k) ∧ EM w b rows V vl el sp Fl vs es ∧ FI rows V b.r.n vl el sp T vs es nm
theorem RepS.other {w w' : World} {Fp Q : Nat → Prop} {F : Nat} {vs : List Int} {es : List E} (h : RepS w Fp F vs es) (k : Keeps Q w w') (hQ : ∀ k, Q k → ¬ Fp k) : RepS w' Fp F vs es := by
 obtain ⟨b, rows, V, vl, el, sp, T, nm, Fl, h1, h2, h3, h4⟩ := h
 exact ⟨b, rows, V, vl, el, sp, T, nm, Fl, h1, h2, h3.other k fun k hk hf => hQ k hk ((h2 k).2 hf), h4⟩
theorem RepS.below {w w' : World} {Fp : Nat → Prop} {F : Nat} {vs : List Int} {es : List E} (h : RepS w Fp F vs es) (k : Below w.heap.size w w') : RepS w' Fp F vs es := h.other (Q := fun _ => False) (.of_below k) fun _ h => h.elim
theorem RepS.lt {w : World} {Fp : Nat → Prop} {F : Nat} {vs : List Int} {es : List E} (h : RepS w Fp F vs es) : ∀ k, Fp k → k < w.heap.size := by
 obtain ⟨b, rows, V, vl, el, sp, T, nm, Fl, h1, h2, h3, h4⟩ := h
 exact fun k hk => h3.lt k ((h2 k).1 hk)
theorem RepS.ve {w : World} {Fp : Nat → Prop} {F : Nat} {vs : List Int} {es : List E} (h : RepS w Fp F vs es) : VE vs es := by
 obtain ⟨b, rows, V, vl, el, sp, T, nm, Fl, h1, h2, h3, h4⟩ := h
 exact h3.lc.ve
theorem upd_iff {Fp : Nat → Prop} {b b' : EB} {Fl Fl' : Nat → Prop} {w w' : World} (hF : ∀ k, Fp k ↔ Fe b Fl k) (u : Upd (Fe b Fl) w w' (Fe b' Fl')) : Upd Fp w w' (Fe b' Fl') := ⟨u.kp.mono fun k _ hk => (hF k).2 hk, fun k hk => (u.fr k hk).imp (hF k).2 id⟩
theorem _root_.Go.Dn.HB.ri {w : World} {b : Nat} {cs : Array Value} {t : TypeId} (h : HB w b cs t) (l : List Int) (hcs : cs.toList = l.map (.int .i64)) : RI w (some ⟨b, 0, none⟩) l := fun i hi => by
 refine ⟨_, rfl, ?_⟩
 rw [h.cell, ← Array.getElem?_toList, hcs]
 simp [hi]
def lkV (vl : List (Int × Nat)) (i : Int) : Nat := (lk vl i).getD 0
def lkE (el : List (Int × (Nat × Nat))) (i : Int) : Nat × Nat := (lk el i).getD (0, 0)
section
variable {w w' : World} {b : EB} {rows : List (List Nat)} {V : Nat → Int} {vl : List (Int × Nat)} {el : List (Int × (Nat × Nat))} {sp : List Nat} {Fl : Nat → Prop} {n : Nat} {T : List (List Nat)} {vs vs' : List Int} {es es' : List E} {nm : Pl → Nat}
theorem EM.lookV (h : EM w b rows V vl el sp Fl vs es) {i : Int} (hi : W64 i) {K : Value → World → Prop} (hk : K (.int .i64 (lkV vl i : Int)) w) : Runs Try.prog (Instr.lookup 63 (.map (some b.mv)) (.int .i64 i) false) w K := by
 refine h.gv.look KTv (x := i) hi (zI w) ?_
 unfold lkV at hk
 cases hq : lk vl i with
 | none => rw [hq] at hk; exact hk
 | some n => rw [hq] at hk; exact hk
theorem EM.lookE (h : EM w b rows V vl el sp Fl vs es) {i : Int} (hi : W64 i) {K : Value → World → Prop} (hk : K (.tuple #[.agg #[.int .i64 ((lkE el i).1 : Int), .int .i64 ((lkE el i).2 : Int)], .bool (lk el i).isSome]) w) : Runs Try.prog (Instr.lookup 64 (.map (some b.me)) (.int .i64 i) true) w K := by
 refine h.ge.look2 KTe (x := i) hi (zA w) ?_
 unfold lkE at hk
 cases hq : lk el i with
 | none => rw [hq] at hk; exact hk
 | some n => rw [hq] at hk; exact hk
theorem FI.lkv (f : FI rows V n vl el sp T vs es nm) (i : Int) : lkV vl i = if i ∈ vs then nm (.v i) else 0 := by unfold lkV; rw [f.lv]; split <;> rfl
theorem FI.lke (f : FI rows V n vl el sp T vs es nm) (i : Int) : (lk el i).isSome = decide (i ∈ es.map E.id) := by rw [f.le]; split <;> simp_all
theorem FI.lke' (f : FI rows V n vl el sp T vs es nm) {e : E} (he : e ∈ es) : lkE el e.id = (nm (.t e.id), nm (.b e.id)) := by unfold lkE; rw [f.le, if_pos (List.mem_map_of_mem he)]; rfl
theorem FI.spr (f : FI rows V n vl el sp T vs es nm) : ∀ x ∈ sp, [x] ∈ rows := fun x hx => f.fr.rw.mem_iff.2 (by rw [List.mem_append, List.mem_map]; exact .inl ⟨x, hx, rfl⟩)
theorem cn_ja (g : VE vs es) {u v : Int} (h : Cn es u v) : Ja es u v := by
 obtain ⟨p, hp⟩ := h
 obtain ⟨q, hq, nq, _⟩ := hp.red2 g.hi g.hw
 exact ⟨q, hq, nq⟩
theorem ja_cn {u v : Int} (h : Ja es u v) : Cn es u v := by obtain ⟨p, hp, _⟩ := h; exact ⟨p, hp⟩
theorem dS_mono (g : VE vs es) (g' : VE vs' es') (hs : ∀ e ∈ es, e ∈ es') {u v : Int} (hu : u ∈ vs) (hu' : u ∈ vs') (h : Ja es u v) : dS es' u v = dS es u v := by
 obtain ⟨p, hp, np⟩ := h
 rw [dS_of g hu hp np, dS_of g' hu' (hp.mono hs) np]
theorem m4_of (g : VE vs es) {l : List Int} (h : ∀ x ∈ l, x ∈ vs) (hj : ∀ x ∈ l, ∀ y ∈ l, Ja es x y) : M4 (dS es) l :=
 ⟨fun x hx => by have := g.vr x (h x hx); omega, fun x hx => dS_self g x, fun x hx y hy => dS_symm g (h x hx) (h y hy), fun x hx y hy z hz t ht => dS_four g (h x hx) (hj x hx y hy) (hj x hx z hz) (hj x hx t ht)⟩
theorem FI.vx (f : FI rows V n vl el sp T vs es nm) (g : VE vs es) {l : List Nat} (h : Tour vs es nm l) {x : Int} : x ∈ vxs V l ↔ x ∈ vs ∧ nm (.v x) ∈ l := by
 rw [vxs_mem]
 constructor
 ·rintro ⟨h0, i, hi, rfl⟩
  obtain ⟨p, hp, rfl⟩ := h.ok f.N i hi
  cases p with
  | v u =>
   have hu : u ∈ vs := hp
   rw [f.mkV u hu]; exact ⟨hu, hi⟩
  | t i =>
   obtain ⟨e, he, rfl⟩ := List.mem_map.1 hp
   exact absurd (f.mkE e he).1 h0
  | b i =>
   obtain ⟨e, he, rfl⟩ := List.mem_map.1 hp
   exact absurd (f.mkE e he).2 h0
 ·rintro ⟨hx, hm⟩
  exact ⟨by have := g.vr x hx; omega, _, hm, f.mkV x hx⟩
theorem FI.vxj (f : FI rows V n vl el sp T vs es nm) (g : VE vs es) {l : List Nat} (h : Tour vs es nm l) {x y : Int} (hx : x ∈ vxs V l) (hy : y ∈ vxs V l) : x ∈ vs ∧ y ∈ vs ∧ Ja es x y := by
 obtain ⟨h1, h2⟩ := (f.vx g h).1 hx
 obtain ⟨k1, k2⟩ := (f.vx g h).1 hy
 exact ⟨h1, k1, cn_ja g (h.conn f.N h1 k1 h2 k2)⟩
theorem FI.tour4 (f : FI rows V n vl el sp T vs es nm) (g : VE vs es) {l : List Nat} (h : Tour vs es nm l) : M4 (dS es) (vxs V l) := m4_of g (fun x hx => (f.vxj g h hx hx).1) fun x hx y hy => (f.vxj g h hx hy).2.2
theorem FI.dist (f : FI rows V n vl el sp T vs es nm) (g : VE vs es) (g' : VE vs es') (hs : ∀ e ∈ es, e ∈ es') : ∀ l ∈ rows, ∀ x ∈ vxs V l, ∀ y ∈ vxs V l, dS es' x y = dS es x y := by
 intro l hl x hx y hy
 have hl := f.fr.rw.mem_iff.1 hl
 rw [List.mem_append, List.mem_map] at hl
 rcases hl with ⟨i, hi, rfl⟩ | hl
 ·unfold one1 at hx hy
  rw [vxs_one] at hx hy
  split at hx
  ·cases hx
  ·rename_i hne
   rw [if_neg hne] at hy
   rw [List.mem_singleton] at hx hy
   subst hx; subst hy
   rw [dS_self g, dS_self g']
 ·obtain ⟨h1, h2, h3⟩ := f.vxj g (f.tt l hl) hx hy
  exact dS_mono g g' hs h1 h1 h3
end
theorem NewS_ok {w : World} {A : Option Addr} {sl : List Int} {n c : Nat} (hn : n = sl.length) (hr : RI w A sl) (hc0 : A = none → sl.length = 0 ∧ c = 0) (hlen : sl.length ≤ 17592186044416) :
  Calls Try.prog 7 #[.slice A n c] w fun e w' => ∃ Fp F, e = .returned (.pointer (some ⟨F, 0, none⟩)) ∧ RepS w' Fp F [] [] ∧ Below w.heap.size w w' ∧ ∀ k, Fp k → w.heap.size ≤ k := by
 subst hn
 apply f_span_New.ok
 unfold f_span_New.wp
 refine (NewT_ok hr hc0 hlen).mono ?_
 rintro _ w1 ⟨r, rfl, hr1, hn1, hB, g1⟩
 refine ⟨_, rfl, (New_ok w1).mono ?_⟩
 rintro _ w2 ⟨Fl, L, rfl, hl, g2, fl2⟩
 refine ⟨_, rfl, alW_intro (alW_intro (al_new fun w5 b5 e5 s5 h5 g5 => ?_))⟩
 have o2 := GM.new (eK := eI) (eV := eN) (okK := W64) w2
 obtain ⟨mv, hmv⟩ : ∃ mv, w2.heap.size = mv := ⟨_, rfl⟩
 have k3 : Below w2.heap.size w2 (w2.alloc (.map #[] 0)) := (Below.refl _ _).alloc (Nat.le_refl _) _
 have s3 : (w2.alloc (.map #[] 0)).heap.size = w2.heap.size + 1 := by simp
 generalize hw3 : w2.alloc (.map #[] 0) = w3 at *
 have o3 := GM.new (eK := eI) (eV := eA) (okK := W64) w3
 obtain ⟨me, hme⟩ : ∃ me, w3.heap.size = me := ⟨_, rfl⟩
 have k4 : Below w3.heap.size w3 (w3.alloc (.map #[] 0)) := (Below.refl _ _).alloc (Nat.le_refl _) _
 have s4 : (w3.alloc (.map #[] 0)).heap.size = w3.heap.size + 1 := by simp
 generalize hw4 : w3.alloc (.map #[] 0) = w4 at *
 have sz1 := g1.size
 have sz2 := g2.size
 have g25 : Below w2.heap.size w2 w5 := (k3.trans (k4.mono (by omega))).trans (g5.mono (by omega))
 have g15 : Below w1.heap.size w1 w5 := g2.trans (g25.mono sz2)
 have ro := (hr1 (dS []) (fun _ => 0) b5).below g15
 have rlt := (hr1 (dS []) (fun _ => 0) b5).lt
 have rsap := (hr1 (dS []) (fun _ => 0) b5).sap
 have lo1 : ∀ a, r.As = some a → w.heap.size ≤ a.block := fun a ha => by have := (rsap a ha).1; simp at this; omega
 rw [hmv] at o2; rw [hme] at o3
 have h5 : HB w5 b5 (fC ⟨b5, { r with F := b5 }, L, mv, me, none, 0⟩ 0) TF := by
  rw [hmv, hme] at h5; exact h5
 have nlt : ∀ k, Fl k → k < w2.heap.size := hl.lt
 have rg := rlt.2.2.1
 refine ⟨Fe ⟨b5, { r with F := b5 }, L, mv, me, none, 0⟩ Fl, b5, rfl, ⟨⟨b5, { r with F := b5 }, L, mv, me, none, 0⟩, [], fun _ => 0, [], [], [], [], fun _ => 0, Fl, rfl, fun _ => .rfl, ⟨h5, ro, (o2.below (k4.mono (by omega))).below (g5.mono (by omega)), o3.below g5, OwnI.none _ _ _, hl.below g25, ?_, (fun a ha => by cases ha), ?_, ?_, (fun a ha => by cases ha), ?_, rfl⟩, ?_⟩, ?_, ?_⟩
 ·simp only [EB.ix, List.nodup_cons, List.mem_cons, List.not_mem_nil, or_false, not_or, not_false_eq_true, List.nodup_nil, and_true]
  obtain ⟨q1, q2, q3, q4⟩ := rlt
  simp at q1 q2 q3 q4
  omega
 ·intro a ha
  obtain ⟨q1, q2, q3, q4⟩ := rsap a ha
  obtain ⟨p1, p2, p3, p4⟩ := rlt
  simp at p1 p2 q1 q2 q3 q4
  simp only [EB.ix, List.mem_cons, List.not_mem_nil, or_false, not_or]
  omega
 ·intro k hk hf
  have h1 := fl2 k hf
  have h2 := nlt k hf
  obtain ⟨p1, p2, p3, p4⟩ := rlt
  simp at p1 p2
  simp only [EB.ix, List.mem_cons, List.not_mem_nil, or_false] at hk
  omega
 ·intro a ha hf
  have h1 := fl2 _ hf
  have := (rsap a ha).2.1
  omega
 ·refine ⟨⟨fun p q hp hq e => ?_, by simp, by simp⟩, by simp, fun i => by simp [lk], rfl, fun i => by simp [lk], rfl, ⟨by simp, by simp, by simp, ?_⟩, fun p hp => ?_, by simp, rfl, ?_, ?_, by simp, by simp⟩
  ·cases p <;> simp [okP] at hp
  ·rintro x ⟨p, hp, _⟩
   cases p <;> simp [okP] at hp
  ·cases p <;> simp [okP] at hp
  ·show r.n = _; rw [hn1]; rfl
  ·show r.n ≤ _; rw [hn1]; omega
 ·exact g1.trans (g15.mono g1.size)
 ·rintro k (hk | ⟨a, ha, _⟩ | ⟨a, ha, rfl⟩ | hk)
  ·obtain ⟨p1, p2, p3, p4⟩ := rlt
   have q := (World.ownsRow.lt (ro.lt.2.1 |> fun _ => (by exact (hr1 (dS []) (fun _ => 0) b5).choose_spec.choose_spec.1.own)) r.g rfl).1
   simp at p1 p2 p3 q
   simp only [EB.ix, List.mem_cons, List.not_mem_nil, or_false] at hk
   omega
  ·cases ha
  ·exact lo1 a ha
  ·have := fl2 k hk; omega
section
variable {w : World} {Fp : Nat → Prop} {F : Nat} {vs : List Int} {es : List E}
theorem AddVS_ok (h : RepS w Fp F vs es) {v : Int} (hv : W64 v) :
  Calls Try.prog 22 #[.pointer (some ⟨F, 0, none⟩), .int .i64 v] w fun e w' => ∃ Fp', e = .returned (.int .i64 (addVC vs v)) ∧ RepS w' Fp' F (addVs vs v) es ∧ Upd Fp w w' Fp' := by
 obtain ⟨b, rows, V, vl, el, sp, T, nm, Fl, rfl, hF, hm, hf⟩ := h
 apply f_span_Forest_AddV.ok
 unfold f_span_Forest_AddV.wp
 refine hb_ldP (j := 1) hm.hf rfl ((AddV_ok hm.lc).mono ?_)
 rintro _ w1 ⟨rfl, Fl1, r1, u1⟩
 obtain ⟨m1, u1⟩ := hm.pathS r1 u1 fun _ _ _ _ _ _ => rfl
 refine ⟨_, rfl, ?_⟩
 by_cases hz : addVC vs v = 0
 case neg =>
  have e1 : addVs vs v = vs := by unfold addVs; rw [if_neg hz]
  rw [e1] at m1 ⊢
  exact sel_t (by simpa using hz) ⟨Fe b Fl1, rfl, ⟨b, _, _, _, _, _, _, _, Fl1, rfl, fun _ => .rfl, m1, hf⟩, upd_iff hF u1⟩
 have e1 : addVs vs v = v :: vs := by unfold addVs; rw [if_pos hz]
 obtain ⟨hb, hin, hl⟩ : ¬ badI v ∧ v ∉ vs ∧ vs.length < 2048 := by
  unfold addVC at hz
  split at hz
  ·cases hz
  ·rename_i h1
   split at hz
   ·cases hz
   ·rename_i h2
    split at hz
    ·cases hz
    ·exact ⟨h1, h2, by omega⟩
 rw [e1] at m1 ⊢
 rw [hz]
 refine sel_f rfl (drW_intro ?_)
 have m2 := m1.below (Below.refl _ _).drew
 have hnb := hf.nb
 refine ⟨fun w' => w'.cell? ((⟨b.F, 0, none⟩ : Addr).add 2) = some (.map (some b.mv)), (m2.hf.cell 2).trans rfl, _, fun w' h' => h', ?_⟩
 have hv0 : v ≠ 0 := fun e => hb (by unfold badI; omega)
 have hmk := makeS_ok m2 (by omega) hf.spr hv fun _ => dS_self m2.lc.ve v
 have eR : rcC b.F (oneR v) = #[.pointer (some ⟨b.F, 0, none⟩), .int .i64 v, .int .i64 v, .int .i64 0] := by unfold oneR; rw [if_neg hv0]; rfl
 rw [eR] at hmk
 refine hmk.mono ?_
 rintro _ w3 ⟨b', rows', V', sp', x, rfl, mk⟩
 have m3 := mk.em
 have c1 : w3.cell? ((⟨b.F, 0, none⟩ : Addr).add 2) = some (.map (some b.mv)) := by rw [← mk.F, ← mk.ms.1]; exact (m3.hf.cell 2).trans rfl
 refine ⟨_, rfl, c1, ?_⟩
 rw [← mk.ms.1]
 refine m3.gv.upd KTv (x := v) hv (v := x) fun w4 g4 k4 => ?_
 obtain ⟨m4, u4⟩ := m3.mapV g4 k4
 have f4 := hf.addV hm.rope.rok hm.rope.pos hin (by omega) mk.it
 rw [mk.V] at m4
 exact ⟨Fe b' Fl1, rfl, ⟨b', _, _, _, _, _, _, _, Fl1, mk.F, fun _ => .rfl, m4, f4⟩, upd_iff hF (((u1.trans (Upd.below (Below.refl _ _).drew)).trans mk.upd).trans u4)⟩
theorem DelVS_ok (h : RepS w Fp F vs es) {v : Int} (hv : W64 v) :
  Calls Try.prog 25 #[.pointer (some ⟨F, 0, none⟩), .int .i64 v] w fun e w' => ∃ Fp', e = .returned (.int .i64 (delVC vs es v)) ∧ RepS w' Fp' F (delVs vs es v) es ∧ Upd Fp w w' Fp' := by
 obtain ⟨b, rows, V, vl, el, sp, T, nm, Fl, rfl, hF, hm, hf⟩ := h
 apply f_span_Forest_DelV.ok
 unfold f_span_Forest_DelV.wp
 refine hb_ldP (j := 1) hm.hf rfl ((DelV_ok hm.lc).mono ?_)
 rintro _ w1 ⟨rfl, Fl1, r1, u1⟩
 obtain ⟨m1, u1⟩ := hm.pathS r1 u1 fun _ _ _ _ _ _ => rfl
 refine ⟨_, rfl, ?_⟩
 by_cases hz : delVC vs es v = 0
 case neg =>
  have e1 : delVs vs es v = vs := by unfold delVs; rw [if_neg hz]
  rw [e1] at m1 ⊢
  exact sel_t (by simpa using hz) ⟨Fe b Fl1, rfl, ⟨b, _, _, _, _, _, _, _, Fl1, rfl, fun _ => .rfl, m1, hf⟩, upd_iff hF u1⟩
 have e1 : delVs vs es v = vs.erase v := by unfold delVs; rw [if_pos hz]
 obtain ⟨hb, hin, hd⟩ : ¬ badI v ∧ v ∈ vs ∧ ¬ 0 < deg es v := by
  unfold delVC at hz
  split at hz
  ·cases hz
  ·rename_i h1
   split at hz
   ·cases hz
   ·rename_i h2
    split at hz
    ·cases hz
    ·rename_i h3; exact ⟨h1, Classical.not_not.1 h2, h3⟩
 have hd0 := deg_zero.1 (show deg es v = 0 by have := deg_nn es v; omega)
 rw [e1] at m1 ⊢
 rw [hz]
 refine sel_f rfl (drW_intro ?_)
 have m2 := m1.below (Below.refl _ _).drew
 have hl : lkV vl v = nm (.v v) := by rw [hf.lkv, if_pos hin]
 refine ⟨fun a => HB a b.F (fC b sp.length) TF, m2.hf, _, _, _, fun a ha => (ha.cell 4).trans rfl, _, fun a ha => (ha.cell 2).trans rfl, m2.lookV hv ⟨_, rfl, m2.hf, ?_⟩⟩
 rw [hl]
 refine al_new fun w3 b3 e3 s3 h3 g3 => ⟨m2.hf.below g3, ?_⟩
 have m3 := m2.below g3
 have hcn := hf.cn
 have hnb := hf.nb
 have hB : b.r.B ≤ w3.heap.size := by have := m3.rope.lt; omega
 refine app_in m3.so (by rw [zs_len]) h3 hB (by rw [zs_len]; omega) fun A' c' w4 o4 k4 f4 => ⟨_, _, _, rfl, ?_⟩
 have e2 : zs sp ++ [((nm (.v v) : Nat) : Int)] = zs (sp ++ [nm (.v v)]) := by rw [zs_app]; rfl
 rw [e2] at o4 ⊢
 rw [zs_len]
 refine ⟨m3.hf.keeps k4 fun ⟨a, ha, e⟩ => (m3.da a ha).1 (by rw [e]; exact inF b), m3.spareS o4 k4 (fun a ha => by injection ha with ha; subst ha; exact f4) fun w5 m5 u5 => hb_ldM (j := 2) m5.hf rfl (m5.gv.del KTv (x := v) hv fun w6 g6 k6 => ⟨rfl, ?_⟩)⟩
 obtain ⟨m6, u6⟩ := m5.mapV g6 k6
 obtain ⟨T', f5⟩ := hf.delV hm.rope.rok hm.gv.nd hin hd0
 exact ⟨Fe { b with A := some A', c := c' } Fl1, rfl, ⟨{ b with A := some A', c := c' }, _, _, _, _, _, _, _, Fl1, rfl, fun _ => .rfl, m6, f5⟩, upd_iff hF ((((u1.trans (Upd.below (Below.refl _ _).drew)).trans (Upd.below g3)).trans u5).trans u6)⟩
theorem LenS_ok (h : RepS w Fp F vs es) : Calls Try.prog 10 #[.pointer (some ⟨F, 0, none⟩)] w fun e w' => e = .returned (.tuple #[.int .i64 (vs.length : Int), .int .i64 (es.length : Int)]) ∧ Below w.heap.size w w' := by
 obtain ⟨b, rows, V, vl, el, sp, T, nm, Fl, rfl, hF, hm, hf⟩ := h
 apply f_span_Forest_Len.ok
 unfold f_span_Forest_Len.wp
 have b1 : Below w.heap.size w w.drew := (Below.refl _ _).drew
 have m1 := hm.below b1
 refine drW_intro ⟨fun a => HB a b.F (fC b sp.length) TF, m1.hf, _, fun a ha => (ha.cell 2).trans rfl, _, fun a ha => (ha.cell 3).trans rfl, m1.gv.len KTv ⟨_, rfl, m1.hf, m1.ge.len KTe ⟨_, rfl, ?_, b1⟩⟩⟩
 rw [hf.vln, hf.eln]
end
def Ct (vs : List Int) (es : List E) (u x : Int) : Prop := x ∈ vs ∧ Ja es u x
structure IsSp (vs : List Int) (es : List E) (u s : Int) : Prop where
 at_ : ∃ a b, Ct vs es u a ∧ Ct vs es u b ∧ dS es a b = s
 le : ∀ x y, Ct vs es u x → Ct vs es u y → dS es x y ≤ s
theorem IsSp.uniq {vs : List Int} {es : List E} {u s t : Int} (h : IsSp vs es u s) (k : IsSp vs es u t) : s = t := by
 obtain ⟨a, b, h1, h2, h3⟩ := h.at_
 obtain ⟨c, d, k1, k2, k3⟩ := k.at_
 have := h.le c d k1 k2
 have := k.le a b h1 h2
 omega
theorem IsSp.same {vs : List Int} {es : List E} {u v s : Int} (g : VE vs es) (h : IsSp vs es u s) (hj : Ja es u v) : IsSp vs es v s := by
 have key : ∀ x, Ct vs es u x ↔ Ct vs es v x := fun x => ⟨fun hx => ⟨hx.1, hj.symm.trans g hx.2⟩, fun hx => ⟨hx.1, hj.trans g hx.2⟩⟩
 obtain ⟨a, b, h1, h2, h3⟩ := h.at_
 exact ⟨⟨a, b, (key a).1 h1, (key b).1 h2, h3⟩, fun x y hx hy => h.le x y ((key x).2 hx) ((key y).2 hy)⟩
structure Fr2 (vs : List Int) (es : List E) (u : Int) (m : Rc) : Prop where
 a : Ct vs es u m.a
 b : Ct vs es u m.b
 d : dS es m.a m.b = m.d
 le : ∀ x y, Ct vs es u x → Ct vs es u y → dS es x y ≤ m.d
theorem Fr2.sp {vs : List Int} {es : List E} {u : Int} {m : Rc} (h : Fr2 vs es u m) : IsSp vs es u m.d := ⟨⟨_, _, h.a, h.b, h.d⟩, h.le⟩
section
variable {rows : List (List Nat)} {V : Nat → Int} {vl : List (Int × Nat)} {el : List (Int × (Nat × Nat))} {sp : List Nat} {n : Nat} {T : List (List Nat)} {vs : List Int} {es : List E} {nm : Pl → Nat}
theorem FI.ct (f : FI rows V n vl el sp T vs es nm) (rok : RowsOk n rows) (g : VE vs es) {u : Int} (hu : u ∈ vs) {x : Int} : x ∈ vxs V (rowOf rows (nm (.v u))) ↔ Ct vs es u x := by
 obtain ⟨h1, h2, h3⟩ := f.row rok (okV (es := es) hu)
 rw [f.vx g h3]
 constructor
 ·rintro ⟨hx, hm⟩
  exact ⟨hx, cn_ja g (h3.conn f.N hu hx h2 hm)⟩
 ·rintro ⟨hx, hj⟩
  refine ⟨hx, ?_⟩
  rw [(f.same rok hu hx).2 (ja_cn hj)]
  exact (f.row rok (okV (es := es) hx)).2.1
theorem FI.far (f : FI rows V n vl el sp T vs es nm) (rok : RowsOk n rows) (g : VE vs es) {u : Int} (hu : u ∈ vs) {m : Rc} (h : Fa (dS es) (vxs V (rowOf rows (nm (.v u)))) m) : Fr2 vs es u m := by
 have ct := fun {x} => f.ct rok g hu (x := x)
 have hne : vxs V (rowOf rows (nm (.v u))) ≠ [] := fun e => by
  have := ct.2 (show Ct vs es u u from ⟨hu, Ja.refl es u⟩)
  rw [e] at this; cases this
 obtain ⟨h1, h2⟩ := h.nz hne
 exact ⟨ct.1 h1.a, ct.1 h1.b, h1.d.symm, fun x y hx hy => h2 x (ct.2 hx) y (ct.2 hy)⟩
end
structure SzI (s0 : World) (F R mv : Nat) (x : Int) (G : Rc → Prop) (c : Int) (ls : Nat → Bool) (vv : Nat → Value) (w : World) : Prop where
 g : Below s0.heap.size s0 w
 a3 : ls 3 = true → vv 3 = .pointer (some ⟨R, 0, none⟩)
 a7 : ls 7 = true → vv 7 = .map (some mv)
 a9 : ls 9 = true → vv 9 = .int .i64 x
 aA : ls 10 = true → ∃ m, G m ∧ vv 10 = .tuple #[.agg (rcC F m), .int .i64 c]
 o : ls 15 = true → ls 14 = true
 aB : ls 14 = true → ∃ B cs, vv 14 = .pointer (some ⟨B, 0, none⟩) ∧ s0.heap.size ≤ B ∧ HB w B cs 60 ∧ cs.size = 4 ∧ (ls 15 = true → ∃ m, G m ∧ cs = rcC F m)
theorem putR4' {w : World} {b : Nat} {cs : Array Value} {t : TypeId} (h : HB w b cs t) (hc : cs.size = 4) {F : Nat} (m : Rc) {p : Option Addr} {x y z : Int} (hp : p = pF F m.f ∧ x = m.a ∧ y = m.b ∧ z = m.d) {K : World → Prop} (hk : ∀ w', HB w' b (rcC F m) t → Keeps (fun k => k = b) w w' → K w') :
  stW w (⟨b, 0, none⟩ : Addr) (.pointer p) fun w1 => stW w1 ((⟨b, 0, none⟩ : Addr).add 1) (.int .i64 x) fun w2 => stW w2 ((⟨b, 0, none⟩ : Addr).add 2) (.int .i64 y) fun w3 => stW w3 ((⟨b, 0, none⟩ : Addr).add 3) (.int .i64 z) K := by
 obtain ⟨rfl, rfl, rfl, rfl⟩ := hp
 exact putR4 h hc m hk
section
variable {w : World} {Fp : Nat → Prop} {F : Nat} {vs : List Int} {es : List E}
theorem reachS_ok (h : RepS w Fp F vs es) {u : Int} (hu : W64 u) :
  Calls Try.prog 31 #[.pointer (some ⟨F, 0, none⟩), .int .i64 u] w fun e w' => (∃ m, e = .returned (.tuple #[.agg (rcC F m), .int .i64 (if u ∈ vs then 0 else 51)]) ∧ (u ∉ vs → m = zR) ∧ (u ∈ vs → Fr2 vs es u m)) ∧ Below w.heap.size w w' := by
 obtain ⟨b, rows, V, vl, el, sp, T, nm, Fl, rfl, hF, hm, hf⟩ := h
 have rok := hm.rope.rok
 have g := hm.lc.ve
 apply f_span_Forest_reach.ok
 unfold f_span_Forest_reach.wp
 refine al_new fun w1 b1 e1 s1 hb1 g1 => ?_
 have hb1 : HB w1 b1 (rcC b.F zR) 60 := hb1
 have bd : Below w1.heap.size w1 w1.drew := (Below.refl _ _).drew
 have m1 := (hm.below g1).below bd
 have hb1 := hb1.below bd
 have g01 := g1.trans (bd.mono g1.size)
 refine drW_intro ⟨f_span_Forest_reach.h1_ok .., SzI w1.drew b.F b.r.R b.mv (lkV vl u) (fun m => (u ∉ vs → m = zR) ∧ (u ∈ vs → Fr2 vs es u m)) (if u ∈ vs then 0 else 150), ⟨Below.refl _ _, by simp, by simp, by simp, by simp, by simp, by simp⟩, ?_, ?_⟩
 ·refine ⟨?_, ?_, ?_, ?_, ?_, ?_, trivial⟩
  ·intro _ ls vv w2 hl hI
   exact hb_ldP0 (m1.below hI.g).hf rfl ⟨hI.g, fun _ => rfl, hI.a7, hI.a9, hI.aA, hI.o, hI.aB⟩
  ·intro _ ls vv w2 hl hI
   exact hb_ldM (j := 2) (m1.below hI.g).hf rfl ⟨hI.g, hI.a3, fun _ => rfl, hI.a9, hI.aA, hI.o, hI.aB⟩
  ·intro _ ls vv w2 hl hI me7 h7
   have := (hI.a7 h7.1).symm.trans h7.2
   injection this with this
   subst this
   exact (m1.below hI.g).lookV hu ⟨_, rfl, hI.g, hI.a3, hI.a7, fun _ => rfl, hI.aA, hI.o, hI.aB⟩
  ·intro _ ls vv w2 hl hI pe3 h3 me7 h7 xe9 h9
   have e3 := (hI.a3 h3.1).symm.trans h3.2
   injection e3 with e3
   subst e3
   have e9 := (hI.a9 h9.1).symm.trans h9.2
   injection e9 with _ e9
   subst e9
   have m2 := m1.below hI.g
   refine (All_ok m2.rope _).mono ?_
   rintro _ w3 ⟨⟨m, rfl, hz, hfa⟩, g3⟩
   have hcode : (if Bd b.r.n ((lkV vl u : Nat) : Int) = true then (150 : Int) else 0) = if u ∈ vs then 0 else 150 := by
    rw [hf.lkv]
    by_cases hin : u ∈ vs
    ·rw [if_pos hin, if_pos hin, if_neg]
     have h1 := hf.pos _ (okV (es := es) hin)
     have h2 : nm (.v u) < b.r.n := hf.fr.kn _ ⟨_, okV (es := es) hin, rfl⟩
     simp [Bd]; omega
    ·rw [if_neg hin, if_neg hin, if_pos (by simp [Bd])]
   rw [hcode, hm.rF]
   refine ⟨_, _, _, _, _, rfl, hI.g.trans (g3.mono hI.g.size), hI.a3, hI.a7, hI.a9, fun _ => ⟨m, ⟨fun hn => ?_, fun hin => ?_⟩, rfl⟩, hI.o, ?_⟩
   ·exact hz (by rw [hf.lkv, if_neg hn]; simp [Bd])
   ·have h1 := hf.pos _ (okV (es := es) hin)
    have h2 : nm (.v u) < b.r.n := hf.fr.kn _ ⟨_, okV (es := es) hin, rfl⟩
    have := hfa (by rw [hf.lkv, if_pos hin]; simp [Bd]; omega)
    rw [hf.lkv, if_pos hin, Int.toNat_natCast] at this
    exact hf.far rok g hin this
   ·intro h14
    have h14 : ls 14 = true := h14
    obtain ⟨B, cs, q1, q2, q3, q4, q5⟩ := hI.aB h14
    exact ⟨B, cs, q1, q2, q3.below g3, q4, q5⟩
  ·intro _ ls vv w2 hl hI
   have h15 : ls 15 = false := by
    cases h : ls 15 with
    | false => rfl
    | true => rw [hI.o h] at hl; cases hl
   have no15 : ∀ {p : Prop}, ls 15 = true → p := fun h => by
    rw [h15] at h; cases h
   refine al_new fun w3 b3 e3 s3 hb3 g3 => ⟨hI.g.trans (g3.mono hI.g.size), hI.a3, hI.a7, hI.a9, hI.aA, fun h => no15 h, ?_⟩
   intro _
   exact ⟨b3, _, rfl, by have := hI.g.size; omega, hb3, rfl, fun h => no15 h⟩
  ·intro _ ls vv w2 hl hI pe3 h3 me7 h7 xe9 h9 p0 x1 x2 x3 x4 h10 ae14 h14
   obtain ⟨B, cs, q1, q2, q3, q4, q5⟩ := hI.aB h14.1
   have eB := q1.symm.trans h14.2
   injection eB with eB
   injection eB with eB
   subst eB
   obtain ⟨m, hG, eA⟩ := hI.aA h10.1
   have eA := eA.symm.trans h10.2
   injection eA with eA
   have e0 : (#[.agg (rcC b.F m), .int .i64 (if u ∈ vs then 0 else 150)] : Array Value).toList = #[.agg #[.pointer p0, .int .i64 x1, .int .i64 x2, .int .i64 x3], .int .i64 x4].toList := by rw [eA]
   injection e0 with e1 e2
   injection e1 with e1
   have e3 : (rcC b.F m).toList = #[.pointer p0, .int .i64 x1, .int .i64 x2, .int .i64 x3].toList := by rw [e1]
   injection e3 with f1 e3
   injection e3 with f2 e3
   injection e3 with f3 e3
   injection e3 with f4 _
   injection f1 with f1; injection f2 with _ f2; injection f3 with _ f3; injection f4 with _ f4
   refine putR4' q3 q4 (F := b.F) m ⟨f1.symm, f2.symm, f3.symm, f4.symm⟩ fun w3 h3' k3 => ⟨hI.g.trans (k3.below hI.g.size fun k hk e => by omega), hI.a3, hI.a7, hI.a9, hI.aA, fun _ => h14.1, fun _ => ⟨B, _, h14.2, q2, h3', rfl, fun _ => ⟨m, hG, rfl⟩⟩⟩
 ·intro ls vv w2 hI pe3 h3 me7 h7 xe9 h9 p0 x1 x2 x3 x4 h10 ae14 h14 h15
  obtain ⟨B, cs, q1, q2, q3, q4, q5⟩ := hI.aB h14.1
  have eB := q1.symm.trans h14.2
  injection eB with eB
  injection eB with eB
  subst eB
  obtain ⟨m, hG, rfl⟩ := q5 h15.1
  obtain ⟨m', _, eA⟩ := hI.aA h10.1
  have eA := eA.symm.trans h10.2
  injection eA with eA
  have e0 : (#[.agg (rcC b.F m'), .int .i64 (if u ∈ vs then 0 else 150)] : Array Value).toList = #[.agg #[.pointer p0, .int .i64 x1, .int .i64 x2, .int .i64 x3], .int .i64 x4].toList := by rw [eA]
  injection e0 with _ e2
  injection e2 with e2 _
  injection e2 with _ e2
  have hb2 := hb1.below hI.g
  have l1 := hb1.lt
  have fin : ∀ {w5 : World}, Keeps (fun k => k = b1) w2 w5 → Below w.heap.size w w5 := fun k => (g01.trans (hI.g.mono g01.size)).trans (k.below (by have := g01.size; have := hI.g.size; omega) fun k hk e => by omega)
  by_cases hin : u ∈ vs
  ·rw [if_pos hin] at e2
   subst e2
   rw [if_pos hin]
   exact sel_f rfl (getR4 q3 (putR4 hb2 rfl (F := b.F) m fun w5 h5 k5 => getR4 h5 ⟨⟨m, rfl, hG.1, hG.2⟩, fin k5⟩))
  ·rw [if_neg hin] at e2
   subst e2
   rw [if_neg hin]
   exact sel_t rfl (putR4 hb2 rfl (F := b.F) zR fun w5 h5 k5 => getR4 h5 ⟨⟨zR, rfl, fun _ => rfl, fun h => absurd h hin⟩, fin k5⟩)
theorem SpanS_ok (h : RepS w Fp F vs es) {u : Int} (hu : W64 u) :
  Calls Try.prog 13 #[.pointer (some ⟨F, 0, none⟩), .int .i64 u] w fun e w' => (∃ s, e = .returned (.tuple #[.int .i64 s, .int .i64 (if u ∈ vs then 0 else 51)]) ∧ (u ∉ vs → s = 0) ∧ (u ∈ vs → IsSp vs es u s)) ∧ Below w.heap.size w w' := by
 apply f_span_Forest_Span.ok
 unfold f_span_Forest_Span.wp
 refine (reachS_ok h hu).mono ?_
 rintro _ w1 ⟨⟨m, rfl, h1, h2⟩, g1⟩
 refine ⟨_, _, _, _, _, rfl, al_new fun w2 b2 e2 s2 hb2 g2 => putR4 hb2 rfl (F := F) m fun w3 h3 k3 => hb_ldI (j := 3) h3 rfl ⟨⟨m.d, rfl, fun hn => by rw [h1 hn]; rfl, fun hin => (h2 hin).sp⟩, ?_⟩⟩
 have := g1.size
 exact (g1.trans (g2.mono g1.size)).trans (k3.below (by have := g2.size; omega) fun k hk e => by omega)
theorem EndsS_ok (h : RepS w Fp F vs es) {u : Int} (hu : W64 u) :
  Calls Try.prog 14 #[.pointer (some ⟨F, 0, none⟩), .int .i64 u] w fun e w' => (∃ x y, e = .returned (.tuple #[.int .i64 x, .int .i64 y, .int .i64 (if u ∈ vs then 0 else 51)]) ∧ (u ∉ vs → x = 0 ∧ y = 0) ∧ (u ∈ vs → Ct vs es u x ∧ Ct vs es u y ∧ IsSp vs es u (dS es x y) ∧ (dS es x y = 0 → x = u ∧ y = u))) ∧ Below w.heap.size w w' := by
 have g := h.ve
 apply f_span_Forest_Ends.ok
 unfold f_span_Forest_Ends.wp
 refine (reachS_ok h hu).mono ?_
 rintro _ w1 ⟨⟨m, rfl, h1, h2⟩, g1⟩
 refine ⟨_, _, _, _, _, rfl, al_new fun w2 b2 e2 s2 hb2 g2 => putR4 hb2 rfl (F := F) m fun w3 h3 k3 => hb_ldI (j := 3) h3 rfl ?_⟩
 have s1 := g1.size
 have g3 : Below w.heap.size w w3 := (g1.trans (g2.mono g1.size)).trans (k3.below (by have := g2.size; omega) fun k hk e => by omega)
 have j0 : ∀ {w4 : World} {m' : Rc} {Kr : Int → Int → Int → World → Prop}, HB w4 b2 (rcC F m') 60 → (u ∉ vs → Kr 0 0 51 w4) → (u ∈ vs → ∀ x y, ((x = m'.a ∧ y = m'.b) ∨ (x = m'.b ∧ y = m'.a)) → Kr x y 0 w4.drew) → f_span_Forest_Ends.j0 ⟨b2, 0, none⟩ (if u ∈ vs then 0 else 51) w4 Kr := by
  intro w4 m' Kr h4 k1 k2
  unfold f_span_Forest_Ends.j0
  by_cases hin : u ∈ vs
  ·rw [if_pos hin]
   have h4d : HB w4.drew b2 (rcC F m') 60 := h4
   refine sel_f rfl (drW_intro (hb_ldI (j := 1) h4d rfl (hb_ldI (j := 2) h4d rfl (hb_ldI (j := 1) h4d rfl (hb_ldI (j := 2) h4d rfl (k2 hin _ _ ?_))))))
   by_cases hlt : m'.b < m'.a
   ·rw [if_pos hlt, if_neg (by omega)]; exact .inr ⟨rfl, rfl⟩
   ·rw [if_neg hlt]
    by_cases hlt2 : m'.b > m'.a
    ·rw [if_pos hlt2]; exact .inl ⟨rfl, rfl⟩
    ·rw [if_neg hlt2]
     have : m'.a = m'.b := by omega
     exact .inl ⟨rfl, this⟩
  ·rw [if_neg hin]
   exact sel_t rfl (k1 hin)
 by_cases hd : m.d = 0
 ·refine sel_t (by simp [hd]) (hb_st (j := 1) h3 (by simp [rcC]) fun w4 h4 k4 => hb_st (j := 2) h4 (by simp [rcC]) fun w5 h5 k5 => ?_)
  have h5 : HB w5 b2 (rcC F ⟨m.f, u, u, m.d⟩) 60 := h5
  have g5 : Below w.heap.size w w5 := g3.trans ((k4.trans k5).below (by have := g3.size; omega) fun k hk e => by omega)
  refine j0 h5 (fun hn _ => ⟨⟨0, 0, by rw [if_neg hn], fun _ => ⟨rfl, rfl⟩, fun hh => absurd hh hn⟩, g5⟩) fun hin x y hxy _ => ⟨⟨x, y, by rw [if_pos hin], fun hh => absurd hin hh, fun _ => ?_⟩, g5.drew⟩
  obtain ⟨ex, ey⟩ : x = u ∧ y = u := by rcases hxy with h | h <;> exact h
  have := (h2 hin).sp
  rw [hd] at this
  have hc : Ct vs es u u := ⟨hin, Ja.refl es u⟩
  rw [ex, ey]
  exact ⟨hc, hc, by rw [dS_self g]; exact this, fun _ => ⟨rfl, rfl⟩⟩
 ·refine sel_f (by simpa using hd) (j0 h3 (fun hn _ => ⟨⟨0, 0, by rw [if_neg hn], fun _ => ⟨rfl, rfl⟩, fun hh => absurd hh hn⟩, g3⟩) fun hin x y hxy _ => ⟨⟨x, y, by rw [if_pos hin], fun hh => absurd hin hh, fun _ => ?_⟩, g3.drew⟩)
  have f2 := h2 hin
  rcases hxy with ⟨rfl, rfl⟩ | ⟨rfl, rfl⟩
  ·exact ⟨f2.a, f2.b, by rw [f2.d]; exact f2.sp, fun h0 => absurd (f2.d.symm.trans h0) hd⟩
  ·have e := dS_symm g f2.b.1 f2.a.1
   exact ⟨f2.b, f2.a, by rw [e, f2.d]; exact f2.sp, fun h0 => absurd (f2.d.symm.trans (e.symm.trans h0)) hd⟩
def aCode (vs : List Int) (es : List E) (u v c : Int) : Prop := (c = 51 ∧ ¬ (u ∈ vs ∧ v ∈ vs)) ∨ (c = 61 ∧ u ∈ vs ∧ v ∈ vs ∧ ¬ Ja es u v) ∨ (c = 0 ∧ u ∈ vs ∧ v ∈ vs ∧ Ja es u v)
theorem _root_.Go.Dn.AlongR.code {u v : Int} {mx : E} {W K c : Int} (h : AlongR vs es u v mx W K c) : aCode vs es u v c := by
 rcases h with ⟨h, _, _, _, rfl⟩ | ⟨hu, hv, h, _, _, _, rfl⟩ | ⟨hu, hv, p, hp, np, _, _, _, rfl⟩
 ·exact .inl ⟨rfl, h⟩
 ·exact .inr (.inl ⟨rfl, hu, hv, h⟩)
 ·exact .inr (.inr ⟨rfl, hu, hv, p, hp, np⟩)
theorem DistanceS_ok (h : RepS w Fp F vs es) {u v : Int} (hu : W64 u) (hv : W64 v) :
  Calls Try.prog 15 #[.pointer (some ⟨F, 0, none⟩), .int .i64 u, .int .i64 v] w fun e w' => ∃ c, e = .returned (.tuple #[.int .i64 (dS es u v), .int .i64 c]) ∧ aCode vs es u v c ∧ ∃ Fp', RepS w' Fp' F vs es ∧ Upd Fp w w' Fp' := by
 obtain ⟨b, rows, V, vl, el, sp, T, nm, Fl, rfl, hF, hm, hf⟩ := h
 have g := hm.lc.ve
 apply f_span_Forest_Distance.ok
 unfold f_span_Forest_Distance.wp
 refine hb_ldP (j := 1) hm.hf rfl ((Along_ok hm.lc hu hv).mono ?_)
 rintro _ w1 ⟨⟨mx, W, K, code, rfl, ha⟩, r1, u1⟩
 obtain ⟨m1, v1⟩ := hm.pathS r1 u1 fun _ _ _ _ _ _ => rfl
 refine ⟨_, _, _, _, _, _, _, rfl, agg5 (mx := mx) (W := W) (K := K) fun w2 b2 e2 hb2 g2 => ?_⟩
 refine hb_ldC (j := 4) hb2 rfl (fl_int (ha.in53 g).1 ⟨_, rfl, code, by rw [g.along0 ha], ha.code, Fe b Fl, ⟨b, _, _, _, _, _, _, _, Fl, rfl, fun _ => .rfl, m1.below g2, hf⟩, upd_iff hF (v1.trans (Upd.below g2))⟩)
end
def fTwo (mv : Nat) (u v x y : Int) (i : Nat) (w : Value) : Prop := match i with
 | 3 => w = .map (some mv) | 10 => w = .map (some mv) | 5 => w = .int .i64 u | 12 => w = .int .i64 v | 6 => w = .int .i64 x | 13 => w = .int .i64 y
 | _ => True
theorem fk {m : Nat} {me : Option Nat} (h : Value.map me = .map (some m)) : me = some m := by injection h
theorem fi {x y : Int} (h : Value.int .i64 x = .int .i64 y) : x = y := by injection h
section
variable {w : World} {b : EB} {rows : List (List Nat)} {V : Nat → Int} {vl : List (Int × Nat)} {el : List (Int × (Nat × Nat))} {sp : List Nat} {Fl : Nat → Prop} {vs : List Int} {es : List E}
theorem link_l0s (h : EM w b rows V vl el sp Fl vs es) {l m : List Nat} {R : List (List Nat)} (p : rows.Perm (l :: m :: R)) {x y : Nat} (hx : x ∈ l) (hy : y ∈ m) (h4 : M4 (dS es) (vxs V (l ++ m))) {bA : Nat} {cs : Array Value} {tA : TypeId} (hA : HB w bA cs tA) (nA : ¬ Fe b Fl bA) {i : Nat} (hi : i < 3) (hc : cs[i]? = some (.int .i64 (y : Int))) {k : Nat} {K0 : World → Prop}
  (hK : ∀ w' rows', EM w' b rows' V vl el sp Fl vs es → rows'.Perm ((l ++ m) :: R) → HB w' bA cs tA → Upd (Fe b Fl) w w' (Fe b Fl) → f_span_Forest_Link.l0 k ⟨b.F, 0, none⟩ (x : Int) (some ⟨bA, 0, none⟩) 3 3 ((3 : Nat) : Int) ((i + 1 : Nat) : Int) w' K0) :
  f_span_Forest_Link.l0 (k + 1) ⟨b.F, 0, none⟩ (x : Int) (some ⟨bA, 0, none⟩) 3 3 ((3 : Nat) : Int) (i : Int) w K0 := by
 have hw : IntKind.i64.wrap ((i : Int) + 1) = ((i + 1 : Nat) : Int) := by rw [w64_in (by omega)]; omega
 unfold f_span_Forest_Link.l0
 refine sel_t (by simp; omega) (optB_some rfl (req_intro (by simp; omega) ?_))
 rw [Int.toNat_natCast, Nat.mul_one]
 refine hb_ldI hA hc (hb_ldP0 h.hf rfl (join_st h p hx hy h4 fun w1 rows1 h1 p1 u1 => ?_))
 rw [hw]
 exact hK w1 rows1 h1 p1 (hA.keeps u1.kp nA) u1
end
section
variable {w : World} {Fp : Nat → Prop} {F : Nat} {vs : List Int} {es : List E}
theorem LinkS_ok (h : RepS w Fp F vs es) {e : E} (hid : W64 e.id) (hu : W64 e.u) (hv : W64 e.v) :
  Calls Try.prog 16 #[.pointer (some ⟨F, 0, none⟩), .agg #[.int .i64 e.id, .int .i64 e.u, .int .i64 e.v, .int .i64 e.w]] w fun en w' => ∃ j : Bool, (e.u ∈ vs → e.v ∈ vs → (j = true ↔ Jn es e.u e.v)) ∧ en = .returned (.int .i64 (linkC vs es e j)) ∧ ∃ Fp', RepS w' Fp' F vs (linkE vs es e j) ∧ Upd Fp w w' Fp' := by
 obtain ⟨b, rows, V, vl, el, sp, T, nm, Fl, rfl, hF, hm, hf⟩ := h
 have g := hm.lc.ve
 apply f_span_Forest_Link.ok
 unfold f_span_Forest_Link.wp
 refine al_new fun w1 b1 e1 s1 hb1 g1 => drW_intro ?_
 have hb1 : HB w1 b1 (eC e) 33 := hb1
 have bd : Below w1.heap.size w1 w1.drew := (Below.refl _ _).drew
 have m1 := (hm.below g1).below bd
 have hb1 := hb1.below bd
 have U1 : Upd (Fe b Fl) w w1.drew (Fe b Fl) := (Upd.below g1).trans (Upd.below bd)
 have nb1 : ¬ Fe b Fl b1 := fun hh => by have := hm.lt _ hh; omega
 refine hb_ldP (j := 1) m1.hf rfl (hb_ldI0 hb1 rfl (hb_ldI (j := 1) hb1 rfl (hb_ldI (j := 2) hb1 rfl (hb_ldI (j := 3) hb1 rfl ((Link_ok m1.lc hu hv).mono ?_)))))
 rintro _ w2 ⟨j, hj, rfl, Fl2, r2, u2⟩
 have g2 := r2.ve
 have hsub : ∀ a ∈ es, a ∈ linkE vs es e j := fun a ha => by unfold linkE; split; exact List.mem_cons_of_mem _ ha; exact ha
 obtain ⟨m2, v2⟩ := m1.pathS r2 u2 (hf.dist g g2 hsub)
 have U2 := U1.trans v2
 have hb2 := hb1.keeps u2.kp fun hh => nb1 (.inr (.inr (.inr hh)))
 have nb2 : ¬ Fe b Fl2 b1 := fun hh => by
  rcases v2.fr _ hh with h1 | h1
  ·exact nb1 h1
  ·have := hb1.lt; omega
 refine ⟨_, rfl, ?_⟩
 by_cases hz : linkC vs es e j = 0
 case neg =>
  have e1 : linkE vs es e j = es := by unfold linkE; rw [if_neg hz]
  refine sel_t (by simpa using hz) ⟨j, hj, rfl, Fe b Fl2, ?_, upd_iff hF U2⟩
  rw [e1] at m2 ⊢
  exact ⟨b, _, _, _, _, _, _, _, Fl2, rfl, fun _ => .rfl, m2, hf⟩
 have e1 : linkE vs es e j = e :: es := by unfold linkE; rw [if_pos hz]
 obtain ⟨hb, hni, hin, hjn, hjf⟩ : ¬ (badI e.id ∨ badI e.u ∨ badI e.v) ∧ e.id ∉ es.map E.id ∧ e.u ∈ vs ∧ e.v ∈ vs ∧ j = false := by
  unfold linkC at hz
  split at hz
  ·cases hz
  ·rename_i h1
   split at hz
   ·cases hz
   ·split at hz
    ·cases hz
    ·rename_i h3
     split at hz
     ·cases hz
     ·rename_i h4
      split at hz
      ·cases hz
      ·rename_i h5
       have h4 := Classical.not_not.1 h4
       exact ⟨h1, h3, h4.1, h4.2, Bool.eq_false_iff.2 h5⟩
 have hnj : ¬ Ja es e.u e.v := fun hh => by have := (hj hin hjn).2 hh; rw [hjf] at this; cases this
 rw [e1] at m2 g2
 refine sel_f (by rw [hz]; rfl) ?_
 have bd2 : Below w2.heap.size w2 w2.drew := (Below.refl _ _).drew
 have m3 := m2.below bd2
 have hb3 := hb2.below bd2
 refine drW_intro ⟨f_span_Forest_Link.h4_ok .., fun x y => Below x.heap.size x y, fun i x _ => fTwo b.mv e.u e.v (lkV vl e.u) (lkV vl e.v) i x, fun _ => Below.refl _ _, fun x y z h1 h2 => h1.trans (h2.mono h1.size), fun i v x y _ _ h => h, ?_, ?_⟩
 ·refine ⟨fun _ w4 g => hb_ldM (j := 2) (m3.below g).hf rfl ⟨Below.refl _ _, rfl⟩, fun _ w4 g => hb_ldI (j := 1) (hb3.below g) rfl ⟨Below.refl _ _, rfl⟩, fun _ w6 g me3 f3 xe5 f5 => ?_, fun _ w4 g => hb_ldM (j := 2) (m3.below g).hf rfl ⟨Below.refl _ _, rfl⟩, fun _ w4 g => hb_ldI (j := 2) (hb3.below g) rfl ⟨Below.refl _ _, rfl⟩, fun _ w6 g me3 f3 xe5 f5 => ?_, trivial⟩
  ·rw [fk f3, fi f5]; exact (m3.below g).lookV hu ⟨_, rfl, Below.refl _ _, rfl⟩
  ·rw [fk f3, fi f5]; exact (m3.below g).lookV hv ⟨_, rfl, Below.refl _ _, rfl⟩
 intro w5 g5 me3 f3 xe5 f5 xe6 f6 me10 f10 xe12 f12 xe13 f13
 rw [fi f6, fi f13]
 have m5 := m3.below g5
 have hb5 := hb3.below g5
 have U5 : Upd (Fe b Fl) w w5 (Fe b Fl2) := (U2.trans (Upd.below bd2)).trans (Upd.below g5)
 have lku : lkV vl e.u = nm (.v e.u) := by rw [hf.lkv, if_pos hin]
 have lkv' : lkV vl e.v = nm (.v e.v) := by rw [hf.lkv, if_pos hjn]
 rw [lku, lkv']
 have rok := hm.rope.rok
 have hnb := hf.nb
 have hvl := g.vl
 have hz0 : (0 : Int) ≠ 0 → dS (e :: es) 0 0 = 0 := fun h => absurd rfl h
 have mk1 := makeS_ok m5 (by omega) hf.spr (v := 0) (by decide) hz0
 refine mk1.mono ?_
 rintro _ w7 ⟨b7, rows7, V7, sp7, x1, rfl, mk7⟩
 refine ⟨_, rfl, ?_⟩
 rw [← mk7.F]
 have m7 := mk7.em
 obtain ⟨fr1, nk1, p1, l1, nn1, cnt1, cnb1, sub1⟩ := hf.fr.make rok hm.rope.pos mk7.it
 have sp7r : ∀ x ∈ sp7, [x] ∈ rows7 := fun x hx => fr1.rw.mem_iff.2 (by rw [List.mem_append, List.mem_map]; exact .inl ⟨x, hx, rfl⟩)
 have mk2 := makeS_ok m7 (by rcases cnb1 with hh | ⟨_, hh⟩ <;> omega) sp7r (v := 0) (by decide) hz0
 refine mk2.mono ?_
 rintro _ w8 ⟨b8, rows8, V8, sp8, x2, rfl, mk8⟩
 refine ⟨_, rfl, drW_intro ?_⟩
 rw [← mk8.F]
 have m8 := mk8.em.below (Below.refl _ _).drew
 have U8 : Upd (Fe b Fl) w w8.drew (Fe b8 Fl2) := ((U5.trans mk7.upd).trans mk8.upd).trans (Upd.below (Below.refl _ _).drew)
 have U58 : Upd (Fe b Fl2) w5 w8.drew (Fe b8 Fl2) := (mk7.upd.trans mk8.upd).trans (Upd.below (Below.refl _ _).drew)
 have hb8 : HB w8.drew b1 (eC e) 33 := hb5.keeps U58.kp nb2
 refine hb_ldM (j := 3) m8.hf rfl (hb_ldI0 hb8 rfl (m8.ge.upd KTe (x := e.id) hid (v := (x1, x2)) fun w9 g9 k9 => ?_))
 obtain ⟨m9, u9⟩ := m8.mapE g9 k9
 have hne : rowOf rows (nm (.v e.u)) ≠ rowOf rows (nm (.v e.v)) := fun hh => hnj (cn_ja g ((hf.same rok hin hjn).1 hh))
 obtain ⟨T0, pm, fin⟩ := hf.link rok hm.rope.pos (e := e) hvl hni hin hjn hne mk7.it m7.rope.rok mk8.it
 have hxu := (hf.row rok (okV (es := es) hin)).2.1
 have hxv := (hf.row rok (okV (es := es) hjn)).2.1
 refine (turn_ok m9 pm hxu).mono ?_
 rintro _ w10 ⟨rfl, A, r10, m10, rA, p10, u10⟩
 refine ⟨rfl, (turn_ok m10 (p10.trans (.swap _ _ _)) hxv).mono ?_⟩
 rintro _ w11 ⟨rfl, B, r11, m11, rB, p11, u11⟩
 refine ⟨rfl, al_new fun w12 bA eA zA hA gA => ?_⟩
 have m12 := m11.below gA
 have nA : ¬ Fe b8 Fl2 bA := fun hh => by have := m11.lt _ hh; omega
 have q12 : r11.Perm ((nm (.v e.u) :: A) :: [x1] :: (nm (.v e.v) :: B) :: [x2] :: (sp8.map one1 ++ T0)) := p11.trans ((List.Perm.swap _ _ _).trans ((List.Perm.swap _ _ _).cons _))
 have eW : (((nm (.v e.u) :: A) ++ [x1]) ++ (nm (.v e.v) :: B)) ++ [x2] = (nm (.v e.u) :: A) ++ x1 :: ((nm (.v e.v) :: B) ++ [x2]) := by simp
 have f0 := fin A B _ rA rB (List.Perm.refl _)
 have t0 := f0.tt _ List.mem_cons_self
 have hVV : V8 = fun i => if i = x2 then 0 else if i = x1 then 0 else V i := by rw [mk8.V, mk7.V]
 have h4 : M4 (dS (e :: es)) (vxs V8 ((((nm (.v e.u) :: A) ++ [x1]) ++ (nm (.v e.v) :: B)) ++ [x2])) := by
  rw [eW, hVV]; exact f0.tour4 g2 t0
 have sub4 : ∀ {l : List Nat}, (∀ i ∈ l, i ∈ (((nm (.v e.u) :: A) ++ [x1]) ++ (nm (.v e.v) :: B)) ++ [x2]) → M4 (dS (e :: es)) (vxs V8 l) := fun hs => h4.mono (vxs_mono hs)
 refine ⟨4, link_l0s m12 q12 (by simp) (by simp) (sub4 fun i hi => List.mem_append_left _ (List.mem_append_left _ hi)) hA nA (i := 0) (by decide) rfl fun w13 r13 m13 p13 hA13 u13 => link_l0s m13 p13 (by simp) (by simp) (sub4 fun i hi => List.mem_append_left _ hi) hA13 nA (i := 1) (by decide) rfl fun w14 r14 m14 p14 hA14 u14 => link_l0s m14 p14 (by simp) (by simp) h4 hA14 nA (i := 2) (by decide) rfl fun w15 r15 m15 p15 hA15 u15 => ?_⟩
 unfold f_span_Forest_Link.l0
 refine sel_f (by decide) fun _ => ⟨j, hj, by rw [hz], Fe b8 Fl2, ?_, upd_iff hF ((((((U8.trans u9).trans u10).trans u11).trans (Upd.below gA)).trans u13).trans (u14.trans u15))⟩
 rw [eW] at p15
 have f15 := fin A B r15 rA rB p15
 rw [e1]
 rw [hVV] at m15
 exact ⟨b8, _, _, _, _, _, _, _, Fl2, by rw [mk8.F, mk7.F], fun _ => .rfl, m15, f15⟩
end
theorem pieces_mid {P Q : List Nat} {b : Nat} (nd : (P ++ b :: Q).Nodup) (hP : P ≠ []) : pieces b (P ++ b :: Q) = [P, b :: Q] := by
 have hb : b ∉ P := fun h => by
  rw [List.nodup_append] at nd
  exact nd.2.2 b h b (by simp) rfl
 have ix : (P ++ b :: Q).idxOf b = P.length := by
  rw [List.idxOf_append, if_neg hb, List.idxOf_cons_self]; simp
 unfold pieces
 rw [if_pos (by simp), ix, if_neg (fun h => hP (List.length_eq_zero_iff.1 h)), List.take_left' rfl, List.drop_left' rfl]
theorem app2_in {w : World} {B : Nat} {A : Option Addr} {n c : Nat} {l : List Int} (ho : OwnI w B TI A c l) (hn : n = l.length) {b : Nat} {x y : Int} {t : TypeId} (hb : HB w b #[.int .i64 x, .int .i64 y] t) (hB : B ≤ w.heap.size) (hl : l.length ≤ 1000000) {K : Value → World → Prop}
  (hK : ∀ A' c' w', OwnI w' B TI (some A') c' (l ++ [x, y]) → Keeps (Ob A) w w' → (A = some A' ∨ w.heap.size ≤ A'.block) → K (.slice (some A') (l ++ [x, y]).length c') w') :
  Runs Try.prog (Builtin.append_ #[22, 22] 22 #[.slice A n c, .slice (some (⟨b, 0, none⟩ : Addr)) 2 2]) w K := by
 obtain ⟨i, hi, hz, hs, hby⟩ := TIn.info
 subst hn
 have hnews : ∀ j u, ([x, y].map (Value.int .i64))[j]? = some u → w.cell? ((⟨b, 0, none⟩ : Addr).add j) = some u := fun j u hj => by
  rw [hb.cell, ← Array.getElem?_toList]; exact hj
 have hone : ∀ u ∈ [x, y].map (Value.int .i64), u.oneCell' = true := int_one _
 have hwrap : ∀ (A' : Option Addr) (c' : Nat) (w' : World), w'.ownsRow B TI 1 (.slice A' (l.length + 2) c') (l.length + 2) (l.map (.int .i64) ++ [x, y].map (.int .i64)) → OwnI w' B TI A' c' (l ++ [x, y]) := by
  intro A' c' w' h
  unfold OwnI
  rw [List.length_append, List.map_append]; exact h
 obtain ⟨v', w', hrun, ho', hg, _⟩ := run_append_own (P := Try.prog) w B 22 22 TI i (.int .i64 0) 1 8 TIn.und hi hz hs hby rfl (by decide) (.slice A l.length c) l.length _ ho ⟨b, 0, none⟩ 2 2 ([x, y].map (.int .i64)) (by simp) hnews hone (by unfold maxLen; omega) (by omega) hB
 have hk : Keeps (Ob A) w w' := ⟨hg.os, hg.tape, hg.output, hg.size, fun k hk hn => hg.block k hk fun e => hn (ob_own e)⟩
 obtain ⟨A', c', rfl⟩ : ∃ A' c', v' = .slice (some A') (l.length + 2) c' := by
  obtain ⟨_, h⟩ := ho'
  rcases h with ⟨h1, h2⟩ | ⟨g, cap, cur, hv, _⟩
  ·omega
  ·exact ⟨_, _, hv⟩
 refine runs_of hrun ?_
 have := hK A' c' w' (hwrap _ _ _ ho') hk ?_
 ·rw [List.length_append] at this; exact this
 ·rcases ho.2 with ⟨h1, h2⟩ | ⟨g, cap, cur, hv, hbg, hgg, hnc, hcm, hcs, htake⟩
  ·injection h1 with h1 _ h3; subst h1; subst h3
   have hl : l = [] := List.length_eq_zero_iff.mp h2
   subst hl
   have hr2 := run_append_nil (P := Try.prog) w 22 22 TI i (.int .i64 0) TIn.und hi hz ⟨b, 0, none⟩ 2 2 ([x, y].map (.int .i64)) (by rw [hs]; simp) hnews (by omega) (by omega) (by rw [hby]; omega)
   have hr2' : (Builtin.append_ #[22, 22] 22 #[Value.slice none ([] : List Int).length 0, .slice (some ⟨b, 0, none⟩) 2 2]).run Try.prog w = _ := hr2
   rw [hr2'] at hrun
   injection hrun with hv hw
   injection hv with hv
   injection hv with hv
   rw [← hv]; exact .inr (Nat.le_refl _)
  ·injection hv with hA hn hc
   subst hA; subst hc
   by_cases hroom : l.length + 2 ≤ c
   ·obtain ⟨w2, hrun2, _⟩ := run_append_fits (P := Try.prog) w B 22 22 TI i 1 TIn.und hi hs g l.length c _ ho ⟨b, 0, none⟩ 2 2 ([x, y].map (.int .i64)) (by simp) hnews hone hroom
    rw [hrun2] at hrun
    injection hrun with hv _
    injection hv with hv; exact .inl hv
   ·have hr2 := run_append_grow (P := Try.prog) w 22 22 TI i (.int .i64 0) TIn.und hi hz ⟨g, 0, none⟩ l.length c (l.map (.int .i64)) (by rw [hs]; simp) (ho.cells (g := g) rfl) ⟨b, 0, none⟩ 2 2 ([x, y].map (.int .i64)) (by rw [hs]; simp) hnews (by omega) (by omega)
     (by rw [hby]; exact growslice_fits (by omega) (by omega))
    rw [hr2] at hrun
    injection hrun with hv hw
    injection hv with hv
    injection hv with hv
    rw [← hv]; exact .inr (Nat.le_refl _)
section
variable {w : World} {b : EB} {rows : List (List Nat)} {V : Nat → Int} {vl : List (Int × Nat)} {el : List (Int × (Nat × Nat))} {sp : List Nat} {Fl : Nat → Prop} {vs : List Int} {es : List E}
theorem cut_l0s (h : EM w b rows V vl el sp Fl vs es) {X : List Nat} {R : List (List Nat)} {x : Nat} (hX : X ≠ []) (p : rows.Perm ((x :: X) :: R)) {y0 y1 : Int} {i : Nat} (hi : i < 2) (hc : (#[.int .i64 y0, .int .i64 y1] : Array Value)[i]? = some (.int .i64 (x : Int))) {k : Nat} {K0 : World → Prop}
  (hK : ∀ w' rows', EM w' b rows' V vl el sp Fl vs es → rows'.Perm ([x] :: X :: R) → Upd (Fe b Fl) w w' (Fe b Fl) → f_span_Forest_Cut.l0 k ⟨b.F, 0, none⟩ y0 y1 ((i + 1 : Nat) : Int) w' K0) :
  f_span_Forest_Cut.l0 (k + 1) ⟨b.F, 0, none⟩ y0 y1 (i : Int) w K0 := by
 have hw : IntKind.i64.wrap ((i : Int) + 1) = ((i + 1 : Nat) : Int) := by rw [w64_in (by omega)]; omega
 obtain ⟨x0, xn, rx, bx⟩ := rows_in h p (x := x) (by simp)
 obtain ⟨y, Y, rfl⟩ : ∃ y Y, X = y :: Y := by cases X with | nil => exact absurd rfl hX | cons y Y => exact ⟨y, Y, rfl⟩
 have a1 : atE b.r.n rows (x : Int) 1 = ((y : Int), 0) := by
  unfold atE
  rw [bx]
  simp only [Bool.false_eq_true, if_false, Int.toNat_natCast, rx]
  rw [if_neg (by simp only [List.length_cons]; omega)]; rfl
 unfold f_span_Forest_Cut.l0
 refine sel_t (by simp; omega) (req_intro (by simp; omega) ?_)
 rw [Int.toNat_natCast]
 refine optB_some hc (req_intro (by decide) (hb_ldP0 h.hf rfl ((At_ok h.rope (x : Int) 1).mono ?_)))
 rintro e w1 ⟨rfl, b1⟩
 rw [a1]
 have h1 := h.below b1
 have my : y ∈ x :: y :: Y := by simp
 have nd := nodup_in h p
 refine ⟨_, _, rfl, sel_t rfl (hb_ldP0 h1.hf rfl (cut_st h1 p my fun w2 rows2 h2 p2 u2 => ?_))⟩
 have := pieces_mid (P := [x]) (b := y) (Q := Y) nd (by simp)
 rw [show x :: y :: Y = [x] ++ y :: Y from rfl, this] at p2
 rw [hw]
 exact hK w2 rows2 h2 p2 ((Upd.below b1).trans u2)
end
section
variable {w : World} {Fp : Nat → Prop} {F : Nat} {vs : List Int} {es : List E}
theorem CutS_ok (h : RepS w Fp F vs es) {i : Int} (hi : W64 i) :
  Calls Try.prog 17 #[.pointer (some ⟨F, 0, none⟩), .int .i64 i] w fun e w' => e = .returned (.int .i64 (cutC es i)) ∧ ∃ Fp', RepS w' Fp' F vs (cutE es i) ∧ Upd Fp w w' Fp' := by
 obtain ⟨b, rows, V, vl, el, sp, T, nm, Fl, rfl, hF, hm, hf⟩ := h
 have g := hm.lc.ve
 apply f_span_Forest_Cut.ok
 unfold f_span_Forest_Cut.wp
 refine hb_ldM (j := 3) hm.hf rfl (hm.lookE hi ⟨_, _, _, rfl, ?_⟩)
 refine al_new fun w3 b3 e3 s3 hb3 g3 => hb_st0 hb3 (by simp) fun w4 hb4 k4 => hb_st (j := 1) hb4 (by simp) fun w5 hb5 k5 => ?_
 have g15 : Below w.heap.size w w5 := g3.trans ((k4.trans k5).below g3.size fun i hi e => by omega)
 have m5 := hm.below g15
 rw [hf.lke]
 by_cases hin : i ∈ es.map E.id
 case neg =>
  refine sel_t (by rw [decide_eq_false hin]; rfl) (hb_ldP (j := 1) m5.hf rfl ((Cut_ok m5.lc hi).mono ?_))
  rintro _ w6 ⟨rfl, Fl6, r6, u6⟩
  have hz : cutC es i ≠ 0 := by unfold cutC; rw [if_pos hin]; split <;> decide
  have e1 : cutE es i = es := by unfold cutE; rw [if_neg hz]
  rw [e1] at r6 ⊢
  obtain ⟨m6, v6⟩ := m5.pathS r6 u6 fun _ _ _ _ _ _ => rfl
  exact ⟨_, rfl, rfl, Fe b Fl6, ⟨b, _, _, _, _, _, _, _, Fl6, rfl, fun _ => .rfl, m6, hf⟩, upd_iff hF ((Upd.below g15).trans v6)⟩
 refine sel_f (by rw [decide_eq_true hin]; rfl) ?_
 obtain ⟨e, he, rfl⟩ := List.mem_map.1 hin
 rw [hf.lke' he] at hb5
 have hb5 : HB w5 b3 #[.int .i64 ((nm (.t e.id) : Nat) : Int), .int .i64 ((nm (.b e.id) : Nat) : Int)] 82 := hb5
 have n3 : ¬ Fe b Fl b3 := fun hh => by have := hm.lt _ hh; omega
 have rok := hm.rope.rok
 obtain ⟨T0, l, X, Y, pr, ml, rt, nX, nY, fin⟩ := hf.cut rok hm.ge.nd he
 generalize hR : sp.map one1 ++ T0 = R at *
 refine hb_ldI (j := 0) hb5 rfl ((turn_ok m5 pr ml).mono ?_)
 rintro _ w6 ⟨rfl, P, r6, m6, rt6, p6, u6⟩
 have hb6 := hb5.keeps u6.kp n3
 have nd6 := nodup_in m6 p6
 have eP : P = X ++ nm (.b e.id) :: Y := Rot.uniq nd6 (rt6.symm.trans rt)
 subst eP
 have bd : Below w6.heap.size w6 w6.drew := (Below.refl _ _).drew
 have m6d := m6.below bd
 have hb6d := hb6.below bd
 have mb : nm (.b e.id) ∈ nm (.t e.id) :: (X ++ nm (.b e.id) :: Y) := by simp
 refine ⟨rfl, drW_intro (hb_ldP0 m6d.hf rfl (hb_ldI (j := 1) hb6d rfl (cut_st m6d p6 mb fun w7 r7 m7 p7 u7 => ?_)))⟩
 have hb7 := hb6d.keeps u7.kp n3
 rw [← List.cons_append, pieces_mid (by rw [List.cons_append]; exact nd6) (by simp)] at p7
 have p7 : r7.Perm ((nm (.t e.id) :: X) :: (nm (.b e.id) :: Y) :: R) := p7
 refine hb_ldI0 hb7 rfl (hb_ldI (j := 1) hb7 rfl ⟨3, cut_l0s m7 nX p7 (i := 0) (by decide) rfl fun w8 r8 m8 p8 u8 => ?_⟩)
 have q8 : r8.Perm ((nm (.b e.id) :: Y) :: [nm (.t e.id)] :: X :: R) := p8.trans ((((List.Perm.swap _ _ _).cons _)).trans (List.Perm.swap _ _ _))
 refine cut_l0s m8 nY q8 (i := 1) (by decide) rfl fun w9 r9 m9 p9 u9 => ?_
 unfold f_span_Forest_Cut.l0
 refine sel_f (by decide) fun _ => drW_intro ?_
 have hcn := hf.cn
 have hnb := hf.nb
 have bd9 : Below w9.heap.size w9 w9.drew := (Below.refl _ _).drew
 have mA := m9.below bd9
 have hbA := ((hb7.keeps u8.kp n3).keeps u9.kp n3).below bd9
 have hB : b.r.B ≤ w9.drew.heap.size := by have := mA.rope.lt; omega
 have esl : slB (⟨b3, 0, none⟩ : Addr) 0 2 1 = ⟨b3, 0, none⟩ := rfl
 refine ⟨fun a => HB a b.F (fC b sp.length) TF, mA.hf, _, _, _, fun a ha => (ha.cell 4).trans rfl, ?_⟩
 rw [esl]
 refine app2_in mA.so (by rw [zs_len]) hbA hB (by rw [zs_len]; omega) fun A' c' wB oB kB fB => ⟨_, _, _, rfl, ?_⟩
 have e2 : zs sp ++ [((nm (.t e.id) : Nat) : Int), ((nm (.b e.id) : Nat) : Int)] = zs (sp ++ [nm (.t e.id), nm (.b e.id)]) := by rw [zs_app]; rfl
 rw [e2] at oB ⊢
 rw [zs_len]
 refine ⟨mA.hf.keeps kB fun ⟨a, ha, e⟩ => (mA.da a ha).1 (by rw [e]; exact inF b), mA.spareS oB kB (fun a ha => by injection ha with ha; subst ha; exact fB) fun wC mC uC => hb_ldM (j := 3) mC.hf rfl (mC.ge.del KTe (x := e.id) hi fun wD gD kD => ⟨rfl, ?_⟩)⟩
 obtain ⟨mD, uD⟩ := mC.mapE gD kD
 have f9 := fin r9 (p9.trans (by
  have e1 : [nm (.b e.id)] :: Y :: [nm (.t e.id)] :: X :: R = [[nm (.b e.id)], Y] ++ ([[nm (.t e.id)], X] ++ R) := rfl
  have e2 : [nm (.t e.id)] :: X :: [nm (.b e.id)] :: Y :: R = [[nm (.t e.id)], X] ++ ([[nm (.b e.id)], Y] ++ R) := rfl
  rw [e1, e2, ← List.append_assoc, ← List.append_assoc]
  exact List.perm_append_comm.append_right _))
 refine hb_ldP (j := 1) mD.hf rfl ((Cut_ok mD.lc hi).mono ?_)
 rintro _ wE ⟨rfl, FlE, rE, uE⟩
 have hb : ¬ badI e.id := fun hh => by have := g.er e he; unfold badI at hh; omega
 have hz : cutC es e.id = 0 := by unfold cutC; rw [if_neg hb, if_neg (fun hh => hh hin)]
 have e3 : cutE es e.id = noE es e.id := by unfold cutE; rw [if_pos hz]
 rw [e3] at rE ⊢
 have gE := rE.ve
 obtain ⟨mE, vE⟩ := mD.pathS rE uE fun l hl x hx y hy => (f9.dist gE g (fun a ha => (noE_mem.1 ha).1) l hl x hx y hy).symm
 refine ⟨_, rfl, rfl, Fe { b with A := some A', c := c' } FlE, ⟨{ b with A := some A', c := c' }, _, _, _, _, _, _, _, FlE, rfl, fun _ => .rfl, mE, f9⟩, upd_iff hF ?_⟩
 exact (((((((((Upd.below g15).trans u6).trans (Upd.below bd)).trans u7).trans u8).trans u9).trans (Upd.below bd9)).trans uC).trans uD).trans vE
end
end Go.Proofs.Ytklnlnjgaadjbaa.Rd
namespace Go.Proofs.Ytklnlnjgaadjbaa.Rd
open Go.Dn Go.RowKit
set_option maxRecDepth 100000
theorem FI.perm {rows : List (List Nat)} {V : Nat → Int} {n : Nat} {vl : List (Int × Nat)} {el : List (Int × (Nat × Nat))} {sp : List Nat} {T : List (List Nat)} {vs vs' : List Int} {es es' : List E} {nm : Pl → Nat} (f : FI rows V n vl el sp T vs es nm) (p : vs.Perm vs') (q : es.Perm es') : FI rows V n vl el sp T vs' es' nm := by
 have ok' : ∀ {x}, okP vs' es' x ↔ okP vs es x := by
  intro x
  cases x with
  | v i => exact p.mem_iff.symm
  | t i => exact (q.map E.id).mem_iff.symm
  | b i => exact (q.map E.id).mem_iff.symm
 have kn : ∀ x, Kn vs' es' nm x ↔ Kn vs es nm x := fun x => ⟨fun ⟨y, hy, e⟩ => ⟨y, ok'.1 hy, e⟩, fun ⟨y, hy, e⟩ => ⟨y, ok'.2 hy, e⟩⟩
 refine ⟨⟨fun x y hx hy e => f.N.inj x y (ok'.1 hx) (ok'.1 hy) e, (q.map E.id).nodup_iff.1 f.N.ids, fun e he => ?_⟩, p.nodup_iff.1 f.vnd, fun i => ?_, f.vln.trans p.length_eq, fun i => ?_, f.eln.trans q.length_eq, ⟨f.fr.rw, f.fr.spn, fun x hx hk => f.fr.spd x hx ((kn x).1 hk), fun x hk => f.fr.kn x ((kn x).1 hk)⟩, fun x hx => f.pos x (ok'.1 hx), fun l hl => ?_, ?_, ?_, f.nb, fun v hv => f.mkV v (p.mem_iff.2 hv), fun e he => f.mkE e (q.mem_iff.2 he)⟩
 ·have := f.N.ends e (q.mem_iff.2 he)
  exact ⟨p.mem_iff.1 this.1, p.mem_iff.1 this.2⟩
 ·rw [f.lv]; simp only [p.mem_iff]
 ·rw [f.le]; simp only [(q.map E.id).mem_iff]
 ·exact (f.tt l hl).mono f.N (fun v hv _ => ⟨p.mem_iff.1 hv, rfl⟩) fun e he _ => ⟨q.mem_iff.1 he, rfl, rfl⟩
 ·have := f.tc; rw [← p.length_eq, ← q.length_eq]; exact this
 ·have := f.cn; rw [← p.length_eq, ← q.length_eq]; exact this
theorem RepS.perm {w : World} {F : Nat → Prop} {R : Nat} {vs vs' : List Int} {es es' : List E} (h : RepS w F R vs es) (p : vs.Perm vs') (q : es.Perm es') : RepS w F R vs' es' := by
 obtain ⟨b, rows, V, vl, el, sp, T, nm, Fl, h1, h2, h3, h4⟩ := h
 have r1 := h3.lc.perm p (.refl _)
 obtain ⟨m1, _⟩ := h3.pathS r1 (Upd.below (Below.refl _ w)) fun _ _ _ _ _ _ => rfl
 have f1 := h4.perm p (.refl _)
 have r2 := m1.lc.perm (.refl _) q
 obtain ⟨m2, _⟩ := m1.pathS r2 (Upd.below (Below.refl _ w)) (f1.dist m1.lc.ve r2.ve fun e he => q.mem_iff.1 he)
 exact ⟨b, rows, V, vl, el, sp, T, nm, Fl, h1, h2, m2, f1.perm (.refl _) q⟩
structure LG (w0 w : World) (F : Nat → Prop) (R : Nat) (vs : List Int) (es : List E) : Prop where
 rep : RepS w F R vs es
 lo : ∀ k, F k → w0.heap.size ≤ k
 bel : Below w0.heap.size w0 w
section
variable {w0 w w' : World} {F F' : Nat → Prop} {R b : Nat} {vs vs' : List Int} {es es' : List E} {cs : Array Value} {t : TypeId}
theorem LG.call (h : LG w0 w F R vs es) (r : RepS w' F' R vs' es') (u : Upd F w w' F') : LG w0 w' F' R vs' es' :=
 ⟨r, fun k hk => by
  rcases u.fr k hk with h1 | h1
  ·exact h.lo k h1
  ·exact Nat.le_trans h.bel.size h1, h.bel.trans (u.kp.below h.bel.size fun k hk hf => by have := h.lo k hf; omega)⟩
theorem LG.below (h : LG w0 w F R vs es) (hb : Below w.heap.size w w') : LG w0 w' F R vs es := ⟨h.rep.below hb, h.lo, h.bel.trans (hb.mono h.bel.size)⟩
theorem LG.new (h : LG w0 w F R vs es) (hb : Below w.heap.size w w') {b : Nat} (e : w.heap.size ≤ b) (hh : HB w' b cs t) : Lo w0 w' F b cs t := ⟨hh, fun hf => by have := h.rep.lt b hf; omega, Nat.le_trans h.bel.size e⟩
theorem LG.perm (h : LG w0 w F R vs es) (p : vs.Perm vs') (q : es.Perm es') : LG w0 w F R vs' es' := ⟨h.rep.perm p q, h.lo, h.bel⟩
end
structure L3 (w0 w : World) (F : Nat → Prop) (R : Nat) (st : List Int × List E) (s : RS) (sr : List Int × List E) : Prop where
 f : LG w0 w F R st.1 st.2
 r : RF w s sr.1 sr.2
 d : ∀ k, Rb s k → ¬ F k
section
variable {w0 w w' : World} {F F' : Nat → Prop} {R : Nat} {st st' sr sr' : List Int × List E} {s s' : RS}
theorem L3.below (h : L3 w0 w F R st s sr) (hb : Below w.heap.size w w') : L3 w0 w' F R st s sr := ⟨h.f.below hb, h.r.belw hb, h.d⟩
theorem L3.ref (h : L3 w0 w F R st s sr) (hr : RF w' s' sr'.1 sr'.2) (hs : Sb w s s') (hb : Below w.heap.size w w') : L3 w0 w' F R st s' sr' :=
 ⟨h.f.below hb, hr, fun k hk hf => by
  rcases hs.b k hk with h1 | h1
  ·exact h.d k h1 hf
  ·have := h.f.rep.lt k hf; omega⟩
theorem L3.call (h : L3 w0 w F R st s sr) {vs : List Int} {es : List E} (hf : LG w0 w' F' R vs es) (hk : ∀ b cs t, Lo w0 w F b cs t → Lo w0 w' F' b cs t) (u : Upd F w w' F') (p : vs.Perm st'.1) (q : es.Perm st'.2) : L3 w0 w' F' R st' s sr :=
 ⟨hf.perm p q, h.r.keeps u.kp h.d, fun k hk hf' => by
  rcases u.fr k hf' with h1 | h1
  ·exact h.d k hk h1
  ·have := h.r.lt k hk; omega⟩
end
structure DoesS (w0 w : World) (F : Nat → Prop) (R : Nat) (st sr : List Int × List E) (s : RS) (o : Int × E) (en : Ending) (w' : World) : Prop where
 ex : ∃ F' s', en = .returned (.tuple #[.agg (rsC s'), .bool (cdO st o == cdO sr o)]) ∧ L3 w0 w' F' R (stp st o) s' (stp sr o) ∧ (∀ b cs t, Lo w0 w F b cs t → Lo w0 w' F' b cs t) ∧ Sb w s s'
theorem doesS_fin {w0 w w3 w4 w5 : World} {F F' : Nat → Prop} {R b5 : Nat} {st sr st' sr' : List Int × List E} {s s' : RS} {o : Int × E} {x y : Int} {cs5 : Array Value} (hr : RF w s sr.1 sr.2) (n5 : w.heap.size ≤ b5) (h5 : Lo w0 w3 F b5 cs5 31) (hlo : ∀ b cs t, Lo w0 w F b cs t → Lo w0 w3 F b cs t)
  (H4 : L3 w0 w4 F' R st' s sr) (k4 : ∀ b cs t, Lo w0 w3 F b cs t → Lo w0 w4 F' b cs t) (r5 : RF w5 s' sr'.1 sr'.2) (sb5 : Sb w4 s s') (g5 : Below w4.heap.size w4 w5) (es : stp st o = st') (er : stp sr o = sr') (ex : cdO st o = x) (ey : cdO sr o = y) (hc5 : cs5.size = 4) (hsz : w.heap.size ≤ w4.heap.size) :
   (alW w5 (.cells #[.slice none 0 0, .slice none 0 0, .slice none 0 0, .slice none 0 0] 31) fun b w0' => stW w0' (⟨b, 0, none⟩ : Addr) (.slice s'.A0 s'.n0 s'.c0) fun w1 => stW w1 ((⟨b, 0, none⟩ : Addr).add 1) (.slice s'.A1 s'.n1 s'.c1) fun w2 => stW w2 ((⟨b, 0, none⟩ : Addr).add 2) (.slice s'.A2 s'.n2 s'.c2) fun w3 => stW w3 ((⟨b, 0, none⟩ : Addr).add 3) (.slice s'.A3 s'.n3 s'.c3) fun w4 =>
   ldS w4 (⟨b, 0, none⟩ : Addr) fun A0 n0 c0 => ldS w4 ((⟨b, 0, none⟩ : Addr).add 1) fun A1 n1 c1 => ldS w4 ((⟨b, 0, none⟩ : Addr).add 2) fun A2 n2 c2 => ldS w4 ((⟨b, 0, none⟩ : Addr).add 3) fun A3 n3 c3 =>
   stW w4 (⟨b5, 0, none⟩ : Addr) (.slice A0 n0 c0) fun w1 => stW w1 ((⟨b5, 0, none⟩ : Addr).add 1) (.slice A1 n1 c1) fun w2 => stW w2 ((⟨b5, 0, none⟩ : Addr).add 2) (.slice A2 n2 c2) fun w3 => stW w3 ((⟨b5, 0, none⟩ : Addr).add 3) (.slice A3 n3 c3) fun w4 =>
   ldS w4 (⟨b5, 0, none⟩ : Addr) fun A0 n0 c0 => ldS w4 ((⟨b5, 0, none⟩ : Addr).add 1) fun A1 n1 c1 => ldS w4 ((⟨b5, 0, none⟩ : Addr).add 2) fun A2 n2 c2 => ldS w4 ((⟨b5, 0, none⟩ : Addr).add 3) fun A3 n3 c3 =>
    DoesS w0 w F R st sr s o (.returned (.tuple #[.agg #[.slice A0 n0 c0, .slice A1 n1 c1, .slice A2 n2 c2, .slice A3 n3 c3], .bool (x == y)])) w4) := by
 subst es; subst er; subst ex; subst ey
 have H5 := H4.ref r5 sb5 g5
 have l5 := (k4 _ _ _ h5).below g5
 refine pass4 s' fun w6 g6 => ?_
 have H6 := H5.below g6
 have l6 := l5.below g6
 refine ret4 l6.hb hc5 s' fun w7 h7 k7 => ⟨F', s', rfl, ?_, fun b cs t hl => ?_, ⟨fun k hk => (sb5.b k hk).imp id fun h => Nat.le_trans hsz h⟩⟩
 ·have bb : Below w0.heap.size w0 w7 := H6.f.bel.trans (k7.below H6.f.bel.size fun i hi e => by have := l6.lo; omega)
  refine ⟨⟨H6.f.rep.other k7 fun k e hf => l6.nF (e ▸ hf), H6.f.lo, bb⟩, H6.r.keeps k7 fun k hk e => ?_, H6.d⟩
  rcases sb5.b k hk with h8 | h8
  ·have := hr.lt k h8; omega
  ·have := (k4 _ _ _ h5).hb.lt; omega
 ·have := ((k4 _ _ _ (hlo _ _ _ hl)).below g5).below g6
  exact ⟨this.hb.keeps k7 fun e => by have := hl.hb.lt; omega, this.nF, this.lo⟩
theorem doesS_ok {w0 w : World} {F : Nat → Prop} {R : Nat} {st sr : List Int × List E} {s : RS} (h : L3 w0 w F R st s sr) (g : RG sr.1 sr.2) (hel : sr.2.length ≤ 4095) {o : Int × E} (ho : OpW o) :
  Calls Try.prog 9 #[.pointer (some ⟨R, 0, none⟩), .agg (rsC s), .agg (oC o)] w (DoesS w0 w F R st sr s o) := by
 apply f_law20_does.ok
 unfold f_law20_does.wp
 refine al_new fun w1 b1 e1 s1 h1 g1 => al_new fun w2 b3 e3 s3 h3 g2 => al_new fun w3 b5 e5 s5 h5 g3 => ?_
 have hb := (g1.trans (g2.mono (by omega))).trans (g3.mono (by omega))
 have H := h.below hb
 have h1 : Lo w0 w3 F b1 (rsC s) 31 := h.f.new (hb.mono (Nat.le_refl _)) (by omega) ((h1.below g2).below g3)
 have h3 : Lo w0 w3 F b3 (oC o) 35 := h.f.new (hb.mono (Nat.le_refl _)) (by omega) (h3.below g3)
 have h5 : Lo w0 w3 F b5 #[.slice none 0 0, .slice none 0 0, .slice none 0 0, .slice none 0 0] 31 := h.f.new (hb.mono (Nat.le_refl _)) (by omega) h5
 have hlo : ∀ b cs t, Lo w0 w F b cs t → Lo w0 w3 F b cs t := fun b cs t hl => hl.below hb
 have n5 : w.heap.size ≤ b5 := by omega
 refine hb_ldI0 h3.hb rfl ?_
 by_cases k1 : o.1 = 1
 ·refine sel_t (by simp [k1]) (hb_ldI2 h3.hb (i := 1) (j := 1) rfl ?_)
  refine (AddVS_ok H.f.rep ho.u).mono ?_
  rintro _ w4 ⟨F', rfl, r4, u4⟩
  have H4 : L3 w0 w4 F' R (addVr st.1 o.2.u, st.2) s sr := H.call (H.f.call r4 u4) (fun b cs t hl => hl.call u4) u4 (addV_perm _ _) (.refl _)
  refine ⟨_, rfl, get4 (h1.call u4).hb (hb_ldI2 (h3.call u4).hb (i := 1) (j := 1) rfl ((RAddV_ok H4.r o.2.u).mono ?_))⟩
  rintro _ w5 ⟨s', rfl, r5, sb5, g5⟩
  refine ⟨s'.A0, s'.n0, s'.c0, s'.A1, s'.n1, s'.c1, s'.A2, s'.n2, s'.c2, s'.A3, s'.n3, s'.c3, _, rfl, ?_⟩
  exact doesS_fin h.r n5 h5 hlo H4 (fun b cs t hl => hl.call u4) (sr' := (addVr sr.1 o.2.u, sr.2)) r5 sb5 g5 (by unfold stp; rw [if_pos k1]) (by unfold stp; rw [if_pos k1]) (by unfold cdO; rw [if_pos k1]) (by unfold cdO; rw [if_pos k1]) rfl (Nat.le_trans hb.size u4.kp.size)
 refine sel_f (by simp [k1]) ?_
 by_cases k2 : o.1 = 2
 ·refine sel_t (by simp [k2]) (hb_ldI2 h3.hb (i := 1) (j := 1) rfl ?_)
  refine (DelVS_ok H.f.rep ho.u).mono ?_
  rintro _ w4 ⟨F', rfl, r4, u4⟩
  have H4 : L3 w0 w4 F' R (delVr st.1 st.2 o.2.u, st.2) s sr := H.call (H.f.call r4 u4) (fun b cs t hl => hl.call u4) u4 (by rw [delV_perm H.f.rep.ve.vnd]) (.refl _)
  refine ⟨_, rfl, get4 (h1.call u4).hb (hb_ldI2 (h3.call u4).hb (i := 1) (j := 1) rfl ((RDelV_ok H4.r o.2.u).mono ?_))⟩
  rintro _ w5 ⟨s', rfl, r5, sb5, g5⟩
  refine ⟨s'.A0, s'.n0, s'.c0, s'.A1, s'.n1, s'.c1, s'.A2, s'.n2, s'.c2, s'.A3, s'.n3, s'.c3, _, rfl, ?_⟩
  exact doesS_fin h.r n5 h5 hlo H4 (fun b cs t hl => hl.call u4) (sr' := (delVr sr.1 sr.2 o.2.u, sr.2)) r5 sb5 g5 (by unfold stp; rw [if_neg k1, if_pos k2]) (by unfold stp; rw [if_neg k1, if_pos k2]) (by unfold cdO; rw [if_neg k1, if_pos k2]) (by unfold cdO; rw [if_neg k1, if_pos k2]) rfl (Nat.le_trans hb.size u4.kp.size)
 refine sel_f (by simp [k2]) ?_
 by_cases k3 : o.1 = 3
 ·refine sel_t (by simp [k3]) (hb_ldI h3.hb (j := 1) rfl (hb_ldI2 h3.hb (i := 1) (j := 1) rfl (hb_ldI2 h3.hb (i := 1) (j := 2) rfl (hb_ldI2 h3.hb (i := 1) (j := 3) rfl ?_))))
  refine (LinkS_ok H.f.rep (e := o.2) ho.i ho.u ho.v).mono ?_
  rintro _ w4 ⟨j, hj, rfl, F', r4, u4⟩
  have H4 : L3 w0 w4 F' R (st.1, linkEr st.1 st.2 o.2 (jnB st.2 o.2.u o.2.v)) s sr := H.call (H.f.call r4 u4) (fun b cs t hl => hl.call u4) u4 (.refl _) (linkE_perm hj)
  refine ⟨_, rfl, get4 (h1.call u4).hb (hb_ldI (h3.call u4).hb (j := 1) rfl (hb_ldI2 (h3.call u4).hb (i := 1) (j := 1) rfl (hb_ldI2 (h3.call u4).hb (i := 1) (j := 2) rfl (hb_ldI2 (h3.call u4).hb (i := 1) (j := 3) rfl ((RLink_ok H4.r g hel o.2).mono ?_)))))⟩
  rintro _ w5 ⟨s', j', hj', rfl, r5, sb5, g5⟩
  refine ⟨s'.A0, s'.n0, s'.c0, s'.A1, s'.n1, s'.c1, s'.A2, s'.n2, s'.c2, s'.A3, s'.n3, s'.c3, _, rfl, ?_⟩
  have e5 : linkEr sr.1 sr.2 o.2 j' = linkEr sr.1 sr.2 o.2 (jnB sr.2 o.2.u o.2.v) := by unfold linkEr; rw [linkC_j hj']
  rw [e5] at r5
  exact doesS_fin h.r n5 h5 hlo H4 (fun b cs t hl => hl.call u4) (sr' := (sr.1, linkEr sr.1 sr.2 o.2 (jnB sr.2 o.2.u o.2.v))) r5 sb5 g5 (by unfold stp; rw [if_neg k1, if_neg k2, if_pos k3]) (by unfold stp; rw [if_neg k1, if_neg k2, if_pos k3]) (by unfold cdO; rw [if_neg k1, if_neg k2, if_pos k3]; exact (linkC_j hj).symm) (by unfold cdO; rw [if_neg k1, if_neg k2, if_pos k3]; exact (linkC_j hj').symm) rfl (Nat.le_trans hb.size u4.kp.size)
 refine sel_f (by simp [k3]) ?_
 by_cases k4 : o.1 = 4
 ·refine sel_t (by simp [k4]) (hb_ldI h3.hb (j := 1) rfl ?_)
  refine (CutS_ok H.f.rep ho.i).mono ?_
  rintro _ w4 ⟨rfl, F', r4, u4⟩
  have H4 : L3 w0 w4 F' R (st.1, cutEr st.2 o.2.id) s sr := H.call (H.f.call r4 u4) (fun b cs t hl => hl.call u4) u4 (.refl _) (.refl _)
  refine ⟨_, rfl, get4 (h1.call u4).hb (hb_ldI (h3.call u4).hb (j := 1) rfl ((RCut_ok H4.r o.2.id).mono ?_))⟩
  rintro _ w5 ⟨s', rfl, r5, sb5, g5⟩
  refine ⟨s'.A0, s'.n0, s'.c0, s'.A1, s'.n1, s'.c1, s'.A2, s'.n2, s'.c2, s'.A3, s'.n3, s'.c3, _, rfl, ?_⟩
  exact doesS_fin h.r n5 h5 hlo H4 (fun b cs t hl => hl.call u4) (sr' := (sr.1, cutEr sr.2 o.2.id)) r5 sb5 g5 (by unfold stp; rw [if_neg k1, if_neg k2, if_neg k3, if_pos k4]) (by unfold stp; rw [if_neg k1, if_neg k2, if_neg k3, if_pos k4]) (by unfold cdO; rw [if_neg k1, if_neg k2, if_neg k3, if_pos k4]) (by unfold cdO; rw [if_neg k1, if_neg k2, if_neg k3, if_pos k4]) rfl (Nat.le_trans hb.size u4.kp.size)
 refine sel_f (by simp [k4]) (get4 h1.hb (ret4 h5.hb rfl s fun w4 h4 q4 => ⟨F, s, ?_, ?_, fun b cs t hl => ?_, .refl _ _⟩))
 ·unfold cdO; rw [if_neg k1, if_neg k2, if_neg k3, if_neg k4, if_neg k1, if_neg k2, if_neg k3, if_neg k4]; rfl
 ·have bb : Below w0.heap.size w0 w4 := H.f.bel.trans (q4.below H.f.bel.size fun i hi e => by have := h5.lo; omega)
  unfold stp; rw [if_neg k1, if_neg k2, if_neg k3, if_neg k4, if_neg k1, if_neg k2, if_neg k3, if_neg k4]
  exact ⟨⟨H.f.rep.other q4 fun k e hf => h5.nF (e ▸ hf), H.f.lo, bb⟩, H.r.keeps q4 fun k hk e => by have := h.r.lt k hk; omega, H.d⟩
 ·have := hlo _ _ _ hl
  exact ⟨this.hb.keeps q4 fun e => by have := hl.hb.lt; omega, this.nF, this.lo⟩
structure Sds (w : World) (A : Option Addr) (n c : Nat) (l : List Int) : Prop where
 r : RI w A l
 n : n = l.length
 c0 : A = none → l.length = 0 ∧ c = 0
 le : l.length ≤ 17592186044416
theorem Sds.belw {w w' : World} {A : Option Addr} {n c : Nat} {l : List Int} (h : Sds w A n c l) (hb : Below w.heap.size w w') : Sds w' A n c l := ⟨h.r.below hb (Nat.le_refl _), h.n, h.c0, h.le⟩
section
variable {w0 w : World} {F : Nat → Prop} {R : Nat} {vs : List Int} {es : List E}
theorem gspan (h : LG w0 w F R vs es) {u : Int} (hu : W64 u) {Q : Int → Int → World → Prop} (hQ : ∀ w' s, LG w0 w' F R vs es → Below w.heap.size w w' → (u ∉ vs → s = 0) → (u ∈ vs → IsSp vs es u s) → Q s (if u ∈ vs then 0 else 51) w') :
  Calls Try.prog 13 #[.pointer (some ⟨R, 0, none⟩), .int .i64 u] w fun e w' => ∃ (x y : Int), e = .returned (.tuple #[.int .i64 x, .int .i64 y]) ∧ Q x y w' := by
 refine (SpanS_ok h.rep hu).mono ?_
 rintro _ w1 ⟨⟨s, rfl, h1, h2⟩, g1⟩
 exact ⟨_, _, rfl, hQ w1 s (h.below g1) g1 h1 h2⟩
theorem gends (h : LG w0 w F R vs es) {u : Int} (hu : W64 u) {Q : Int → Int → Int → World → Prop} (hQ : ∀ w' x y, LG w0 w' F R vs es → Below w.heap.size w w' → (u ∉ vs → x = 0 ∧ y = 0) → (u ∈ vs → Ct vs es u x ∧ Ct vs es u y ∧ IsSp vs es u (dS es x y) ∧ (dS es x y = 0 → x = u ∧ y = u)) → Q x y (if u ∈ vs then 0 else 51) w') :
  Calls Try.prog 14 #[.pointer (some ⟨R, 0, none⟩), .int .i64 u] w fun e w' => ∃ (x y z : Int), e = .returned (.tuple #[.int .i64 x, .int .i64 y, .int .i64 z]) ∧ Q x y z w' := by
 refine (EndsS_ok h.rep hu).mono ?_
 rintro _ w1 ⟨⟨x, y, rfl, h1, h2⟩, g1⟩
 exact ⟨_, _, _, rfl, hQ w1 x y (h.below g1) g1 h1 h2⟩
theorem gdist (h : LG w0 w F R vs es) {u v : Int} (hu : W64 u) (hv : W64 v) {Q : Int → Int → World → Prop} (hQ : ∀ w' F' c, LG w0 w' F' R vs es → (∀ b cs t, Lo w0 w F b cs t → Lo w0 w' F' b cs t) → Upd F w w' F' → aCode vs es u v c → Q (dS es u v) c w') :
  Calls Try.prog 15 #[.pointer (some ⟨R, 0, none⟩), .int .i64 u, .int .i64 v] w fun e w' => ∃ (x y : Int), e = .returned (.tuple #[.int .i64 x, .int .i64 y]) ∧ Q x y w' := by
 refine (DistanceS_ok h.rep hu hv).mono ?_
 rintro _ w1 ⟨c, rfl, hc, F', r1, u1⟩
 exact ⟨_, _, rfl, hQ w1 F' c (h.call r1 u1) (fun b cs t hl => hl.call u1) u1 hc⟩
theorem gaddV (h : LG w0 w F R vs es) {v : Int} (hv : W64 v) {Q : Int → World → Prop} (hQ : ∀ w' F', LG w0 w' F' R (addVs vs v) es → (∀ b cs t, Lo w0 w F b cs t → Lo w0 w' F' b cs t) → Upd F w w' F' → Q (addVC vs v) w') :
  Calls Try.prog 22 #[.pointer (some ⟨R, 0, none⟩), .int .i64 v] w fun e w' => ∃ x : Int, e = .returned (.int .i64 x) ∧ Q x w' := by
 refine (AddVS_ok h.rep hv).mono ?_
 rintro _ w1 ⟨F', rfl, r1, u1⟩
 exact ⟨_, rfl, hQ w1 F' (h.call r1 u1) (fun b cs t hl => hl.call u1) u1⟩
theorem glink (h : LG w0 w F R vs es) {e : E} (hi : W64 e.id) (hu : W64 e.u) (hv : W64 e.v) {Q : Int → World → Prop} (hQ : ∀ w' F' j, (e.u ∈ vs → e.v ∈ vs → (j = true ↔ Jn es e.u e.v)) → LG w0 w' F' R vs (linkE vs es e j) → (∀ b cs t, Lo w0 w F b cs t → Lo w0 w' F' b cs t) → Upd F w w' F' → Q (linkC vs es e j) w') :
  Calls Try.prog 16 #[.pointer (some ⟨R, 0, none⟩), .agg #[.int .i64 e.id, .int .i64 e.u, .int .i64 e.v, .int .i64 e.w]] w fun en w' => ∃ x : Int, en = .returned (.int .i64 x) ∧ Q x w' := by
 refine (LinkS_ok h.rep hi hu hv).mono ?_
 rintro _ w1 ⟨j, hj, rfl, F', r1, u1⟩
 exact ⟨_, rfl, hQ w1 F' j hj (h.call r1 u1) (fun b cs t hl => hl.call u1) u1⟩
theorem gcut (h : LG w0 w F R vs es) {i : Int} (hi : W64 i) {Q : Int → World → Prop} (hQ : ∀ w' F', LG w0 w' F' R vs (cutE es i) → (∀ b cs t, Lo w0 w F b cs t → Lo w0 w' F' b cs t) → Upd F w w' F' → Q (cutC es i) w') :
  Calls Try.prog 17 #[.pointer (some ⟨R, 0, none⟩), .int .i64 i] w fun en w' => ∃ x : Int, en = .returned (.int .i64 x) ∧ Q x w' := by
 refine (CutS_ok h.rep hi).mono ?_
 rintro _ w1 ⟨rfl, F', r1, u1⟩
 exact ⟨_, rfl, hQ w1 F' (h.call r1 u1) (fun b cs t hl => hl.call u1) u1⟩
theorem glen (h : LG w0 w F R vs es) {Q : Int → Int → World → Prop} (hQ : ∀ w', LG w0 w' F R vs es → Below w.heap.size w w' → Q (vs.length : Int) (es.length : Int) w') :
  Calls Try.prog 10 #[.pointer (some ⟨R, 0, none⟩)] w fun en w' => ∃ (x y : Int), en = .returned (.tuple #[.int .i64 x, .int .i64 y]) ∧ Q x y w' := by
 refine (LenS_ok h.rep).mono ?_
 rintro _ w1 ⟨rfl, g1⟩
 exact ⟨_, _, rfl, hQ w1 (h.below g1) g1⟩
theorem gnew {n c : Nat} {A : Option Addr} {sl : List Int} (hb : Below w0.heap.size w0 w) (hs : Sds w A n c sl) {Q : Option Addr → World → Prop} (hQ : ∀ w' F R, LG w0 w' F R [] [] → Below w.heap.size w w' → (∀ k, F k → w.heap.size ≤ k) → Q (some ⟨R, 0, none⟩) w') :
  Calls Try.prog 7 #[.slice A n c] w fun e w' => ∃ p : Option Addr, e = .returned (.pointer p) ∧ Q p w' := by
 refine (NewS_ok hs.n hs.r hs.c0 hs.le).mono ?_
 rintro _ w1 ⟨F, R, rfl, r1, g1, lo1⟩
 exact ⟨_, rfl, hQ w1 F R ⟨r1, fun k hk => Nat.le_trans hb.size (lo1 k hk), hb.trans (g1.mono hb.size)⟩ g1 lo1⟩
end
theorem wka {es : List E} {e : E} {u y : Int} {p : List E} (he : e ∈ es) (hu : e.u = u) (h : Wk es e.v p y) : Wk es u (e :: p) y := .cons he (.inl hu) (by unfold oth; rw [if_pos hu]; exact h)
theorem wkb {es : List E} {e : E} {u y : Int} {p : List E} (he : e ∈ es) (hv : e.v = u) (hn : e.u ≠ u) (h : Wk es e.u p y) : Wk es u (e :: p) y := .cons he (.inr hv) (by unfold oth; rw [if_neg hn]; exact h)
def a1 : E := ⟨1, 1, 2, 3⟩
def a2 : E := ⟨2, 2, 3, 4⟩
def a3 : E := ⟨3, 2, 4, 5⟩
theorem jn_no {es : List E} {u v : Int} {P : Int → Prop} (hP : ∀ e ∈ es, P e.u ↔ P e.v) (hu : P u) (hv : ¬ P v) : ¬ Jn es u v := fun ⟨p, hp, _⟩ => hv (hp.inv hP hu)
theorem m3 {x : Int} (h : x ∈ ([4, 3, 2, 1] : List Int)) : x = 1 ∨ x = 2 ∨ x = 3 ∨ x = 4 := by
 simp only [List.mem_cons, List.not_mem_nil, or_false] at h; omega
section
variable {vs : List Int} {es : List E}
theorem ex_ds (g : VE [4, 3, 2, 1] es) (h1 : a1 ∈ es) (h2 : a2 ∈ es) : dS es 1 2 = 3 ∧ dS es 1 3 = 7 ∧ dS es 2 3 = 4 ∧ dS es 2 1 = 3 ∧ dS es 3 1 = 7 ∧ dS es 3 2 = 4 := by
 have d12 : dS es 1 2 = 3 := dS_of g (by decide) (wka h1 rfl (.nil _)) trivial
 have d13 : dS es 1 3 = 7 := dS_of g (by decide) (wka h1 rfl (wka h2 rfl (.nil _))) ⟨by decide, trivial⟩
 have d23 : dS es 2 3 = 4 := dS_of g (by decide) (wka h2 rfl (.nil _)) trivial
 exact ⟨d12, d13, d23, by rw [dS_symm g (by decide) (by decide)]; exact d12, by rw [dS_symm g (by decide) (by decide)]; exact d13, by rw [dS_symm g (by decide) (by decide)]; exact d23⟩
theorem ex_d4 (g : VE [4, 3, 2, 1] es) (h1 : a1 ∈ es) (h2 : a2 ∈ es) (h3 : a3 ∈ es) : dS es 1 4 = 8 ∧ dS es 2 4 = 5 ∧ dS es 3 4 = 9 ∧ dS es 4 1 = 8 ∧ dS es 4 2 = 5 ∧ dS es 4 3 = 9 := by
 have d14 : dS es 1 4 = 8 := dS_of g (by decide) (wka h1 rfl (wka h3 rfl (.nil _))) ⟨by decide, trivial⟩
 have d24 : dS es 2 4 = 5 := dS_of g (by decide) (wka h3 rfl (.nil _)) trivial
 have d34 : dS es 3 4 = 9 := dS_of g (by decide) (wkb h2 rfl (by decide) (wka h3 rfl (.nil _))) ⟨by decide, trivial⟩
 exact ⟨d14, d24, d34, by rw [dS_symm g (by decide) (by decide)]; exact d14, by rw [dS_symm g (by decide) (by decide)]; exact d24, by rw [dS_symm g (by decide) (by decide)]; exact d34⟩
theorem ex_ja (h1 : a1 ∈ es) (h2 : a2 ∈ es) : Ja es 1 2 ∧ Ja es 1 3 := ⟨⟨_, wka h1 rfl (.nil _), trivial⟩, ⟨_, wka h1 rfl (wka h2 rfl (.nil _)), ⟨by decide, trivial⟩⟩⟩
theorem ex_all (g : VE [4, 3, 2, 1] es) (h1 : a1 ∈ es) (h2 : a2 ∈ es) (h3 : a3 ∈ es) : IsSp [4, 3, 2, 1] es 1 9 ∧ ∀ x y, Ct [4, 3, 2, 1] es 1 x → Ct [4, 3, 2, 1] es 1 y → dS es x y = 9 → (x = 3 ∧ y = 4) ∨ (x = 4 ∧ y = 3) := by
 obtain ⟨d12, d13, d23, d21, d31, d32⟩ := ex_ds g h1 h2
 obtain ⟨d14, d24, d34, d41, d42, d43⟩ := ex_d4 g h1 h2 h3
 have d0 := dS_self g
 have j4 : Ja es 1 4 := ⟨_, wka h1 rfl (wka h3 rfl (.nil _)), ⟨by decide, trivial⟩⟩
 refine ⟨⟨⟨3, 4, ⟨by decide, (ex_ja h1 h2).2⟩, ⟨by decide, j4⟩, d34⟩, fun x y hx hy => ?_⟩, fun x y hx hy h => ?_⟩
 ·rcases m3 hx.1 with rfl | rfl | rfl | rfl <;> rcases m3 hy.1 with rfl | rfl | rfl | rfl <;> simp [d12, d13, d23, d21, d31, d32, d14, d24, d34, d41, d42, d43, d0]
 ·rcases m3 hx.1 with rfl | rfl | rfl | rfl <;> rcases m3 hy.1 with rfl | rfl | rfl | rfl <;> simp [d12, d13, d23, d21, d31, d32, d14, d24, d34, d41, d42, d43, d0] at h ⊢
theorem ex_cut (g : VE [4, 3, 2, 1] [a2, a1]) : IsSp [4, 3, 2, 1] [a2, a1] 1 7 ∧ IsSp [4, 3, 2, 1] [a2, a1] 4 0 := by
 have h1 : a1 ∈ [a2, a1] := by simp
 have h2 : a2 ∈ [a2, a1] := by simp
 obtain ⟨d12, d13, d23, d21, d31, d32⟩ := ex_ds g h1 h2
 have d0 := dS_self g
 have no4 : ∀ x, x ≠ 4 → ¬ Ja [a2, a1] x 4 := fun x hx hj => jn_no (P := fun y => y ≠ 4) (fun e he => by
  simp only [List.mem_cons, List.not_mem_nil, or_false] at he
  rcases he with rfl | rfl <;> decide) hx (by simp) hj
 have no1 : ¬ Ja [a2, a1] 1 4 := no4 1 (by decide)
 refine ⟨⟨⟨1, 3, ⟨by decide, Ja.refl _ _⟩, ⟨by decide, (ex_ja h1 h2).2⟩, d13⟩, fun x y hx hy => ?_⟩, ⟨⟨4, 4, ⟨by decide, Ja.refl _ _⟩, ⟨by decide, Ja.refl _ _⟩, d0 4⟩, fun x y hx hy => ?_⟩⟩
 ·have nx : x ≠ 4 := fun e => no1 (e ▸ hx.2)
  have ny : y ≠ 4 := fun e => no1 (e ▸ hy.2)
  rcases m3 hx.1 with rfl | rfl | rfl | rfl <;> rcases m3 hy.1 with rfl | rfl | rfl | rfl <;> simp [d12, d13, d23, d21, d31, d32, d0] at nx ny ⊢
 ·have ex : x = 4 := Classical.byContradiction fun h => no4 x h hx.2.symm
  have ey : y = 4 := Classical.byContradiction fun h => no4 y h hy.2.symm
  rw [ex, ey, d0]; exact Int.le_refl _
end
theorem ex_link {vs : List Int} {es : List E} {e : E} {j : Bool} (hj : e.u ∈ vs → e.v ∈ vs → (j = true ↔ Jn es e.u e.v)) (hu : e.u ∈ vs) (hv : e.v ∈ vs) (hn : ¬ Jn es e.u e.v) (h0 : linkC vs es e false = 0) : linkC vs es e j = 0 ∧ linkE vs es e j = e :: es := by
 have : j = false := Bool.eq_false_iff.2 fun h => hn ((hj hu hv).1 h)
 subst this
 exact ⟨h0, by unfold linkE; rw [if_pos h0]⟩
theorem aliveS_ok (w : World) : Calls Try.prog 8 #[] w fun e w' => e = .returned (.bool true) ∧ Below w.heap.size w w' := by
 apply f_law20_alive.ok
 unfold f_law20_alive.wp
 have W : ∀ z : Int, 0 ≤ z → z ≤ 100 → W64 z := fun z h1 h2 => by unfold W64; omega
 refine al_new fun w1 b1 e1 z1 h1 g1 => ?_
 refine gnew (w0 := w) g1 ⟨h1.ri [4] rfl, rfl, (fun h => by cases h), by simp⟩ fun w2 F2 R h2 _ _ => sel_f rfl ⟨5, ?_⟩
 unfold f_law20_alive.l0
 refine sel_t (by decide) (gaddV h2 (W 1 (by decide) (by decide)) fun w3 F3 h3 _ _ => sel_f (by decide) ?_)
 unfold f_law20_alive.l0
 rw [show IntKind.i64.wrap ((1 : Int) + 1) = 2 from by decide]
 refine sel_t (by decide) (gaddV h3 (W 2 (by decide) (by decide)) fun w4 F4 h4 _ _ => sel_f (by decide) ?_)
 unfold f_law20_alive.l0
 rw [show IntKind.i64.wrap ((2 : Int) + 1) = 3 from by decide]
 refine sel_t (by decide) (gaddV h4 (W 3 (by decide) (by decide)) fun w5 F5 h5 _ _ => sel_f (by decide) ?_)
 unfold f_law20_alive.l0
 rw [show IntKind.i64.wrap ((3 : Int) + 1) = 4 from by decide]
 refine sel_t (by decide) (gaddV h5 (W 4 (by decide) (by decide)) fun w6 F6 h6 _ _ => sel_f (by decide) ?_)
 unfold f_law20_alive.l0
 rw [show IntKind.i64.wrap ((4 : Int) + 1) = 5 from by decide]
 have h6 : LG w w6 F6 R [4, 3, 2, 1] [] := h6
 refine sel_f (by decide) fun _ => ?_
 refine glink h6 (e := a1) (W 1 (by decide) (by decide)) (W 1 (by decide) (by decide)) (W 2 (by decide) (by decide)) fun w7 F7 j1 hj1 h7 _ _ => ?_
 obtain ⟨c1, k1⟩ := ex_link hj1 (by decide) (by decide) (jn_no (P := fun x => x = 1) (by simp) (by decide) (by decide)) (by decide)
 rw [k1] at h7; rw [c1]
 refine glink h7 (e := a2) (W 2 (by decide) (by decide)) (W 2 (by decide) (by decide)) (W 3 (by decide) (by decide)) fun w8 F8 j2 hj2 h8 _ _ => ?_
 obtain ⟨c2, k2⟩ := ex_link hj2 (by decide) (by decide) (jn_no (P := fun x => x = 1 ∨ x = 2) (by simp [a1]) (by decide) (by decide)) (by decide)
 rw [k2] at h8; rw [c2]
 refine glink h8 (e := a3) (W 3 (by decide) (by decide)) (W 2 (by decide) (by decide)) (W 4 (by decide) (by decide)) fun w9 F9 j3 hj3 h9 _ _ => ?_
 obtain ⟨c3, k3⟩ := ex_link hj3 (by decide) (by decide) (jn_no (P := fun x => x = 1 ∨ x = 2 ∨ x = 3) (by simp [a1, a2]) (by decide) (by decide)) (by decide)
 rw [k3] at h9; rw [c3]
 have g9 := h9.rep.ve
 obtain ⟨s9, en9⟩ := ex_all g9 (by simp) (by simp) (by simp)
 refine gspan h9 (W 1 (by decide) (by decide)) fun w10 s h10 _ _ hs => gends h10 (W 1 (by decide) (by decide)) fun w11 x y h11 _ _ hxy => gdist h11 (W 1 (by decide) (by decide)) (W 3 (by decide) (by decide)) fun w12 F12 c h12 _ _ hc => ?_
 have es9 : s = 9 := (hs (by decide)).uniq s9
 obtain ⟨cx, cy, sxy, _⟩ := hxy (by decide)
 have exy := en9 x y cx cy (sxy.uniq s9)
 have d13 := (ex_ds g9 (by simp) (by simp)).2.1
 have ec : c = 0 := by
  rcases hc with ⟨_, h⟩ | ⟨_, _, _, h⟩ | ⟨h, _⟩
  ·exact absurd ⟨by decide, by decide⟩ h
  ·exact absurd (ex_ja (by simp) (by simp)).2 h
  ·exact h
 rw [es9, d13, ec]
 refine gcut h12 (W 3 (by decide) (by decide)) fun w13 F13 h13 _ _ => ?_
 have ecut : cutE [a3, a2, a1] 3 = [a2, a1] := by simp [cutE, cutC, noE, badI, a1, a2, a3]
 rw [ecut] at h13
 obtain ⟨t1, t4⟩ := ex_cut h13.rep.ve
 refine gspan h13 (W 1 (by decide) (by decide)) fun w14 p h14 _ _ hp => gspan h14 (W 4 (by decide) (by decide)) fun w15 q h15 _ _ hq => glen h15 fun w16 h16 _ => ?_
 rw [(hp (by decide)).uniq t1, (hq (by decide)).uniq t4]
 rw [if_pos (show (1 : Int) ∈ [4, 3, 2, 1] by decide), if_pos (show (4 : Int) ∈ [4, 3, 2, 1] by decide)]
 refine sel_t rfl (sel_t rfl (sel_t rfl (sel_t rfl (sel_t rfl ?_))))
 have fin : ∀ {X Y : Prop}, X → sel ((0 : Int) == 0) X Y := fun h => sel_t rfl h
 rcases exy with ⟨rfl, rfl⟩ | ⟨rfl, rfl⟩
 ·refine sel_t rfl (sel_t rfl (sel_t rfl (sel_t rfl (sel_t rfl (sel_t (by decide) (sel_t rfl (sel_t rfl (sel_t rfl (sel_t rfl (sel_t rfl ⟨rfl, h16.bel⟩))))))))))
 ·refine sel_f rfl (sel_t rfl (sel_t rfl (sel_t rfl (sel_t rfl (sel_t rfl (sel_t (by decide) (sel_t rfl (sel_t rfl (sel_t rfl (sel_t rfl (sel_t rfl ⟨rfl, h16.bel⟩)))))))))))
theorem alive_stS {w : World} {Q : Bool → World → Prop} (hQ : ∀ w', Below w.heap.size w w' → Q true w') : Calls Try.prog 8 #[] w fun e w' => ∃ b : Bool, e = .returned (.bool b) ∧ Q b w' := by
 refine (aliveS_ok w).mono ?_
 rintro _ w1 ⟨rfl, g⟩
 exact ⟨_, rfl, hQ w1 g⟩
end Go.Proofs.Ytklnlnjgaadjbaa.Rd
namespace Go.Dn
open Go.RowKit
def IsRecs (ks : List IntKind) (w : World) (A : Option Addr) (len cap : Nat) (f : Nat → Nat → Int) : Prop :=
 (A = none ∧ len = 0 ∧ cap = 0) ∨
 ∃ a, A = some a ∧ len ≤ cap ∧ cap ≤ maxLen ∧ ∀ i, i < len → ∀ j (hj : j < ks.length), w.cell? (a.add (i * ks.length + j)) = some (.int ks[j] (f i j)) ∧ (Lit.int ks[j] (f i j)).wf = true
theorem IsRecs.below {ks : List IntKind} {w w' : World} {A : Option Addr} {len cap : Nat} {f : Nat → Nat → Int} (h : IsRecs ks w A len cap f) (hb : Below w.heap.size w w') : IsRecs ks w' A len cap f := by
 rcases h with h | ⟨a, rfl, h1, h2, h3⟩
 ·exact .inl h
 ·refine .inr ⟨a, rfl, h1, h2, fun i hi j hj => ?_⟩
  obtain ⟨hc, hw⟩ := h3 i hi j hj
  exact ⟨by rw [hb.cell (World.block_lt_of_cell? w _ hc)]; exact hc, hw⟩
theorem wf_i64 {n : Int} (h : (Lit.int .i64 n).wf = true) : -9223372036854775808 ≤ n ∧ n ≤ 9223372036854775807 := by
 simp [Lit.wf, IntKind.min, IntKind.max, IntKind.signed, IntKind.bits] at h
 omega
def ks5 : List IntKind := [.i64, .i64, .i64, .i64, .i64]
theorem one_int {H : Type} {enc : TypeId × Value → H} {P : Program} {w : World} {base : Nat} {spare : Nat → Bool} {held : Bool} {n : Nat} {t : TypeId} {k : IntKind} {cs : List Value} {j : Nat} {x : DataW H × List MemPlace} (hu : P.underlying t = some (.int k)) (hj : j < cs.length) (h : DataW.trod enc P w base spare held n t ((cs.drop j).take 1) = some x) : ∃ z, cs[j] = .int k z ∧ (Lit.int k z).wf = true := by
 obtain ⟨z, e1, _, e2⟩ := DataW.trod_int hu h
 refine ⟨z, ?_, e2⟩
 rw [List.drop_eq_getElem_cons hj, List.take_succ_cons, List.take_zero] at e1
 injection e1 with e1
theorem ints_of {H : Type} {enc : TypeId × Value → H} {P : Program} {w : World} {base : Nat} {spare : Nat → Bool} {held : Bool} {n m : Nat} {t : TypeId} {gs : Array Field} {cs : List Value} {x : DataW H × List MemPlace} (hu : P.underlying t = some (.struct gs)) (hgs : gs.toList.map (fun f => (f.offset, P.cellsOf f.type, P.underlying f.type)) = (List.range m).map fun j => (j, 1, some (.int .i64))) (hl : cs.length = m) (h : DataW.trod enc P w base spare held n t cs = some x) : ∀ j (hj : j < m), ∃ z, cs[j]'(by omega) = .int .i64 z ∧ (Lit.int .i64 z).wf = true := by
 intro j hj
 obtain ⟨xs, k, _, _, _, hxl, hf⟩ := DataW.trod_struct hu h
 have hsz : gs.size = m := by
  have := congrArg List.length hgs
  simpa using this
 have hfj : gs[j]? = some (gs[j]'(by omega)) := Array.getElem?_eq_getElem (by omega)
 have hrow := congrArg (fun l => l[j]?) hgs
 simp only [List.getElem?_map, Array.getElem?_toList, hfj, Option.map_some, List.getElem?_range hj] at hrow
 injection hrow with hrow
 simp only [Prod.mk.injEq] at hrow
 obtain ⟨ho, hco, hu⟩ := hrow
 have h3 := hf j _ hfj
 rw [ho, hco, List.getElem?_eq_getElem (by omega)] at h3
 exact one_int hu (by omega) h3
theorem open_ops {H : Type} {enc : TypeId × Value → H} {P : Program} {w : World} {base : Nat} {spare : Nat → Bool} {held : Bool} {fuel : Nat} {t e : TypeId} {fs gs : Array Field} {f0 f1 : Field} {A : Option Addr} {len cap : Nat} {x : DataW H × List MemPlace}
  (ht : P.underlying t = some (.slice e)) (he : P.underlying e = some (.struct fs)) (hc : P.cellsOf e = 5) (h0 : fs[0]? = some f0) (h1 : fs[1]? = some f1) (hsz : fs.size = 2) (o0 : f0.offset = 0) (o1 : f1.offset = 1) (c0 : P.cellsOf f0.type = 1) (c1 : P.cellsOf f1.type = 4) (u0 : P.underlying f0.type = some (.int .i64)) (u1 : P.underlying f1.type = some (.struct gs)) (hgs : gs.toList.map (fun f => (f.offset, P.cellsOf f.type, P.underlying f.type)) = (List.range 4).map fun j => (j, 1, some (.int .i64)))
  (h : DataW.trod enc P w base spare held fuel t [.slice A len cap] = some x) : ∃ f, IsRecs ks5 w A len cap f := by
 rcases DataW.trod_slice ht h with ⟨h0, _⟩ | ⟨a, len', cap', elems, rest, n, _, h1', rfl, hb, hl, hm, hlen, hel, hsp, hns⟩
 ·injection h0 with h0; injection h0 with h0 h1 h2; subst h0; subst h1; subst h2
  exact ⟨fun _ _ => 0, .inl ⟨rfl, rfl, rfl⟩⟩
 ·injection h1' with h1'; injection h1' with h0' h1' h2'; subst h0'; subst h1'; subst h2'
  have hk5 : ∀ j (hj : j < ks5.length), ks5[j] = IntKind.i64 := fun j hj => by
   match j, hj with
   | 0, _ => rfl | 1, _ => rfl | 2, _ => rfl | 3, _ => rfl | 4, _ => rfl
  have key : ∀ i, i < len → ∀ j (hj : j < 5), ∃ z, w.cell? (a.add (i * 5 + j)) = some (.int .i64 z) ∧ (Lit.int .i64 z).wf = true := by
   intro i hi j hj
   have h2 := hel i hi
   rw [List.getElem?_eq_getElem (by omega), Option.bind_eq_some_iff] at h2
   obtain ⟨cs', hcs, hy⟩ := h2
   obtain ⟨xs, m, _, _, hl2, hxl, hf⟩ := DataW.trod_struct he hy
   obtain ⟨hb', hl3, hcell⟩ := World.cells?_some hcs
   have hj2 : j < cs'.length := by rw [hl2, hc]; exact hj
   have h4 := hcell j (by rw [hc]; exact hj)
   rw [add_add, hc] at h4
   have hz : ∃ z, cs'[j] = .int .i64 z ∧ (Lit.int .i64 z).wf = true := by
    by_cases hj0 : j = 0
    ·subst hj0
     have h3 := hf 0 f0 h0
     rw [o0, c0, List.getElem?_eq_getElem (by omega)] at h3
     exact one_int u0 hj2 h3
    ·have h3 := hf 1 f1 h1
     rw [o1, c1, List.getElem?_eq_getElem (by omega)] at h3
     have hlen4 : ((cs'.drop 1).take 4).length = 4 := by rw [List.length_take, List.length_drop, hl2, hc]; rfl
     obtain ⟨z, e1, e2⟩ := ints_of u1 hgs hlen4 h3 (j - 1) (by omega)
     refine ⟨z, ?_, e2⟩
     rw [List.getElem_take, List.getElem_drop] at e1
     rw [← e1]
     congr 1; omega
   obtain ⟨z, e1, e2⟩ := hz
   refine ⟨z, ?_, e2⟩
   rw [h4, List.getElem?_eq_getElem hj2, e1]
  refine ⟨fun i j => if h : i < len ∧ j < 5 then Classical.choose (key i h.1 j h.2) else 0, .inr ⟨a, rfl, hl, hm, fun i hi j hj => ?_⟩⟩
  have hj5 : j < 5 := hj
  have := Classical.choose_spec (key i hi j hj5)
  rw [hk5 j hj]
  simpa [hi, hj5, ks5] using this
theorem ops_len {H : Type} {enc : TypeId × Value → H} {P : Program} {w : World} {base : Nat} {spare : Nat → Bool} {held : Bool} {fuel : Nat} {t e : TypeId} {by_ : Nat} {A : Option Addr} {len cap : Nat} {x : DataW H × List MemPlace}
  (ht : P.underlying t = some (.slice e)) (hby : P.bytesOf e = by_) (h : DataW.trod enc P w base spare held fuel t [.slice A len cap] = some x) (hw : ∀ v ∈ x.1.weights P t, v ≤ reachBytes) : len * by_ ≤ 140737488351232 := by
 rcases DataW.trod_slice ht h with ⟨h0, hx⟩ | ⟨a, len', cap', elems, rest, n, _, h1, hx, hbs, hl, hm, hlen, hel, hsp, hns⟩
 ·injection h0 with h0; injection h0 with h0 h1 h2; subst h1; omega
 ·injection h1 with h1; injection h1 with h0 h1 h2; subst h1
  rw [hx] at hw
  have := hw ((elems.map (·.1)).length * by_ + (rest.map (·.1)).length * by_) (by
   simp only [DataW.weights, ht, hby]
   rw [← Nat.add_mul]; exact List.mem_cons_self)
  unfold reachBytes at this
  simp only [List.length_map] at this
  rw [hlen] at this
  omega
end Go.Dn
namespace Go.Proofs.Ytklnlnjgaadjbaa.Rd
open Go.Dn Go.RowKit
set_option maxRecDepth 100000
theorem scr_of {w : World} {A : Option Addr} {n c : Nat} {f : Nat → Nat → Int} (h : IsRecs ks5 w A n c f) : Scr w A n ((List.range n).map fun i => (f i 0, (⟨f i 1, f i 2, f i 3, f i 4⟩ : E))) := by
 rcases h with ⟨rfl, rfl, rfl⟩ | ⟨a, rfl, h1, h2, h3⟩
 ·exact ⟨fun i hi => by simp at hi, by simp, by simp, fun o ho => by simp at ho⟩
 ·have k5 : ks5.length = 5 := rfl
  refine ⟨fun i hi => ⟨a, rfl, ?_⟩, by simp, by simp; unfold maxLen at h2; omega, fun o ho => ?_⟩
  ·have hi' : i < n := by simpa using hi
   have key : ∀ j, j < 5 → w.cell? ((a.add (i * 5)).add j) = some (.int .i64 (f i j)) := fun j hj => by
    have := (h3 i hi' j hj).1
    rw [k5] at this
    rw [add_add, this]
    congr 2
    have : ∀ j (hj : j < 5), ks5[j] = IntKind.i64 := fun j hj => by
     match j, hj with
     | 0, _ => rfl | 1, _ => rfl | 2, _ => rfl | 3, _ => rfl | 4, _ => rfl
    exact this j hj
   rw [List.getElem_map, List.getElem_range]
   have k0 := key 0 (by omega)
   rw [add_add, Nat.add_zero] at k0
   exact ⟨k0, key 1 (by omega), key 2 (by omega), key 3 (by omega), key 4 (by omega)⟩
  ·obtain ⟨i, hi, rfl⟩ := List.mem_map.1 ho
   have hi' : i < n := by simpa using hi
   exact ⟨wf_i64 (h3 i hi' 1 (by decide)).2, wf_i64 (h3 i hi' 2 (by decide)).2, wf_i64 (h3 i hi' 3 (by decide)).2, wf_i64 (h3 i hi' 4 (by decide)).2⟩
theorem sds_of {w : World} {A : Option Addr} {n c : Nat} {zs : List Int} (h : IsRow .i64 w A n c zs) (s : n * 8 ≤ 140737488351232) : ∃ l : List Int, Sds w A n c l := by
 rcases h with ⟨rfl, rfl, rfl, rfl⟩ | ⟨x, rfl, hl, hm, hz, hc, hw⟩
 ·exact ⟨[], fun i hi => absurd hi (Nat.not_lt_zero _), rfl, fun _ => ⟨rfl, rfl⟩, by simp⟩
 ·refine ⟨zs.take n, fun i hi => ?_, by simp; omega, (fun h => by cases h), by simp; omega⟩
  rw [List.length_take] at hi
  refine ⟨x, rfl, ?_⟩
  rw [hc i (by omega), List.getElem_take]
  congr 2
  simp [List.getD_eq_getElem?_getD, show i < zs.length by omega]
theorem op5S {w : World} {o : Int × E} {Q : Nat → World → Prop} (hQ : ∀ w' b, w.heap.size ≤ b → HB w' b (oC o) 35 → Below w.heap.size w w' → Q b w') :
  alW w (.cells #[.int .i64 (0 : Int), .int .i64 (0 : Int), .int .i64 (0 : Int), .int .i64 (0 : Int), .int .i64 (0 : Int)] 35) fun B w1 =>
   stW w1 (⟨B, 0, none⟩ : Addr) (.int .i64 o.1) fun w2 => stW w2 ((⟨B, 0, none⟩ : Addr).add 1) (.int .i64 o.2.id) fun w3 => stW w3 ((⟨B, 0, none⟩ : Addr).add 2) (.int .i64 o.2.u) fun w4 => stW w4 ((⟨B, 0, none⟩ : Addr).add 3) (.int .i64 o.2.v) fun w5 => stW w5 ((⟨B, 0, none⟩ : Addr).add 4) (.int .i64 o.2.w) fun w6 => Q B w6 := by
 refine al_new fun w1 b1 e1 s1 h1 g1 => ?_
 refine hb_st0 h1 (by simp) fun w2 h2 k2 => hb_st h2 (j := 1) (by simp) fun w3 h3 k3 => hb_st h3 (j := 2) (by simp) fun w4 h4 k4 => hb_st h4 (j := 3) (by simp) fun w5 h5 k5 => hb_st h5 (j := 4) (by simp) fun w6 h6 k6 => ?_
 have k := ((k2.trans k3).trans (k4.trans k5)).trans k6
 exact hQ w6 b1 (by omega) h6 (g1.trans ((k.below (B := w.heap.size) (by omega) fun i hi e => by omega)))
end Go.Proofs.Ytklnlnjgaadjbaa.Rd
namespace Go.Dn
open Go.RowKit
theorem Wk.split {es : List E} {q : List E} {v : Int} : ∀ {p : List E} {u : Int}, Wk es u (p ++ q) v → ∃ m, Wk es u p m ∧ Wk es m q v
 | [], u, h => ⟨u, .nil _, h⟩
 | e :: p, u, h => by
  cases h with
  | cons he hm h =>
   obtain ⟨m, h1, h2⟩ := Wk.split h
   exact ⟨m, .cons he hm h1, h2⟩
def stk : Int → List E → List Int
 | u, [] => [u]
 | u, e :: p => u :: stk (oth e u) p
theorem stk_snoc {es : List E} : ∀ {p : List E} {u m : Int}, Wk es u p m → ∀ e, stk u (p ++ [e]) = stk u p ++ [oth e m]
 | [], u, m, h, e => by cases h; rfl
 | a :: p, u, m, h, e => by
  cases h with
  | cons he hm h => simp only [List.cons_append, stk]; rw [stk_snoc h e]
theorem stk_last {es : List E} : ∀ {p : List E} {u m : Int}, Wk es u p m → m ∈ stk u p
 | [], u, m, h => by cases h; simp [stk]
 | a :: p, u, m, h => by
  cases h with
  | cons he hm h => exact List.mem_cons_of_mem _ (stk_last h)
def Vis (es : List E) (u : Int) (used : List Int) (x : Int) : Prop := x = u ∨ ∃ e ∈ es, e.id ∈ used ∧ (e.u = x ∨ e.v = x)
structure WayI (es : List E) (u v : Int) (path : List E) (at_ : Int) (used : List Int) : Prop where
 wk : Wk es u path at_
 nb : NB path
 sub : ∀ e ∈ path, e.id ∈ used
 pl : path.length ≤ used.length
 nd : used.Nodup
 ui : ∀ i ∈ used, i ∈ es.map E.id
 vv : Vis es u used v → at_ = v
 dn : ∀ x, Vis es u used x → x ∈ stk u path ∨ ∀ e ∈ es, (e.u = x ∨ e.v = x) → e.id ∈ used
theorem WayI.start (es : List E) (u v : Int) : WayI es u v [] u [] :=
 ⟨.nil _, trivial, by simp, Nat.le_refl _, .nil, by simp, fun h => h.elim (fun h => h.symm) (fun ⟨e, _, h, _⟩ => by cases h), fun x h => h.elim (fun h => .inl (by simp [stk, h])) (fun ⟨e, _, h, _⟩ => by cases h)⟩
theorem MxP.snoc {q : List E} {x o : E} (h1 : o ∈ q ++ [x]) (h2 : ∀ a ∈ q ++ [x], leE a o) : MxP (q ++ [x]) o := ⟨fun h => absurd h (by simp), fun _ => ⟨h1, h2⟩⟩
theorem vis_snoc {es : List E} (hi : ∀ e ∈ es, ∀ e' ∈ es, e.id = e'.id → e = e') {u : Int} {used : List Int} {e : E} (he : e ∈ es) {x : Int} : Vis es u (used ++ [e.id]) x ↔ Vis es u used x ∨ e.u = x ∨ e.v = x := by
 constructor
 ·rintro (h1 | ⟨a, ha, hh, h2⟩)
  ·exact .inl (.inl h1)
  ·rcases List.mem_append.1 hh with h3 | h3
   ·exact .inl (.inr ⟨a, ha, h3, h2⟩)
   ·have := hi a ha e he (List.mem_singleton.1 h3)
    subst this; exact .inr h2
 ·rintro ((h1 | ⟨a, ha, hh, h2⟩) | h)
  ·exact .inl h1
  ·exact .inr ⟨a, ha, List.mem_append_left _ hh, h2⟩
  ·exact .inr ⟨e, he, by simp, h⟩
theorem WayI.push {es : List E} (hi : ∀ e ∈ es, ∀ e' ∈ es, e.id = e'.id → e = e') {u v at_ : Int} {path : List E} {used : List Int} (h : WayI es u v path at_ used) (hne : at_ ≠ v) {e : E} (he : e ∈ es) (hm : e.u = at_ ∨ e.v = at_) (hn : e.id ∉ used) : WayI es u v (path ++ [e]) (oth e at_) (used ++ [e.id]) := by
 refine ⟨h.wk.app (.cons he hm (.nil _)), ?_, ?_, by have := h.pl; simp; omega, ?_, ?_, ?_, ?_⟩
 ·rw [NB.app]
  refine ⟨h.nb, trivial, fun a ha b hb hab => ?_⟩
  simp only [List.head?_cons, Option.mem_def, Option.some.injEq] at hb
  subst hb
  exact hn (hab ▸ h.sub a (List.mem_of_getLast? ha))
 ·intro a ha
  rcases List.mem_append.1 ha with ha | ha
  ·exact List.mem_append_left _ (h.sub a ha)
  ·rw [List.mem_singleton.1 ha]; simp
 ·rw [List.nodup_append]
  exact ⟨h.nd, by simp, fun a ha b hb hab => hn (by rw [← List.mem_singleton.1 hb, ← hab]; exact ha)⟩
 ·intro i hi
  rcases List.mem_append.1 hi with hi | hi
  ·exact h.ui i hi
  ·rw [List.mem_singleton.1 hi]; exact List.mem_map_of_mem he
 ·intro hV
  rcases (vis_snoc hi he).1 hV with h1 | h1
  ·exact absurd (h.vv h1) hne
  ·exact (oth_only hm h1 fun h => hne h.symm).symm
 ·intro x hx
  rw [stk_snoc h.wk]
  rcases (vis_snoc hi he).1 hx with h1 | h1
  ·rcases h.dn x h1 with h2 | h2
   ·exact .inl (List.mem_append_left _ h2)
   ·exact .inr fun a ha hh => List.mem_append_left _ (h2 a ha hh)
  ·by_cases hx2 : x = at_
   ·subst hx2; exact .inl (List.mem_append_left _ (stk_last h.wk))
   ·exact .inl (by rw [oth_only hm h1 hx2]; simp)
theorem WayI.pop {es : List E} {u v at_ : Int} {path : List E} {e : E} {used : List Int} (h : WayI es u v (path ++ [e]) at_ used) (hne : at_ ≠ v) (hn : ∀ a ∈ es, (a.u = at_ ∨ a.v = at_) → a.id ∈ used) : WayI es u v path (oth e at_) used := by
 obtain ⟨m, h1, h2⟩ := h.wk.split
 cases h2 with
 | cons he hm h3 =>
  cases h3
  rw [oth_oth hm]
  refine ⟨h1, (NB.app.1 h.nb).1, fun a ha => h.sub a (by simp [ha]), by have := h.pl; simp at this; omega, h.nd, h.ui, fun hV => absurd (h.vv hV) hne, fun x hx => ?_⟩
  rcases h.dn x hx with h4 | h4
  ·rw [stk_snoc h1, List.mem_append, List.mem_singleton] at h4
   rcases h4 with h4 | h4
   ·exact .inl h4
   ·subst h4; exact .inr hn
  ·exact .inr h4
theorem WayI.none {es : List E} {u v at_ : Int} {used : List Int} (h : WayI es u v [] at_ used) (hne : at_ ≠ v) (hn : ∀ a ∈ es, (a.u = at_ ∨ a.v = at_) → a.id ∈ used) : ¬ ∃ p, Wk es u p v := by
 rintro ⟨p, hp⟩
 have hu : at_ = u := by
  have := h.wk
  generalize at_ = b at this
  cases this; rfl
 subst hu
 have all : ∀ x, Vis es at_ used x → ∀ e ∈ es, (e.u = x ∨ e.v = x) → e.id ∈ used := fun x hx => by
  rcases h.dn x hx with h4 | h4
  ·simp only [stk, List.mem_singleton] at h4
   subst h4; exact hn
  ·exact h4
 have := hp.inv (Q := Vis es at_ used) (fun e he => ⟨fun hq => .inr ⟨e, he, all _ hq e he (.inl rfl), .inr rfl⟩, fun hq => .inr ⟨e, he, all _ hq e he (.inr rfl), .inl rfl⟩⟩) (.inl rfl)
 exact hne (h.vv this)
end Go.Dn
namespace Go.Proofs.Ytklnlnjgaadjbaa.Rd
open Go.Dn Go.RowKit
set_option maxRecDepth 100000
theorem other_ok (w : World) (e : E) (v : Int) : Calls Try.prog 70 #[.agg (eC e), .int .i64 v] w fun en w' => en = .returned (.int .i64 (oth e v)) ∧ Below w.heap.size w w' := by
 apply f_ref06_other.ok
 unfold f_ref06_other.wp
 refine al_new fun w1 b1 e1 s1 h1 g1 => ?_
 have h1 : HB w1 b1 (eC e) 33 := h1
 refine hb_ldI h1 (j := 1) rfl ?_
 unfold oth
 by_cases h : e.u = v
 ·refine sel_t (by simp [h]) (hb_ldI h1 (j := 2) rfl ⟨by rw [if_pos h], g1⟩)
 ·refine sel_f (by simp [h]) (hb_ldI h1 (j := 1) rfl ⟨by rw [if_neg h], g1⟩)
theorem Ahead_ok (w : World) (a b : E) : Calls Try.prog 71 #[.agg (eC a), .agg (eC b)] w fun en w' => (∃ x, en = .returned (.bool x) ∧ (x = true ↔ a.w < b.w ∨ (a.w = b.w ∧ a.id < b.id))) ∧ Below w.heap.size w w' := by
 apply f_ref06_Ahead.ok
 unfold f_ref06_Ahead.wp
 refine al_new fun w1 b1 e1 s1 h1 g1 => al_new fun w2 b2 e2 s2 h2 g2 => ?_
 have hb := g1.trans (g2.mono (by omega))
 have h1 : HB w2 b1 (eC a) 33 := h1.below g2
 have h2 : HB w2 b2 (eC b) 33 := h2
 refine hb_ldI h1 (j := 3) rfl (hb_ldI h2 (j := 3) rfl ?_)
 by_cases k1 : a.w < b.w
 ·exact sel_t (by simpa using k1) ⟨⟨true, rfl, by simp [k1]⟩, hb⟩
 ·refine sel_f (by simpa using k1) (hb_ldI h1 (j := 3) rfl (hb_ldI h2 (j := 3) rfl ?_))
  by_cases k2 : a.w = b.w
  ·refine sel_t (by simpa using k2) (hb_ldI0 h1 rfl (hb_ldI0 h2 rfl ⟨⟨_, rfl, ?_⟩, hb⟩))
   rw [decide_eq_true_iff]; omega
  ·exact sel_f (by simpa using k2) ⟨⟨false, rfl, by simp [k1, k2]⟩, hb⟩
theorem Sum_ok {w : World} {A : Option Addr} {n c : Nat} {l : List E} (r : RE w A l) (hn : n = l.length) (hl : l.length ≤ 4096) (hw : ∀ e ∈ l, 0 ≤ e.w ∧ e.w ≤ 1099511627776) :
  Calls Try.prog 49 #[.slice A n c] w fun en w' => en = .returned (.int .i64 (sumW l)) ∧ w' = w := by
 subst hn
 apply f_ref06_Sum.ok
 unfold f_ref06_Sum.wp
 refine ⟨l.length + 1, ?_⟩
 have bd : ∀ q : List E, (∀ e ∈ q, 0 ≤ e.w ∧ e.w ≤ 1099511627776) → 0 ≤ sumW q ∧ sumW q ≤ 1099511627776 * q.length := by
  intro q
  induction q with
  | nil => intro _; simp [sumW]
  | cons a q ih =>
   intro hq
   have h2 := ih fun e he => hq e (by simp [he])
   have h3 := hq a (by simp)
   simp only [sumW, List.map_cons, List.sum_cons, List.length_cons] at h2 ⊢
   omega
 have key : ∀ (m i : Nat), l.length - i = m → i ≤ l.length → f_ref06_Sum.l0 (m + 1) A l.length c (sumW (l.take i)) (i : Int) w (fun x3 w4 => ∀ _ : Go.Dn.Fr, (fun en w' => en = Ending.returned (.int .i64 (sumW l)) ∧ w' = w) (.returned (.int .i64 x3)) w4) := by
  intro m
  induction m with
  | zero =>
   intro i hm hi
   have : i = l.length := by omega
   subst this
   unfold f_ref06_Sum.l0
   rw [List.take_length]
   exact sel_f (by simp) fun _ => ⟨rfl, rfl⟩
  | succ m ih =>
   intro i hm hi
   have hlt : i < l.length := by omega
   obtain ⟨a, rfl, q⟩ := r i hlt
   have tk := List.take_succ_eq_append_getElem hlt
   have b1 := bd (l.take (i + 1)) fun e he => hw e (List.mem_of_mem_take he)
   have e2 : sumW (l.take i) + l[i].w = sumW (l.take (i + 1)) := by rw [tk, sumW_app]; simp [sumW]
   have ln : (l.take (i + 1)).length = i + 1 := by rw [List.length_take]; omega
   rw [ln] at b1
   unfold f_ref06_Sum.l0
   refine sel_t (by simpa using hlt) (optB_some rfl (req_intro (by simp; omega) (ldI_intro (by rw [Int.toNat_natCast]; exact q.c3) ?_)))
   rw [e2, w64_in (by omega), w64_in (by omega), show (i : Int) + 1 = ((i + 1 : Nat) : Int) by omega]
   exact ih (i + 1) (by omega) (by omega)
 exact key l.length 0 (by omega) (by omega)
theorem Most_ok {w : World} {A : Option Addr} {n c : Nat} {l : List E} (r : RE w A l) (hn : n = l.length) (hl : l.length ≤ 4096) :
  Calls Try.prog 48 #[.slice A n c] w fun en w' => (∃ m, en = .returned (.agg (eC m)) ∧ MxP l m) ∧ Below w.heap.size w w' := by
 subst hn
 apply f_ref06_Most.ok
 unfold f_ref06_Most.wp
 refine al_new fun w1 b1 e1 s1 h1 g1 => al_new fun w2 b3 e3 s3 h3 g2 => putE (e := zE) h3 rfl fun w3 h33 k3 => ?_
 have hb := g1.trans (g2.mono (by omega))
 have hb3 := HB.belK hb k3 (by omega)
 have h13 : HB w3 b1 (eC zE) 33 := (h1.below g2).keeps k3 (by omega)
 refine ⟨l.length + 1, ?_⟩
 have key : ∀ (m i : Nat) (w4 : World) (o : E), l.length - i = m → i ≤ l.length → HB w4 b3 (eC o) 33 → HB w4 b1 (eC zE) 33 → Below w.heap.size w w4 → MxP (l.take i) o → f_ref06_Most.l0 (m + 1) A l.length c (⟨b3, 0, none⟩ : Addr) (i : Int) w4 (fun (w41 : World) => ∀ _ : Go.Dn.Fr,
   ldI w41 (⟨b3, 0, none⟩ : Addr) .i64 fun x42 => ldI w41 ((⟨b3, 0, none⟩ : Addr).add 1) .i64 fun x43 => ldI w41 ((⟨b3, 0, none⟩ : Addr).add 2) .i64 fun x44 => ldI w41 ((⟨b3, 0, none⟩ : Addr).add 3) .i64 fun x45 =>
   stW w41 (⟨b1, 0, none⟩ : Addr) (.int .i64 x42) fun w46 => stW w46 ((⟨b1, 0, none⟩ : Addr).add 1) (.int .i64 x43) fun w47 => stW w47 ((⟨b1, 0, none⟩ : Addr).add 2) (.int .i64 x44) fun w48 => stW w48 ((⟨b1, 0, none⟩ : Addr).add 3) (.int .i64 x45) fun w49 =>
   ldI w49 (⟨b1, 0, none⟩ : Addr) .i64 fun x50 => ldI w49 ((⟨b1, 0, none⟩ : Addr).add 1) .i64 fun x51 => ldI w49 ((⟨b1, 0, none⟩ : Addr).add 2) .i64 fun x52 => ldI w49 ((⟨b1, 0, none⟩ : Addr).add 3) .i64 fun x53 =>
   (fun en w' => (∃ m, en = Ending.returned (.agg (eC m)) ∧ MxP l m) ∧ Below w.heap.size w w') (.returned (.agg #[.int .i64 x50, .int .i64 x51, .int .i64 x52, .int .i64 x53])) w49) := by
  intro m
  induction m with
  | zero =>
   intro i w4 o hm hi h3 h1 hb hx
   have : i = l.length := by omega
   subst this
   rw [List.take_length] at hx
   unfold f_ref06_Most.l0
   refine sel_f (by simp) fun _ => getE h3 (putE h1 rfl o fun w5 h5 k5 => getE h5 ⟨⟨o, rfl, hx⟩, HB.belK hb k5 (by omega)⟩)
  | succ m ih =>
   intro i w4 o hm hi h3 h1 hb hx
   have hlt : i < l.length := by omega
   have hbd := hb.drew
   obtain ⟨a, rfl, q⟩ := (r.below hbd) i hlt
   have hw : IntKind.i64.wrap ((i : Int) + 1) = ((i + 1 : Nat) : Int) := by rw [w64_in (by omega)]; omega
   have tk := List.take_succ_eq_append_getElem hlt
   have h3d : HB w4.drew b3 (eC o) 33 := h3
   have h1d : HB w4.drew b1 (eC zE) 33 := h1
   unfold f_ref06_Most.l0
   refine sel_t (by simpa using hlt) (drW_intro ?_)
   rw [hw]
   by_cases i0 : i = 0
   ·refine sel_t (by simp [i0]) (optB_some rfl (req_intro (by simp; omega) (rowE q (putE h3d rfl l[i] fun w5 h5 k5 => ?_))))
    refine ih (i + 1) w5 l[i] (by omega) (by omega) h5 (h1d.keeps k5 (by omega)) (HB.belK hbd k5 (by omega)) ?_
    rw [tk]
    refine MxP.snoc (List.mem_append_right _ (List.mem_singleton.2 rfl)) fun x hx => ?_
    rw [show l.take i = [] by rw [i0]; rfl, List.nil_append, List.mem_singleton] at hx
    subst hx; exact .inr ⟨rfl, Int.le_refl _⟩
   ·have hne : l.take i ≠ [] := fun h => by
     have := congrArg List.length h
     rw [List.length_take, List.length_nil] at this; omega
    obtain ⟨m1, m2⟩ := hx.s hne
    refine sel_f (by simp; omega) (getE h3d (optB_some rfl (req_intro (by simp; omega) (rowE q ((Ahead_ok _ o l[i]).mono ?_)))))
    rintro _ w5 ⟨⟨x, rfl, hxx⟩, g5⟩
    have hb5 := hbd.trans (g5.mono hbd.size)
    refine ⟨_, rfl, ?_⟩
    cases x with
    | true =>
     have ha := hxx.1 rfl
     obtain ⟨a', e', q5⟩ := (r.below hb5) i hlt
     injection e' with e'; subst e'
     refine sel_t rfl (optB_some rfl (req_intro (by simp; omega) (rowE q5 (putE (h3d.below g5) rfl l[i] fun w6 h6 k6 => ?_))))
     refine ih (i + 1) w6 l[i] (by omega) (by omega) h6 ((h1d.below g5).keeps k6 (by omega)) (HB.belK hb5 k6 (by omega)) ?_
     rw [tk]
     refine MxP.snoc (List.mem_append_right _ (List.mem_singleton.2 rfl)) fun y hy => ?_
     rcases List.mem_append.1 hy with hy | hy
     ·have := m2 y hy; unfold leE at *; omega
     ·rw [List.mem_singleton.1 hy]; exact .inr ⟨rfl, Int.le_refl _⟩
    | false =>
     have ha : ¬ (o.w < l[i].w ∨ (o.w = l[i].w ∧ o.id < l[i].id)) := fun h => by have := hxx.2 h; cases this
     refine sel_f rfl (ih (i + 1) w5 o (by omega) (by omega) (h3d.below g5) (h1d.below g5) hb5 ?_)
     rw [tk]
     refine MxP.snoc (List.mem_append_left _ m1) fun y hy => ?_
     rcases List.mem_append.1 hy with hy | hy
     ·exact m2 y hy
     ·rw [List.mem_singleton.1 hy]; unfold leE; omega
 exact key l.length 0 w3 zE (by omega) (by omega) h33 h13 hb3 ⟨fun _ => rfl, fun h => absurd rfl h⟩
end Go.Proofs.Ytklnlnjgaadjbaa.Rd
namespace Go.Dn
open Go.RowKit
theorem OwnI.ty {w : World} {B e : Nat} {A : Option Addr} {c : Nat} {l : List Int} (h : OwnI w B e A c l) {a : Addr} (ha : A = some a) : ∃ cs, w.heap[a.block]? = some (.cells cs e) := by
 subst ha
 rcases h.2 with ⟨h0, _⟩ | ⟨g, cap, cur, hv, hg, hh, _⟩
 ·cases h0
 ·injection hv with hA
  injection hA with hA
  subst hA; exact ⟨cur, hh⟩
theorem OwnEd.ty {w : World} {B e : Nat} {A : Option Addr} {c : Nat} {l : List E} (h : OwnEd w B e A c l) {a : Addr} (ha : A = some a) : ∃ cs, w.heap[a.block]? = some (.cells cs e) := by
 subst ha
 rcases h.2 with ⟨h0, _⟩ | ⟨g, cap, cur, hv, hg, hh, _⟩
 ·cases h0
 ·injection hv with hA
  injection hA with hA
  subst hA; exact ⟨cur, hh⟩
theorem OwnEd.shape {w : World} {B e : Nat} {A : Option Addr} {c : Nat} {l : List E} (h : OwnEd w B e A c l) (hl : l ≠ []) : ∃ g, A = some ⟨g, 0, Option.none⟩ ∧ l.length ≤ c := by
 rcases h.2 with ⟨_, h1⟩ | ⟨g, cap, cur, hv, hg, hh, hn, _⟩
 ·exact absurd (List.length_eq_zero_iff.1 h1) hl
 ·injection hv with hA _ hc
  exact ⟨g, hA, by omega⟩
theorem OwnEd.lit0 (w : World) (e : Nat) : OwnEd (w.alloc (.cells #[] e)) w.heap.size e (some ⟨w.heap.size, 0, Option.none⟩) 0 [] := by
 have h := World.ownsRow_lit (base := w.heap.size) (e := e) (size := 4) w #[] 0 (Nat.le_refl _) (by unfold maxLen; omega) (by simp)
 exact h
end Go.Dn
namespace Go.Proofs.Ytklnlnjgaadjbaa.Rd
open Go.Dn Go.RowKit
set_option maxRecDepth 100000
theorem _root_.Go.Dn.OwnEd.pop {w : World} {B : Nat} {A : Option Addr} {c : Nat} {l : List E} {e : E} (h : OwnEd w B TE A c (l ++ [e])) : OwnEd w B TE A c l := by
 obtain ⟨g, rfl, _⟩ := h.shape (by simp)
 unfold OwnEd at h ⊢
 rw [List.length_append, eVs_app] at h
 exact own_prefix (n := l.length) h (eVs_len l)
theorem ob_dis {w : World} {B : Nat} {A A2 : Option Addr} {c c2 : Nat} {l : List E} {m : List Int} (h : OwnEd w B TE A c l) (k : OwnI w B TI A2 c2 m) : ∀ a, A = some a → ¬ Ob A2 a.block := by
 rintro a ha ⟨a2, ha2, e⟩
 obtain ⟨cs, h1⟩ := h.ty ha
 obtain ⟨cs2, h2⟩ := k.ty ha2
 rw [e, h1] at h2
 injection h2 with h2
 injection h2 with _ h2
 revert h2; decide
theorem ob_dis2 {w : World} {B : Nat} {A A2 : Option Addr} {c c2 : Nat} {l : List E} {m : List Int} (h : OwnEd w B TE A c l) (k : OwnI w B TI A2 c2 m) : ∀ a, A2 = some a → ¬ Ob A a.block := by
 rintro a ha ⟨a2, ha2, e⟩
 exact ob_dis h k a2 ha2 ⟨a, ha, e.symm⟩
theorem slA04 (A : Option Addr) (c : Nat) : slA A 0 c 4 = A := by
 unfold slA
 split
 ·rfl
 ·cases A <;> simp [add_mk, Addr.add]
theorem Way_l1 {w : World} {Ae Au : Option Addr} {ce nu cu : Nat} {es : List E} {used : List Int} (re : RE w Ae es) (ru : RI w Au used) (hnu : nu = used.length) (hel : es.length ≤ 4096) (hul : used.length ≤ 1000000) {at_ : Int} {K2 : Int → World → Prop}
  (k1 : (∀ e ∈ es, (e.u = at_ ∨ e.v = at_) → e.id ∈ used) → K2 (-1) w) (k2 : ∀ (j : Nat) (hj : j < es.length), (es[j].u = at_ ∨ es[j].v = at_) → es[j].id ∉ used → K2 (j : Int) w) : ∀ (m i : Nat) (x : Int), es.length - i = m → i ≤ es.length →
   ((x = -1 ∧ ∀ e ∈ es.take i, (e.u = at_ ∨ e.v = at_) → e.id ∈ used) ∨ ∃ (j : Nat) (hj : j < es.length), x = (j : Int) ∧ (es[j].u = at_ ∨ es[j].v = at_) ∧ es[j].id ∉ used) →
   f_ref06_Way.l1 (m + 1) Ae es.length ce at_ Au nu cu x (i : Int) w K2 := by
 intro m
 induction m with
 | zero =>
  intro i x hm hi hx
  have : i = es.length := by clear hx; omega
  subst this
  unfold f_ref06_Way.l1
  refine sel_f (by simp) ?_
  rcases hx with ⟨rfl, h⟩ | ⟨j, hj, rfl, h1, h2⟩
  ·rw [List.take_length] at h; exact k1 h
  ·exact k2 j hj h1 h2
 | succ m ih =>
  intro i x hm hi hx
  have hlt : i < es.length := by clear hx; omega
  have hm2 : es.length - (i + 1) = m := by clear hx; omega
  obtain ⟨a, hA, q⟩ := re i hlt
  have hw : IntKind.i64.wrap ((i : Int) + 1) = ((i + 1 : Nat) : Int) := by clear hx; rw [w64_in (by omega)]; omega
  have tk := List.take_succ_eq_append_getElem hlt
  unfold f_ref06_Way.l1
  rw [hw]
  refine sel_t (by simpa using hlt) ?_
  rcases hx with ⟨rfl, h⟩ | ⟨j, hj, rfl, h1, h2⟩
  ·have cand : (es[i].u = at_ ∨ es[i].v = at_) → es[i].id ∉ used → f_ref06_Way.l1 (m + 1) Ae es.length ce at_ Au nu cu (i : Int) ((i + 1 : Nat) : Int) w K2 := fun h1 h2 => ih (i + 1) _ hm2 hlt (.inr ⟨i, hlt, rfl, h1, h2⟩)
   have no : ((es[i].u = at_ ∨ es[i].v = at_) → es[i].id ∈ used) → f_ref06_Way.l1 (m + 1) Ae es.length ce at_ Au nu cu (-1) ((i + 1 : Nat) : Int) w K2 := fun h1 => ih (i + 1) _ hm2 hlt (.inl ⟨rfl, fun e he => by
    rw [tk] at he
    rcases List.mem_append.1 he with he | he
    ·exact h e he
    ·rw [List.mem_singleton.1 he]; exact h1⟩)
   refine sel_t (by decide) (optB_some hA (req_intro (by simp; omega) (ldI_intro (by rw [Int.toNat_natCast]; exact q.c1) ?_)))
   by_cases e1 : es[i].u = at_
   ·refine sel_t (by simp [e1]) (optB_some hA (req_intro (by simp; omega) (ldI_intro (by rw [Int.toNat_natCast]; exact q.c0) ((Has_ok ru hnu hul _).mono ?_))))
    rintro _ _ ⟨rfl, rfl⟩
    refine ⟨_, rfl, ?_⟩
    by_cases hm3 : es[i].id ∈ used
    ·exact sel_f (by simpa using hm3) (no fun _ => hm3)
    ·exact sel_t (by simpa using hm3) (cand (.inl e1) hm3)
   ·refine sel_f (by simp [e1]) (optB_some hA (req_intro (by simp; omega) (ldI_intro (by rw [Int.toNat_natCast]; exact q.c2) ?_)))
    by_cases e2 : es[i].v = at_
    ·refine sel_t (by simp [e2]) (optB_some hA (req_intro (by simp; omega) (ldI_intro (by rw [Int.toNat_natCast]; exact q.c0) ((Has_ok ru hnu hul _).mono ?_))))
     rintro _ _ ⟨rfl, rfl⟩
     refine ⟨_, rfl, ?_⟩
     by_cases hm3 : es[i].id ∈ used
     ·exact sel_f (by simpa using hm3) (no fun _ => hm3)
     ·exact sel_t (by simpa using hm3) (cand (.inr e2) hm3)
    ·exact sel_f (by simp [e2]) (no fun hh => absurd hh (by simp [e1, e2]))
  ·exact sel_f (by simp) (ih (i + 1) _ hm2 hlt (.inr ⟨j, hj, rfl, h1, h2⟩))
theorem Way_l0 {w0 : World} {Ae : Option Addr} {ce : Nat} {es : List E} (re : RE w0 Ae es) (hel : es.length ≤ 4096) (hids : (es.map E.id).Nodup) {u v : Int} {K0 : Option Addr → Nat → Nat → World → Prop} {Kr : Option Addr → Nat → Nat → Bool → World → Prop}
  (k0 : ∀ w A c path, OwnEd w w0.heap.size TE A c path → Wk es u path v → NB path → Below w0.heap.size w0 w → K0 A path.length c w) (kr : ∀ w, (¬ ∃ p, Wk es u p v) → Below w0.heap.size w0 w → Kr none 0 0 false w) :
  ∀ (m : Nat) (w : World) (A Au : Option Addr) (c cu : Nat) (path : List E) (at_ : Int) (used : List Int), 2 * (es.length - used.length) + path.length < m → OwnEd w w0.heap.size TE A c path → OwnI w w0.heap.size TI Au cu used → WayI es u v path at_ used → Below w0.heap.size w0 w →
   f_ref06_Way.l0 m Ae es.length ce v A path.length c at_ Au used.length cu w K0 Kr := by
 have hinj := ids_inj hids
 intro m
 induction m with
 | zero => intro w A Au c cu path at_ used h; omega
 | succ m ih =>
  intro w A Au c cu path at_ used hm ho hu hI hb
  have hul : used.length ≤ es.length := by
   have := nodup_subI hI.nd hI.ui
   simpa using this
  unfold f_ref06_Way.l0
  by_cases hat : at_ = v
  ·refine sel_f (by simp [hat]) (k0 w A c path ho ?_ hI.nb hb)
   have := hI.wk
   rw [hat] at this; exact this
  refine sel_t (by simp [hat]) ⟨es.length + 1, Way_l1 (re.below hb) hu.reads rfl hel (by omega) (fun hno => ?_) (fun j hj hinc hnu => ?_) es.length 0 (-1) (by omega) (by omega) (.inl ⟨rfl, by simp⟩)⟩
  ·intro _
   refine sel_f (by decide) ?_
   rcases List.eq_nil_or_concat path with rfl | ⟨p0, e, rfl⟩
   ·exact sel_t (by simp) (kr w (hI.none hat hno) hb)
   ·have e0 : p0.concat e = p0 ++ [e] := List.concat_eq_append
    rw [e0] at ho hI hm ⊢
    have hlen : (p0 ++ [e]).length = p0.length + 1 := by simp
    obtain ⟨g, rfl, hcap⟩ := ho.shape (by simp)
    have pl : p0.length + 1 ≤ 4096 := by have := hI.pl; omega
    have hw : IntKind.i64.wrap ((((p0 ++ [e]).length : Nat) : Int) - 1) = (p0.length : Int) := by rw [hlen, w64_in (by omega)]; omega
    obtain ⟨a, hA, q⟩ := ho.reads p0.length (by omega)
    injection hA with hA; subst hA
    have hget : (p0 ++ [e])[p0.length]'(by omega) = e := by simp
    rw [hget] at q
    refine sel_f (by simp; omega) ?_
    rw [hw]
    refine optB_some rfl (req_intro (by simp; omega) (rowE q ((other_ok w e at_).mono ?_)))
    rintro _ w2 ⟨rfl, g2⟩
    refine ⟨_, rfl, req_intro (by simp; omega) ?_⟩
    rw [slA04, Nat.sub_zero, Nat.sub_zero, Int.toNat_natCast]
    refine ih w2 _ Au c cu p0 (oth e at_) used (by omega) (ho.pop.keeps (S := fun _ => False) (.of_below g2) fun _ _ => id) (hu.keeps (S := fun _ => False) (.of_below g2) fun _ _ => id) (hI.pop hat hno) (hb.trans (g2.mono hb.size))
  ·intro _
   have hem := List.getElem_mem hj
   have hI2 := hI.push hinj hat hem hinc hnu
   have hul2 : used.length + 1 ≤ es.length := by
    have := nodup_subI hI2.nd hI2.ui
    simpa using this
   obtain ⟨a, hA, q⟩ := (re.below hb) j hj
   have hpl := hI.pl
   refine sel_t (by simp) (optB_some hA (req_intro (by simp; omega) (ldI_intro (by rw [Int.toNat_natCast]; exact q.c0) ?_)))
   refine put_in hu rfl (x := es[j].id) hb.size (by omega) fun A2 c2 w2 o2 k2 f2 => ?_
   have ho2 := ho.keeps k2 (ob_dis ho hu)
   have hb2 : Below w0.heap.size w0 w2 := hb.trans (k2.below hb.size fun k hk ⟨a', ha', hh⟩ => by have := (hu.block a' ha').1; omega)
   obtain ⟨a', hA', q2⟩ := (re.below hb2) j hj
   refine optB_some hA' (req_intro (by simp; omega) (rowE q2 (put_ed ho2 rfl (e := es[j]) hb2.size (by omega) fun A3 c3 w3 o3 k3 f3 => ?_)))
   have o23 := o2.keeps k3 (ob_dis2 ho2 o2)
   have hb3 : Below w0.heap.size w0 w3 := hb2.trans (k3.below hb2.size fun k hk ⟨a', ha', hh⟩ => by have := (ho2.block a' ha').1; omega)
   obtain ⟨a'', hA'', q3⟩ := (re.below hb3) j hj
   refine optB_some hA'' (req_intro (by simp; omega) (rowE q3 ((other_ok w3 es[j] at_).mono ?_)))
   rintro _ w4 ⟨rfl, g4⟩
   refine ⟨_, rfl, ?_⟩
   refine ih w4 (some A3) (some A2) c3 c2 (path ++ [es[j]]) (oth es[j] at_) (used ++ [es[j].id]) (by rw [List.length_append, List.length_append]; simp only [List.length_singleton]; omega) (o3.keeps (S := fun _ => False) (.of_below g4) fun _ _ => id) (o23.keeps (S := fun _ => False) (.of_below g4) fun _ _ => id) hI2 (hb3.trans (g4.mono hb3.size))
theorem Way_ok {w : World} {Ae : Option Addr} {ne ce : Nat} {es : List E} (re : RE w Ae es) (hne : ne = es.length) (hel : es.length ≤ 4096) (hids : (es.map E.id).Nodup) (u v : Int) :
  Calls Try.prog 47 #[.slice Ae ne ce, .int .i64 u, .int .i64 v] w fun en w' => ((∃ A c path, en = .returned (.tuple #[.slice A path.length c, .bool true]) ∧ RE w' A path ∧ Wk es u path v ∧ NB path) ∨ (en = .returned (.tuple #[.slice none 0 0, .bool false]) ∧ ¬ ∃ p, Wk es u p v)) ∧ Below w.heap.size w w' := by
 subst hne
 apply f_ref06_Way.ok
 unfold f_ref06_Way.wp
 refine alW_intro (alW_intro ?_)
 have o1 := OwnEd.lit0 w TE
 have b1 : Below w.heap.size w (w.alloc (.cells #[] TE)) := (Below.refl _ _).alloc (Nat.le_refl _) _
 generalize w.alloc (.cells #[] TE) = w1 at *
 have o2 := OwnI.lit (w := w1) (B := w.heap.size) (e := TI) [] (cs := #[]) rfl b1.size (by simp)
 have b2 : Below w1.heap.size w1 (w1.alloc (.cells #[] TI)) := (Below.refl _ _).alloc (Nat.le_refl _) _
 generalize w1.alloc (.cells #[] TI) = w2 at *
 have o1' := o1.keeps (S := fun _ => False) (.of_below b2) fun _ _ => id
 have hb := b1.trans (b2.mono b1.size)
 refine ⟨2 * es.length + 1, Way_l0 re hel hids (fun w3 A c path o3 hwk hnb g3 => ?_) (fun w3 hno g3 => ?_) (2 * es.length + 1) w2 _ _ 0 _ [] u [] (by simp) o1' o2 (WayI.start es u v) hb⟩
 ·intro _
  exact ⟨.inl ⟨A, c, path, rfl, o3.reads, hwk, hnb⟩, g3⟩
 ·intro _
  exact ⟨.inr ⟨rfl, hno⟩, g3⟩
theorem int_fl3 {n : Int} {w : World} {K : Value → World → Prop} (hk : K (.float .f64 (fb n)) w) : Runs Try.prog (Go.convert 3 72 (.int .i64 n)) w K :=
 runs_of (run_convert_int_float w _ _ .i64 .f64 _ (by rfl) (by rfl)) hk
theorem RAlong_ok {w : World} {s : RS} {vr : List Int} {er : List E} (h : RF w s vr er) (ve : VE vr er) (u v : Int) :
  Calls Try.prog 26 #[.agg (rsC s), .int .i64 u, .int .i64 v] w fun en w' => (∃ mx W K code, en = .returned (.tuple #[.agg (aC mx W K), .int .i64 code]) ∧ AlongR vr er u v mx W K code) ∧ Below w.heap.size w w' := by
 apply f_ref17_Along.ok
 unfold f_ref17_Along.wp
 refine al_new fun w1 b1 e1 s1 h1 g1 => al_new fun w2 b3 e3 s3 h3 g2 => ?_
 have hb := g1.trans (g2.mono (by omega))
 have h1 : HB w2 b1 (rsC s) 31 := h1.below g2
 have h3 : HB w2 b3 (aC zE 0 0) 69 := by rw [aC_zero]; exact h3
 have hf := h.belw hb
 have hvl := h.vl
 have hel := ve.el
 have z0 : ∀ {w' : World} {Q : Int → Int → Int → Int → Nat → Nat → World → Prop}, HB w' b3 (aC zE 0 0) 69 → (∀ w'', Keeps (fun k => k = b3) w' w'' → Q zE.id zE.u zE.v zE.w (fb 0) (fb 0) w'') →
   stW w' (⟨b3, 0, none⟩ : Addr) (.int .i64 (0 : Int)) fun w6 => stW w6 ((⟨b3, 0, none⟩ : Addr).add 1) (.int .i64 (0 : Int)) fun w7 => stW w7 ((⟨b3, 0, none⟩ : Addr).add 2) (.int .i64 (0 : Int)) fun w8 => stW w8 ((⟨b3, 0, none⟩ : Addr).add 3) (.int .i64 (0 : Int)) fun w9 => stW w9 ((⟨b3, 0, none⟩ : Addr).add 4) (.complex .f64 0 0) fun w10 =>
   ldI w10 (⟨b3, 0, none⟩ : Addr) .i64 fun x11 => ldI w10 ((⟨b3, 0, none⟩ : Addr).add 1) .i64 fun x12 => ldI w10 ((⟨b3, 0, none⟩ : Addr).add 2) .i64 fun x13 => ldI w10 ((⟨b3, 0, none⟩ : Addr).add 3) .i64 fun x14 => ldC w10 ((⟨b3, 0, none⟩ : Addr).add 4) .f64 fun r15 i15 => Q x11 x12 x13 x14 r15 i15 w10 := by
  intro w' Q hh hQ
  have := put5 (m := zE) (p := fb 0) (q := fb 0) hh fun w'' _ k => hQ w'' k
  rw [fb_zero] at this
  exact this
 refine hb_ldS0 h1 rfl ((Has_ok hf.v h.nv (by omega) u).mono ?_)
 rintro _ _ ⟨rfl, rfl⟩
 refine ⟨_, rfl, ?_⟩
 by_cases hu : u ∈ vr
 rotate_left
 ·refine sel_t (by simpa using hu) (z0 h3 fun w4 k4 => ⟨⟨zE, 0, 0, 51, rfl, .inl ⟨fun hh => hu hh.1, rfl, rfl, rfl, rfl⟩⟩, HB.belK hb k4 (by omega)⟩)
 refine sel_f (by simpa using hu) (hb_ldS0 h1 rfl ((Has_ok hf.v h.nv (by omega) v).mono ?_))
 rintro _ _ ⟨rfl, rfl⟩
 refine ⟨_, rfl, ?_⟩
 by_cases hv : v ∈ vr
 rotate_left
 ·refine sel_t (by simpa using hv) (z0 h3 fun w4 k4 => ⟨⟨zE, 0, 0, 51, rfl, .inl ⟨fun hh => hv hh.2, rfl, rfl, rfl, rfl⟩⟩, HB.belK hb k4 (by omega)⟩)
 refine sel_f (by simpa using hv) (hb_ldS h1 (j := 1) rfl ((Way_ok hf.e h.ne (by omega) ve.eid u v).mono ?_))
 rintro _ w4 ⟨hres, g4⟩
 have hb4 := hb.trans (g4.mono hb.size)
 have h34 := h3.below g4
 rcases hres with ⟨A, c, path, rfl, rp, hwk, hnb⟩ | ⟨rfl, hno⟩
 ·have sm := ve.sm u v path hu hwk hnb
  refine ⟨_, _, _, _, rfl, sel_f rfl ((Most_ok rp rfl (by omega)).mono ?_)⟩
  rintro _ w5 ⟨⟨m, rfl, hm⟩, g5⟩
  refine ⟨_, _, _, _, rfl, (Sum_ok (rp.below g5) rfl (by omega) fun e he => (ve.er e (hwk.mem e he)).2.2.2.2.2).mono ?_⟩
  rintro _ _ ⟨rfl, rfl⟩
  refine ⟨_, rfl, int_fl ⟨_, rfl, int_fl3 ⟨_, rfl, ?_⟩⟩⟩
  refine put5 (m := m) (h34.below g5) fun w6 _ k6 => ⟨⟨m, sumW path, path.length, 0, rfl, .inr (.inr ⟨hu, hv, path, hwk, hnb, hm, rfl, rfl, rfl⟩)⟩, HB.belK (hb4.trans (g5.mono hb4.size)) k6 (by omega)⟩
 ·refine ⟨_, _, _, _, rfl, sel_t rfl (z0 h34 fun w5 k5 => ⟨⟨zE, 0, 0, 61, rfl, .inr (.inl ⟨hu, hv, fun ⟨p, hp, _⟩ => hno ⟨p, hp⟩, rfl, rfl, rfl, rfl⟩)⟩, HB.belK hb4 k5 (by omega)⟩)⟩
def ng : List Int → Nat
 | [] => 0
 | y :: l => (if y < 0 then 1 else 0) + ng l
theorem ng_set : ∀ {l : List Int} {b : Nat} {t v : Int}, l[b]? = some t → t < 0 → 0 ≤ v → ng (l.set b v) + 1 = ng l
 | [], _, _, _, h, _, _ => by simp at h
 | y :: l, 0, t, v, h, ht, hv => by
  have h : y = t := by simpa using h
  subst h
  simp only [List.set_cons_zero, ng]
  rw [if_pos ht, if_neg (by omega)]; omega
 | y :: l, b + 1, t, v, h, ht, hv => by
  have := ng_set (l := l) (b := b) (v := v) (by simpa using h) ht hv
  simp only [List.set_cons_succ, ng]
  omega
def Rch (vs d : List Int) (x : Int) : Prop := ∃ (i : Nat) (y : Int), vs[i]? = some x ∧ d[i]? = some y ∧ 0 ≤ y
structure DI (vs : List Int) (es : List E) (u : Int) (d : List Int) : Prop where
 len : d.length = vs.length
 rd : ∀ (i : Nat) (x y : Int), vs[i]? = some x → d[i]? = some y → 0 ≤ y → ∃ p, Wk es u p x ∧ NB p ∧ sumW p = y ∧ ∀ q f, p = q ++ [f] → Rch vs d (oth f x)
 me : Rch vs d u
theorem ix_uniq {vs : List Int} (hn : vs.Nodup) {i j : Nat} {x : Int} (h : vs[i]? = some x) (k : vs[j]? = some x) : i = j := by
 obtain ⟨hi, h⟩ := List.getElem?_eq_some_iff.1 h
 obtain ⟨hj, k⟩ := List.getElem?_eq_some_iff.1 k
 exact nodup_ix hn hi hj (h.trans k.symm)
theorem Rch.set {vs d : List Int} {x : Int} (h : Rch vs d x) {b : Nat} {v : Int} (hv : 0 ≤ v) : Rch vs (d.set b v) x := by
 obtain ⟨i, y, h1, h2, h3⟩ := h
 by_cases e : b = i
 ·subst e
  obtain ⟨hl, _⟩ := List.getElem?_eq_some_iff.1 h2
  exact ⟨b, v, h1, by rw [List.getElem?_set_self hl], hv⟩
 ·exact ⟨i, y, h1, by rw [List.getElem?_set_ne e]; exact h2, h3⟩
section
variable {vs : List Int} {es : List E} {u : Int} {d : List Int}
theorem DI.step (g : VE vs es) (hu : u ∈ vs) (h : DI vs es u d) {e : E} (he : e ∈ es) {x : Int} (hx : e.u = x ∨ e.v = x) {a b : Nat} {y t : Int} (ha : vs[a]? = some x) (hb : vs[b]? = some (oth e x)) (hy : d[a]? = some y) (y0 : 0 ≤ y) (ht : d[b]? = some t) (t0 : t < 0) :
  DI vs es u (d.set b (y + e.w)) ∧ 0 ≤ y + e.w ∧ y + e.w ≤ 2251799813685248 := by
 obtain ⟨p, hp, np, sp, pre⟩ := h.rd a x y ha hy y0
 have w0 := g.hw e he
 have wk : Wk es u (p ++ [e]) (oth e x) := hp.app (.cons he hx (.nil _))
 have nb : NB (p ++ [e]) := NB.app.2 ⟨np, trivial, fun f hf b' hb' hid => by
  have hb' : e = b' := by simpa using hb'
  subst hb'
  obtain ⟨q, hq⟩ := List.getLast?_eq_some_iff.1 hf
  have hfe : f = e := g.hi f (hp.mem f (by rw [hq]; simp)) e he hid
  subst hfe
  obtain ⟨i, y', h1, h2, h3⟩ := pre q f hq
  have := ix_uniq g.vnd h1 hb
  subst this
  rw [ht] at h2; injection h2 with h2; omega⟩
 have sw : sumW (p ++ [e]) = y + e.w := by rw [sumW_app, sp]; simp [sumW]
 have bd := g.sm u _ _ hu wk nb
 rw [sw] at bd
 have v0 : 0 ≤ y + e.w := by omega
 have bl : b < d.length := (List.getElem?_eq_some_iff.1 ht).1
 refine ⟨⟨by rw [List.length_set]; exact h.len, fun i x' y' h1 h2 h3 => ?_, h.me.set v0⟩, v0, bd.2.2.2⟩
 by_cases hib : b = i
 ·subst hib
  rw [hb] at h1; injection h1 with h1; subst h1
  rw [List.getElem?_set_self bl] at h2; injection h2 with h2; subst h2
  refine ⟨_, wk, nb, sw, fun q f hqf => ?_⟩
  have := List.append_inj_right' hqf rfl
  injection this with this
  subst this
  rw [oth_oth hx]
  exact Rch.set ⟨a, y, ha, hy, y0⟩ v0
 ·rw [List.getElem?_set_ne hib] at h2
  obtain ⟨p', hp', np', sp', pre'⟩ := h.rd i x' y' h1 h2 h3
  exact ⟨p', hp', np', sp', fun q f hqf => (pre' q f hqf).set v0⟩
structure DO (vs : List Int) (es : List E) (u : Int) (d : List Int) : Prop where
 len : d.length = vs.length
 ok : ∀ (i : Nat) (x y : Int), vs[i]? = some x → d[i]? = some y → (0 ≤ y → Ja es u x ∧ dS es u x = y) ∧ (Ja es u x → 0 ≤ y)
theorem DI.done (g : VE vs es) (hu : u ∈ vs) (h : DI vs es u d) (hc : ∀ e ∈ es, Rch vs d e.u ↔ Rch vs d e.v) : DO vs es u d := by
 refine ⟨h.len, fun i x y h1 h2 => ⟨fun h3 => ?_, fun ⟨p, hp, np⟩ => ?_⟩⟩
 ·obtain ⟨p, hp, np, sp, _⟩ := h.rd i x y h1 h2 h3
  exact ⟨⟨p, hp, np⟩, by rw [dS_of g hu hp np]; exact sp⟩
 ·obtain ⟨j, y', k1, k2, k3⟩ := hp.inv (Q := Rch vs d) hc h.me
  have := ix_uniq g.vnd k1 h1
  subst this
  rw [h2] at k2; injection k2 with k2; omega
theorem DI.start (g : VE vs es) (hu : u ∈ vs) : DI vs es u (vs.map fun v => if v = u then 0 else -1) := by
 have key : ∀ (i : Nat) (x y : Int), vs[i]? = some x → (vs.map fun v => if v = u then (0 : Int) else -1)[i]? = some y → 0 ≤ y → x = u ∧ y = 0 := fun i x y h1 h2 h3 => by
  rw [List.getElem?_map, h1] at h2
  simp only [Option.map_some, Option.some.injEq] at h2
  split at h2 <;> omega
 refine ⟨by simp, fun i x y h1 h2 h3 => ?_, ?_⟩
 ·obtain ⟨rfl, rfl⟩ := key i x y h1 h2 h3
  exact ⟨[], .nil _, trivial, rfl, fun q f h => absurd h (by simp)⟩
 ·obtain ⟨i, hi, e⟩ := List.getElem_of_mem hu
  exact ⟨i, 0, by rw [List.getElem?_eq_getElem hi, e], by rw [List.getElem?_map, List.getElem?_eq_getElem hi, e]; simp, Int.le_refl _⟩
end
abbrev TJ : TypeId := 2
theorem TJn : ElTy Try.prog 104 2 (.int .i64 0) 8 := ⟨by kernel_rfl, by kernel_rfl⟩
theorem put_j {w : World} {B : Nat} {A : Option Addr} {n c : Nat} {l : List Int} (ho : OwnI w B TJ A c l) (hn : n = l.length) {x : Int} (hB : B ≤ w.heap.size) (hl : l.length ≤ 1000000) {K : Option Addr → Nat → Nat → World → Prop}
  (hK : ∀ A' c' w', OwnI w' B TJ (some A') c' (l ++ [x]) → Keeps (Ob A) w w' → (A = some A' ∨ w.heap.size ≤ A'.block) → K (some A') (l ++ [x]).length c' w') :
  alW w (.cells #[.int .i64 x] TJ) fun b w2 => Runs Try.prog (Builtin.append_ #[104, 104] 104 #[.slice A n c, .slice (some (⟨b, 0, none⟩ : Addr)) 1 1]) w2 fun v w3 => ∃ (A' : Option Addr) (n' : Nat) (c' : Nat), v = (.slice A' n' c') ∧ K A' n' c' w3 := by
 refine al_new fun w2 b e2 s2 h2 g2 => ?_
 have o2 : OwnI w2 B TJ A c l := ho.keeps (S := fun _ => False) (.of_below g2) fun _ _ => id
 subst hn
 have ho2 : OwnW w2 B TJ A c (l.map (.int .i64)) := by
  unfold OwnW; rw [List.length_map]; exact o2
 refine appW_runs TJn rfl ho2 (by simp) h2 rfl (by omega) (by simp; omega) (by simp; omega) fun A' c' w3 o' k' f' => ⟨_, _, _, rfl, ?_⟩
 have e : (l.map (Value.int .i64) ++ [.int .i64 x]) = (l ++ [x]).map (Value.int .i64) := by simp
 rw [e] at o' ⊢
 rw [List.length_map]
 have o3 : OwnI w3 B TJ (some A') c' (l ++ [x]) := by
  unfold OwnW at o'
  unfold OwnI
  rw [List.length_map] at o'; exact o'
 exact hK A' c' w3 o3 ((Keeps.of_below g2).trans (k'.mono fun k _ hk => ob_own hk)) (f'.imp id fun h => by omega)
section
variable {w0 : World} {Av Ae A : Option Addr} {cv ce n c : Nat} {vs : List Int} {es : List E} {u : Int}
theorem Dist_l0 (rv : RI w0 Av vs) (hl : vs.length ≤ 2048) {K0 : Option Addr → Nat → Nat → World → Prop}
  (k0 : ∀ w A' c', OwnI w w0.heap.size TJ A' c' (vs.map fun v => if v = u then 0 else -1) → Below w0.heap.size w0 w → K0 A' vs.length c' w) : ∀ (m i : Nat) (w : World) (A' : Option Addr) (n' c' : Nat), vs.length - i = m → i ≤ vs.length → n' = i → OwnI w w0.heap.size TJ A' c' ((vs.take i).map fun v => if v = u then 0 else -1) → Below w0.heap.size w0 w →
   f_ref06_Distances.l0 (m + 1) Av vs.length cv u A' n' c' (i : Int) w K0 := by
 intro m
 induction m with
 | zero =>
  intro i w A' n' c' hm hi hn ho hb
  have : i = vs.length := by omega
  subst this
  subst hn
  rw [List.take_length] at ho
  unfold f_ref06_Distances.l0
  exact sel_f (by simp) (k0 w A' c' ho hb)
 | succ m ih =>
  intro i w A' n' c' hm hi hn ho hb
  have hlt : i < vs.length := by omega
  have hw : IntKind.i64.wrap ((i : Int) + 1) = ((i + 1 : Nat) : Int) := by rw [w64_in (by omega)]; omega
  obtain ⟨a, rfl, q⟩ := (rv.belw hb) i hlt
  have hll : ((vs.take i).map fun v => if v = u then (0 : Int) else -1).length = i := by simp; omega
  have tk : ∀ x : Int, (if vs[i] = u then 0 else -1) = x → ((vs.take i).map fun v => if v = u then (0 : Int) else -1) ++ [x] = (vs.take (i + 1)).map fun v => if v = u then (0 : Int) else -1 := fun x hx => by
   rw [List.take_succ_eq_append_getElem hlt, List.map_append, List.map_cons, List.map_nil, hx]
  unfold f_ref06_Distances.l0
  refine sel_t (by simpa using hlt) (optB_some rfl (req_intro (by simp; omega) (ldI_intro (x := vs[i]) (by rw [Int.toNat_natCast, Nat.mul_one]; exact q) ?_)))
  have fin : ∀ (x : Int), (if vs[i] = u then 0 else -1) = x → ∀ A2 c2 w2, OwnI w2 w0.heap.size TJ (some A2) c2 (((vs.take i).map fun v => if v = u then (0 : Int) else -1) ++ [x]) → Keeps (Ob A') w w2 → f_ref06_Distances.l0 (m + 1) (some a) vs.length cv u (some A2) ((((vs.take i).map fun v => if v = u then (0 : Int) else -1) ++ [x]).length) c2 (IntKind.i64.wrap ((i : Int) + 1)) w2 K0 := fun x hx A2 c2 w2 o2 k2 => by
   rw [hw]
   rw [tk x hx] at o2 ⊢
   exact ih (i + 1) w2 _ _ c2 (by omega) (by omega) (by simp; omega) o2 (hb.trans (k2.below hb.size fun k hk ⟨a', ha', hh⟩ => by have := (ho.block a' ha').1; omega))
  by_cases e : vs[i] = u
  ·exact sel_t (by simpa using e) (put_j ho (by rw [hll]; exact hn) hb.size (by omega) fun A2 c2 w2 o2 k2 _ => fin 0 (by rw [if_pos e]) A2 c2 w2 o2 k2)
  ·exact sel_f (by simpa using e) (put_j ho (by rw [hll]; exact hn) hb.size (by omega) fun A2 c2 w2 o2 k2 _ => fin (-1) (by rw [if_neg e]) A2 c2 w2 o2 k2)
theorem Dist_j3 {w : World} {B : Nat} {d : List Int} (o : OwnI w B TJ A c d) (hn : n = d.length) {a b : Nat} (ha : a < d.length) (hb : b < d.length) (re : RE w Ae es) {i : Nat} (hi : i < es.length) {bt : Bool} {Kn : Bool → World → Prop}
  (hW : 0 ≤ d[b] → d[a] < 0 → W64 (d[b] + es[i].w))
  (h1 : 0 ≤ d[b] → d[a] < 0 → ∀ w', OwnI w' B TJ A c (d.set a (d[b] + es[i].w)) → Keeps (Ob A) w w' → Kn true w') (h2 : ¬ (0 ≤ d[b] ∧ d[a] < 0) → Kn bt w) :
   f_ref06_Distances.j3 Ae es.length ce A n c bt (i : Int) (a : Int) (b : Int) w Kn := by
 subst hn
 obtain ⟨ad, eA, qb⟩ := o.reads b hb
 obtain ⟨ad', eA', qa⟩ := o.reads a ha
 rw [eA] at eA'; injection eA' with eA'; subst eA'
 obtain ⟨ae, eE, qe⟩ := re i hi
 unfold f_ref06_Distances.j3
 refine optB_some eA (req_intro (by simp; omega) (ldI_intro (x := d[b]) (by rw [Int.toNat_natCast, Nat.mul_one]; exact qb) ?_))
 by_cases c1 : 0 ≤ d[b]
 ·refine sel_t (by simpa using c1) (optB_some eA (req_intro (by simp; omega) (ldI_intro (x := d[a]) (by rw [Int.toNat_natCast, Nat.mul_one]; exact qa) ?_)))
  by_cases c2 : d[a] < 0
  ·refine sel_t (by simpa using c2) (drW_intro ?_)
   have od : OwnI w.drew B TJ A c d := o.keeps (S := fun _ => False) (Keeps.refl _ _).drew fun _ _ => id
   have qb' : w.drew.cell? (ad.add b) = some (.int .i64 d[b]) := qb
   have qe' : w.drew.cell? ((ae.add (i * 4)).add 3) = some (.int .i64 es[i].w) := qe.c3
   refine optB_some eA (req_intro (by simp; omega) (ldI_intro (x := d[b]) (by rw [Int.toNat_natCast, Nat.mul_one]; exact qb') ?_))
   refine optB_some eE (req_intro (by simp; omega) (ldI_intro (x := es[i].w) (by rw [Int.toNat_natCast]; exact qe') ?_))
   rw [w64_in (by have := hW c1 c2; unfold W64 at this; omega)]
   have := od.st ha (v := d[b] + es[i].w) (K := Kn true) fun w' o' k' => h1 c1 c2 w' o' (((Keeps.refl _ _).drew).trans k')
   rw [eA] at this
   refine optB_some eA (req_intro (by simp; omega) ?_)
   rw [Int.toNat_natCast, Nat.mul_one]
   exact this
  ·exact sel_f (by simpa using c2) (h2 fun h => c2 h.2)
 ·exact sel_f (by simpa using c1) (h2 fun h => c1 h.1)
theorem Dist_l2 (rv : RI w0 Av vs) (re : RE w0 Ae es) (g : VE vs es) (hu : u ∈ vs) (hn : n = vs.length) {d0 : List Int} {K4 : Bool → World → Prop}
  (k4 : ∀ bt w d, OwnI w w0.heap.size TJ A c d → DI vs es u d → Below w0.heap.size w0 w → (bt = true → ng d < ng d0) → (bt = false → ∀ e ∈ es, Rch vs d e.u ↔ Rch vs d e.v) → K4 bt w) :
  ∀ (m i : Nat) (w : World) (d : List Int) (bt : Bool), es.length - i = m → i ≤ es.length → OwnI w w0.heap.size TJ A c d → DI vs es u d → Below w0.heap.size w0 w → (bt = true → ng d < ng d0) → (bt = false → ng d = ng d0 ∧ ∀ j (hj : j < es.length), j < i → (Rch vs d es[j].u ↔ Rch vs d es[j].v)) →
   f_ref06_Distances.l2 (m + 1) Av vs.length cv Ae es.length ce A n c bt (i : Int) w K4 := by
 intro m
 induction m with
 | zero =>
  intro i w d bt hm hi ho hd hb h1 h2
  have : i = es.length := by omega
  subst this
  unfold f_ref06_Distances.l2
  refine sel_f (by simp) (k4 bt w d ho hd hb h1 fun hf e he => ?_)
  obtain ⟨j, hj, rfl⟩ := List.getElem_of_mem he
  exact (h2 hf).2 j hj hj
 | succ m ih =>
  intro i w d bt hm hi ho hd hb h1 h2
  have hlt : i < es.length := by omega
  have hw : IntKind.i64.wrap ((i : Int) + 1) = ((i + 1 : Nat) : Int) := by have := g.el; rw [w64_in (by omega)]; omega
  have hbd := hb.drew
  have hvl := g.vl
  have em := List.getElem_mem hlt
  have er := g.er _ em
  obtain ⟨ae, eE, qe⟩ := (re.below hbd) i hlt
  have od : OwnI w.drew w0.heap.size TJ A c d := ho.keeps (S := fun _ => False) (Keeps.refl _ _).drew fun _ _ => id
  have hlen := hd.len
  unfold f_ref06_Distances.l2
  refine sel_t (by simpa using hlt) (drW_intro ⟨fun w' => w' = w.drew, rfl, optB_some eE (req_intro (by simp; omega) ⟨_, fun w' e => by rw [e, Int.toNat_natCast]; exact qe.c1, optB_some eE (req_intro (by simp; omega) ⟨_, fun w' e => by rw [e, Int.toNat_natCast]; exact qe.c2, ?_⟩)⟩)⟩)
  refine (place_ok (rv.belw hbd) rfl (by omega) er.2.2.1).mono ?_
  rintro _ _ ⟨⟨a, ha, ea, rfl⟩, rfl⟩
  refine ⟨_, rfl, rfl, (place_ok (rv.belw hbd) rfl (by omega) er.2.2.2.1).mono ?_⟩
  rintro _ _ ⟨⟨b, hb', eb, rfl⟩, rfl⟩
  refine ⟨_, rfl, ?_⟩
  have had : a < d.length := by omega
  have hbd' : b < d.length := by omega
  have ga : vs[a]? = some es[i].u := by rw [List.getElem?_eq_getElem ha, ea]
  have gb : vs[b]? = some es[i].v := by rw [List.getElem?_eq_getElem hb', eb]
  have da : d[a]? = some d[a] := List.getElem?_eq_getElem had
  have db : d[b]? = some d[b] := List.getElem?_eq_getElem hbd'
  have ou : oth es[i] es[i].u = es[i].v := by unfold oth; rw [if_pos rfl]
  have ov : oth es[i] es[i].v = es[i].u := by unfold oth; rw [if_neg er.2.2.2.2.1]
  have hle : ng d ≤ ng d0 := by
   cases bt with
   | true => have := h1 rfl; omega
   | false => have := (h2 rfl).1; omega
  have changed : ∀ (w' : World) (d' : List Int), OwnI w' w0.heap.size TJ A c d' → DI vs es u d' → ng d' + 1 = ng d → Below w0.heap.size w0 w' → f_ref06_Distances.l2 (m + 1) Av vs.length cv Ae es.length ce A n c true (IntKind.i64.wrap ((i : Int) + 1)) w' K4 := fun w' d' o' di' hng b' => by
   rw [hw]
   exact ih (i + 1) w' d' true (by omega) (by omega) o' di' b' (fun _ => by omega) (fun h => by cases h)
  have same : (Rch vs d es[i].u ↔ Rch vs d es[i].v) → f_ref06_Distances.l2 (m + 1) Av vs.length cv Ae es.length ce A n c bt (IntKind.i64.wrap ((i : Int) + 1)) w.drew K4 := fun hiff => by
   rw [hw]
   refine ih (i + 1) w.drew d bt (by omega) (by omega) od hd hbd h1 fun hf => ⟨(h2 hf).1, fun j hj hji => ?_⟩
   by_cases e : j = i
   ·subst e; exact hiff
   ·exact (h2 hf).2 j hj (by omega)
  have ru : Rch vs d es[i].u ↔ 0 ≤ d[a] := ⟨fun ⟨k, y, k1, k2, k3⟩ => by
   have := ix_uniq g.vnd k1 ga
   subst this
   rw [da] at k2; injection k2 with k2; omega, fun h => ⟨a, _, ga, da, h⟩⟩
  have rv' : Rch vs d es[i].v ↔ 0 ≤ d[b] := ⟨fun ⟨k, y, k1, k2, k3⟩ => by
   have := ix_uniq g.vnd k1 gb
   subst this
   rw [db] at k2; injection k2 with k2; omega, fun h => ⟨b, _, gb, db, h⟩⟩
  have below' : ∀ {w1 w' : World}, Below w0.heap.size w0 w1 → Keeps (Ob A) w1 w' → Below w0.heap.size w0 w' := fun hb1 k => hb1.trans (k.below hb1.size fun k hk ⟨a', ha', hh⟩ => by have := (ho.block a' ha').1; omega)
  have j3 : f_ref06_Distances.j3 Ae es.length ce A n c bt (i : Int) (a : Int) (b : Int) w.drew (fun (b53 : Bool) (w54 : World) => ∀ _ : Go.Dn.Fr, f_ref06_Distances.l2 (m + 1) Av vs.length cv Ae es.length ce A n c b53 (IntKind.i64.wrap ((i : Int) + 1)) w54 K4) ∨ (0 ≤ d[a] ∧ d[b] < 0) := by
   by_cases hx : 0 ≤ d[a] ∧ d[b] < 0
   ·exact .inr hx
   ·left
    have stp := fun (c1 : 0 ≤ d[b]) (c2 : d[a] < 0) => hd.step g hu em (x := es[i].v) (.inr rfl) gb (by rw [ov]; exact ga) db c1 da c2
    refine Dist_j3 od (by omega) had hbd' (re.below hbd) hlt (fun c1 c2 => ?_) (fun c1 c2 w' o' k' _ => ?_) fun hno _ => same ?_
    ·have := stp c1 c2; unfold W64; omega
    ·exact changed w' _ o' (stp c1 c2).1 (ng_set da c2 (stp c1 c2).2.1) (below' hbd k')
    ·rw [ru, rv']; omega
  obtain ⟨ad, eA, qa⟩ := od.reads a had
  obtain ⟨ad', eA', qb⟩ := od.reads b hbd'
  rw [eA] at eA'; injection eA' with eA'; subst eA'
  refine optB_some eA (req_intro (by simp; omega) (ldI_intro (x := d[a]) (by rw [Int.toNat_natCast, Nat.mul_one]; exact qa) ?_))
  by_cases c1 : 0 ≤ d[a]
  ·refine sel_t (by simpa using c1) (optB_some eA (req_intro (by simp; omega) (ldI_intro (x := d[b]) (by rw [Int.toNat_natCast, Nat.mul_one]; exact qb) ?_)))
   by_cases c2 : d[b] < 0
   ·refine sel_t (by simpa using c2) (drW_intro ?_)
    obtain ⟨di', v0, v1⟩ := hd.step g hu em (x := es[i].u) (.inl rfl) ga (by rw [ou]; exact gb) da c1 db c2
    have od2 : OwnI w.drew.drew w0.heap.size TJ A c d := od.keeps (S := fun _ => False) (Keeps.refl _ _).drew fun _ _ => id
    have qa' : w.drew.drew.cell? (ad.add a) = some (.int .i64 d[a]) := qa
    have qe' : w.drew.drew.cell? ((ae.add (i * 4)).add 3) = some (.int .i64 es[i].w) := qe.c3
    refine optB_some eA (req_intro (by simp; omega) (ldI_intro (x := d[a]) (by rw [Int.toNat_natCast, Nat.mul_one]; exact qa') ?_))
    refine optB_some eE (req_intro (by simp; omega) (ldI_intro (x := es[i].w) (by rw [Int.toNat_natCast]; exact qe') ?_))
    rw [w64_in (by omega)]
    have hab : a ≠ b := fun e => by subst e; omega
    have ls : (d.set b (d[a] + es[i].w)).length = d.length := List.length_set
    have := od2.st hbd' (v := d[a] + es[i].w) (K := fun w40 => f_ref06_Distances.j3 Ae es.length ce A n c true (i : Int) (a : Int) (b : Int) w40 (fun (b53 : Bool) (w54 : World) => ∀ _ : Go.Dn.Fr, f_ref06_Distances.l2 (m + 1) Av vs.length cv Ae es.length ce A n c b53 (IntKind.i64.wrap ((i : Int) + 1)) w54 K4)) fun w' o' k' => by
     have b' := below' hbd.drew k'
     have g1 : (d.set b (d[a] + es[i].w))[a]'(by omega) = d[a] := by rw [List.getElem_set_ne (fun e => hab e.symm)]
     refine Dist_j3 o' (by omega) (a := a) (b := b) (by omega) (by omega) (re.below b') hlt (fun k1 k2 => ?_) (fun k1 k2 => ?_) fun _ _ => changed w' _ o' di' (ng_set db c2 v0) b'
     ·rw [g1] at k2; omega
     ·rw [g1] at k2; omega
    rw [eA] at this ⊢
    refine optB_some rfl (req_intro (by simp; omega) ?_)
    rw [Int.toNat_natCast, Nat.mul_one]
    exact this
   ·exact sel_f (by simpa using c2) (j3.resolve_right fun h => c2 h.2)
  ·exact sel_f (by simpa using c1) (j3.resolve_right fun h => c1 h.1)
theorem Dist_l1 (rv : RI w0 Av vs) (re : RE w0 Ae es) (g : VE vs es) (hu : u ∈ vs) (hn : n = vs.length) {K2 : World → Prop}
  (k2 : ∀ w d, OwnI w w0.heap.size TJ A c d → DO vs es u d → Below w0.heap.size w0 w → K2 w) : ∀ (m : Nat) (w : World) (d : List Int), ng d ≤ m → OwnI w w0.heap.size TJ A c d → DI vs es u d → Below w0.heap.size w0 w →
   f_ref06_Distances.l1 (m + 2) Av vs.length cv Ae es.length ce A n c true w K2 := by
 intro m
 induction m with
 | zero =>
  intro w d hm ho hd hb
  unfold f_ref06_Distances.l1
  refine sel_t rfl ⟨es.length + 1, Dist_l2 rv re g hu hn (d0 := d) (fun bt w' d' o' di' b' h1 h2 => ?_) es.length 0 w d false (by omega) (by omega) ho hd hb (fun h => by cases h) (fun _ => ⟨rfl, fun j _ h => by omega⟩)⟩
  intro _
  cases bt with
  | true => have := h1 rfl; omega
  | false =>
   unfold f_ref06_Distances.l1
   exact sel_f rfl (k2 w' d' o' (di'.done g hu (h2 rfl)) b')
 | succ m ih =>
  intro w d hm ho hd hb
  unfold f_ref06_Distances.l1
  refine sel_t rfl ⟨es.length + 1, Dist_l2 rv re g hu hn (d0 := d) (fun bt w' d' o' di' b' h1 h2 => ?_) es.length 0 w d false (by omega) (by omega) ho hd hb (fun h => by cases h) (fun _ => ⟨rfl, fun j _ h => by omega⟩)⟩
  intro _
  cases bt with
  | true => exact ih w' d' (by have := h1 rfl; omega) o' di' b'
  | false =>
   unfold f_ref06_Distances.l1
   exact sel_f rfl (k2 w' d' o' (di'.done g hu (h2 rfl)) b')
end
theorem Dist_ok {w : World} {Av Ae : Option Addr} {nv cv ne ce : Nat} {vs : List Int} {es : List E} (rv : RI w Av vs) (hnv : nv = vs.length) (re : RE w Ae es) (hne : ne = es.length) (g : VE vs es) {u : Int} (hu : u ∈ vs) :
  Calls Try.prog 51 #[.slice Av nv cv, .slice Ae ne ce, .int .i64 u] w fun en w' => ∃ A c d, en = .returned (.slice A vs.length c) ∧ RI w' A d ∧ DO vs es u d ∧ Below w.heap.size w w' := by
 subst hnv; subst hne
 apply f_ref06_Distances.ok
 unfold f_ref06_Distances.wp
 refine alW_intro ?_
 have o1 := OwnI.lit (w := w) (B := w.heap.size) (e := TJ) [] (cs := #[]) rfl (Nat.le_refl _) (by simp)
 have b1 : Below w.heap.size w (w.alloc (.cells #[] TJ)) := (Below.refl _ _).alloc (Nat.le_refl _) _
 generalize w.alloc (.cells #[] TJ) = w1 at o1 b1
 refine ⟨vs.length + 1, Dist_l0 rv g.vl (fun w2 A c o2 b2 => ?_) vs.length 0 w1 _ _ _ (by omega) (by omega) rfl o1 b1⟩
 intro _
 refine ⟨ng (vs.map fun v => if v = u then 0 else -1) + 2, Dist_l1 rv re g hu rfl (fun w3 d o3 do3 b3 => ?_) _ w2 _ (Nat.le_refl _) o2 (DI.start g hu) b2⟩
 intro _
 exact ⟨A, c, d, rfl, o3.reads, do3, b3⟩
theorem ja_of {vs : List Int} {es : List E} (g : VE vs es) {u v : Int} (h : Cn es u v) : Ja es u v := by
 obtain ⟨p, hp⟩ := h
 exact hp.red g.hi
theorem cn_of {es : List E} {u v : Int} (h : Ja es u v) : Cn es u v := by
 obtain ⟨p, hp, _⟩ := h
 exact ⟨p, hp⟩
theorem Sp_l1 {w : World} {A : Option Addr} {n c : Nat} {d : List Int} (r : RI w A d) (hn : n = d.length) (hl : d.length ≤ 2048) {x0 : Int} {K2 : Int → World → Prop}
  (k2 : ∀ x, (x = x0 ∨ ∃ (j : Nat) (hj : j < d.length), x = d[j]) → x0 ≤ x → (∀ (j : Nat) (hj : j < d.length), d[j] ≤ x) → K2 x w) : ∀ (m i : Nat) (x : Int), d.length - i = m → i ≤ d.length → (x = x0 ∨ ∃ (j : Nat) (hj : j < d.length), x = d[j]) → x0 ≤ x → (∀ (j : Nat) (hj : j < d.length), j < i → d[j] ≤ x) →
   f_ref20_Span.l1 (m + 1) x A n c (i : Int) w K2 := by
 subst hn
 intro m
 induction m with
 | zero =>
  intro i x hm hi h1 h2 h3
  have : i = d.length := by omega
  subst this
  unfold f_ref20_Span.l1
  exact sel_f (by simp) (k2 x h1 h2 fun j hj => h3 j hj hj)
 | succ m ih =>
  intro i x hm hi h1 h2 h3
  have hlt : i < d.length := by omega
  have m1 : d.length - (i + 1) = m := by clear h1; omega
  have m2 : i + 1 ≤ d.length := hlt
  have hw : IntKind.i64.wrap ((i : Int) + 1) = ((i + 1 : Nat) : Int) := by rw [w64_in (by omega)]; omega
  obtain ⟨a, rfl, q⟩ := r i hlt
  unfold f_ref20_Span.l1
  refine sel_t (by simpa using hlt) (optB_some rfl (req_intro (by simp; omega) (ldI_intro (x := d[i]) (by rw [Int.toNat_natCast, Nat.mul_one]; exact q) ?_)))
  rw [hw]
  by_cases e : d[i] > x
  ·refine sel_t (by simpa using e) (optB_some rfl (req_intro (by simp; omega) (ldI_intro (x := d[i]) (by rw [Int.toNat_natCast, Nat.mul_one]; exact q) ?_)))
   refine ih (i + 1) _ m1 m2 (.inr ⟨i, hlt, rfl⟩) (by clear h1; omega) fun j hj hji => ?_
   by_cases e2 : j = i
   ·subst e2; exact Int.le_refl _
   ·have := h3 j hj (by clear h1; omega)
    clear h1; omega
  ·refine sel_f (by simpa using e) (ih (i + 1) x m1 m2 h1 h2 fun j hj hji => ?_)
   by_cases e2 : j = i
   ·subst e2; clear h1; omega
   ·exact h3 j hj (by clear h1; omega)
theorem Sp_l0 {wS : World} {s : RS} {vr : List Int} {er : List E} (h : RF wS s vr er) (ve : VE vr er) {b1 : Nat} (h1 : HB wS b1 (rsC s) 31) {A : Option Addr} {n c : Nat} {out : List Int} (r : RI wS A out) (hn : n = out.length) (hl : out.length ≤ 2048) {u : Int} (hm : ∀ v, v ∈ out ↔ Ct vr er u v) {K0 : Int → World → Prop}
  (k0 : ∀ x w, IsSp vr er u x → Below wS.heap.size wS w → K0 x w) : ∀ (m i : Nat) (x : Int) (w : World), out.length - i = m → i ≤ out.length → 0 ≤ x → (∃ a b, Ct vr er u a ∧ Ct vr er u b ∧ dS er a b = x) → (∀ (j : Nat) (hj : j < out.length), j < i → ∀ b, Ct vr er out[j] b → dS er out[j] b ≤ x) → Below wS.heap.size wS w →
   f_ref20_Span.l0 (m + 1) (⟨b1, 0, none⟩ : Addr) A n c x (i : Int) w K0 := by
 subst hn
 intro m
 induction m with
 | zero =>
  intro i x w hmm hi x0 hat hle hb
  have : i = out.length := by omega
  subst this
  unfold f_ref20_Span.l0
  refine sel_f (by simp) (k0 x w ⟨hat, fun y z hy hz => ?_⟩ hb)
  obtain ⟨j, hj, rfl⟩ := List.getElem_of_mem ((hm y).2 hy)
  exact hle j hj hj z ⟨hz.1, hy.2.symm.trans ve hz.2⟩
 | succ m ih =>
  intro i x w hmm hi x0 hat hle hb
  have hlt : i < out.length := by omega
  have m1 : out.length - (i + 1) = m := by clear hat; omega
  have m2 : i + 1 ≤ out.length := hlt
  have hw : IntKind.i64.wrap ((i : Int) + 1) = ((i + 1 : Nat) : Int) := by rw [w64_in (by omega)]; omega
  have hbd := hb.drew
  obtain ⟨a, rfl, q⟩ := (r.belw hbd) i hlt
  have hd := h.belw hbd
  have hv : Ct vr er u out[i] := (hm _).1 (List.getElem_mem hlt)
  unfold f_ref20_Span.l0
  refine sel_t (by simpa using hlt) (drW_intro (hb_ldS0 (h1.below hbd) rfl (hb_ldS (h1.below hbd) (j := 1) rfl (optB_some rfl (req_intro (by simp; omega) (ldI_intro (x := out[i]) (by rw [Int.toNat_natCast, Nat.mul_one]; exact q) ?_))))))
  refine (Dist_ok hd.v h.nv hd.e h.ne ve hv.1).mono ?_
  rintro _ w2 ⟨A2, c2, d, rfl, r2, dd, g2⟩
  have hb2 := hbd.trans (g2.mono hbd.size)
  have hdl := dd.len
  have hvl := ve.vl
  refine ⟨_, _, _, rfl, d.length + 1, Sp_l1 (x0 := x) r2 (by rw [hdl]) (by omega) (fun x' hx' hx1 hx2 => ?_) d.length 0 x (by omega) (by omega) (.inl rfl) (Int.le_refl _) (fun j _ h => by omega)⟩
  intro _
  rw [hw]
  refine ih (i + 1) x' w2 m1 m2 (by clear hat hx'; omega) ?_ (fun j hj hji b hb' => ?_) hb2
  ·rcases hx' with rfl | ⟨j, hj, rfl⟩
   ·exact hat
   ·obtain ⟨j1, j2⟩ := (dd.ok j (vr[j]'(by omega)) d[j] (List.getElem?_eq_getElem (by omega)) (List.getElem?_eq_getElem hj)).1 (by omega)
    exact ⟨out[i], _, hv, ⟨List.getElem_mem (by omega), hv.2.trans ve j1⟩, j2⟩
  ·by_cases e : j = i
   ·subst e
    obtain ⟨k, hk, rfl⟩ := List.getElem_of_mem hb'.1
    have ok := dd.ok k vr[k] (d[k]'(by omega)) (List.getElem?_eq_getElem hk) (List.getElem?_eq_getElem (by omega))
    rw [(ok.1 (ok.2 hb'.2)).2]
    exact hx2 k (by omega)
   ·have := hle j hj (by omega) b hb'; omega
theorem RSpan_ok {w : World} {s : RS} {vr : List Int} {er : List E} (h : RF w s vr er) (ve : VE vr er) {u : Int} (hu : u ∈ vr) :
  Calls Try.prog 29 #[.agg (rsC s), .int .i64 u] w fun en w' => (∃ x, en = .returned (.int .i64 x) ∧ IsSp vr er u x) ∧ Below w.heap.size w w' := by
 apply f_ref20_Span.ok
 unfold f_ref20_Span.wp
 refine al_new fun w1 b1 e1 s1 h1 g1 => ?_
 have h1 : HB w1 b1 (rsC s) 31 := h1
 have hf := h.belw g1
 refine get4 h1 ((Verts_ok hf ve.rg hu).mono ?_)
 rintro _ w2 ⟨A, c, out, rfl, r2, l2, hm, g2⟩
 have hb2 := g1.trans (g2.mono g1.size)
 have cu : Ct vr er u u := ⟨hu, Ja.refl _ _⟩
 refine ⟨_, _, _, rfl, out.length + 1, Sp_l0 (wS := w2) (hf.belw g2) ve (h1.below g2) r2 rfl l2 (fun v => ?_) (fun x w3 hs g3 => ?_) out.length 0 0 w2 (by omega) (by omega) (Int.le_refl _) ⟨u, u, cu, cu, dS_self ve u⟩ (fun j _ h => by omega) (Below.refl _ _)⟩
 ·rw [hm]
  exact ⟨fun h => ⟨h.1, ja_of ve h.2⟩, fun h => ⟨h.1, cn_of h.2⟩⟩
 ·intro _
  exact ⟨⟨x, rfl, hs⟩, hb2.trans (g3.mono hb2.size)⟩
theorem RDistance_ok {w : World} {s : RS} {vr : List Int} {er : List E} (h : RF w s vr er) (ve : VE vr er) {u v : Int} (hu : u ∈ vr) (hj : Ja er u v) :
  Calls Try.prog 30 #[.agg (rsC s), .int .i64 u, .int .i64 v] w fun en w' => en = .returned (.int .i64 (dS er u v)) ∧ Below w.heap.size w w' := by
 apply f_ref20_Distance.ok
 unfold f_ref20_Distance.wp
 refine al_new fun w1 b1 e1 s1 h1 g1 => ?_
 have h1 : HB w1 b1 (rsC s) 31 := h1
 have hf := h.belw g1
 have hel := ve.el
 refine hb_ldS h1 (j := 1) rfl ((Way_ok hf.e h.ne (by omega) ve.eid u v).mono ?_)
 rintro _ w2 ⟨hres, g2⟩
 have hb2 := g1.trans (g2.mono g1.size)
 rcases hres with ⟨A, c, path, rfl, rp, hwk, hnb⟩ | ⟨rfl, hno⟩
 ·have sm := ve.sm u v path hu hwk hnb
  refine ⟨_, _, _, _, rfl, sel_f rfl ((Sum_ok rp rfl (by omega) fun e he => (ve.er e (hwk.mem e he)).2.2.2.2.2).mono ?_)⟩
  rintro _ _ ⟨rfl, rfl⟩
  exact ⟨_, rfl, by rw [dS_of ve hu hwk hnb], hb2⟩
 ·obtain ⟨p, hp, _⟩ := hj
  exact absurd ⟨p, hp⟩ hno
theorem aCode.det {vs : List Int} {es : List E} {u v c d : Int} (h : aCode vs es u v c) (k : aCode vs es u v d) : c = d := by
 unfold aCode at h k
 rcases h with ⟨rfl, h⟩ | ⟨rfl, h1, h2, h⟩ | ⟨rfl, h1, h2, h⟩ <;> rcases k with ⟨rfl, k⟩ | ⟨rfl, k1, k2, k⟩ | ⟨rfl, k1, k2, k⟩ <;> first | rfl | (exfalso; simp_all)
structure TellS (w0 w : World) (F : Nat → Prop) (R : Nat) (st : List Int × List E) (s : RS) (en : Ending) (w' : World) : Prop where
 ex : ∃ F', en = .returned (.bool true) ∧ L3 w0 w' F' R st s st ∧ ∀ b cs t, Lo w0 w F b cs t → Lo w0 w' F' b cs t
theorem tellsS_ok {w0 w : World} {F : Nat → Prop} {R : Nat} {st : List Int × List E} {s : RS} (h : L3 w0 w F R st s st) {u v : Int} (hu : W64 u) (hv : W64 v) :
  Calls Try.prog 11 #[.pointer (some ⟨R, 0, none⟩), .agg (rsC s), .int .i64 u, .int .i64 v] w (TellS w0 w F R st s) := by
 apply f_law20_tells.ok
 unfold f_law20_tells.wp
 refine al_new fun w1 b1 e1 s1 h1 g1 => ?_
 have H1 := h.below g1
 have l1 : Lo w0 w1 F b1 (rsC s) 31 := h.f.new g1 (by omega) h1
 have kk : ∀ b cs t, Lo w0 w F b cs t → Lo w0 w1 F b cs t := fun b cs t hl => hl.below g1
 have ve := h.f.rep.ve
 refine gspan H1.f hu fun w2 x L2 g2 x0 hx => ?_
 have H2 := H1.below g2
 have l1 := l1.below g2
 have kk : ∀ b cs t, Lo w0 w F b cs t → Lo w0 w2 F b cs t := fun b cs t hl => (kk b cs t hl).below g2
 refine gends H2.f hu fun w3 p q L3' g3 pq0 hpq => ?_
 have H3 := H2.below g3
 have l1 := l1.below g3
 have kk : ∀ b cs t, Lo w0 w F b cs t → Lo w0 w3 F b cs t := fun b cs t hl => (kk b cs t hl).below g3
 refine gdist H3.f hu hv fun w4 F4 c L4 k4 u4 hc => ?_
 have H4 : L3 w0 w4 F4 R st s st := H3.call L4 k4 u4 (.refl _) (.refl _)
 have l1 := k4 _ _ _ l1
 have kk : ∀ b cs t, Lo w0 w F b cs t → Lo w0 w4 F4 b cs t := fun b cs t hl => k4 _ _ _ (kk b cs t hl)
 refine get4 l1.hb ((RAlong_ok H4.r ve u v).mono ?_)
 rintro _ w5 ⟨⟨m2, W2, K2, c2, rfl, a2⟩, g5⟩
 refine ⟨m2.id, m2.u, m2.v, m2.w, fb W2, fb K2, c2, rfl, ?_⟩
 have H5 := H4.below g5
 have l1 := l1.below g5
 have kk : ∀ b cs t, Lo w0 w F b cs t → Lo w0 w5 F4 b cs t := fun b cs t hl => (kk b cs t hl).below g5
 refine agg5 fun w6 b20 e20 h20 g6 => ?_
 have H6 := H5.below g6
 have l1 := l1.below g6
 have kk : ∀ b cs t, Lo w0 w F b cs t → Lo w0 w6 F4 b cs t := fun b cs t hl => (kk b cs t hl).below g6
 have i53 := a2.in53 ve
 refine hb_ldC h20 (j := 4) rfl (fl_int i53.1 ⟨_, rfl, ?_⟩)
 have eW : W2 = dS st.2 u v := ve.along0 a2
 have eC : c = c2 := hc.det a2.code
 subst eW; subst eC
 refine sel_f (by simp) (sel_f (by simp) ?_)
 have hvl := H6.r.vl
 refine hb_ldS0 l1.hb rfl ((Has_ok H6.r.v H6.r.nv (by omega) u).mono ?_)
 rintro _ _ ⟨rfl, rfl⟩
 refine ⟨_, rfl, ?_⟩
 by_cases mu : u ∈ st.1
 case neg =>
  obtain ⟨rfl, rfl⟩ := pq0 mu
  have := x0 mu
  subst this
  rw [if_neg mu]
  exact sel_t (by simpa using mu) (sel_t rfl (sel_t rfl (sel_t rfl (sel_t rfl ⟨F4, rfl, H6, kk⟩))))
 obtain ⟨cp, cq, spq, _⟩ := hpq mu
 have sx := hx mu
 refine sel_f (by simpa using mu) (get4 l1.hb ((Verts_ok H6.r ve.rg mu).mono ?_))
 rintro _ w7 ⟨A, co, out, rfl, r7, l7, hm, g7⟩
 have H7 := H6.below g7
 have l1 := l1.below g7
 have kk : ∀ b cs t, Lo w0 w F b cs t → Lo w0 w7 F4 b cs t := fun b cs t hl => (kk b cs t hl).below g7
 rw [if_pos mu]
 refine ⟨_, _, _, rfl, sel_t rfl (sel_t rfl (get4 l1.hb ((RSpan_ok H7.r ve mu).mono ?_)))⟩
 rintro _ w8 ⟨⟨x', rfl, sx'⟩, g8⟩
 have ex := sx'.uniq sx
 subst ex
 have H8 := H7.below g8
 have l1 := l1.below g8
 have kk : ∀ b cs t, Lo w0 w F b cs t → Lo w0 w8 F4 b cs t := fun b cs t hl => (kk b cs t hl).below g8
 have r8 := r7.belw g8
 have mp : p ∈ out := (hm p).2 ⟨cp.1, cn_of cp.2⟩
 have mq : q ∈ out := (hm q).2 ⟨cq.1, cn_of cq.2⟩
 have mu' : u ∈ out := (hm u).2 ⟨mu, Cn.refl _ _⟩
 refine ⟨_, rfl, sel_t (by simp) ((Has_ok r8 rfl (by omega) p).mono ?_)⟩
 rintro _ _ ⟨rfl, rfl⟩
 refine ⟨_, rfl, sel_t (by simpa using mp) ((Has_ok r8 rfl (by omega) q).mono ?_)⟩
 rintro _ _ ⟨rfl, rfl⟩
 refine ⟨_, rfl, sel_t (by simpa using mq) (get4 l1.hb ((RDistance_ok H8.r ve cp.1 (cp.2.symm.trans ve cq.2)).mono ?_))⟩
 rintro _ w9 ⟨rfl, g9⟩
 have H9 := H8.below g9
 have kk : ∀ b cs t, Lo w0 w F b cs t → Lo w0 w9 F4 b cs t := fun b cs t hl => (kk b cs t hl).below g9
 have e9 : dS st.2 p q = x' := spq.uniq sx'
 refine ⟨_, rfl, sel_t (by simpa using e9) ?_⟩
 by_cases h1 : 1 < out.length
 ·exact sel_t (by simp; omega) ⟨F4, rfl, H9, kk⟩
 ·have one : ∀ z, z ∈ out → z = u := fun z hz => by
   match out, h1, hz, mu' with
   | [y], _, hz, hu' =>
    rw [List.mem_singleton] at hz hu'
    rw [hz, hu']
   | y :: y' :: l, h1, _, _ => exact absurd (by simp) h1
  have ep := one p mp
  have eq_ := one q mq
  refine sel_f (by simp; omega) (sel_t (by simpa using ep) ⟨F4, ?_, H9, kk⟩)
  rw [eq_]; simp
theorem L3.put {w0 w w' : World} {F : Nat → Prop} {R b : Nat} {st : List Int × List E} {s : RS} (h : L3 w0 w F R st s st) (k : Keeps (fun k => k = b) w w') (nF : ¬ F b) (nr : ∀ k, Rb s k → k ≠ b) (lo : w0.heap.size ≤ b) : L3 w0 w' F R st s st :=
 ⟨⟨h.f.rep.other k fun k e hf => nF (e ▸ hf), h.f.lo, h.f.bel.trans (k.below h.f.bel.size fun i hi e => by omega)⟩, h.r.keeps k fun k hk => nr k hk, h.d⟩
theorem SpPlays_l0 {w0 : World} {R b7 : Nat} {A : Option Addr} {c : Nat} {l : List (Int × E)} (hr : RO w0 A l) (hle : l.length ≤ 9223372036854775807) (hok : ∀ o ∈ l, OpW o) {K0 : World → Prop} {Kr : Bool → World → Prop}
  (k0 : ∀ w F s st, L3 w0 w F R st s st → Lo w0 w F b7 (rsC s) 31 → K0 w) : ∀ (m i : Nat) (w : World) (F : Nat → Prop) (s : RS) (st : List Int × List E), l.length - i = m → i ≤ l.length → L3 w0 w F R st s st → Lo w0 w F b7 (rsC s) 31 → (∀ k, Rb s k → k ≠ b7) →
   f_law20_SpanPlays.l0 (m + 1) (some ⟨R, 0, none⟩) (⟨b7, 0, none⟩ : Addr) A l.length c (l.length : Int) (i : Int) w K0 Kr := by
 intro m
 induction m with
 | zero =>
  intro i w F s st hm hi H l7 hrb
  have : i = l.length := by omega
  subst this
  unfold f_law20_SpanPlays.l0
  exact sel_f (by simp) (k0 w F s st H l7)
 | succ m ih =>
  intro i w F s st hm hi H l7 hrb
  have hlt : i < l.length := by omega
  obtain ⟨a, rfl, q⟩ := (hr.belw H.f.bel) i hlt
  have ho := hok _ (List.getElem_mem hlt)
  have hw : IntKind.i64.wrap ((i : Int) + 1) = ((i + 1 : Nat) : Int) := by rw [w64_in (by omega)]; omega
  have ve := H.f.rep.ve
  unfold f_law20_SpanPlays.l0
  refine sel_t (by simpa using hlt) (optB_some rfl (req_intro (by simp; omega) (rowO q ?_)))
  generalize l[i] = o at ho
  refine op5S (o := o) fun w2 b2 e2 h2 g2 => ?_
  have H2 := H.below g2
  have l7 := l7.below g2
  have l2 : Lo w0 w2 F b2 (oC o) 35 := H.f.new g2 e2 h2
  have n72 : b7 ≠ b2 := by have := l7.hb.lt; have := hrb; intro e; subst e; have := l7.hb.symm.trans h2; revert this; simp [rsC, oC]
  refine get4 l7.hb (hb_ldI0 l2.hb rfl (hb_ldI l2.hb (j := 1) rfl (hb_ldI l2.hb (j := 2) rfl (hb_ldI l2.hb (j := 3) rfl (hb_ldI l2.hb (j := 4) rfl ?_)))))
  refine (doesS_ok H2 ve.rg (by have := ve.el; omega) ho).mono ?_
  rintro _ w3 ⟨F', s', rfl, H3, k3, sb3⟩
  refine ⟨_, _, _, _, _, _, _, _, _, _, _, _, _, rfl, ?_⟩
  have l7b := l7.hb.lt
  have l7 := k3 _ _ _ l7
  have l2 := k3 _ _ _ l2
  have hrb' : ∀ k, Rb s' k → k ≠ b7 := fun k hk e => by
   rcases sb3.b k hk with h8 | h8
   ·exact hrb k h8 e
   ·omega
  refine pass4 s' fun w4 g4 => ?_
  have H4 := H3.below g4
  have l7 := l7.below g4
  have l2 := l2.below g4
  refine put4 l7.hb rfl s' fun w5 h75 k5 => ?_
  have H5 := H4.put k5 l7.nF hrb' l7.lo
  have l7 : Lo w0 w5 F' b7 (rsC s') 31 := ⟨h75, l7.nF, l7.lo⟩
  have l2 : Lo w0 w5 F' b2 (oC o) 35 := ⟨l2.hb.keeps k5 fun e => n72 e.symm, l2.nF, l2.lo⟩
  refine glen H5.f fun w6 _ g6 => ?_
  have H6 := H5.below g6
  have l7 := l7.below g6
  have l2 := l2.below g6
  have hnv := H6.r.nv
  have hne := H6.r.ne
  refine sel_f (by simp) (hb_ldS0 l7.hb rfl (sel_f (by simp [hnv]) (hb_ldS l7.hb (j := 1) rfl (sel_f (by simp [hne]) ?_))))
  refine get4 l7.hb (hb_ldI2 l2.hb (i := 1) (j := 1) rfl (hb_ldI2 l2.hb (i := 1) (j := 2) rfl ((tellsS_ok H6 ho.u ho.v).mono ?_)))
  rintro _ w7 ⟨F7, rfl, H7, k7⟩
  refine ⟨_, rfl, sel_f rfl ?_⟩
  rw [hw]
  exact ih (i + 1) w7 F7 s' (stp st o) (by omega) (by omega) H7 (k7 _ _ _ l7) hrb'
theorem SpPlays_l1 {w0 : World} {R b7 : Nat} {s : RS} {st : List Int × List E} {K2 : World → Prop} {Kr : Bool → World → Prop}
  (k2 : ∀ w, Below w0.heap.size w0 w → K2 w) : ∀ (m i : Nat) (w : World) (F : Nat → Prop), st.1.length - i = m → i ≤ st.1.length → L3 w0 w F R st s st → Lo w0 w F b7 (rsC s) 31 →
   f_law20_SpanPlays.l1 (m + 1) (some ⟨R, 0, none⟩) (⟨b7, 0, none⟩ : Addr) s.A0 s.n0 s.c0 (s.n0 : Int) (i : Int) w K2 Kr := by
 intro m
 induction m with
 | zero =>
  intro i w F hm hi H l7
  have : i = st.1.length := by omega
  subst this
  have hn := H.r.nv
  unfold f_law20_SpanPlays.l1
  exact sel_f (by simp [hn]) (k2 w H.f.bel)
 | succ m ih =>
  intro i w F hm hi H l7
  have hlt : i < st.1.length := by omega
  have hn := H.r.nv
  have hvl := H.r.vl
  have vr := H.f.rep.ve.vr
  have hw : IntKind.i64.wrap ((i : Int) + 1) = ((i + 1 : Nat) : Int) := by rw [w64_in (by omega)]; omega
  obtain ⟨a, hA, q⟩ := H.r.v i hlt
  have w64 : ∀ j (hj : j < st.1.length), W64 st.1[j] := fun j hj => by have := vr _ (List.getElem_mem hj); unfold W64; omega
  have Hd : L3 w0 w.drew F R st s st := H.below (Below.refl _ _).drew
  have ld : Lo w0 w.drew F b7 (rsC s) 31 := l7.below (Below.refl _ _).drew
  obtain ⟨a0, hA0, q0⟩ := Hd.r.v 0 (by omega)
  unfold f_law20_SpanPlays.l1
  refine sel_t (by simp [hn]; omega) (optB_some hA (req_intro (by simp [hn]; omega) (ldI_intro (x := st.1[i]) (by rw [Int.toNat_natCast, Nat.mul_one]; exact q) (drW_intro ?_))))
  by_cases h12 : i < 12
  ·refine sel_t (by simp; omega) (get4 ld.hb (hb_ldS0 ld.hb rfl (optB_some hA0 (req_intro (by simp [hn]; omega) (ldI_intro (x := st.1[0]) (by simpa using q0) ?_)))))
   refine (tellsS_ok Hd (w64 i hlt) (w64 0 (by omega))).mono ?_
   rintro _ w2 ⟨F2, rfl, H2, k2'⟩
   refine ⟨_, rfl, sel_f rfl ?_⟩
   rw [hw]
   exact ih (i + 1) w2 F2 (by omega) (by omega) H2 (k2' _ _ _ ld)
  ·refine sel_f (by simp; omega) ?_
   rw [hw]
   exact ih (i + 1) _ F (by omega) (by omega) Hd ld
theorem SpanPlays_walk {w : World} {As : Option Addr} {ns cs : Nat} {sl : List Int} (hsd : Sds w As ns cs sl) {A : Option Addr} {n c : Nat} {l : List (Int × E)} (hs : Scr w A n l) :
  Calls Try.prog 3 #[.slice As ns cs, .slice A n c] w fun en w' => en = .returned (.bool true) ∧ Below w.heap.size w w' := by
 obtain ⟨hr, rfl, hle, hok⟩ := hs
 apply f_law20_SpanPlays.ok
 unfold f_law20_SpanPlays.wp
 refine gnew (Below.refl _ w) hsd fun w1 F R h1 _ _ => sel_f rfl (alive_stS fun w2 g2 => sel_f rfl ?_)
 have h2 := h1.below g2
 refine al_new fun w3 b7 e7 s7 h7 g3 => put4 h7 rfl s0 fun w4 h74 k4 => ?_
 have h3 := h2.below g3
 have l7 : Lo w w3 F b7 #[.slice none 0 0, .slice none 0 0, .slice none 0 0, .slice none 0 0] 31 := h2.new g3 (by omega) h7
 have nr : ∀ k, Rb s0 k → k ≠ b7 := fun k hk => hk.elim (fun ⟨_, h, _⟩ => by cases h) (fun ⟨_, h, _⟩ => by cases h)
 have H3 : L3 w w3 F R ([], []) s0 ([], []) := ⟨h3, RF.zero w3, fun k hk => hk.elim (fun ⟨_, h, _⟩ => by cases h) (fun ⟨_, h, _⟩ => by cases h)⟩
 have H4 := H3.put k4 l7.nF nr l7.lo
 have l74 : Lo w w4 F b7 (rsC s0) 31 := ⟨h74, l7.nF, l7.lo⟩
 refine ⟨l.length + 1, SpPlays_l0 hr hle hok (fun w5 F5 s5 st5 H5 l75 => ?_) l.length 0 w4 F s0 ([], []) (by omega) (by omega) H4 l74 nr⟩
 intro _
 refine hb_ldS0 l75.hb rfl ⟨st5.1.length + 1, SpPlays_l1 (fun w6 g6 => ?_) st5.1.length 0 w5 F5 (by omega) (by omega) H5 l75⟩
 intro _
 exact ⟨rfl, g6⟩
theorem SpanPlays_row {w : World} {A0 A1 : Option Addr} {n0 c0 n1 c1 : Nat} {zs : List Int} {f : Nat → Nat → Int} (h0 : IsRow .i64 w A0 n0 c0 zs) (s0 : n0 * 8 ≤ 140737488351232) (h1 : IsRecs ks5 w A1 n1 c1 f) (s1 : n1 * 40 ≤ 140737488351232) :
  Calls Try.prog 3 #[.slice A0 n0 c0, .slice A1 n1 c1] w fun e w' => e = .returned (.bool true) ∧ Below w.heap.size w w' := by
 obtain ⟨sl, hs⟩ := sds_of h0 s0
 exact SpanPlays_walk hs (scr_of h1)
end Go.Proofs.Ytklnlnjgaadjbaa.Rd
