/- What holds of a forest of closed walks, in plain terms: its vertices, edges, marks against its maps and rows; a vertex and an edge that come and go. Conditions: none. -/
import Derived.Test.YtkkobfajahmfaaaEuN
namespace Go.Proofs.Ytkkobfajahmfaaa.Rd
open Go.Dn Go.RowKit
set_option linter.unusedVariables false
set_option maxRecDepth 100000
def one1 (x : Nat) : List Nat := [x]
structure Fr (rows : List (List Nat)) (n : Nat) (sp : List Nat) (T : List (List Nat)) (K : Nat → Prop) : Prop where
  rw : rows.Perm (sp.map one1 ++ T)
  spn : sp.Nodup
  spd : ∀ x ∈ sp, ¬ K x
  kn : ∀ x, K x → x < n
theorem Fr.make {rows rows' : List (List Nat)} {n n' : Nat} {sp sp' : List Nat} {T : List (List Nat)} {K : Nat → Prop} {x : Nat} (f : Fr rows n sp T K) (rok : RowsOk n rows) (hp : 0 < n) (it : (sp = sp' ++ [x] ∧ rows' = rows ∧ n' = n) ∨ (sp = [] ∧ sp' = [] ∧ x = n ∧ rows' = rows ++ [[x]] ∧ n' = n + 1)) :
    Fr rows' n' sp' ([x] :: T) (fun y => K y ∨ y = x) ∧ ¬ K x ∧ 0 < x ∧ x < n' ∧ n ≤ n' ∧ n' + sp.length = n + sp'.length + 1 ∧ (n' = n ∨ (sp' = [] ∧ n' = n + 1)) ∧ (∀ y ∈ sp', y ∈ sp) := by
  rcases it with ⟨rfl, rfl, rfl⟩ | ⟨rfl, rfl, rfl, rfl, rfl⟩
  · have hx : [x] ∈ rows' := f.rw.mem_iff.2 (by simp [one1])
    have hr := (rok.mem x).1 ⟨_, hx, by simp⟩
    have nd := f.spn
    rw [List.nodup_append] at nd
    refine ⟨⟨?_, nd.1, ?_, ?_⟩, f.spd x (by simp), hr.1, hr.2, Nat.le_refl _, by simp; omega, .inl rfl, fun y hy => by simp [hy]⟩
    · have := f.rw
      rw [List.map_append] at this
      simpa [one1] using this
    · intro y hy hk
      rcases hk with hk | rfl
      · exact f.spd y (by simp [hy]) hk
      · exact nd.2.2 y hy y (by simp) rfl
    · rintro y (hy | rfl)
      · exact f.kn y hy
      · exact hr.2
  · refine ⟨⟨?_, by simp, by simp, ?_⟩, fun hk => ?_, hp, by omega, by omega, by simp, .inr ⟨rfl, rfl⟩, by simp⟩
    · have := f.rw
      simp only [List.map_nil, List.nil_append] at this ⊢
      exact (List.perm_append_comm (l₁ := rows)).trans (this.cons _)
    · rintro y (hy | rfl)
      · have := f.kn y hy; omega
      · omega
    · have := f.kn _ hk; omega
def plOf : Pl → Bool × Int
  | .v i => (false, i)
  | .t i => (true, i)
  | .b i => (true, i)
def bitI (b : Bool) : Int := if b = true then 1 else 0
def Kn (vs : List Int) (es : List E) (nm : Pl → Nat) (x : Nat) : Prop := ∃ p, okP vs es p ∧ x = nm p
structure FI (rows : List (List Nat)) (V : Nat → Int × Int × Int) (n : Nat) (vl : List (Int × Nat)) (el : List (Int × (Nat × Nat))) (wl : List (Nat × (Bool × Int))) (sp : List Nat) (T : List (List Nat)) (vs : List Int) (es : List E) (kv ke : Int → Bool) (nm : Pl → Nat) : Prop where
  N : Nm vs es nm
  vss : vs.Pairwise (· < ·)
  ess : (es.map E.id).Pairwise (· < ·)
  vr : ∀ v ∈ vs, ¬ badI v
  er : ∀ e ∈ es, ¬ badI e.id
  vlen : vs.length ≤ 2048
  lv : ∀ i, lk vl i = if i ∈ vs then some (nm (.v i)) else none
  vln : vl.length = vs.length
  le : ∀ i, lk el i = if i ∈ es.map E.id then some (nm (.t i), nm (.b i)) else none
  lw : ∀ p, okP vs es p → lk wl (nm p) = some (plOf p)
  lz : lk wl 0 = none
  fr : Fr rows n sp T (Kn vs es nm)
  pos : ∀ p, okP vs es p → 0 < nm p
  tt : ∀ l ∈ T, Tour vs es nm l
  tc : T.length + es.length = vs.length
  cn : n = 1 + vs.length + 2 * es.length + sp.length
  nb : n ≤ 6145
  mkV : ∀ v ∈ vs, V (nm (.v v)) = (1, bitI (kv v), 0)
  mkE : ∀ e ∈ es, V (nm (.t e.id)) = (0, 0, bitI (ke e.id)) ∧ V (nm (.b e.id)) = (0, 0, 0)
  mb : ∀ x, (0 ≤ (V x).1 ∧ (V x).1 ≤ 1) ∧ (0 ≤ (V x).2.1 ∧ (V x).2.1 ≤ 1) ∧ 0 ≤ (V x).2.2 ∧ (V x).2.2 ≤ 1
section
variable {rows : List (List Nat)} {V : Nat → Int × Int × Int} {n : Nat} {vl : List (Int × Nat)} {el : List (Int × (Nat × Nat))} {wl : List (Nat × (Bool × Int))} {sp : List Nat} {T : List (List Nat)} {vs : List Int} {es : List E} {kv ke : Int → Bool} {nm : Pl → Nat}
/-- a place's row is a tour -/
theorem FI.row (f : FI rows V n vl el wl sp T vs es kv ke nm) (rok : RowsOk n rows) {p : Pl} (hp : okP vs es p) : rowOf rows (nm p) ∈ T ∧ nm p ∈ rowOf rows (nm p) ∧ Tour vs es nm (rowOf rows (nm p)) := by
  have hk : Kn vs es nm (nm p) := ⟨p, hp, rfl⟩
  obtain ⟨h1, h2⟩ := rok.rowOf_mem ⟨f.pos p hp, f.fr.kn _ hk⟩
  have h3 := f.fr.rw.mem_iff.1 h1
  rw [List.mem_append, List.mem_map] at h3
  rcases h3 with ⟨x, hx, e⟩ | h3
  · rw [← e] at h2
    simp only [one1, List.mem_singleton] at h2
    exact absurd (h2 ▸ hk) (f.fr.spd x hx)
  · exact ⟨h3, h2, f.tt _ h3⟩
theorem FI.inT (f : FI rows V n vl el wl sp T vs es kv ke nm) {l : List Nat} (hl : l ∈ T) : l ∈ rows := f.fr.rw.mem_iff.2 (by simp [hl])
theorem FI.ends (f : FI rows V n vl el wl sp T vs es kv ke nm) (rok : RowsOk n rows) {e : E} (he : e ∈ es) : rowOf rows (nm (.v e.u)) = rowOf rows (nm (.t e.id)) ∧ rowOf rows (nm (.v e.v)) = rowOf rows (nm (.t e.id)) ∧ rowOf rows (nm (.b e.id)) = rowOf rows (nm (.t e.id)) := by
  obtain ⟨h1, h2, h3⟩ := f.row rok (okT he)
  obtain ⟨_, c2, c3, c4⟩ := h3.closed f.N he (.inl h2)
  have hm := f.inT h1
  exact ⟨rok.rowOf_eq hm c3, rok.rowOf_eq hm c4, rok.rowOf_eq hm c2⟩
theorem FI.same (f : FI rows V n vl el wl sp T vs es kv ke nm) (rok : RowsOk n rows) {u v : Int} (hu : u ∈ vs) (hv : v ∈ vs) : rowOf rows (nm (.v u)) = rowOf rows (nm (.v v)) ↔ Cn es u v := by
  constructor
  · intro e
    obtain ⟨h1, h2, h3⟩ := f.row rok (okV (es := es) hu)
    obtain ⟨k1, k2, k3⟩ := f.row rok (okV (es := es) hv)
    rw [← e] at k2
    exact h3.conn f.N hu hv h2 k2
  · rintro ⟨p, hp⟩
    exact (hp.inv (Q := fun x => rowOf rows (nm (.v u)) = rowOf rows (nm (.v x))) (fun e he => by rw [(f.ends rok he).1, (f.ends rok he).2.1])) rfl
theorem FI.edge (f : FI rows V n vl el wl sp T vs es kv ke nm) (rok : RowsOk n rows) {u : Int} (hu : u ∈ vs) {e : E} (he : e ∈ es) : nm (.t e.id) ∈ rowOf rows (nm (.v u)) ↔ Cn es u e.u := by
  obtain ⟨h1, h2, h3⟩ := f.row rok (okT he)
  obtain ⟨k1, k2, k3⟩ := f.row rok (okV (es := es) hu)
  rw [← f.same rok hu (f.N.ends e he).1, (f.ends rok he).1]
  constructor
  · intro h; exact (rok.rowOf_eq (f.inT k1) h).symm
  · intro h; rw [h]; exact h2
theorem FI.le_vs (f : FI rows V n vl el wl sp T vs es kv ke nm) : es.length ≤ vs.length := by have := f.tc; omega
/-! ### a vertex comes -/
open Classical in
noncomputable def setN (nm : Pl → Nat) (p : Pl) (x : Nat) : Pl → Nat := fun q => if q = p then x else nm q
theorem setN_same (nm : Pl → Nat) (p : Pl) (x : Nat) : setN nm p x p = x := by simp [setN]
theorem setN_ne {nm : Pl → Nat} {p q : Pl} (x : Nat) (h : q ≠ p) : setN nm p x q = nm q := by simp [setN, h]
theorem wiI_mem {l : List Int} {x y : Int} : y ∈ wiI l x ↔ y = x ∨ y ∈ l := by rw [(wiI_perm l x).mem_iff, List.mem_cons]
theorem wiI_sorted {l : List Int} {x : Int} (h : l.Pairwise (· < ·)) (hx : x ∉ l) : (wiI l x).Pairwise (· < ·) := by
  induction l with
  | nil => simp [wiI]
  | cons y l ih =>
    rw [List.pairwise_cons] at h
    rw [wiI_cons]
    split
    · rename_i hlt
      rw [List.pairwise_cons, List.pairwise_cons]
      exact ⟨fun z hz => by rcases List.mem_cons.1 hz with rfl | hz; exact hlt; have := h.1 z hz; omega, h⟩
    · rename_i hge
      have hne : x ≠ y := fun e => hx (by simp [e])
      rw [List.pairwise_cons]
      refine ⟨fun z hz => ?_, ih h.2 fun hh => hx (by simp [hh])⟩
      rcases wiI_mem.1 hz with rfl | hz
      · omega
      · exact h.1 z hz
theorem woI_mem {l : List Int} {x y : Int} : y ∈ woI l x ↔ y ∈ l ∧ y ≠ x := by simp [woI]
theorem woI_sorted {l : List Int} (x : Int) (h : l.Pairwise (· < ·)) : (woI l x).Pairwise (· < ·) := h.filter _
theorem sorted_nodup {l : List Int} (h : l.Pairwise (· < ·)) : l.Nodup := h.imp fun h => by omega
theorem woI_len {l : List Int} {x : Int} (h : l.Nodup) (hx : x ∈ l) : (woI l x).length + 1 = l.length := by
  induction l with
  | nil => cases hx
  | cons y l ih =>
    rw [List.nodup_cons] at h
    by_cases e : y = x
    · subst e
      have : woI (y :: l) y = l := by
        unfold woI
        rw [List.filter_cons_of_neg (by simp), List.filter_eq_self]
        intro z hz
        have : z ≠ y := fun e => h.1 (e ▸ hz)
        simpa using this
      rw [this]; rfl
    · have hm : x ∈ l := by rcases List.mem_cons.1 hx with e' | h'; exact absurd e'.symm e; exact h'
      have : woI (y :: l) x = y :: woI l x := by unfold woI; rw [List.filter_cons_of_pos (by simpa using e)]
      rw [this, List.length_cons, ih h.2 hm]; rfl
theorem lk_notmem {κ β : Type} [DecidableEq κ] {m : List (κ × β)} {x : κ} (h : lk m x = none) : hasK m x = false := by
  rw [Bool.eq_false_iff]
  intro hh
  obtain ⟨v, hv⟩ := hasK_iff.1 hh
  exact lk_none_iff.1 h _ hv rfl
theorem FI.addV (f : FI rows V n vl el wl sp T vs es kv ke nm) (rok : RowsOk n rows) (hpos : 0 < n) {v : Int} (hb : ¬ badI v) (hv : v ∉ vs) (hl : vs.length < 2048) {x n' : Nat} {sp' : List Nat} {rows' : List (List Nat)}
    (it : (sp = sp' ++ [x] ∧ rows' = rows ∧ n' = n) ∨ (sp = [] ∧ sp' = [] ∧ x = n ∧ rows' = rows ++ [[x]] ∧ n' = n + 1)) :
    FI rows' (fun i => if i = x then (1, 0, 0) else V i) n' (putK vl v x) el (putK wl x (false, v)) sp' ([x] :: T) (wiI vs v) es (fun i => if i = v then false else kv i) ke (setN nm (.v v) x) := by
  obtain ⟨fr, nk, x0, xn, nn, cnt, cnb, sub⟩ := f.fr.make rok hpos it
  have ok' : ∀ {q}, okP (wiI vs v) es q → q = .v v ∨ (okP vs es q ∧ q ≠ .v v) := by
    intro q hq
    cases q with
    | v i =>
      rcases wiI_mem.1 hq with rfl | h
      · exact .inl rfl
      · exact .inr ⟨h, fun e => by injection e with e; exact hv (e ▸ h)⟩
    | t i => exact .inr ⟨hq, fun e => by cases e⟩
    | b i => exact .inr ⟨hq, fun e => by cases e⟩
  have nv : ∀ {i}, i ∈ vs → Pl.v i ≠ .v v := fun hi e => by injection e with e; exact hv (e ▸ hi)
  have nx : ∀ {p}, okP vs es p → nm p ≠ x := fun {p} hp e => nk ⟨p, hp, e.symm⟩
  have N' : Nm (wiI vs v) es (setN nm (.v v) x) := by
    refine ⟨fun p q hp hq e => ?_, f.N.ids, fun e he => ⟨wiI_mem.2 (.inr (f.N.ends e he).1), wiI_mem.2 (.inr (f.N.ends e he).2)⟩⟩
    rcases ok' hp with rfl | ⟨hp, np⟩ <;> rcases ok' hq with rfl | ⟨hq, nq⟩
    · rfl
    · rw [setN_same, setN_ne _ nq] at e; exact absurd e.symm (nx hq)
    · rw [setN_same, setN_ne _ np] at e; exact absurd e (nx hp)
    · rw [setN_ne _ np, setN_ne _ nq] at e; exact f.N.inj _ _ hp hq e
  have lvv : lk vl v = none := by rw [f.lv, if_neg hv]
  have lwl : (wiI vs v).length = vs.length + 1 := by have := (wiI_perm vs v).length_eq; simpa using this
  have hes := f.le_vs
  refine ⟨N', wiI_sorted f.vss hv, f.ess, ?_, f.er, by omega, ?_, ?_, ?_, ?_, ?_, ⟨fr.rw, fr.spn, ?_, ?_⟩, ?_, ?_, ?_, ?_, ?_, ?_, ?_, ?_⟩
  · intro u hu
    rcases wiI_mem.1 hu with rfl | hu
    · exact hb
    · exact f.vr u hu
  · intro i
    rw [lk_putK]
    by_cases e : v = i
    · subst e; rw [if_pos rfl, if_pos (wiI_mem.2 (.inl rfl)), setN_same]
    · rw [if_neg e, f.lv]
      by_cases hi : i ∈ vs
      · rw [if_pos hi, if_pos (wiI_mem.2 (.inr hi)), setN_ne _ (nv hi)]
      · rw [if_neg hi, if_neg fun hh => by rcases wiI_mem.1 hh with h | h; exact e h.symm; exact hi h]
  · rw [length_putK, lk_notmem lvv, lwl]; simp [f.vln]
  · intro i
    rw [f.le, setN_ne _ (fun e => by cases e), setN_ne _ (fun e => by cases e)]
  · intro p hp
    rcases ok' hp with rfl | ⟨hp, np⟩
    · rw [setN_same, lk_putK, if_pos rfl]; rfl
    · rw [setN_ne _ np, lk_putK, if_neg (Ne.symm (nx hp))]; exact f.lw p hp
  · rw [lk_putK, if_neg (by omega)]; exact f.lz
  · rintro y hy ⟨p, hp, rfl⟩
    rcases ok' hp with rfl | ⟨hp, np⟩
    · rw [setN_same] at hy; exact fr.spd x hy (.inr rfl)
    · rw [setN_ne _ np] at hy; exact fr.spd _ hy (.inl ⟨p, hp, rfl⟩)
  · rintro y ⟨p, hp, rfl⟩
    rcases ok' hp with rfl | ⟨hp, np⟩
    · rw [setN_same]; exact xn
    · rw [setN_ne _ np]; exact fr.kn _ (.inl ⟨p, hp, rfl⟩)
  · intro p hp
    rcases ok' hp with rfl | ⟨hp, np⟩
    · rw [setN_same]; exact x0
    · rw [setN_ne _ np]; exact f.pos p hp
  · intro l hl
    rcases List.mem_cons.1 hl with rfl | hl
    · have := Tour.one (vs := wiI vs v) (es := es) (nm := setN nm (.v v) x) (v := v) (wiI_mem.2 (.inl rfl))
      rw [setN_same] at this; exact this
    · exact (f.tt l hl).mono f.N (fun u hu _ => ⟨wiI_mem.2 (.inr hu), setN_ne _ (nv hu)⟩) fun e he _ => ⟨he, setN_ne _ (fun e => by cases e), setN_ne _ (fun e => by cases e)⟩
  · have := f.tc; simp only [List.length_cons, lwl]; omega
  · have := f.cn; rw [lwl]; omega
  · have := f.nb; have := f.cn
    rcases cnb with e | ⟨e1, e2⟩
    · omega
    · rw [e1] at cnt; simp only [List.length_nil] at cnt; omega
  · intro u hu
    rcases wiI_mem.1 hu with rfl | hu
    · simp [setN_same, bitI]
    · have e : u ≠ v := fun e => hv (e ▸ hu)
      simp only [setN_ne _ (nv hu), if_neg (nx (okV (es := es) hu)), if_neg e]; exact f.mkV u hu
  · intro e he
    simp only [setN_ne _ (show Pl.t e.id ≠ .v v by intro h; cases h), setN_ne _ (show Pl.b e.id ≠ .v v by intro h; cases h), if_neg (nx (okT he)), if_neg (nx (okB he))]
    exact f.mkE e he
  · intro i
    by_cases e : i = x
    · simp [e]
    · simp only [if_neg e]; exact f.mb i
/-! ### a vertex goes -/
theorem FI.degT (f : FI rows V n vl el wl sp T vs es kv ke nm) {l : List Nat} (h : Tour vs es nm l) {v : Int} (hv : v ∈ vs) : nm (.v v) ∈ l → l = [nm (.v v)] ∨ ∃ e ∈ es, e.u = v ∨ e.v = v := by
  induction h with
  | one h => intro m; simp only [List.mem_singleton] at m; rw [m]; exact .inl rfl
  | @rot a b h ih =>
    intro m
    refine (ih (by rw [List.mem_append] at m ⊢; exact m.symm)).imp (fun e => ?_) id
    cases a with
    | nil => simpa using e
    | cons y a =>
      rw [List.cons_append] at e
      injection e with e1 e2
      rw [List.append_eq_nil_iff] at e2
      rw [e1, e2.1, e2.2]; rfl
  | @link e A B he h1 h2 i1 i2 =>
    intro m
    refine .inr ?_
    obtain ⟨eu, ev⟩ := f.N.ends _ he
    rcases link_mem.1 m with m | m | m | m
    · rcases i1 m with h | h
      · injection h with h _
        exact ⟨e, he, .inl (f.N.vv eu hv h)⟩
      · exact h
    · exact absurd m (f.N.vt hv he)
    · rcases i2 m with h | h
      · injection h with h _
        exact ⟨e, he, .inr (f.N.vv ev hv h)⟩
      · exact h
    · exact absurd m (f.N.vb hv he)
theorem FI.size1 (f : FI rows V n vl el wl sp T vs es kv ke nm) (rok : RowsOk n rows) {v : Int} (hv : v ∈ vs) : 1 < (rowOf rows (nm (.v v))).length ↔ 0 < deg es v := by
  obtain ⟨h1, h2, h3⟩ := f.row rok (okV (es := es) hv)
  have dz := deg_zero (es := es) (v := v)
  have dn := deg_nn es v
  constructor
  · intro h
    rcases f.degT h3 hv h2 with e | ⟨e, he, hh⟩
    · rw [e] at h; simp at h
    · have h0 : deg es v ≠ 0 := fun h0 => by
        have := dz.1 h0 e he
        rcases hh with hh | hh
        · exact this.1 hh
        · exact this.2 hh
      omega
  · intro h
    have : ¬ ∀ e ∈ es, e.u ≠ v ∧ e.v ≠ v := fun hh => by have := dz.2 hh; omega
    obtain ⟨e, he, hh⟩ : ∃ e ∈ es, e.u = v ∨ e.v = v := by
      refine Classical.byContradiction fun hn => this fun e he => ⟨fun hh => hn ⟨e, he, .inl hh⟩, fun hh => hn ⟨e, he, .inr hh⟩⟩
    have hrow : nm (.t e.id) ∈ rowOf rows (nm (.v v)) := by
      have ht := (f.row rok (okT he)).2.1
      rcases hh with rfl | rfl
      · rw [(f.ends rok he).1]; exact ht
      · rw [(f.ends rok he).2.1]; exact ht
    have hne := f.N.vt hv he
    generalize rowOf rows (nm (.v v)) = l at *
    match l, h2, hrow with
    | [y], a, b => simp only [List.mem_singleton] at a b; exact absurd (a.trans b.symm) hne
    | _ :: _ :: _, _, _ => simp
theorem mem_perm {α : Type} {l : List α} {x : α} (h : x ∈ l) : ∃ R, l.Perm (x :: R) := by
  obtain ⟨a, b, rfl⟩ := List.append_of_mem h
  exact ⟨a ++ b, List.perm_middle⟩
theorem lk_del_len {m : List (Int × Nat)} (nd : NdK m) {x : Int} {v : Nat} (h : lk m x = some v) : (delK m x).length + 1 = m.length := by
  have hm := lk_some h
  clear h
  induction m with
  | nil => cases hm
  | cons p r ih =>
    unfold NdK at nd
    rw [List.map_cons, List.nodup_cons] at nd
    by_cases e : p.1 = x
    · have : delK (p :: r) x = r := by
        unfold delK
        rw [List.filter_cons_of_neg (by simp [e]), List.filter_eq_self]
        intro q hq
        have : q.1 ≠ x := fun h => nd.1 (by rw [e, ← h]; exact List.mem_map_of_mem hq)
        simpa using this
      rw [this]; rfl
    · have hm' : (x, v) ∈ r := by rcases List.mem_cons.1 hm with h | h; exact absurd (by rw [← h]) e; exact h
      have : delK (p :: r) x = p :: delK r x := by unfold delK; rw [List.filter_cons_of_pos (by simpa using e)]
      rw [this, List.length_cons, ih nd.2 hm']; rfl
theorem FI.delV (f : FI rows V n vl el wl sp T vs es kv ke nm) (rok : RowsOk n rows) (ndv : NdK vl) {v : Int} (hv : v ∈ vs) (hd : deg es v = 0) :
    ∃ T', FI rows V n (delK vl v) el (delK wl (nm (.v v))) (sp ++ [nm (.v v)]) T' (woI vs v) es kv ke nm := by
  have hz := deg_zero.1 hd
  obtain ⟨h1, h2, h3⟩ := f.row rok (okV (es := es) hv)
  have hrow : rowOf rows (nm (.v v)) = [nm (.v v)] := by
    rcases f.degT h3 hv h2 with e | ⟨e, he, hh⟩
    · exact e
    · have := hz e he
      rcases hh with hh | hh
      · exact absurd hh this.1
      · exact absurd hh this.2
  rw [hrow] at h1
  obtain ⟨T', pT⟩ := mem_perm h1
  have ok' : ∀ {q}, okP (woI vs v) es q → okP vs es q ∧ q ≠ .v v := by
    intro q hq
    cases q with
    | v i => exact ⟨(woI_mem.1 hq).1, fun e => by injection e with e; exact (woI_mem.1 hq).2 e⟩
    | t i => exact ⟨hq, fun e => by cases e⟩
    | b i => exact ⟨hq, fun e => by cases e⟩
  have nx : ∀ {p}, okP vs es p → p ≠ .v v → nm p ≠ nm (.v v) := fun hp np e => np (f.N.inj _ _ hp (okV (es := es) hv) e)
  have pr : rows.Perm (sp.map one1 ++ [nm (.v v)] :: T') := f.fr.rw.trans (pT.append_left _)
  have dis : ∀ l ∈ T', nm (.v v) ∉ l := by
    have hdj := (rok.perm (pr.trans List.perm_middle)).dj
    rw [List.pairwise_cons] at hdj
    intro l hl
    exact hdj.1 l (by simp [hl]) _ (by simp)
  have wl' := woI_len (sorted_nodup f.vss) hv
  have tl := pT.length_eq
  simp only [List.length_cons] at tl
  refine ⟨T', ⟨⟨fun p q hp hq e => f.N.inj _ _ (ok' hp).1 (ok' hq).1 e, f.N.ids, fun e he => ?_⟩, woI_sorted v f.vss, f.ess, fun u hu => f.vr u (woI_mem.1 hu).1, f.er, by have := f.vlen; omega, ?_, ?_, f.le, ?_, ?_, ⟨?_, ?_, ?_, ?_⟩, fun p hp => f.pos p (ok' hp).1, ?_, ?_, ?_, f.nb, fun u hu => f.mkV u (woI_mem.1 hu).1, f.mkE, f.mb⟩⟩
  · have := hz e he
    exact ⟨woI_mem.2 ⟨(f.N.ends e he).1, this.1⟩, woI_mem.2 ⟨(f.N.ends e he).2, this.2⟩⟩
  · intro i
    rw [lk_delK]
    by_cases e : v = i
    · subst e; rw [if_pos rfl, if_neg fun h => (woI_mem.1 h).2 rfl]
    · rw [if_neg e, f.lv]
      by_cases hi : i ∈ vs
      · rw [if_pos hi, if_pos (woI_mem.2 ⟨hi, Ne.symm e⟩)]
      · rw [if_neg hi, if_neg fun h => hi (woI_mem.1 h).1]
  · have := lk_del_len ndv (x := v) (v := nm (.v v)) (by rw [f.lv, if_pos hv])
    have := f.vln; omega
  · intro p hp
    rw [lk_delK, if_neg (Ne.symm (nx (ok' hp).1 (ok' hp).2))]; exact f.lw p (ok' hp).1
  · rw [lk_delK]; split
    · rfl
    · exact f.lz
  · rw [List.map_append]
    have : sp.map one1 ++ List.map one1 [nm (.v v)] ++ T' = sp.map one1 ++ [nm (.v v)] :: T' := by simp [one1]
    rw [this]; exact pr
  · rw [List.nodup_append]
    refine ⟨f.fr.spn, by simp, fun a ha b hb e => ?_⟩
    simp only [List.mem_singleton] at hb
    exact f.fr.spd a ha ⟨_, okV (es := es) hv, e.trans hb⟩
  · rintro x hx ⟨p, hp, rfl⟩
    rcases List.mem_append.1 hx with hx | hx
    · exact f.fr.spd _ hx ⟨p, (ok' hp).1, rfl⟩
    · simp only [List.mem_singleton] at hx
      exact nx (ok' hp).1 (ok' hp).2 hx
  · rintro x ⟨p, hp, rfl⟩
    exact f.fr.kn _ ⟨p, (ok' hp).1, rfl⟩
  · intro l hl
    have hlT : l ∈ T := pT.mem_iff.2 (by simp [hl])
    refine (f.tt l hlT).mono f.N (fun u hu m => ⟨woI_mem.2 ⟨hu, fun e => ?_⟩, rfl⟩) fun e he _ => ⟨he, rfl, rfl⟩
    subst e; exact dis l hl m
  · have := f.tc; omega
  · have := f.cn; simp only [List.length_append, List.length_singleton]; omega
end
end Go.Proofs.Ytkkobfajahmfaaa.Rd
