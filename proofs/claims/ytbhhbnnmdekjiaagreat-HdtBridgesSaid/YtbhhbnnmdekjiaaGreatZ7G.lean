/- A graph by levels of forests: plain laws · A graph by levels of forests: what its changes keep · A graph by levels in memory: its blocks, each of one part · A graph by levels: calls of a level's forest; a level's loose edges · A graph by levels: an edge put among a level's loose ones, or taken away · A graph by levels: a level asked for, one made · A graph by levels: a new level · A graph by levels: what stays between calls; an edge raised · A graph by levels: an edge raised · A graph by levels: a loose edge hung up or taken off, as the graph has it · A graph by levels: a loose edge rises, or joins two parts · A graph by levels: joins · A graph by levels: ranges over loose edges; counts · A graph by levels: the search for another way · A graph by levels: replace -/
import Derived.Test.YtbhhbnnmdekjiaaGreatZ7F
import Derived.Test.YtbhhbnnmdekjiaaGreatZ7B
set_option linter.unusedSimpArgs false
set_option linter.unusedVariables false
namespace Go.Proofs.YtbhhbnnmdekjiaaGreat.Rd
open Go.Dn Go.RowKit
set_option maxRecDepth 100000
theorem cn_of {L L' : List E} (h : ∀ e ∈ L, Cn L' e.u e.v) {x y : Int} (c : Cn L x y) : Cn L' x y := by
  obtain ⟨p, c⟩ := c
  induction c with
  | nil => exact Cn.refl _ _
  | cons he hm h0 ih =>
    rename_i e m v p
    refine Cn.trans ?_ ih
    unfold oth
    split
    · rename_i h1; rw [← h1]; exact h e he
    · rename_i h1; rw [← hm.resolve_left h1]; exact (h e he).symm
theorem cnInv {es : List E} {u v : Int} (h : Cn es u v) {Q : Int → Prop} (hQ : ∀ e ∈ es, Q e.u ↔ Q e.v) : Q u → Q v := by
  obtain ⟨p, h⟩ := h
  induction h with
  | nil => exact id
  | cons he hm h ih =>
    rename_i e m v p
    intro hq
    refine ih ?_
    unfold oth
    split
    · rename_i h1; rw [← hQ e he, h1]; exact hq
    · rename_i h1; rw [hQ e he, hm.resolve_left h1]; exact hq
def SameE (a b : List E) : Prop := ∀ e, e ∈ a ↔ e ∈ b
theorem SameE.cn {a b : List E} (h : SameE a b) {x y : Int} : Cn a x y ↔ Cn b x y := ⟨fun c => c.mono fun e he => (h e).1 he, fun c => c.mono fun e he => (h e).2 he⟩
def Ac (es : List E) : Prop := ∀ e ∈ es, ¬ Cn (noE es e.id) e.u e.v
theorem Ac.sub {a b : List E} (h : Ac b) (s : ∀ e ∈ a, e ∈ b) : Ac a := fun e he c => h e (s e he) (c.mono fun x hx => by
  obtain ⟨h1, h2⟩ := noE_mem.1 hx
  exact noE_mem.2 ⟨s x h1, h2⟩)
theorem Ac.same {a b : List E} (h : SameE a b) : Ac a ↔ Ac b := ⟨fun k => k.sub fun e he => (h e).2 he, fun k => k.sub fun e he => (h e).1 he⟩
theorem Ac.snoc {es : List E} {e : E} (h : Ac es) (hid : e.id ∉ es.map E.id) (hc : ¬ Cn es e.u e.v) : Ac (es ++ [e]) := by
  have e1 : ∀ a, noE (es ++ [e]) a = noE es a ++ noE [e] a := fun a => by simp [noE]
  intro a ha c
  rcases List.mem_append.1 ha with ha | ha
  · have hne : e.id ≠ a.id := fun h' => hid (by rw [h']; exact List.mem_map_of_mem ha)
    have e2 : noE [e] a.id = [e] := by simp [noE, hne]
    rw [e1, e2] at c
    have up : ∀ {x y}, Cn (noE es a.id) x y → Cn es x y := fun c => c.mono fun b hb => (noE_mem.1 hb).1
    have ea : Cn es a.u a.v := Cn.edge ha
    rcases cn_add.1 c with c | ⟨c1, c2⟩ | ⟨c1, c2⟩
    · exact h a ha c
    · exact hc (((up c1).symm.trans ea).trans (up c2).symm)
    · exact hc (((up c2).trans ea.symm).trans (up c1))
  · rw [List.mem_singleton] at ha
    subst ha
    have e2 : noE [a] a.id = [] := by simp [noE]
    rw [e1, e2, List.append_nil] at c
    exact hc (c.mono fun b hb => (noE_mem.1 hb).1)
structure Ed where
  id : Int
  u : Int
  v : Int
  lv : Nat
  tr : Bool
def Ed.e (d : Ed) : E := ⟨d.id, d.u, d.v, 0⟩
def Ed.at (d : Ed) (x : Int) : Prop := d.u = x ∨ d.v = x
instance (d : Ed) (x : Int) : Decidable (d.at x) := inferInstanceAs (Decidable (_ ∨ _))
structure Ab where
  vs : List Int
  es : List Ed
  fe : Nat → List E
  lo : Nat → Int → List Int
  kv : Nat → Int → Bool
  ke : Nat → Int → Bool
def Ab.sk (a : Ab) : List E := a.es.map Ed.e
structure Core (a : Ab) : Prop where
  ids : (a.es.map Ed.id).Nodup
  ends : ∀ d ∈ a.es, d.u ∈ a.vs ∧ d.v ∈ a.vs
  ok : ∀ d ∈ a.es, ¬ badI d.id
  tl : ∀ d ∈ a.es, d.tr = true → d.u ≠ d.v
  fe : ∀ i e, e ∈ a.fe i ↔ ∃ d ∈ a.es, d.tr = true ∧ i ≤ d.lv ∧ d.e = e
  ac : Ac (a.fe 0)
  lo : ∀ i v id, id ∈ a.lo i v ↔ ∃ d ∈ a.es, d.id = id ∧ d.tr = false ∧ d.u ≠ d.v ∧ d.lv = i ∧ d.at v
  kv : ∀ i, ∀ v ∈ a.vs, (a.kv i v = true ↔ a.lo i v ≠ [])
  ke : ∀ i, ∀ d ∈ a.es, d.tr = true → i ≤ d.lv → (a.ke i d.id = true ↔ d.lv = i)
def Sp (a : Ab) (x : E) (n : Nat) : Prop := ∀ d ∈ a.es, d.tr = false → d.u ≠ d.v → Cn (if d.lv < n then a.fe d.lv ++ [x] else a.fe d.lv) d.u d.v
def NC (a : Ab) (x : E) (n : Nat) : Prop := ∀ k, k < n → ¬ Cn (a.fe k) x.u x.v
theorem id_inj {es : List Ed} (h : (es.map Ed.id).Nodup) : ∀ {d d' : Ed}, d ∈ es → d' ∈ es → d.id = d'.id → d = d' := by
  induction es with
  | nil => intro d d' h; cases h
  | cons c p ih =>
    intro d d' hd hd' he
    rw [List.map_cons, List.nodup_cons] at h
    rcases List.mem_cons.1 hd with q | q
    · rcases List.mem_cons.1 hd' with q2 | q2
      · rw [q, q2]
      · exact absurd (show c.id ∈ p.map Ed.id by rw [← q, he]; exact List.mem_map_of_mem q2) h.1
    · rcases List.mem_cons.1 hd' with q2 | q2
      · exact absurd (show c.id ∈ p.map Ed.id by rw [← q2, ← he]; exact List.mem_map_of_mem q) h.1
      · exact ih h.2 q q2 he
section
variable {a : Ab}
theorem Core.inj (c : Core a) {d d' : Ed} (h : d ∈ a.es) (h' : d' ∈ a.es) (e : d.id = d'.id) : d = d' := id_inj c.ids h h' e
theorem Core.down (c : Core a) {i j : Nat} (h : i ≤ j) : ∀ e ∈ a.fe j, e ∈ a.fe i := fun e he => by
  obtain ⟨d, hd, ht, hl, rfl⟩ := (c.fe j e).1 he
  exact (c.fe i _).2 ⟨d, hd, ht, by omega, rfl⟩
theorem Core.acs (c : Core a) (i : Nat) : Ac (a.fe i) := c.ac.sub (c.down (Nat.zero_le i))
theorem Core.sub (c : Core a) (i : Nat) : ∀ e ∈ a.fe i, e ∈ a.sk := fun e he => by
  obtain ⟨d, hd, _, _, rfl⟩ := (c.fe i e).1 he
  exact List.mem_map_of_mem hd
theorem Core.joined (c : Core a) {x : E} (s : Sp a x 0) {u v : Int} : Cn (a.fe 0) u v ↔ Cn a.sk u v := by
  constructor
  · exact fun h => h.mono (c.sub 0)
  · refine cn_of fun e he => ?_
    obtain ⟨d, hd, rfl⟩ := List.mem_map.1 he
    show Cn (a.fe 0) d.u d.v
    by_cases hl : d.u = d.v
    · rw [hl]; exact Cn.refl _ _
    by_cases ht : d.tr = true
    · exact Cn.edge ((c.fe 0 d.e).2 ⟨d, hd, ht, Nat.zero_le _, rfl⟩)
    · have := s d hd (by simpa using ht) hl
      rw [if_neg (by omega)] at this
      exact this.mono (c.down (Nat.zero_le _))
end
def setE (es : List Ed) (d' : Ed) : List Ed := es.map fun d => if d.id = d'.id then d' else d
theorem setE_mem {es : List Ed} (h : (es.map Ed.id).Nodup) {d d' : Ed} (hd : d ∈ es) (he : d'.id = d.id) {x : Ed} : x ∈ setE es d' ↔ x = d' ∨ (x ∈ es ∧ x.id ≠ d.id) := by
  unfold setE
  rw [List.mem_map]
  constructor
  · rintro ⟨y, hy, rfl⟩
    by_cases q : y.id = d'.id
    · rw [if_pos q]; exact .inl rfl
    · rw [if_neg q]; exact .inr ⟨hy, by rw [← he]; exact q⟩
  · rintro (rfl | ⟨hx, hn⟩)
    · exact ⟨d, hd, if_pos he.symm⟩
    · exact ⟨x, hx, if_neg (by rw [he]; exact hn)⟩
theorem setE_ids (es : List Ed) (d' : Ed) : (setE es d').map Ed.id = es.map Ed.id := by
  unfold setE
  rw [List.map_map]
  apply List.map_congr_left
  intro d _
  show (if d.id = d'.id then d' else d).id = d.id
  split
  · rename_i h; exact h.symm
  · rfl
theorem setE_sk {es : List Ed} {d d' : Ed} (h : (es.map Ed.id).Nodup) (hd : d ∈ es) (he : d'.e = d.e) : (setE es d').map Ed.e = es.map Ed.e := by
  have hi : d'.id = d.id := congrArg E.id he
  unfold setE
  rw [List.map_map]
  apply List.map_congr_left
  intro x hx
  show (if x.id = d'.id then d' else x).e = x.e
  split
  · rename_i q
    rw [id_inj h hx hd (by rw [q, hi])]; exact he
  · rfl
structure Raised (a : Ab) (i : Nat) (d : Ed) (a' : Ab) : Prop where
  vs : a'.vs = a.vs
  es : a'.es = setE a.es { d with lv := i + 1 }
  fe : SameE (a'.fe (i + 1)) (a.fe (i + 1) ++ [d.e])
  fn : ∀ k, k ≠ i + 1 → SameE (a'.fe k) (a.fe k)
  lo : a'.lo = a.lo
  kv : ∀ k, ∀ v ∈ a.vs, a'.kv k v = a.kv k v
  k0 : a'.ke i d.id = false
  k1 : a'.ke (i + 1) d.id = true
  kn : ∀ k id, id ≠ d.id → a'.ke k id = a.ke k id
  kd : ∀ k, k < i → a'.ke k d.id = a.ke k d.id
section
variable {a a' : Ab} {i : Nat} {d : Ed}
theorem Core.raise_nc (c : Core a) (hd : d ∈ a.es) (ht : d.tr = true) (hl : d.lv = i) : ¬ Cn (a.fe (i + 1)) d.u d.v := fun h => by
  have h0 : d.e ∈ a.fe 0 := (c.fe 0 _).2 ⟨d, hd, ht, Nat.zero_le _, rfl⟩
  refine c.ac d.e h0 (h.mono fun e he => ?_)
  obtain ⟨d2, hd2, ht2, hl2, rfl⟩ := (c.fe _ e).1 he
  refine noE_mem.2 ⟨(c.fe 0 _).2 ⟨d2, hd2, ht2, Nat.zero_le _, rfl⟩, fun h => ?_⟩
  have : d2 = d := c.inj hd2 hd h
  subst this
  omega
theorem Raised.core (r : Raised a i d a') (c : Core a) (hd : d ∈ a.es) (ht : d.tr = true) (hl : d.lv = i) : Core a' := by
  have mem : ∀ {x}, x ∈ a'.es ↔ x = { d with lv := i + 1 } ∨ (x ∈ a.es ∧ x.id ≠ d.id) := fun {x} => by
    rw [r.es]; exact setE_mem c.ids hd (d' := { d with lv := i + 1 }) rfl
  have old : ∀ {x}, x ∈ a.es → x = d ∨ x ∈ a'.es := fun {x} hx => by
    by_cases q : x.id = d.id
    · exact .inl (c.inj hx hd q)
    · exact .inr (mem.2 (.inr ⟨hx, q⟩))
  have fek : ∀ k, SameE (a'.fe k) (if k = i + 1 then a.fe (i + 1) ++ [d.e] else a.fe k) := fun k => by
    by_cases q : k = i + 1
    · subst q; rw [if_pos rfl]; exact r.fe
    · rw [if_neg q]; exact r.fn k q
  have f : ∀ k e, e ∈ a'.fe k ↔ ∃ d ∈ a'.es, d.tr = true ∧ k ≤ d.lv ∧ d.e = e := fun k e => by
    rw [fek k e]
    constructor
    · intro h
      have h : e ∈ a.fe k ∨ (k = i + 1 ∧ e = d.e) := by
        by_cases q : k = i + 1
        · subst q
          rw [if_pos rfl, List.mem_append, List.mem_singleton] at h
          exact h.imp id fun h => ⟨rfl, h⟩
        · rw [if_neg q] at h; exact .inl h
      rcases h with h | ⟨rfl, rfl⟩
      · obtain ⟨d2, hd2, ht2, hl2, rfl⟩ := (c.fe k e).1 h
        rcases old hd2 with rfl | hd2'
        · exact ⟨_, mem.2 (.inl rfl), ht2, by show k ≤ i + 1; omega, rfl⟩
        · exact ⟨d2, hd2', ht2, hl2, rfl⟩
      · exact ⟨_, mem.2 (.inl rfl), ht, Nat.le_refl _, rfl⟩
    · rintro ⟨d2, hd2, ht2, hl2, rfl⟩
      rcases mem.1 hd2 with rfl | ⟨hd2', hn⟩
      · have hl2 : k ≤ i + 1 := hl2
        by_cases q : k = i + 1
        · rw [if_pos q]; exact List.mem_append_right _ (List.mem_singleton.2 rfl)
        · rw [if_neg q]; exact (c.fe k _).2 ⟨d, hd, ht, by omega, rfl⟩
      · have : d2.e ∈ a.fe k := (c.fe k _).2 ⟨d2, hd2', ht2, hl2, rfl⟩
        by_cases q : k = i + 1
        · subst q; rw [if_pos rfl]; exact List.mem_append_left _ this
        · rw [if_neg q]; exact this
  refine ⟨by rw [r.es, setE_ids]; exact c.ids, fun x hx => ?_, fun x hx => ?_, fun x hx h => ?_, f, ?_, fun k v id => ?_, fun k v hv => ?_, fun k x hx hxt hxl => ?_⟩
  · rw [r.vs]
    rcases mem.1 hx with rfl | ⟨h, _⟩
    · exact c.ends d hd
    · exact c.ends x h
  · rcases mem.1 hx with rfl | ⟨h, _⟩
    · exact c.ok d hd
    · exact c.ok x h
  · rcases mem.1 hx with rfl | ⟨h', _⟩
    · exact c.tl d hd ht
    · exact c.tl x h' h
  · have h0 := r.fn 0 (by omega)
    exact (Ac.same h0).2 c.ac
  · rw [r.lo, c.lo]
    constructor
    · rintro ⟨d2, hd2, h1, h2, h3, h4, h5⟩
      rcases old hd2 with rfl | hd2'
      · rw [ht] at h2; cases h2
      · exact ⟨d2, hd2', h1, h2, h3, h4, h5⟩
    · rintro ⟨d2, hd2, h1, h2, h3, h4, h5⟩
      rcases mem.1 hd2 with rfl | ⟨hd2', _⟩
      · have h2 : d.tr = false := h2
        rw [ht] at h2; cases h2
      · exact ⟨d2, hd2', h1, h2, h3, h4, h5⟩
  · rw [r.vs] at hv
    rw [r.kv k v hv, r.lo]
    exact c.kv k v hv
  · rcases mem.1 hx with rfl | ⟨hx', hn⟩
    · have hxl : k ≤ i + 1 := hxl
      show a'.ke k d.id = true ↔ i + 1 = k
      by_cases q1 : k = i + 1
      · subst q1; rw [r.k1]; simp
      · by_cases q2 : k = i
        · subst q2; rw [r.k0]; simp
        · rw [r.kd k (by omega), c.ke k d hd ht (by omega)]
          omega
    · rw [r.kn k _ hn]
      exact c.ke k x hx' hxt hxl
theorem Raised.sk (r : Raised a i d a') (c : Core a) (hd : d ∈ a.es) : a'.sk = a.sk := by
  unfold Ab.sk
  rw [r.es]
  exact setE_sk c.ids hd rfl
theorem Raised.up (r : Raised a i d a') {k : Nat} : ∀ e ∈ a.fe k, e ∈ a'.fe k := fun e he => by
  by_cases q : k = i + 1
  · subst q; exact (r.fe e).2 (List.mem_append_left _ he)
  · exact (r.fn k q e).2 he
theorem Raised.sp (r : Raised a i d a') (c : Core a) (hd : d ∈ a.es) (ht : d.tr = true) {x : E} {n : Nat} (s : Sp a x n) : Sp a' x n := by
  intro y hy hyt hyl
  rw [r.es] at hy
  rcases (setE_mem c.ids hd (d' := { d with lv := i + 1 }) rfl).1 hy with rfl | ⟨hy', hn⟩
  · have hyt : d.tr = false := hyt
    rw [ht] at hyt; cases hyt
  · have := s y hy' hyt hyl
    split at this
    · rename_i q
      rw [if_pos q]
      refine this.mono fun e he => ?_
      rw [List.mem_append] at he ⊢
      exact he.imp (r.up e) id
    · rename_i q
      rw [if_neg q]
      exact this.mono r.up
theorem Raised.nc (r : Raised a i d a') {x : E} (s : NC a x (i + 1)) : NC a' x (i + 1) := fun k hk h => s k hk (by
  have := r.fn k (by omega)
  exact this.cn.1 h)
end
structure Upped (a : Ab) (i : Nat) (d : Ed) (a' : Ab) : Prop where
  vs : a'.vs = a.vs
  es : a'.es = setE a.es { d with lv := i + 1 }
  fe : ∀ k, SameE (a'.fe k) (a.fe k)
  lo : ∀ k v id, id ∈ a'.lo k v ↔ if d.at v ∧ k = i then id ∈ a.lo k v ∧ id ≠ d.id else if d.at v ∧ k = i + 1 then id = d.id ∨ id ∈ a.lo k v else id ∈ a.lo k v
  kv : ∀ k, ∀ v ∈ a.vs, (a'.kv k v = true ↔ a'.lo k v ≠ [])
  ke : a'.ke = a.ke
structure Linked (a : Ab) (i : Nat) (d : Ed) (a' : Ab) : Prop where
  vs : a'.vs = a.vs
  es : a'.es = setE a.es { d with tr := true }
  fe : ∀ k, k ≤ i → SameE (a'.fe k) (a.fe k ++ [d.e])
  fn : ∀ k, i < k → SameE (a'.fe k) (a.fe k)
  lo : ∀ k v id, id ∈ a'.lo k v ↔ if d.at v ∧ k = i then id ∈ a.lo k v ∧ id ≠ d.id else id ∈ a.lo k v
  kv : ∀ k, ∀ v ∈ a.vs, (a'.kv k v = true ↔ a'.lo k v ≠ [])
  ke : ∀ k, k ≤ i → (a'.ke k d.id = true ↔ k = i)
  kn : ∀ k id, id ≠ d.id → a'.ke k id = a.ke k id
section
variable {a a' : Ab} {i : Nat} {d : Ed} {x : E}
theorem Upped.core (r : Upped a i d a') (c : Core a) (hd : d ∈ a.es) (ht : d.tr = false) (hn : d.u ≠ d.v) (hl : d.lv = i) : Core a' := by
  have mem : ∀ {x}, x ∈ a'.es ↔ x = { d with lv := i + 1 } ∨ (x ∈ a.es ∧ x.id ≠ d.id) := fun {x} => by
    rw [r.es]; exact setE_mem c.ids hd (d' := { d with lv := i + 1 }) rfl
  have old : ∀ {x}, x ∈ a.es → x = d ∨ (x ∈ a'.es ∧ x.id ≠ d.id) := fun {x} hx => by
    by_cases q : x.id = d.id
    · exact .inl (c.inj hx hd q)
    · exact .inr ⟨mem.2 (.inr ⟨hx, q⟩), q⟩
  refine ⟨by rw [r.es, setE_ids]; exact c.ids, fun x hx => ?_, fun x hx => ?_, fun x hx h => ?_, fun k e => ?_, (Ac.same (r.fe 0)).2 c.ac, fun k v id => ?_, fun k v hv => by rw [r.vs] at hv; exact r.kv k v hv, fun k x hx hxt hxl => ?_⟩
  · rw [r.vs]
    rcases mem.1 hx with rfl | ⟨h, _⟩
    · exact c.ends d hd
    · exact c.ends x h
  · rcases mem.1 hx with rfl | ⟨h, _⟩
    · exact c.ok d hd
    · exact c.ok x h
  · rcases mem.1 hx with rfl | ⟨h', _⟩
    · exact hn
    · exact c.tl x h' h
  · rw [r.fe k e, c.fe]
    constructor
    · rintro ⟨d2, hd2, h1, h2, h3⟩
      rcases old hd2 with rfl | ⟨hd2', _⟩
      · rw [ht] at h1; cases h1
      · exact ⟨d2, hd2', h1, h2, h3⟩
    · rintro ⟨d2, hd2, h1, h2, h3⟩
      rcases mem.1 hd2 with rfl | ⟨hd2', _⟩
      · have h1 : d.tr = true := h1
        rw [ht] at h1; cases h1
      · exact ⟨d2, hd2', h1, h2, h3⟩
  · rw [r.lo]
    constructor
    · intro h
      have h : (id = d.id ∧ d.at v ∧ k = i + 1) ∨ (id ∈ a.lo k v ∧ ¬ (d.at v ∧ k = i ∧ id = d.id)) := by
        split at h
        · exact .inr ⟨h.1, fun q => h.2 q.2.2⟩
        · rename_i q
          split at h
          · rename_i q2
            rcases h with h | h
            · exact .inl ⟨h, q2⟩
            · exact .inr ⟨h, fun q3 => q ⟨q3.1, q3.2.1⟩⟩
          · exact .inr ⟨h, fun q3 => q ⟨q3.1, q3.2.1⟩⟩
      rcases h with ⟨rfl, hv, rfl⟩ | ⟨h, hne⟩
      · exact ⟨_, mem.2 (.inl rfl), rfl, ht, hn, rfl, hv⟩
      · obtain ⟨d2, hd2, h1, h2, h3, h4, h5⟩ := (c.lo k v id).1 h
        rcases old hd2 with rfl | ⟨hd2', _⟩
        · exact absurd ⟨h5, h4.symm.trans hl, h1.symm⟩ hne
        · exact ⟨d2, hd2', h1, h2, h3, h4, h5⟩
    · rintro ⟨d2, hd2, h1, h2, h3, h4, h5⟩
      rcases mem.1 hd2 with rfl | ⟨hd2', hne⟩
      · have h4 : i + 1 = k := h4
        have h5 : d.at v := h5
        rw [if_neg (by omega), if_pos ⟨h5, h4.symm⟩]
        exact .inl h1.symm
      · have hin : id ∈ a.lo k v := (c.lo k v id).2 ⟨d2, hd2', h1, h2, h3, h4, h5⟩
        split
        · exact ⟨hin, by rw [← h1]; exact hne⟩
        · split
          · exact .inr hin
          · exact hin
  · rw [r.ke]
    rcases mem.1 hx with rfl | ⟨hx', _⟩
    · have hxt : d.tr = true := hxt
      rw [ht] at hxt; cases hxt
    · exact c.ke k x hx' hxt hxl
theorem Upped.sk (r : Upped a i d a') (c : Core a) (hd : d ∈ a.es) : a'.sk = a.sk := by
  unfold Ab.sk
  rw [r.es]
  exact setE_sk c.ids hd rfl
theorem Upped.sp (r : Upped a i d a') (c : Core a) (hd : d ∈ a.es) (s : Sp a x (i + 1)) (hc : Cn (a.fe (i + 1)) d.u d.v) : Sp a' x (i + 1) := by
  intro y hy hyt hyl
  rw [r.es] at hy
  have up : ∀ k {p q : Int}, Cn (a.fe k) p q → Cn (a'.fe k) p q := fun k p q h => (r.fe k).cn.2 h
  have up2 : ∀ k {p q : Int}, Cn (a.fe k ++ [x]) p q → Cn (a'.fe k ++ [x]) p q := fun k p q h => h.mono fun e he => by
    rw [List.mem_append] at he ⊢
    exact he.imp (r.fe k e).2 id
  rcases (setE_mem c.ids hd (d' := { d with lv := i + 1 }) rfl).1 hy with rfl | ⟨hy', hn⟩
  · show Cn (if i + 1 < i + 1 then _ else _) d.u d.v
    rw [if_neg (by omega)]
    exact up _ hc
  · have := s y hy' hyt hyl
    split at this
    · rename_i q; rw [if_pos q]; exact up2 _ this
    · rename_i q; rw [if_neg q]; exact up _ this
theorem Upped.nc (r : Upped a i d a') {n : Nat} (s : NC a x n) : NC a' x n := fun k hk h => s k hk ((r.fe k).cn.1 h)
theorem link_nc (c : Core a) (hd : d ∈ a.es) (ht : d.tr = false) (hn : d.u ≠ d.v) (hl : d.lv = i) (s : Sp a x (i + 1)) (nc : NC a x (i + 1)) (hj : ¬ Cn (a.fe i) d.u d.v) : ∀ k, k ≤ i → ¬ Cn (a.fe k) d.u d.v := by
  intro k hk h
  have h1 := s d hd ht hn
  rw [if_pos (by omega), hl] at h1
  have dn : ∀ {p q : Int}, Cn (a.fe i) p q → Cn (a.fe k) p q := fun h => h.mono (c.down hk)
  rcases cn_add.1 h1 with h1 | ⟨h1, h2⟩ | ⟨h1, h2⟩
  · exact hj h1
  · exact nc k (by omega) (((dn h1).symm.trans h).trans (dn h2).symm)
  · exact nc k (by omega) (((dn h2).trans h.symm).trans (dn h1))
theorem Linked.core (r : Linked a i d a') (c : Core a) (hd : d ∈ a.es) (ht : d.tr = false) (hn : d.u ≠ d.v) (hl : d.lv = i) (h0 : ¬ Cn (a.fe 0) d.u d.v) : Core a' := by
  have mem : ∀ {x}, x ∈ a'.es ↔ x = { d with tr := true } ∨ (x ∈ a.es ∧ x.id ≠ d.id) := fun {x} => by
    rw [r.es]; exact setE_mem c.ids hd (d' := { d with tr := true }) rfl
  have old : ∀ {x}, x ∈ a.es → x = d ∨ (x ∈ a'.es ∧ x.id ≠ d.id) := fun {x} hx => by
    by_cases q : x.id = d.id
    · exact .inl (c.inj hx hd q)
    · exact .inr ⟨mem.2 (.inr ⟨hx, q⟩), q⟩
  refine ⟨by rw [r.es, setE_ids]; exact c.ids, fun x hx => ?_, fun x hx => ?_, fun x hx h => ?_, fun k e => ?_, ?_, fun k v id => ?_, fun k v hv => by rw [r.vs] at hv; exact r.kv k v hv, fun k x hx hxt hxl => ?_⟩
  · rw [r.vs]
    rcases mem.1 hx with rfl | ⟨h, _⟩
    · exact c.ends d hd
    · exact c.ends x h
  · rcases mem.1 hx with rfl | ⟨h, _⟩
    · exact c.ok d hd
    · exact c.ok x h
  · rcases mem.1 hx with rfl | ⟨h', _⟩
    · exact hn
    · exact c.tl x h' h
  · have hk : e ∈ a'.fe k ↔ e ∈ a.fe k ∨ (k ≤ i ∧ e = d.e) := by
      by_cases q : k ≤ i
      · rw [r.fe k q e, List.mem_append, List.mem_singleton]
        exact ⟨fun h => h.imp id fun h => ⟨q, h⟩, fun h => h.imp id fun h => h.2⟩
      · rw [r.fn k (by omega) e]
        exact ⟨.inl, fun h => h.elim id fun h => absurd h.1 q⟩
    rw [hk]
    constructor
    · rintro (h | ⟨h, rfl⟩)
      · obtain ⟨d2, hd2, h1, h2, h3⟩ := (c.fe k e).1 h
        rcases old hd2 with rfl | ⟨hd2', _⟩
        · rw [ht] at h1; cases h1
        · exact ⟨d2, hd2', h1, h2, h3⟩
      · exact ⟨_, mem.2 (.inl rfl), rfl, by show k ≤ d.lv; omega, rfl⟩
    · rintro ⟨d2, hd2, h1, h2, rfl⟩
      rcases mem.1 hd2 with rfl | ⟨hd2', _⟩
      · have h2 : k ≤ d.lv := h2
        exact .inr ⟨by omega, rfl⟩
      · exact .inl ((c.fe k _).2 ⟨d2, hd2', h1, h2, rfl⟩)
  · refine (Ac.same (r.fe 0 (Nat.zero_le _))).2 (c.ac.snoc (fun h => ?_) h0)
    obtain ⟨e, he, hid⟩ := List.mem_map.1 h
    obtain ⟨d2, hd2, h1, _, rfl⟩ := (c.fe 0 e).1 he
    have : d2 = d := c.inj hd2 hd hid
    subst this
    rw [ht] at h1; cases h1
  · rw [r.lo]
    constructor
    · intro h
      have h : id ∈ a.lo k v ∧ ¬ (d.at v ∧ k = i ∧ id = d.id) := by
        split at h
        · exact ⟨h.1, fun q => h.2 q.2.2⟩
        · rename_i q; exact ⟨h, fun q3 => q ⟨q3.1, q3.2.1⟩⟩
      obtain ⟨d2, hd2, h1, h2, h3, h4, h5⟩ := (c.lo k v id).1 h.1
      rcases old hd2 with rfl | ⟨hd2', _⟩
      · exact absurd ⟨h5, h4.symm.trans hl, h1.symm⟩ h.2
      · exact ⟨d2, hd2', h1, h2, h3, h4, h5⟩
    · rintro ⟨d2, hd2, h1, h2, h3, h4, h5⟩
      rcases mem.1 hd2 with rfl | ⟨hd2', hne⟩
      · cases h2
      · have hin : id ∈ a.lo k v := (c.lo k v id).2 ⟨d2, hd2', h1, h2, h3, h4, h5⟩
        split
        · exact ⟨hin, by rw [← h1]; exact hne⟩
        · exact hin
  · rcases mem.1 hx with rfl | ⟨hx', hne⟩
    · have hxl : k ≤ d.lv := hxl
      show a'.ke k d.id = true ↔ d.lv = k
      rw [r.ke k (by omega)]
      omega
    · rw [r.kn k _ hne]
      exact c.ke k x hx' hxt hxl
theorem Linked.sk (r : Linked a i d a') (c : Core a) (hd : d ∈ a.es) : a'.sk = a.sk := by
  unfold Ab.sk
  rw [r.es]
  exact setE_sk c.ids hd rfl
theorem Linked.sp (r : Linked a i d a') (c : Core a) (hd : d ∈ a.es) (ht : d.tr = false) (hn : d.u ≠ d.v) (hl : d.lv = i) (s : Sp a x (i + 1)) (hj : ¬ Cn (a.fe i) d.u d.v) (y : E) : Sp a' y 0 := by
  intro z hz hzt hzl
  rw [r.es] at hz
  rw [if_neg (by omega)]
  rcases (setE_mem c.ids hd (d' := { d with tr := true }) rfl).1 hz with rfl | ⟨hz', hne⟩
  · cases hzt
  have h1 := s d hd ht hn
  rw [if_pos (by omega), hl] at h1
  have hz1 := s z hz' hzt hzl
  by_cases q : z.lv < i + 1
  · rw [if_pos q] at hz1
    have up : ∀ {p q : Int}, Cn (a.fe i) p q → Cn (a'.fe z.lv) p q := fun h => h.mono fun e he => (r.fe z.lv (by omega) e).2 (List.mem_append_left _ (c.down (by omega) e he))
    have ed : Cn (a'.fe z.lv) d.u d.v := Cn.edge ((r.fe z.lv (by omega) d.e).2 (List.mem_append_right _ (List.mem_singleton.2 rfl)))
    refine cn_of (fun e he => ?_) hz1
    rcases List.mem_append.1 he with he | he
    · exact Cn.edge ((r.fe z.lv (by omega) e).2 (List.mem_append_left _ he))
    · rw [List.mem_singleton] at he
      subst he
      rcases cn_add.1 h1 with h1 | ⟨h1, h2⟩ | ⟨h1, h2⟩
      · exact absurd h1 hj
      · exact ((up h1).symm.trans ed).trans (up h2).symm
      · exact ((up h2).trans ed.symm).trans (up h1)
  · rw [if_neg q] at hz1
    exact (r.fn z.lv (by omega)).cn.2 hz1
theorem sp_fail (c : Core a) (s : Sp a x (i + 1)) {w0 : Int} (hw : w0 = x.u ∨ w0 = x.v) (h : ∀ v ∈ a.vs, Cn (a.fe i) w0 v → a.lo i v = []) : Sp a x i := by
  intro d hd ht hn
  have h1 := s d hd ht hn
  by_cases q : d.lv < i
  · rw [if_pos q]; rw [if_pos (by omega)] at h1; exact h1
  rw [if_neg q]
  by_cases q2 : d.lv = i
  · rw [if_pos (by omega)] at h1
    rcases cn_add.1 h1 with h1 | h1
    · exact h1
    exfalso
    have hends := c.ends d hd
    have inlo : ∀ v, d.at v → a.lo i v ≠ [] := fun v hv e => by
      have : d.id ∈ a.lo i v := (c.lo i v d.id).2 ⟨d, hd, rfl, ht, hn, q2, hv⟩
      rw [e] at this; cases this
    rw [q2] at h1
    rcases h1 with ⟨h1, h2⟩ | ⟨h1, h2⟩
    · rcases hw with rfl | rfl
      · exact inlo _ (.inl rfl) (h d.u hends.1 h1.symm)
      · exact inlo _ (.inr rfl) (h d.v hends.2 h2)
    · rcases hw with rfl | rfl
      · exact inlo _ (.inr rfl) (h d.v hends.2 h2)
      · exact inlo _ (.inl rfl) (h d.u hends.1 h1.symm)
  · rw [if_neg (by omega)] at h1; exact h1
theorem up_cn {i : Nat} {w0 : Int} (h : ∀ e ∈ a.fe i, Cn (a.fe i) w0 e.u → e ∈ a.fe (i + 1)) {y : Int} (hy : Cn (a.fe i) w0 y) : Cn (a.fe (i + 1)) w0 y := by
  have := cnInv hy (Q := fun y => Cn (a.fe i) w0 y ∧ Cn (a.fe (i + 1)) w0 y) (fun e he => ?_) ⟨Cn.refl _ _, Cn.refl _ _⟩
  · exact this.2
  · have ee : Cn (a.fe i) e.u e.v := Cn.edge he
    constructor
    · rintro ⟨h1, h2⟩
      exact ⟨h1.trans ee, h2.trans (Cn.edge (h e he h1))⟩
    · rintro ⟨h1, h2⟩
      have h3 := h1.trans ee.symm
      exact ⟨h3, h2.trans (Cn.edge (h e he h3)).symm⟩
end
def noD (es : List Ed) (i : Int) : List Ed := es.filter fun d => !(d.id == i)
theorem noD_mem {es : List Ed} {i : Int} {d : Ed} : d ∈ noD es i ↔ d ∈ es ∧ d.id ≠ i := by simp [noD]
theorem noD_ids {es : List Ed} (i : Int) (h : (es.map Ed.id).Nodup) : ((noD es i).map Ed.id).Nodup := h.sublist (List.Sublist.map _ List.filter_sublist)
structure CutA (a : Ab) (d : Ed) (a' : Ab) : Prop where
  vs : a'.vs = a.vs
  es : a'.es = noD a.es d.id
  fe : ∀ k, k ≤ d.lv → SameE (a'.fe k) (noE (a.fe k) d.id)
  fn : ∀ k, d.lv < k → SameE (a'.fe k) (a.fe k)
  lo : a'.lo = a.lo
  kv : a'.kv = a.kv
  ke : a'.ke = a.ke
structure LoseA (a : Ab) (d : Ed) (a' : Ab) : Prop where
  vs : a'.vs = a.vs
  es : a'.es = noD a.es d.id
  fe : a'.fe = a.fe
  lo : ∀ k v id, id ∈ a'.lo k v ↔ if d.at v ∧ k = d.lv ∧ d.u ≠ d.v then id ∈ a.lo k v ∧ id ≠ d.id else id ∈ a.lo k v
  kv : ∀ k, ∀ v ∈ a.vs, (a'.kv k v = true ↔ a'.lo k v ≠ [])
  ke : a'.ke = a.ke
structure NewA (a : Ab) (d : Ed) (a' : Ab) : Prop where
  vs : a'.vs = a.vs
  es : a'.es = a.es ++ [d]
  f0 : SameE (a'.fe 0) (if d.tr = true then a.fe 0 ++ [d.e] else a.fe 0)
  fn : ∀ k, 0 < k → SameE (a'.fe k) (a.fe k)
  lo : ∀ k v id, id ∈ a'.lo k v ↔ if d.at v ∧ k = 0 ∧ d.u ≠ d.v ∧ d.tr = false then id = d.id ∨ id ∈ a.lo k v else id ∈ a.lo k v
  kv : ∀ k, ∀ v ∈ a.vs, (a'.kv k v = true ↔ a'.lo k v ≠ [])
  ke : d.tr = true → a'.ke 0 d.id = true
  kn : ∀ k id, id ≠ d.id → a'.ke k id = a.ke k id
section
variable {a a' : Ab} {i : Nat} {d : Ed} {x : E}
theorem CutA.core (r : CutA a d a') (c : Core a) (hd : d ∈ a.es) (ht : d.tr = true) : Core a' := by
  have mem : ∀ {x}, x ∈ a'.es ↔ x ∈ a.es ∧ x.id ≠ d.id := fun {x} => by rw [r.es]; exact noD_mem
  have f : ∀ k e, e ∈ a'.fe k ↔ e ∈ a.fe k ∧ e.id ≠ d.id := fun k e => by
    by_cases q : k ≤ d.lv
    · rw [r.fe k q e]; exact noE_mem
    · rw [r.fn k (by omega) e]
      refine ⟨fun h => ⟨h, fun hid => ?_⟩, fun h => h.1⟩
      obtain ⟨d2, hd2, _, h2, rfl⟩ := (c.fe k e).1 h
      have : d2 = d := c.inj hd2 hd hid
      subst this
      exact q h2
  refine ⟨by rw [r.es]; exact noD_ids _ c.ids, fun x hx => by rw [r.vs]; exact c.ends x (mem.1 hx).1, fun x hx => c.ok x (mem.1 hx).1, fun x hx h => c.tl x (mem.1 hx).1 h, fun k e => ?_, c.ac.sub fun e he => ((f 0 e).1 he).1, fun k v id => ?_, fun k v hv => by rw [r.vs] at hv; rw [r.kv, r.lo]; exact c.kv k v hv, fun k x hx hxt hxl => by rw [r.ke]; exact c.ke k x (mem.1 hx).1 hxt hxl⟩
  · rw [f, c.fe]
    constructor
    · rintro ⟨⟨d2, hd2, h1, h2, rfl⟩, hne⟩
      exact ⟨d2, mem.2 ⟨hd2, hne⟩, h1, h2, rfl⟩
    · rintro ⟨d2, hd2, h1, h2, rfl⟩
      obtain ⟨q1, q2⟩ := mem.1 hd2
      exact ⟨⟨d2, q1, h1, h2, rfl⟩, q2⟩
  · rw [r.lo, c.lo]
    constructor
    · rintro ⟨d2, hd2, h1, h2, h3⟩
      refine ⟨d2, mem.2 ⟨hd2, fun hid => ?_⟩, h1, h2, h3⟩
      have : d2 = d := c.inj hd2 hd hid
      subst this
      rw [ht] at h2; cases h2
    · rintro ⟨d2, hd2, h⟩
      exact ⟨d2, (mem.1 hd2).1, h⟩
theorem CutA.sp (r : CutA a d a') (c : Core a) (hd : d ∈ a.es) {y : E} (s : Sp a y 0) : Sp a' d.e (d.lv + 1) := by
  intro z hz hzt hzl
  rw [r.es] at hz
  have h := s z (noD_mem.1 hz).1 hzt hzl
  rw [if_neg (by omega)] at h
  by_cases q : z.lv < d.lv + 1
  · rw [if_pos q]
    refine h.mono fun e he => ?_
    by_cases hid : e.id = d.id
    · obtain ⟨d2, hd2, _, _, rfl⟩ := (c.fe _ e).1 he
      have : d2 = d := c.inj hd2 hd hid
      subst this
      exact List.mem_append_right _ (List.mem_singleton.2 rfl)
    · exact List.mem_append_left _ ((r.fe z.lv (by omega) e).2 (noE_mem.2 ⟨he, hid⟩))
  · rw [if_neg q]
    exact (r.fn z.lv (by omega)).cn.2 h
theorem CutA.nc (r : CutA a d a') (c : Core a) (hd : d ∈ a.es) (ht : d.tr = true) : NC a' d.e (d.lv + 1) := fun k hk h => by
  have h1 : Cn (noE (a.fe k) d.id) d.u d.v := (r.fe k (by omega)).cn.1 h
  exact c.acs k d.e ((c.fe k _).2 ⟨d, hd, ht, by omega, rfl⟩) h1
theorem LoseA.core (r : LoseA a d a') (c : Core a) (hd : d ∈ a.es) (ht : d.tr = false) : Core a' := by
  have mem : ∀ {x}, x ∈ a'.es ↔ x ∈ a.es ∧ x.id ≠ d.id := fun {x} => by rw [r.es]; exact noD_mem
  refine ⟨by rw [r.es]; exact noD_ids _ c.ids, fun x hx => by rw [r.vs]; exact c.ends x (mem.1 hx).1, fun x hx => c.ok x (mem.1 hx).1, fun x hx h => c.tl x (mem.1 hx).1 h, fun k e => ?_, by rw [r.fe]; exact c.ac, fun k v id => ?_, fun k v hv => by rw [r.vs] at hv; exact r.kv k v hv, fun k x hx hxt hxl => by rw [r.ke]; exact c.ke k x (mem.1 hx).1 hxt hxl⟩
  · rw [r.fe, c.fe]
    constructor
    · rintro ⟨d2, hd2, h1, h2, rfl⟩
      refine ⟨d2, mem.2 ⟨hd2, fun hid => ?_⟩, h1, h2, rfl⟩
      have : d2 = d := c.inj hd2 hd hid
      subst this
      rw [ht] at h1; cases h1
    · rintro ⟨d2, hd2, h1, h2, rfl⟩
      exact ⟨d2, (mem.1 hd2).1, h1, h2, rfl⟩
  · rw [r.lo]
    constructor
    · intro h
      have h : id ∈ a.lo k v ∧ ¬ (d.at v ∧ k = d.lv ∧ d.u ≠ d.v ∧ id = d.id) := by
        split at h
        · exact ⟨h.1, fun q => h.2 q.2.2.2⟩
        · rename_i q; exact ⟨h, fun q3 => q ⟨q3.1, q3.2.1, q3.2.2.1⟩⟩
      obtain ⟨d2, hd2, h1, h2, h3, h4, h5⟩ := (c.lo k v id).1 h.1
      refine ⟨d2, mem.2 ⟨hd2, fun hid => ?_⟩, h1, h2, h3, h4, h5⟩
      have : d2 = d := c.inj hd2 hd hid
      subst this
      exact h.2 ⟨h5, h4.symm, h3, h1.symm⟩
    · rintro ⟨d2, hd2, h1, h2, h3, h4, h5⟩
      obtain ⟨q1, q2⟩ := mem.1 hd2
      have hin : id ∈ a.lo k v := (c.lo k v id).2 ⟨d2, q1, h1, h2, h3, h4, h5⟩
      split
      · exact ⟨hin, by rw [← h1]; exact q2⟩
      · exact hin
theorem LoseA.sp (r : LoseA a d a') {y z : E} (s : Sp a y 0) : Sp a' z 0 := by
  intro x hx hxt hxl
  rw [r.es] at hx
  have h := s x (noD_mem.1 hx).1 hxt hxl
  rw [if_neg (by omega)] at h ⊢
  rw [r.fe]; exact h
theorem NewA.core (r : NewA a d a') (c : Core a) (hn : d.id ∉ a.es.map Ed.id) (he : d.u ∈ a.vs ∧ d.v ∈ a.vs) (ho : ¬ badI d.id) (hl : d.lv = 0) (ht : d.tr = true → d.u ≠ d.v ∧ ¬ Cn (a.fe 0) d.u d.v) : Core a' := by
  have mem : ∀ {x}, x ∈ a'.es ↔ x ∈ a.es ∨ x = d := fun {x} => by rw [r.es, List.mem_append, List.mem_singleton]
  have ne : ∀ {x}, x ∈ a.es → x.id ≠ d.id := fun {x} hx h => hn (by rw [← h]; exact List.mem_map_of_mem hx)
  refine ⟨?_, fun x hx => ?_, fun x hx => ?_, fun x hx h => ?_, fun k e => ?_, ?_, fun k v id => ?_, fun k v hv => by rw [r.vs] at hv; exact r.kv k v hv, fun k x hx hxt hxl => ?_⟩
  · rw [r.es, List.map_append, List.nodup_append]
    refine ⟨c.ids, by simp, fun i hi j hj => ?_⟩
    simp only [List.map_cons, List.map_nil, List.mem_singleton] at hj
    subst hj
    intro h; subst h
    exact hn hi
  · rw [r.vs]
    rcases mem.1 hx with h | rfl
    · exact c.ends x h
    · exact he
  · rcases mem.1 hx with h | rfl
    · exact c.ok x h
    · exact ho
  · rcases mem.1 hx with h' | rfl
    · exact c.tl x h' h
    · exact (ht h).1
  · have hk : e ∈ a'.fe k ↔ e ∈ a.fe k ∨ (k = 0 ∧ d.tr = true ∧ e = d.e) := by
      by_cases q : k = 0
      · subst q
        rw [r.f0 e]
        by_cases q2 : d.tr = true
        · rw [if_pos q2, List.mem_append, List.mem_singleton]
          exact ⟨fun h => h.imp id fun h => ⟨rfl, q2, h⟩, fun h => h.imp id fun h => h.2.2⟩
        · rw [if_neg q2]
          exact ⟨.inl, fun h => h.elim id fun h => absurd h.2.1 q2⟩
      · rw [r.fn k (by omega) e]
        exact ⟨.inl, fun h => h.elim id fun h => absurd h.1 q⟩
    rw [hk, c.fe]
    constructor
    · rintro (⟨d2, hd2, h⟩ | ⟨rfl, h1, rfl⟩)
      · exact ⟨d2, mem.2 (.inl hd2), h⟩
      · exact ⟨d, mem.2 (.inr rfl), h1, Nat.zero_le _, rfl⟩
    · rintro ⟨d2, hd2, h1, h2, rfl⟩
      rcases mem.1 hd2 with h | rfl
      · exact .inl ⟨d2, h, h1, h2, rfl⟩
      · exact .inr ⟨by omega, h1, rfl⟩
  · refine (Ac.same r.f0).2 ?_
    by_cases q : d.tr = true
    · rw [if_pos q]
      refine c.ac.snoc (fun h => ?_) (ht q).2
      obtain ⟨e, he', hid⟩ := List.mem_map.1 h
      obtain ⟨d2, hd2, _, _, rfl⟩ := (c.fe 0 e).1 he'
      exact ne hd2 hid
    · rw [if_neg q]; exact c.ac
  · rw [r.lo]
    constructor
    · intro h
      have h : (id = d.id ∧ d.at v ∧ k = 0 ∧ d.u ≠ d.v ∧ d.tr = false) ∨ id ∈ a.lo k v := by
        split at h
        · rename_i q
          exact h.imp (fun h => ⟨h, q⟩) (fun h => h)
        · exact .inr h
      rcases h with ⟨rfl, h1, h2, h3, h4⟩ | h
      · exact ⟨d, mem.2 (.inr rfl), rfl, h4, h3, by omega, h1⟩
      · obtain ⟨d2, hd2, h⟩ := (c.lo k v id).1 h
        exact ⟨d2, mem.2 (.inl hd2), h⟩
    · rintro ⟨d2, hd2, h1, h2, h3, h4, h5⟩
      rcases mem.1 hd2 with h | rfl
      · have hin : id ∈ a.lo k v := (c.lo k v id).2 ⟨d2, h, h1, h2, h3, h4, h5⟩
        split
        · exact .inr hin
        · exact hin
      · rw [if_pos ⟨h5, by omega, h3, h2⟩]
        exact .inl h1.symm
  · rcases mem.1 hx with h | rfl
    · rw [r.kn k _ (ne h)]
      exact c.ke k x h hxt hxl
    · obtain rfl : k = 0 := by omega
      rw [r.ke hxt]
      simp [hl]
theorem NewA.sp (r : NewA a d a') (c : Core a) (hl : d.lv = 0) (hc : d.tr = false → Cn (a.fe 0) d.u d.v) {y z : E} (s : Sp a y 0) : Sp a' z 0 := by
  have up : ∀ k, ∀ e ∈ a.fe k, e ∈ a'.fe k := fun k e he => by
    by_cases q : k = 0
    · subst q
      refine (r.f0 e).2 ?_
      split
      · exact List.mem_append_left _ he
      · exact he
    · exact (r.fn k (by omega) e).2 he
  intro x hx hxt hxl
  rw [r.es, List.mem_append, List.mem_singleton] at hx
  rw [if_neg (by omega)]
  rcases hx with h | rfl
  · have h := s x h hxt hxl
    rw [if_neg (by omega)] at h
    exact h.mono (up _)
  · rw [hl]
    exact (hc hxt).mono (up 0)
structure VertA (a : Ab) (vs' : List Int) (a' : Ab) : Prop where
  vs : a'.vs = vs'
  es : a'.es = a.es
  fe : ∀ k, SameE (a'.fe k) (a.fe k)
  lo : ∀ k v, v ∈ vs' → a'.lo k v = a.lo k v
  ln : ∀ k v, v ∉ vs' → a'.lo k v = []
  kv : ∀ k, ∀ v ∈ vs', (a'.kv k v = true ↔ a.lo k v ≠ [])
  ke : a'.ke = a.ke
theorem VertA.core {vs' : List Int} (r : VertA a vs' a') (c : Core a) (he : ∀ d ∈ a.es, d.u ∈ vs' ∧ d.v ∈ vs') : Core a' := by
  refine ⟨by rw [r.es]; exact c.ids, fun x hx => by rw [r.es] at hx; rw [r.vs]; exact he x hx, fun x hx => by rw [r.es] at hx; exact c.ok x hx, fun x hx h => by rw [r.es] at hx; exact c.tl x hx h, fun k e => by rw [r.fe k e, c.fe, r.es], (Ac.same (r.fe 0)).2 c.ac, fun k v id => ?_, fun k v hv => ?_, fun k x hx hxt hxl => by rw [r.es] at hx; rw [r.ke]; exact c.ke k x hx hxt hxl⟩
  · rw [r.es, ← c.lo]
    by_cases q : v ∈ vs'
    · rw [r.lo k v q]
    · rw [r.ln k v q]
      refine ⟨fun h => (by cases h), fun h => ?_⟩
      obtain ⟨d, hd, _, _, _, _, h5⟩ := (c.lo k v id).1 h
      have := he d hd
      rcases h5 with h5 | h5
      · exact absurd (h5 ▸ this.1) q
      · exact absurd (h5 ▸ this.2) q
  · rw [r.vs] at hv
    rw [r.lo k v hv]
    exact r.kv k v hv
theorem VertA.sp {vs' : List Int} (r : VertA a vs' a') {y z : E} (s : Sp a y 0) : Sp a' z 0 := by
  intro x hx hxt hxl
  rw [r.es] at hx
  have h := s x hx hxt hxl
  rw [if_neg (by omega)] at h ⊢
  exact (r.fe _).cn.2 h
end
abbrev TG : TypeId := 68
abbrev TLv : TypeId := 80
abbrev TDe : TypeId := 73
abbrev TLp : TypeId := 69
def eMp (b : Nat) : Value := .map (some b)
def eBo (b : Bool) : Value := .bool b
def ePt (b : Nat) : Value := .pointer (some ⟨b, 0, none⟩)
theorem KTm : KT Tryz.prog 78 3 124 eI W64 := ⟨by kernel_rfl, Maps.int_keyed Kint, fun x h => ⟨_, Maps.keyOf_int_mk Kint h.wf⟩, eI_inj⟩
theorem KTb : KT Tryz.prog 124 3 4 eI W64 := ⟨by kernel_rfl, Maps.int_keyed Kint, fun x h => ⟨_, Maps.keyOf_int_mk Kint h.wf⟩, eI_inj⟩
theorem KTp : KT Tryz.prog 65 3 71 eI W64 := ⟨by kernel_rfl, Maps.int_keyed Kint, fun x h => ⟨_, Maps.keyOf_int_mk Kint h.wf⟩, eI_inj⟩
theorem zM (w : World) : (zeroValue 124).run Tryz.prog w = .ok (.map none) w := by kernel_rfl
theorem zP' (w : World) : (zeroValue 71).run Tryz.prog w = .ok (.pointer none) w := by kernel_rfl
inductive Tg where
  | g | sd | lr | mv | me
  | lv (i : Nat)
  | fo (i : Nat)
  | lm (i : Nat)
  | inn (i : Nat) (v : Int)
  | ed (id : Int)
deriving DecidableEq
abbrev It := Option (Nat × List (Int × Bool) × Option (Int × Bool))
structure HS where
  G : Nat
  sA : Option Addr
  sc : Nat
  sd : List Int
  lA : Option Addr
  lc : Nat
  L : Nat
  lb : Nat → Nat
  F : Nat → Nat
  lm : Nat → Nat
  ll : Nat → List (Int × Nat)
  inn : Nat → Int → List (Int × Bool)
  it : Nat → Int → It
  mv : Nat
  me : Nat
  vl : List (Int × Int)
  blk : Int → Nat
  fv : Nat → List Int
  vs : List Int
  es : List Ed
  fe : Nat → List E
  kv : Nat → Int → Bool
  ke : Nat → Int → Bool
def HS.el (s : HS) : List (Int × Nat) := s.es.map fun d => (d.id, s.blk d.id)
def gC (s : HS) : Array Value := #[.slice s.sA s.sd.length s.sc, .slice s.lA s.L s.lc, .map (some s.mv), .map (some s.me)]
def lvC (s : HS) (i : Nat) : Array Value := #[.pointer (some ⟨s.F i, 0, none⟩), .map (some (s.lm i))]
def edC (d : Ed) : Array Value := #[.int .i64 d.u, .int .i64 d.v, .int .i64 (d.lv : Int), .bool d.tr]
def lps (s : HS) : List Value := (List.range s.L).map fun i => ePt (s.lb i)
def IM (w : World) (b : Nat) (m : List (Int × Bool)) : It → Prop
  | none => GM w eI eBo W64 b m
  | some (r, left, cur) => GI w eI eBo W64 b r m left cur
theorem IM.gm {w : World} {b : Nat} {m : List (Int × Bool)} {i : It} (h : IM w b m i) : GM w eI eBo W64 b m := by
  match i, h with
  | none, h => exact h
  | some (r, left, cur), h => exact GI.gm h
theorem IM.keeps {w w' : World} {b : Nat} {m : List (Int × Bool)} {i : It} {S : Nat → Prop} (h : IM w b m i) (k : Keeps S w w') (hb : ¬ S b) (hr : ∀ r l c, i = some (r, l, c) → ¬ S r) : IM w' b m i := by
  match i, h, hr with
  | none, h, _ => exact GM.keeps h k hb
  | some (r, left, cur), h, hr => exact GI.keeps h k hb (hr r left cur rfl)
abbrev Ow := Nat → Option Tg
def Part (s : HS) (O : Ow) (w : World) : Tg → Prop
  | .g => HB w s.G (gC s) TG ∧ O s.G = some .g
  | .sd => RI w s.sA s.sd ∧ (∀ a, s.sA = some a → s.sd ≠ [] → O a.block = some .sd) ∧ s.sd.length ≤ 17592186044416 ∧ (s.sA = none → s.sd.length = 0 ∧ s.sc = 0)
  | .lr => OwnW w 0 TLp s.lA s.lc (lps s) ∧ (∀ a, s.lA = some a → O a.block = some .lr)
  | .mv => GM w eI eI W64 s.mv s.vl ∧ O s.mv = some .mv
  | .me => GM w eI ePt W64 s.me s.el ∧ O s.me = some .me
  | .lv i => i < s.L → HB w (s.lb i) (lvC s i) TLv ∧ O (s.lb i) = some (.lv i)
  | .fo i => i < s.L → ∃ Fp, RepE w Fp (s.F i) (s.fv i) (s.fe i) (s.kv i) (s.ke i) ∧ ∀ k, Fp k → O k = some (.fo i)
  | .lm i => i < s.L → GM w eI eMp W64 (s.lm i) (s.ll i) ∧ O (s.lm i) = some (.lm i)
  | .inn i v => i < s.L → ∀ b, lk (s.ll i) v = some b → IM w b (s.inn i v) (s.it i v) ∧ O b = some (.inn i v) ∧ ∀ r l c, s.it i v = some (r, l, c) → O r = some (.inn i v)
  | .ed id => ∀ d ∈ s.es, d.id = id → HB w (s.blk id) (edC d) TDe ∧ O (s.blk id) = some (.ed id)
structure HM (w : World) (O : Ow) (s : HS) : Prop where
  part : ∀ t, Part s O w t
  dom : ∀ k t, O k = some t → k < w.heap.size
structure UH (O : Ow) (w : World) (O' : Ow) (w' : World) : Prop where
  kp : Keeps (fun k => O k ≠ none) w w'
  fr : ∀ k, O' k ≠ none → O k ≠ none ∨ w.heap.size ≤ k
theorem UH.refl (O : Ow) (w : World) : UH O w O w := ⟨.refl _ _, fun k h => .inl h⟩
theorem UH.trans {O O' O2 : Ow} {w w' w2 : World} (h : UH O w O' w') (k : UH O' w' O2 w2) : UH O w O2 w2 :=
  ⟨h.kp.trans' k.kp fun i hi h1 => (h.fr i h1).resolve_right (by omega), fun i hi => (k.fr i hi).elim (fun h1 => h.fr i h1) fun h1 => .inr (Nat.le_trans h.kp.size h1)⟩
theorem UH.below {O : Ow} {w w' : World} (h : Below w.heap.size w w') : UH O w O w' := ⟨.of_below h, fun k hk => .inl hk⟩
theorem UH.size {O O' : Ow} {w w' : World} (h : UH O w O' w') : w.heap.size ≤ w'.heap.size := h.kp.size
def ext (O : Ow) (t : Tg) (n n' : Nat) : Ow := fun k => if n ≤ k ∧ k < n' then some t else O k
section
variable {w w' : World} {O O' : Ow} {s s' : HS} {S : Nat → Prop} {t : Tg}
theorem Part.keep (h : Part s O w t) (k : Keeps S w w') (hS : ∀ b, O b = some t → ¬ S b) : Part s O w' t := by
  cases t with
  | g => exact ⟨h.1.keeps k (hS _ h.2), h.2⟩
  | sd =>
    refine ⟨fun i hi => ?_, h.2⟩
    obtain ⟨a, ha, hc⟩ := h.1 i hi
    refine ⟨a, ha, k.cell hc ?_⟩
    rw [add_block]
    exact hS _ (h.2.1 a ha fun e => by rw [e] at hi; exact absurd hi (Nat.not_lt_zero _))
  | lr => exact ⟨h.1.keeps k fun a ha => hS _ (h.2 a ha), h.2⟩
  | mv => exact ⟨h.1.keeps k (hS _ h.2), h.2⟩
  | me => exact ⟨h.1.keeps k (hS _ h.2), h.2⟩
  | lv i => exact fun hi => ⟨(h hi).1.keeps k (hS _ (h hi).2), (h hi).2⟩
  | fo i =>
    intro hi
    obtain ⟨Fp, hr, hF⟩ := h hi
    exact ⟨Fp, hr.other k fun b hb hf => hS b (hF b hf) hb, hF⟩
  | lm i => exact fun hi => ⟨(h hi).1.keeps k (hS _ (h hi).2), (h hi).2⟩
  | inn i v =>
    intro hi b hb
    obtain ⟨h1, h2, h3⟩ := h hi b hb
    exact ⟨h1.keeps k (hS _ h2) fun r l c e => hS _ (h3 r l c e), h2, h3⟩
  | ed id =>
    intro d hd e
    obtain ⟨h1, h2⟩ := h d hd e
    exact ⟨h1.keeps k (hS _ h2), h2⟩
theorem Part.mono (h : Part s O w t) (hO : ∀ b, O b = some t → O' b = some t) : Part s O' w t := by
  cases t with
  | g => exact ⟨h.1, hO _ h.2⟩
  | sd => exact ⟨h.1, fun a ha hn => hO _ (h.2.1 a ha hn), h.2.2⟩
  | lr => exact ⟨h.1, fun a ha => hO _ (h.2 a ha)⟩
  | mv => exact ⟨h.1, hO _ h.2⟩
  | me => exact ⟨h.1, hO _ h.2⟩
  | lv i => exact fun hi => ⟨(h hi).1, hO _ (h hi).2⟩
  | fo i =>
    intro hi
    obtain ⟨Fp, hr, hF⟩ := h hi
    exact ⟨Fp, hr, fun k hk => hO _ (hF k hk)⟩
  | lm i => exact fun hi => ⟨(h hi).1, hO _ (h hi).2⟩
  | inn i v =>
    intro hi b hb
    obtain ⟨h1, h2, h3⟩ := h hi b hb
    exact ⟨h1, hO _ h2, fun r l c e => hO _ (h3 r l c e)⟩
  | ed id =>
    intro d hd e
    obtain ⟨h1, h2⟩ := h d hd e
    exact ⟨h1, hO _ h2⟩
theorem HM.below (h : HM w O s) (k : Below w.heap.size w w') : HM w' O s :=
  ⟨fun t => (h.part t).keep (S := fun _ => False) (.of_below k) fun _ _ => id, fun b t e => Nat.lt_of_lt_of_le (h.dom b t e) k.size⟩
theorem ext_old {t : Tg} {n n' b : Nat} (hb : b < n) : ext O t n n' b = O b := by unfold ext; rw [if_neg (by omega)]
theorem ext_new {t : Tg} {n n' b : Nat} (h1 : n ≤ b) (h2 : b < n') : ext O t n n' b = some t := by unfold ext; rw [if_pos ⟨h1, h2⟩]
theorem HM.change (h : HM w O s) (k : Keeps S w w') (hS : ∀ b, S b → O b = some t) (hst : ∀ t', t' ≠ t → Part s (ext O t w.heap.size w'.heap.size) w' t' → Part s' (ext O t w.heap.size w'.heap.size) w' t') (hn : Part s' (ext O t w.heap.size w'.heap.size) w' t) :
    HM w' (ext O t w.heap.size w'.heap.size) s' ∧ UH O w (ext O t w.heap.size w'.heap.size) w' := by
  refine ⟨⟨fun t' => ?_, fun b t' e => ?_⟩, ⟨k.mono fun b _ hb e => (by rw [hS b hb] at e; cases e), fun b e => ?_⟩⟩
  · by_cases q : t' = t
    · subst q; exact hn
    · refine hst t' q (((h.part t').keep k fun b hb hs => ?_).mono fun b hb => ?_)
      · rw [hS b hs] at hb; injection hb with hb; exact q hb.symm
      · rw [ext_old (h.dom b t' hb)]; exact hb
  · unfold ext at e
    split at e
    · rename_i q; exact q.2
    · exact Nat.lt_of_lt_of_le (h.dom b t' e) k.size
  · unfold ext at e
    split at e
    · rename_i q; exact .inr q.1
    · exact .inl e
end
def upN {α : Type} (f : Nat → α) (i : Nat) (x : α) : Nat → α := fun k => if k = i then x else f k
def upd2 {α : Type} (f : Nat → Int → α) (i : Nat) (v : Int) (x : α) : Nat → Int → α := fun k y => if k = i ∧ y = v then x else f k y
theorem upN_same {α : Type} (f : Nat → α) (i : Nat) (x : α) : upN f i x i = x := by simp [upN]
theorem upN_ne {α : Type} (f : Nat → α) {i k : Nat} (x : α) (h : k ≠ i) : upN f i x k = f k := by simp [upN, h]
theorem upd2_same {α : Type} (f : Nat → Int → α) (i : Nat) (v : Int) (x : α) : upd2 f i v x i v = x := by simp [upd2]
theorem upd2_ne {α : Type} (f : Nat → Int → α) {i k : Nat} {v y : Int} (x : α) (h : ¬ (k = i ∧ y = v)) : upd2 f i v x k y = f k y := by simp [upd2, h]
section
variable {w w' : World} {O O' : Ow} {s s' : HS}
theorem HM.ldSd (h : HM w O s) {K : Option Addr → Nat → Nat → Prop} (hk : K s.sA s.sd.length s.sc) : ldS w (⟨s.G, 0, none⟩ : Addr) K := hb_ldS0 (h.part .g).1 rfl hk
theorem HM.ldLv (h : HM w O s) {K : Option Addr → Nat → Nat → Prop} (hk : K s.lA s.L s.lc) : ldS w ((⟨s.G, 0, none⟩ : Addr).add 1) K := hb_ldS (j := 1) (h.part .g).1 rfl hk
theorem HM.ldV (h : HM w O s) {K : Option Nat → Prop} (hk : K (some s.mv)) : ldM w ((⟨s.G, 0, none⟩ : Addr).add 2) K := hb_ldM (j := 2) (h.part .g).1 rfl hk
theorem HM.ldE (h : HM w O s) {K : Option Nat → Prop} (hk : K (some s.me)) : ldM w ((⟨s.G, 0, none⟩ : Addr).add 3) K := hb_ldM (j := 3) (h.part .g).1 rfl hk
theorem HM.ldF (h : HM w O s) {i : Nat} (hi : i < s.L) {K : Option Addr → Prop} (hk : K (some ⟨s.F i, 0, none⟩)) : ldP w (⟨s.lb i, 0, none⟩ : Addr) K := hb_ldP0 (h.part (.lv i) hi).1 rfl hk
theorem HM.ldL (h : HM w O s) {i : Nat} (hi : i < s.L) {K : Option Nat → Prop} (hk : K (some (s.lm i))) : ldM w ((⟨s.lb i, 0, none⟩ : Addr).add 1) K := hb_ldM (j := 1) (h.part (.lv i) hi).1 rfl hk
theorem lps_get {s : HS} {i : Nat} (hi : i < s.L) : (lps s)[i]? = some (ePt (s.lb i)) := by simp [lps, hi]
theorem lps_len (s : HS) : (lps s).length = s.L := by simp [lps]
theorem HM.ldRow (h : HM w O s) {i : Nat} (hi : i < s.L) {K : Option Addr → Prop} (hk : K (some ⟨s.lb i, 0, none⟩)) : ∃ a, s.lA = some a ∧ ldP w (a.add (i * 1)) K := by
  obtain ⟨a, ha, hc⟩ := (h.part .lr).1.cellAt (i := i) (by rw [lps_len]; exact hi)
  refine ⟨a, ha, some ⟨s.lb i, 0, none⟩, ?_, hk⟩
  have e : (lps s)[i]'(by rw [lps_len]; exact hi) = ePt (s.lb i) := by
    have := lps_get hi
    rw [List.getElem?_eq_getElem (by rw [lps_len]; exact hi)] at this
    injection this
  rw [e] at hc
  rw [Nat.mul_one]; exact hc
end
def HS.setF (s : HS) (i : Nat) (vs' : List Int) (es' : List E) (kv' ke' : Int → Bool) : HS := { s with fv := upN s.fv i vs', fe := upN s.fe i es', kv := upN s.kv i kv', ke := upN s.ke i ke' }
theorem upN_self {α : Type} (f : Nat → α) (i : Nat) : upN f i (f i) = f := by
  funext k
  unfold upN
  split
  · rename_i h; rw [h]
  · rfl
section
variable {w w' : World} {O O' : Ow} {s s' : HS} {i : Nat}
theorem HM.foStep (h : HM w O s) (hi : i < s.L) {Fp Fp' : Nat → Prop} (hF : ∀ k, Fp k → O k = some (.fo i)) {vs' : List Int} {es' : List E} {kv' ke' : Int → Bool} (hr : RepE w' Fp' (s.F i) vs' es' kv' ke') (u : Upd Fp w w' Fp') :
    ∃ O', HM w' O' (s.setF i vs' es' kv' ke') ∧ UH O w O' w' := by
  refine ⟨_, h.change (t := .fo i) u.kp hF (fun t' ht hp => ?_) ?_⟩
  · cases t' with
    | fo j =>
      have hj : j ≠ i := fun e => ht (by rw [e])
      intro hl
      have := hp hl
      simp only [HS.setF, upN_ne _ _ hj]
      exact this
    | g => exact hp
    | sd => exact hp
    | lr => exact hp
    | mv => exact hp
    | me => exact hp
    | lv j => exact hp
    | lm j => exact hp
    | inn j v => exact hp
    | ed id => exact hp
  · intro _
    refine ⟨Fp', ?_, fun k hk => ?_⟩
    · simp only [HS.setF, upN_same]; exact hr
    · rcases u.fr k hk with h1 | h1
      · have h2 := hF k h1
        rw [ext_old (h.dom k _ h2)]; exact h2
      · exact ext_new h1 (hr.lt k hk)
theorem HM.link (h : HM w O s) (hi : i < s.L) {e : E} (h1 : W64 e.id) (h2 : W64 e.u) (h3 : W64 e.v) (h0 : e.w = 0) :
    Calls Tryz.prog 41 #[.pointer (some ⟨s.F i, 0, none⟩), .int .i64 e.id, .int .i64 e.u, .int .i64 e.v] w fun en w' => ∃ j O', jC (s.fv i) (s.fe i) e.u e.v j ∧ en = .returned (.int .i64 (linkC (s.fv i) (s.fe i) e j)) ∧ HM w' O' (s.setF i (s.fv i) (linkEr (s.fv i) (s.fe i) e j) (s.kv i) (keL (s.fv i) (s.fe i) (s.ke i) e j)) ∧ UH O w O' w' := by
  obtain ⟨Fp, hr, hF⟩ := h.part (.fo i) hi
  refine (Link_ok hr h1 h2 h3 h0).mono ?_
  rintro _ w' ⟨j, Fp', hj, rfl, hr', u⟩
  obtain ⟨O', hm, hu⟩ := h.foStep hi hF hr' u
  exact ⟨j, O', hj, rfl, hm, hu⟩
theorem HM.cut (h : HM w O s) (hi : i < s.L) {x : Int} (hx : W64 x) :
    Calls Tryz.prog 44 #[.pointer (some ⟨s.F i, 0, none⟩), .int .i64 x] w fun en w' => ∃ O', en = .returned (.int .i64 (cutC (s.fe i) x)) ∧ HM w' O' (s.setF i (s.fv i) (cutEr (s.fe i) x) (s.kv i) (s.ke i)) ∧ UH O w O' w' := by
  obtain ⟨Fp, hr, hF⟩ := h.part (.fo i) hi
  refine (Cut_ok' hr hx).mono ?_
  rintro _ w' ⟨Fp', rfl, hr', u⟩
  obtain ⟨O', hm, hu⟩ := h.foStep hi hF hr' u
  exact ⟨O', rfl, hm, hu⟩
theorem HM.addV (h : HM w O s) (hi : i < s.L) {v : Int} (hv : W64 v) :
    Calls Tryz.prog 47 #[.pointer (some ⟨s.F i, 0, none⟩), .int .i64 v] w fun en w' => ∃ O', en = .returned (.int .i64 (addVC (s.fv i) v)) ∧ HM w' O' (s.setF i (addVr (s.fv i) v) (s.fe i) (kvA (s.fv i) (s.kv i) v) (s.ke i)) ∧ UH O w O' w' := by
  obtain ⟨Fp, hr, hF⟩ := h.part (.fo i) hi
  refine (AddV_ok hr hv).mono ?_
  rintro _ w' ⟨Fp', rfl, hr', u⟩
  obtain ⟨O', hm, hu⟩ := h.foStep hi hF hr' u
  exact ⟨O', rfl, hm, hu⟩
theorem HM.delV (h : HM w O s) (hi : i < s.L) {v : Int} (hv : W64 v) :
    Calls Tryz.prog 53 #[.pointer (some ⟨s.F i, 0, none⟩), .int .i64 v] w fun en w' => ∃ O', en = .returned (.int .i64 (delVC (s.fv i) (s.fe i) v)) ∧ HM w' O' (s.setF i (delVr (s.fv i) (s.fe i) v) (s.fe i) (s.kv i) (s.ke i)) ∧ UH O w O' w' := by
  obtain ⟨Fp, hr, hF⟩ := h.part (.fo i) hi
  refine (DelV_ok hr hv).mono ?_
  rintro _ w' ⟨Fp', rfl, hr', u⟩
  obtain ⟨O', hm, hu⟩ := h.foStep hi hF hr' u
  exact ⟨O', rfl, hm, hu⟩
theorem HM.markV (h : HM w O s) (hi : i < s.L) {v : Int} (hv : W64 v) (on : Bool) :
    Calls Tryz.prog 67 #[.pointer (some ⟨s.F i, 0, none⟩), .int .i64 v, .bool on] w fun en w' => ∃ O', en = .returned (.int .i64 (if v ∈ s.fv i then 0 else 51)) ∧ HM w' O' (s.setF i (s.fv i) (s.fe i) (kvM (s.fv i) (s.kv i) v on) (s.ke i)) ∧ UH O w O' w' := by
  obtain ⟨Fp, hr, hF⟩ := h.part (.fo i) hi
  refine (MarkV_ok hr hv on).mono ?_
  rintro _ w' ⟨rfl, hr', u⟩
  obtain ⟨O', hm, hu⟩ := h.foStep hi hF hr' u
  exact ⟨O', rfl, hm, hu⟩
theorem HM.markE (h : HM w O s) (hi : i < s.L) {x : Int} (hx : W64 x) (on : Bool) :
    Calls Tryz.prog 42 #[.pointer (some ⟨s.F i, 0, none⟩), .int .i64 x, .bool on] w fun en w' => ∃ O', en = .returned (.int .i64 (if x ∈ (s.fe i).map E.id then 0 else 152)) ∧ HM w' O' (s.setF i (s.fv i) (s.fe i) (s.kv i) (keM (s.fe i) (s.ke i) x on)) ∧ UH O w O' w' := by
  obtain ⟨Fp, hr, hF⟩ := h.part (.fo i) hi
  refine (MarkE_ok hr hx on).mono ?_
  rintro _ w' ⟨rfl, hr', u⟩
  obtain ⟨O', hm, hu⟩ := h.foStep hi hF hr' u
  exact ⟨O', rfl, hm, hu⟩
theorem HM.someV (h : HM w O s) (hi : i < s.L) {u : Int} (hu : W64 u) :
    Calls Tryz.prog 73 #[.pointer (some ⟨s.F i, 0, none⟩), .int .i64 u] w fun e w' => ∃ x, e = .returned (.tuple #[.int .i64 x, .int .i64 (if u ∈ s.fv i then 0 else 51)]) ∧ (u ∈ s.fv i → SomeS (cmpV (s.fv i) (s.fe i) u) (s.kv i) x) ∧ HM w' O s ∧ Below w.heap.size w w' := by
  obtain ⟨Fp, hr, hF⟩ := h.part (.fo i) hi
  refine (SomeV_ok hr hu).mono ?_
  rintro _ w' ⟨x, rfl, h1, _, g⟩
  exact ⟨x, rfl, h1, h.below g, g⟩
theorem HM.someE (h : HM w O s) (hi : i < s.L) {u : Int} (hu : W64 u) :
    Calls Tryz.prog 71 #[.pointer (some ⟨s.F i, 0, none⟩), .int .i64 u] w fun e w' => ∃ x, e = .returned (.tuple #[.int .i64 x, .int .i64 (if u ∈ s.fv i then 0 else 51)]) ∧ (u ∈ s.fv i → SomeS (cmpE (s.fe i) u) (s.ke i) x) ∧ HM w' O s ∧ Below w.heap.size w w' := by
  obtain ⟨Fp, hr, hF⟩ := h.part (.fo i) hi
  refine (SomeE_ok hr hu).mono ?_
  rintro _ w' ⟨x, rfl, h1, _, g⟩
  exact ⟨x, rfl, h1, h.below g, g⟩
theorem HM.fsize (h : HM w O s) (hi : i < s.L) {u : Int} (hu : W64 u) :
    Calls Tryz.prog 48 #[.pointer (some ⟨s.F i, 0, none⟩), .int .i64 u] w fun e w' => e = .returned (.tuple #[.int .i64 (if u ∈ s.fv i then ((cmpV (s.fv i) (s.fe i) u).length : Int) else 0), .int .i64 (if u ∈ s.fv i then 0 else 51)]) ∧ HM w' O s ∧ Below w.heap.size w w' := by
  obtain ⟨Fp, hr, hF⟩ := h.part (.fo i) hi
  refine (FSize_ok hr hu).mono ?_
  rintro _ w' ⟨rfl, g⟩
  exact ⟨rfl, h.below g, g⟩
open Classical in
theorem HM.fjoined (h : HM w O s) (hi : i < s.L) {u v : Int} (hu : W64 u) (hv : W64 v) :
    Calls Tryz.prog 37 #[.pointer (some ⟨s.F i, 0, none⟩), .int .i64 u, .int .i64 v] w fun e w' => e = .returned (.tuple #[.bool (decide (u ∈ s.fv i ∧ v ∈ s.fv i ∧ Cn (s.fe i) u v)), .int .i64 (if u ∈ s.fv i ∧ v ∈ s.fv i then 0 else 51)]) ∧ HM w' O s ∧ Below w.heap.size w w' := by
  obtain ⟨Fp, hr, hF⟩ := h.part (.fo i) hi
  refine (Joined_ok' hr hu hv).mono ?_
  rintro _ w' ⟨rfl, g⟩
  exact ⟨rfl, h.below g, g⟩
theorem HM.fverts (h : HM w O s) (hi : i < s.L) {u : Int} (hu : W64 u) :
    Calls Tryz.prog 38 #[.pointer (some ⟨s.F i, 0, none⟩), .int .i64 u] w fun e w' => ∃ A c out, e = .returned (.tuple #[.slice A out.length c, .int .i64 (if u ∈ s.fv i then 0 else 51)]) ∧ OwnI w' w.heap.size TI A c out ∧ out = (if u ∈ s.fv i then cmpV (s.fv i) (s.fe i) u else []) ∧ HM w' O s ∧ Below w.heap.size w w' := by
  obtain ⟨Fp, hr, hF⟩ := h.part (.fo i) hi
  refine (Verts_ok' hr hu).mono ?_
  rintro _ w' ⟨A, c, out, rfl, o, e, g⟩
  exact ⟨A, c, out, rfl, o, e, h.below g, g⟩
theorem HM.lmLook (h : HM w O s) (hi : i < s.L) {v : Int} (hv : W64 v) {K : Value → World → Prop} (hk : K (.map (lk (s.ll i) v)) w) : Runs Tryz.prog (Instr.lookup 78 (.map (some (s.lm i))) (.int .i64 v) false) w K := by
  refine (h.part (.lm i) hi).1.look KTm hv (zM w) ?_
  cases hq : lk (s.ll i) v with
  | none => rw [hq] at hk; exact hk
  | some b => rw [hq] at hk; exact hk
theorem HM.innNew (h : HM w O s) (hi : i < s.L) {v : Int} (hv : W64 v) (hn : lk (s.ll i) v = none) {K : Unit → World → Prop}
    (hk : ∀ w' O' b, HM w' O' { s with ll := upN s.ll i (putK (s.ll i) v b), inn := upd2 s.inn i v [], it := upd2 s.it i v none } → UH O w O' w' → K () w') :
    alW w (.map #[] 0) fun B w1 => Runs Tryz.prog (Instr.mapUpdate 78 (.map (some (s.lm i))) (.int .i64 v) (.map (some B))) w1 K := by
  have hnew := GM.new (eK := eI) (eV := eBo) (okK := W64) w
  have hb : Below w.heap.size w (w.alloc (.map #[] 0)) := (Below.refl _ _).alloc (Nat.le_refl _) _
  have hsz : (w.alloc (.map #[] 0)).heap.size = w.heap.size + 1 := Array.size_push _
  refine alW_intro ?_
  obtain ⟨w1, hw1⟩ : ∃ w1, w.alloc (.map #[] 0) = w1 := ⟨_, rfl⟩
  rw [hw1] at hnew hb hsz ⊢
  obtain ⟨n, hnn⟩ : ∃ n, w.heap.size = n := ⟨_, rfl⟩
  rw [hnn] at hnew hsz ⊢
  have c1 := h.change (w' := w1) (s' := { s with inn := upd2 s.inn i v [], it := upd2 s.it i v none }) (t := .inn i v) (S := fun _ => False) (.of_below hb) (fun _ hf => hf.elim) (fun t' ht hp => by
    cases t' with
    | inn j y =>
      have hjy : ¬ (j = i ∧ y = v) := fun e => ht (by rw [e.1, e.2])
      intro hl b hb
      have := hp hl b hb
      simp only [upd2_ne _ _ hjy]
      exact this
    | g => exact hp
    | sd => exact hp
    | lr => exact hp
    | mv => exact hp
    | me => exact hp
    | lv j => exact hp
    | lm j => exact hp
    | fo j => exact hp
    | ed id => exact hp) (fun _ b hb => by
      have hb : lk (s.ll i) v = some b := hb
      rw [hn] at hb; cases hb)
  obtain ⟨h1, u1⟩ := c1
  rw [hnn, hsz] at h1 u1
  refine (h1.part (.lm i) hi).1.upd KTm hv fun w2 g2 k2 => ?_
  obtain ⟨h2, u2⟩ := h1.change (w' := w2) (s' := { s with ll := upN s.ll i (putK (s.ll i) v n), inn := upd2 s.inn i v [], it := upd2 s.it i v none }) (t := .lm i) k2 (fun b hb => by rw [hb]; exact (h1.part (.lm i) hi).2) (fun t' ht hp => by
    cases t' with
    | inn j y =>
      intro hl b hb
      by_cases hj : j = i
      · subst hj
        have hb : lk (upN s.ll j (putK (s.ll j) v n) j) y = some b := hb
        rw [upN_same, lk_putK] at hb
        by_cases hy : v = y
        · subst hy
          rw [if_pos rfl] at hb
          injection hb with hb
          subst hb
          simp only [upd2_same]
          have hne : n ≠ s.lm j := fun e => by
            have h3 := (h1.part (.lm j) hi).2
            rw [← show n = s.lm j from e] at h3
            rw [ext_new (Nat.le_refl _) (Nat.lt_succ_self _)] at h3
            cases h3
          refine ⟨GM.keeps hnew k2 hne, ?_, fun r l c e => by cases e⟩
          rw [ext_old (by omega), ext_new (Nat.le_refl _) (Nat.lt_succ_self _)]
        · rw [if_neg hy] at hb
          exact hp hl b hb
      · have hb : lk (upN s.ll i (putK (s.ll i) v n) j) y = some b := hb
        rw [upN_ne _ _ hj] at hb
        exact hp hl b hb
    | lm j =>
      have hj : j ≠ i := fun e => ht (by rw [e])
      intro hl
      have := hp hl
      show GM _ _ _ _ _ (upN s.ll i _ j) ∧ _
      rw [upN_ne _ _ hj]
      exact this
    | g => exact hp
    | sd => exact hp
    | lr => exact hp
    | mv => exact hp
    | me => exact hp
    | lv j => exact hp
    | fo j => exact hp
    | ed id => exact hp) (fun _ => by
      show GM _ _ _ _ _ (upN s.ll i _ i) ∧ _
      rw [upN_same]
      refine ⟨g2, ?_⟩
      have h3 := (h1.part (.lm i) hi).2
      rw [ext_old (h1.dom _ _ h3)]; exact h3)
  exact hk w2 _ n h2 (u1.trans u2)
theorem HM.innSet (h : HM w O s) (hi : i < s.L) {v : Int} {b : Nat} (hb : lk (s.ll i) v = some b) {m' : List (Int × Bool)} {it' : It} (k : Keeps (fun k => k = b) w w') (hm : IM w' b m' it') (hit : ∀ r l c, it' = some (r, l, c) → ∃ l' c', s.it i v = some (r, l', c')) :
    ∃ O', HM w' O' { s with inn := upd2 s.inn i v m', it := upd2 s.it i v it' } ∧ UH O w O' w' := by
  obtain ⟨h1, h2, h3⟩ := h.part (.inn i v) hi b hb
  refine ⟨_, h.change (t := .inn i v) k (fun x hx => by rw [hx]; exact h2) (fun t' ht hp => ?_) (fun _ b' hb' => ?_)⟩
  · cases t' with
    | inn j y =>
      have hjy : ¬ (j = i ∧ y = v) := fun e => ht (by rw [e.1, e.2])
      intro hl b hb
      have := hp hl b hb
      simp only [upd2_ne _ _ hjy]
      exact this
    | g => exact hp
    | sd => exact hp
    | lr => exact hp
    | mv => exact hp
    | me => exact hp
    | lv j => exact hp
    | lm j => exact hp
    | fo j => exact hp
    | ed id => exact hp
  · have hb' : lk (s.ll i) v = some b' := hb'
    rw [hb] at hb'
    injection hb' with hb'
    subst hb'
    simp only [upd2_same]
    refine ⟨hm, by rw [ext_old (h.dom _ _ h2)]; exact h2, fun r l c e => ?_⟩
    obtain ⟨l', c', e'⟩ := hit r l c e
    have := h3 r l' c' e'
    rw [ext_old (h.dom _ _ this)]; exact this
end
def loF (ll : Nat → List (Int × Nat)) (inn : Nat → Int → List (Int × Bool)) (k : Nat) (y : Int) : List Int := match lk (ll k) y with
  | some _ => (inn k y).map Prod.fst
  | none => []
def HS.lo (s : HS) : Nat → Int → List Int := loF s.ll s.inn
theorem loF_some {ll : Nat → List (Int × Nat)} {inn : Nat → Int → List (Int × Bool)} {k : Nat} {y : Int} {b : Nat} (h : lk (ll k) y = some b) : loF ll inn k y = (inn k y).map Prod.fst := by unfold loF; rw [h]
theorem loF_none {ll : Nat → List (Int × Nat)} {inn : Nat → Int → List (Int × Bool)} {k : Nat} {y : Int} (h : lk (ll k) y = none) : loF ll inn k y = [] := by unfold loF; rw [h]
theorem put_mem {m : List (Int × Bool)} {x : Int} {v : Bool} {y : Int} : y ∈ (putK m x v).map Prod.fst ↔ y = x ∨ y ∈ m.map Prod.fst := by
  rw [keys_putK]
  split
  · rename_i h
    obtain ⟨u, hu⟩ := hasK_iff.1 h
    constructor
    · exact .inr
    · rintro (rfl | h)
      · exact List.mem_map_of_mem hu
      · exact h
  · rw [List.mem_append, List.mem_singleton, or_comm]
theorem del_mem {m : List (Int × Bool)} {x : Int} {y : Int} : y ∈ (delK m x).map Prod.fst ↔ y ∈ m.map Prod.fst ∧ y ≠ x := by
  unfold delK
  simp only [List.mem_map, List.mem_filter, Bool.not_eq_true', decide_eq_false_iff_not]
  constructor
  · rintro ⟨p, ⟨h1, h2⟩, rfl⟩; exact ⟨⟨p, h1, rfl⟩, h2⟩
  · rintro ⟨⟨p, h1, rfl⟩, h2⟩; exact ⟨p, ⟨h1, h2⟩, rfl⟩
structure HgV (s : HS) (i : Nat) (v id : Int) (on : Bool) (ll' : Nat → List (Int × Nat)) (inn' : Nat → Int → List (Int × Bool)) (it' : Nat → Int → It) (kv' : Nat → Int → Bool) : Prop where
  lo : ∀ k y id', id' ∈ loF ll' inn' k y ↔ if k = i ∧ y = v then (if on = true then id' = id ∨ id' ∈ s.lo k y else id' ∈ s.lo k y ∧ id' ≠ id) else id' ∈ s.lo k y
  kv : ∀ k y, kv' k y = if k = i ∧ y = v ∧ v ∈ s.fv i then decide (loF ll' inn' i v ≠ []) else s.kv k y
  it : ∀ k y, ¬ (k = i ∧ y = v) → it' k y = s.it k y
  itn : s.it i v = none → it' i v = none
  its : ∀ r l c, s.it i v = some (r, l, c) → it' i v = some (r, l, none)
  has : ∀ k y b, lk (s.ll k) y = some b → lk (ll' k) y = some b
  oth : ∀ k y, ¬ (k = i ∧ y = v) → lk (ll' k) y = lk (s.ll k) y ∧ inn' k y = s.inn k y
section
variable {w w' : World} {O O' : Ow} {s s' : HS} {i : Nat} {v id : Int}
def itNext : It → It
  | none => none
  | some (r, l, c) => some (r, l, none)
theorem j2_ok (h : HM w O s) (hi : i < s.L) (hv : W64 v) {b : Nat} (hb : lk (s.ll i) v = some b) {Kn : World → Prop}
    (hk : ∀ w' O', HM w' O' (s.setF i (s.fv i) (s.fe i) (kvM (s.fv i) (s.kv i) v (decide (s.inn i v ≠ []))) (s.ke i)) → UH O w O' w' → Kn w') : f_hdt_level_hang.j2 ⟨s.lb i, 0, none⟩ v w Kn := by
  unfold f_hdt_level_hang.j2
  refine drW_intro ?_
  have gd : Below w.heap.size w w.drew := (Below.refl _ _).drew
  have h1 := h.below gd
  have u1 : UH O w O w.drew := .below gd
  obtain ⟨w1, hw1⟩ : ∃ w1, w.drew = w1 := ⟨_, rfl⟩
  rw [hw1] at gd h1 u1 ⊢
  have hL := (h1.part (.lv i) hi).1
  refine ⟨fun a => HB a (s.lb i) (lvC s i) TLv, hL, some ⟨s.F i, 0, none⟩, fun a ha => (ha.cell 0).trans rfl, some (s.lm i), fun a ha => (ha.cell 1).trans rfl, ?_⟩
  refine h1.lmLook hi hv ?_
  rw [hb]
  refine ⟨some b, rfl, hL, ?_⟩
  refine (h1.part (.inn i v) hi b hb).1.gm.len KTb ?_
  refine ⟨_, rfl, hL, ?_⟩
  have e : decide (((s.inn i v).length : Int) > 0) = decide (s.inn i v ≠ []) := by
    rw [decide_eq_decide]
    constructor
    · intro hh hn; rw [hn] at hh; exact absurd hh (by decide)
    · intro hh; have := List.length_pos_iff.2 hh; omega
  rw [e]
  refine (h1.markV hi hv _).mono ?_
  rintro _ w2 ⟨O2, rfl, h2, u2⟩
  exact ⟨_, rfl, hk w2 O2 h2 (u1.trans u2)⟩
theorem j1_ok (h : HM w O s) (hi : i < s.L) (hv : W64 v) (hid : W64 id) (on : Bool) {b : Nat} (hb : lk (s.ll i) v = some b) (hit : ∀ r l c, s.it i v = some (r, l, c) → on = false ∧ ∃ bb, c = some (id, bb)) {K : World → Prop}
    (hk : ∀ w' O' m', m' = (if on = true then putK (s.inn i v) id true else delK (s.inn i v) id) → HM w' O' ({ s with inn := upd2 s.inn i v m', it := upd2 s.it i v (itNext (s.it i v)) }.setF i (s.fv i) (s.fe i) (kvM (s.fv i) (s.kv i) v (decide (m' ≠ []))) (s.ke i)) → UH O w O' w' → K w') :
    f_hdt_level_hang.j1 ⟨s.lb i, 0, none⟩ id on v w K := by
  unfold f_hdt_level_hang.j1
  have hI := (h.part (.inn i v) hi b hb).1
  have rest : ∀ w1 O1 m', m' = (if on = true then putK (s.inn i v) id true else delK (s.inn i v) id) → HM w1 O1 { s with inn := upd2 s.inn i v m', it := upd2 s.it i v (itNext (s.it i v)) } → UH O w O1 w1 → f_hdt_level_hang.j2 ⟨s.lb i, 0, none⟩ v w1 (fun (w37 : World) => ∀ _ : Go.Dn.Fr, K w37) := fun w1 O1 m' hm h1 u1 => by
    refine j2_ok (s := { s with inn := upd2 s.inn i v m', it := upd2 s.it i v (itNext (s.it i v)) }) (i := i) h1 hi hv hb fun w2 O2 h2 u2 _ => ?_
    simp only [upd2_same] at h2
    exact hk w2 O2 m' hm h2 (u1.trans u2)
  cases on with
  | true =>
    have hn : s.it i v = none := by
      cases hq : s.it i v with
      | none => rfl
      | some x =>
        obtain ⟨r, l, c⟩ := x
        exact absurd (hit r l c hq).1 (by decide)
    refine sel_t rfl (h.ldL hi (h.lmLook hi hv ?_))
    rw [hb]
    refine ⟨some b, rfl, hI.gm.upd KTb hid (v := true) fun w1 g1 k1 => ?_⟩
    obtain ⟨O1, h1, u1⟩ := h.innSet hi hb (m' := putK (s.inn i v) id true) (it' := none) k1 g1 (fun r l c e => by cases e)
    refine rest w1 O1 _ rfl ?_ u1
    rw [hn]; exact h1
  | false =>
    refine sel_f rfl (h.ldL hi (h.lmLook hi hv ?_))
    rw [hb]
    refine ⟨some b, rfl, ?_⟩
    cases hq : s.it i v with
    | none =>
      refine hI.gm.del KTb hid fun w1 g1 k1 => ⟨rfl, ?_⟩
      obtain ⟨O1, h1, u1⟩ := h.innSet hi hb (m' := delK (s.inn i v) id) (it' := none) k1 g1 (fun r l c e => by cases e)
      refine rest w1 O1 _ rfl ?_ u1
      rw [hq]; exact h1
    | some x =>
      obtain ⟨r, l, c⟩ := x
      obtain ⟨_, bb, rfl⟩ := hit r l c hq
      rw [hq] at hI
      have hI : GI w eI eBo W64 b r (s.inn i v) l (some (id, bb)) := hI
      refine hI.del KTb fun w1 g1 k1 => ⟨rfl, ?_⟩
      obtain ⟨O1, h1, u1⟩ := h.innSet hi hb (m' := delK (s.inn i v) id) (it' := some (r, l, none)) k1 g1 (fun r' l' c' e => by injection e with e; injection e with e1 e2; injection e2 with e2 e3; subst e1; exact ⟨l, some (id, bb), hq⟩)
      refine rest w1 O1 _ rfl ?_ u1
      rw [hq]; exact h1
theorem hangV (h : HM w O s) (hi : i < s.L) (hv : W64 v) (hid : W64 id) (on : Bool) (hit : ∀ r l c, s.it i v = some (r, l, c) → (∃ b0, lk (s.ll i) v = some b0) ∧ on = false ∧ ∃ bb, c = some (id, bb)) {K : World → Prop}
    (hk : ∀ w' O' ll' inn' it' kv', HM w' O' { s with ll := ll', inn := inn', it := it', kv := kv' } → UH O w O' w' → HgV s i v id on ll' inn' it' kv' → K w') :
    ldM w ((⟨s.lb i, 0, none⟩ : Addr).add 1) fun m11 =>
    Runs Tryz.prog (Instr.lookup 78 (.map m11) (.int .i64 v) false) w fun v13 w12 => ∃ (m14 : Option Nat), v13 = (.map m14) ∧ (
    sel m14.isNone (
    ldM w12 ((⟨s.lb i, 0, none⟩ : Addr).add 1) fun m15 =>
    alW w12 (.map #[] 0) fun B16 w17 =>
    Runs Tryz.prog (Instr.mapUpdate 78 (.map m15) (.int .i64 v) (.map (some B16))) w17 fun _ w18 =>
    f_hdt_level_hang.j1 ⟨s.lb i, 0, none⟩ id on v w18 K) (
    f_hdt_level_hang.j1 ⟨s.lb i, 0, none⟩ id on v w12 K)) := by
  refine h.ldL hi (h.lmLook hi hv ⟨lk (s.ll i) v, rfl, ?_⟩)
  have kvE : ∀ (lx : List Int) k y, (upN s.kv i (kvM (s.fv i) (s.kv i) v (decide (lx ≠ [])))) k y = if k = i ∧ y = v ∧ v ∈ s.fv i then decide (lx ≠ []) else s.kv k y := fun lx k y => by
    by_cases hk : k = i
    · subst hk
      rw [upN_same]
      unfold kvM
      by_cases hy : v ∈ s.fv k ∧ y = v
      · rw [if_pos hy, if_pos ⟨rfl, hy.2, hy.1⟩]
      · rw [if_neg hy, if_neg fun q => hy ⟨q.2.2, q.2.1⟩]
    · rw [upN_ne _ _ hk, if_neg fun q => hk q.1]
  have memE : ∀ (m0 m' : List (Int × Bool)), m' = (if on = true then putK m0 id true else delK m0 id) → ∀ id', id' ∈ m'.map Prod.fst ↔ if on = true then id' = id ∨ id' ∈ m0.map Prod.fst else id' ∈ m0.map Prod.fst ∧ id' ≠ id := fun m0 m' hm id' => by
    subst hm
    cases on
    · simp only [Bool.false_eq_true, if_false]; exact del_mem
    · simp only [if_true]; exact put_mem
  have neE : ∀ m' : List (Int × Bool), decide (m' ≠ []) = decide (m'.map Prod.fst ≠ []) := fun m' => by
    cases m' <;> simp
  cases hq : lk (s.ll i) v with
  | none =>
    refine sel_t rfl (h.ldL hi (h.innNew hi hv hq fun w1 O1 b1 h1 u1 => ?_))
    obtain ⟨s1, hs1⟩ : ∃ s1, ({ s with ll := upN s.ll i (putK (s.ll i) v b1), inn := upd2 s.inn i v [], it := upd2 s.it i v none } : HS) = s1 := ⟨_, rfl⟩
    have hnone : s.it i v = none := by
      cases hz : s.it i v with
      | none => rfl
      | some x =>
        obtain ⟨r, l, c⟩ := x
        obtain ⟨⟨b0, hb0⟩, _⟩ := hit r l c hz
        rw [hq] at hb0; cases hb0
    have hb1 : lk (upN s.ll i (putK (s.ll i) v b1) i) v = some b1 := by rw [upN_same, lk_putK, if_pos rfl]
    refine j1_ok (s := { s with ll := upN s.ll i (putK (s.ll i) v b1), inn := upd2 s.inn i v [], it := upd2 s.it i v none }) h1 hi hv hid on hb1 (fun r l c e => by simp only [upd2_same] at e; cases e) fun w2 O2 m' hm h2 u2 => ?_
    simp only [upd2_same] at hm h2
    have oth : ∀ k y, ¬ (k = i ∧ y = v) → lk (upN s.ll i (putK (s.ll i) v b1) k) y = lk (s.ll k) y := fun k y hne => by
      by_cases hk : k = i
      · subst hk
        rw [upN_same, lk_putK, if_neg fun e => hne ⟨rfl, e.symm⟩]
      · rw [upN_ne _ _ hk]
    have loE : loF (upN s.ll i (putK (s.ll i) v b1)) (upd2 (upd2 s.inn i v []) i v m') i v = m'.map Prod.fst := by rw [loF_some hb1, upd2_same]
    refine hk w2 O2 _ _ _ _ ?_ (u1.trans u2) (⟨fun k y id' => ?_, fun k y => ?_, fun k y hne => ?_, fun _ => ?_, fun r l c e => ?_, fun k y b hb => ?_, fun k y hne => ⟨oth k y hne, ?_⟩⟩ : HgV s i v id on (upN s.ll i (putK (s.ll i) v b1)) (upd2 (upd2 s.inn i v []) i v m') (upd2 (upd2 s.it i v none) i v (itNext none)) (upN s.kv i (kvM (s.fv i) (s.kv i) v (decide (m' ≠ [])))))
    · have e1 : upN s.fv i (s.fv i) = s.fv := upN_self _ _
      have e2 : upN s.fe i (s.fe i) = s.fe := upN_self _ _
      have e3 : upN s.ke i (s.ke i) = s.ke := upN_self _ _
      simp only [HS.setF, e1, e2, e3] at h2
      exact h2
    · by_cases hky : k = i ∧ y = v
      · obtain ⟨rfl, rfl⟩ := hky
        rw [if_pos ⟨rfl, rfl⟩, loE, memE _ _ hm]
        have : s.lo k y = [] := loF_none hq
        rw [this]; rfl
      · rw [if_neg hky]
        unfold HS.lo loF
        rw [oth k y hky, upd2_ne _ _ hky, upd2_ne _ _ hky]
    · rw [loE, neE]
      exact kvE (m'.map Prod.fst) k y
    · rw [upd2_ne _ _ hne, upd2_ne _ _ hne]
    · rw [upd2_same]; rfl
    · rw [hnone] at e; cases e
    · by_cases hky : k = i ∧ y = v
      · obtain ⟨rfl, rfl⟩ := hky
        rw [hq] at hb; cases hb
      · rw [oth k y hky]; exact hb
    · rw [upd2_ne _ _ hne, upd2_ne _ _ hne]
  | some b =>
    refine sel_f rfl ?_
    refine j1_ok h hi hv hid on hq (fun r l c e => (hit r l c e).2) fun w2 O2 m' hm h2 u2 => ?_
    have loE : loF s.ll (upd2 s.inn i v m') i v = m'.map Prod.fst := by rw [loF_some hq, upd2_same]
    refine hk w2 O2 _ _ _ _ ?_ u2 (⟨fun k y id' => ?_, fun k y => ?_, fun k y hne => ?_, fun e => ?_, fun r l c e => ?_, fun k y b hb => hb, fun k y hne => ⟨rfl, upd2_ne _ _ hne⟩⟩ : HgV s i v id on s.ll (upd2 s.inn i v m') (upd2 s.it i v (itNext (s.it i v))) (upN s.kv i (kvM (s.fv i) (s.kv i) v (decide (m' ≠ [])))))
    · have e1 : upN s.fv i (s.fv i) = s.fv := upN_self _ _
      have e2 : upN s.fe i (s.fe i) = s.fe := upN_self _ _
      have e3 : upN s.ke i (s.ke i) = s.ke := upN_self _ _
      simp only [HS.setF, e1, e2, e3] at h2
      exact h2
    · by_cases hky : k = i ∧ y = v
      · obtain ⟨rfl, rfl⟩ := hky
        rw [if_pos ⟨rfl, rfl⟩, loE, memE _ _ hm]
        have : s.lo k y = (s.inn k y).map Prod.fst := loF_some hq
        rw [this]
      · rw [if_neg hky]
        unfold HS.lo loF
        rw [upd2_ne _ _ hky]
    · rw [loE, neE]
      exact kvE (m'.map Prod.fst) k y
    · exact upd2_ne _ _ hne
    · rw [upd2_same, e]; rfl
    · rw [upd2_same, e]; rfl
structure Hg (s : HS) (i : Nat) (d : Ed) (on : Bool) (ll' : Nat → List (Int × Nat)) (inn' : Nat → Int → List (Int × Bool)) (it' : Nat → Int → It) (kv' : Nat → Int → Bool) : Prop where
  lo : ∀ k y id', id' ∈ loF ll' inn' k y ↔ if k = i ∧ d.at y then (if on = true then id' = d.id ∨ id' ∈ s.lo k y else id' ∈ s.lo k y ∧ id' ≠ d.id) else id' ∈ s.lo k y
  kv : ∀ k y, kv' k y = if k = i ∧ d.at y ∧ y ∈ s.fv i then decide (loF ll' inn' k y ≠ []) else s.kv k y
  itn : ∀ k y, s.it k y = none → it' k y = none
  its : ∀ k y r l c, s.it k y = some (r, l, c) → it' k y = some (r, l, if k = i ∧ d.at y then none else c)
  has : ∀ k y b, lk (s.ll k) y = some b → lk (ll' k) y = some b
theorem hang_ok (h : HM w O s) (hi : i < s.L) {d : Ed} {be : Nat} (hE : HB w be (edC d) TDe) (hn : d.u ≠ d.v) (hid : W64 d.id) (hu : W64 d.u) (hv : W64 d.v) (on : Bool) (hit : ∀ y, d.at y → ∀ r l c, s.it i y = some (r, l, c) → (∃ b0, lk (s.ll i) y = some b0) ∧ on = false ∧ ∃ bb, c = some (d.id, bb)) :
    Calls Tryz.prog 43 #[.pointer (some ⟨s.lb i, 0, none⟩), .int .i64 d.id, .pointer (some ⟨be, 0, none⟩), .bool on] w fun e w' => e = .returned (.tuple #[]) ∧ ∃ O' ll' inn' it' kv', HM w' O' { s with ll := ll', inn := inn', it := it', kv := kv' } ∧ UH O w O' w' ∧ Hg s i d on ll' inn' it' kv' := by
  apply f_hdt_level_hang.ok
  unfold f_hdt_level_hang.wp
  refine drW_intro ?_
  have gd : Below w.heap.size w w.drew := (Below.refl _ _).drew
  have hE1 := hE.below gd
  refine ⟨fun a => HB a be (edC d) TDe, hE1, optB_some rfl ⟨d.u, fun a ha => (ha.cell 0).trans rfl, optB_some rfl ⟨d.v, fun a ha => (ha.cell 1).trans rfl, ?_⟩⟩⟩
  refine al_new fun w1 B e1 z1 h1 g1 => ⟨hE1.below g1, 3, ?_⟩
  have gg : Below w.heap.size w w1 := gd.trans (g1.mono gd.size)
  have hm1 := h.below gg
  have u1 : UH O w O w1 := .below gg
  have cells : RI w1 (some ⟨B, 0, none⟩) [d.u, d.v] := h1.ri [d.u, d.v] rfl
  obtain ⟨a0, ha0, c0⟩ := cells 0 (by simp)
  injection ha0 with ha0; subst ha0
  unfold f_hdt_level_hang.l0
  refine sel_t rfl (optB_some rfl (req_intro (by simp) (ldI_intro c0 ?_)))
  refine hangV hm1 hi hu hid on (hit d.u (.inl rfl)) fun w2 O2 ll2 inn2 it2 kv2 hm2 u2 g2 _ => ?_
  have hB2 : HB w2 B #[.int .i64 d.u, .int .i64 d.v] TI := h1.keeps u2.kp fun hk => by
    cases hq : O B with
    | none => exact hk hq
    | some t =>
      have := h.dom B t hq
      have := gd.size
      have : w.drew.heap.size = w.heap.size := rfl
      omega
  have cells2 : RI w2 (some ⟨B, 0, none⟩) [d.u, d.v] := hB2.ri [d.u, d.v] rfl
  obtain ⟨a1, ha1, c1⟩ := cells2 1 (by simp)
  injection ha1 with ha1; subst ha1
  have hit2 : ∀ r l c, it2 i d.v = some (r, l, c) → (∃ b0, lk (ll2 i) d.v = some b0) ∧ on = false ∧ ∃ bb, c = some (d.id, bb) := fun r l c e => by
    rw [g2.it i d.v fun q => hn q.2.symm] at e
    obtain ⟨⟨b0, hb0⟩, q⟩ := hit d.v (.inr rfl) r l c e
    exact ⟨⟨b0, g2.has i d.v b0 hb0⟩, q⟩
  unfold f_hdt_level_hang.l0
  refine sel_t rfl (optB_some rfl (req_intro (by decide) (ldI_intro c1 ?_)))
  refine hangV (s := { s with ll := ll2, inn := inn2, it := it2, kv := kv2 }) hm2 hi hv hid on hit2 fun w3 O3 ll3 inn3 it3 kv3 hm3 u3 g3 _ => ?_
  unfold f_hdt_level_hang.l0
  refine sel_f rfl fun _ => ⟨rfl, O3, ll3, inn3, it3, kv3, hm3, (u1.trans u2).trans u3, fun k y id' => ?_, fun k y => ?_, fun k y e => ?_, fun k y r l c e => ?_, fun k y b hb => g3.has k y b (g2.has k y b hb)⟩
  · have q3 := g3.lo k y id'
    have q2 := g2.lo k y id'
    have e2 : HS.lo { s with ll := ll2, inn := inn2, it := it2, kv := kv2 } k y = loF ll2 inn2 k y := rfl
    rw [e2] at q3
    rw [q3]
    by_cases hk : k = i
    · subst hk
      by_cases h1' : y = d.u
      · subst h1'
        rw [if_neg (c := k = k ∧ d.u = d.v) fun q => hn q.2, q2, if_pos (c := k = k ∧ d.u = d.u) ⟨rfl, rfl⟩, if_pos (c := k = k ∧ d.at d.u) ⟨rfl, .inl rfl⟩]
      · by_cases h2' : y = d.v
        · subst h2'
          rw [if_pos (c := k = k ∧ d.v = d.v) ⟨rfl, rfl⟩, q2, if_neg (c := k = k ∧ d.v = d.u) fun q => h1' q.2, if_pos (c := k = k ∧ d.at d.v) ⟨rfl, .inr rfl⟩]
        · rw [if_neg (c := k = k ∧ y = d.v) fun q => h2' q.2, q2, if_neg (c := k = k ∧ y = d.u) fun q => h1' q.2, if_neg (c := k = k ∧ d.at y) fun q => q.2.elim (fun q => h1' q.symm) fun q => h2' q.symm]
    · rw [if_neg (c := k = i ∧ y = d.v) fun q => hk q.1, q2, if_neg (c := k = i ∧ y = d.u) fun q => hk q.1, if_neg (c := k = i ∧ d.at y) fun q => hk q.1]
  · rw [g3.kv k y]
    have hoth : ∀ k y, ¬ (k = i ∧ y = d.v) → loF ll3 inn3 k y = loF ll2 inn2 k y := fun k y hne => by
      obtain ⟨o1, o2⟩ := g3.oth k y hne
      unfold loF
      rw [o1, o2]
    by_cases hk : k = i
    · subst hk
      by_cases h2' : y = d.v
      · subst h2'
        by_cases hf : d.v ∈ s.fv k
        · rw [if_pos ⟨rfl, rfl, hf⟩, if_pos ⟨rfl, .inr rfl, hf⟩]
        · rw [if_neg fun q => hf q.2.2, if_neg fun q => hf q.2.2]
          show kv2 k d.v = _
          rw [g2.kv, if_neg fun q => hn q.2.1.symm]
      · rw [if_neg fun q => h2' q.2.1]
        show kv2 k y = _
        rw [g2.kv]
        by_cases h1' : y = d.u
        · subst h1'
          rw [hoth k d.u fun q => h2' q.2]
          by_cases hf : d.u ∈ s.fv k
          · rw [if_pos ⟨rfl, rfl, hf⟩, if_pos ⟨rfl, .inl rfl, hf⟩]
          · rw [if_neg fun q => hf q.2.2, if_neg fun q => hf q.2.2]
        · rw [if_neg fun q => h1' q.2.1, if_neg fun q => q.2.1.elim (fun q => h1' q.symm) fun q => h2' q.symm]
    · rw [if_neg fun q => hk q.1, if_neg fun q => hk q.1]
      show kv2 k y = _
      rw [g2.kv, if_neg fun q => hk q.1]
  · have e2 : it2 k y = none := by
      by_cases hky : k = i ∧ y = d.u
      · obtain ⟨rfl, rfl⟩ := hky; exact g2.itn e
      · rw [g2.it k y hky]; exact e
    by_cases hky : k = i ∧ y = d.v
    · obtain ⟨rfl, rfl⟩ := hky; exact g3.itn e2
    · rw [g3.it k y hky]; exact e2
  · by_cases hk : k = i
    · subst hk
      by_cases h1' : y = d.u
      · subst h1'
        rw [if_pos ⟨rfl, .inl rfl⟩]
        have e2 : it2 k d.u = some (r, l, none) := g2.its r l c e
        rw [g3.it k d.u fun q => hn q.2]
        exact e2
      · have e2 : it2 k y = some (r, l, c) := by rw [g2.it k y fun q => h1' q.2]; exact e
        by_cases h2' : y = d.v
        · subst h2'
          rw [if_pos ⟨rfl, .inr rfl⟩]
          exact g3.its r l c e2
        · rw [if_neg fun q => q.2.elim (fun q => h1' q.symm) fun q => h2' q.symm, g3.it k y fun q => h2' q.2]
          exact e2
    · rw [if_neg fun q => hk q.1, g3.it k y fun q => hk q.1]
      show it2 k y = _
      rw [g2.it k y fun q => hk q.1]; exact e
end
def HS.ab (s : HS) : Ab where
  vs := s.vs
  es := s.es
  fe := fun k => if k < s.L then s.fe k else []
  lo := fun k v => if k < s.L then s.lo k v else []
  kv := fun k v => if k < s.L then s.kv k v else false
  ke := fun k id => if k < s.L then s.ke k id else false
theorem TLpE : ElTy Tryz.prog 66 TLp (.pointer none) 8 := ⟨by kernel_rfl, by kernel_rfl⟩
section
variable {w w' : World} {O O' : Ow} {s s' : HS} {i : Nat}
theorem at_in (h : HM w O s) (hi : i < s.L) (hL : s.L ≤ 17592186044416) : Calls Tryz.prog 32 #[.pointer (some ⟨s.G, 0, none⟩), .int .i64 (i : Int)] w fun e w' => e = .returned (.pointer (some ⟨s.lb i, 0, none⟩)) ∧ w' = w := by
  apply f_hdt_Graph_at.ok
  unfold f_hdt_Graph_at.wp
  refine ⟨1, ?_⟩
  unfold f_hdt_Graph_at.l0
  refine h.ldLv (sel_f (by simp; omega) fun _ => h.ldLv ?_)
  obtain ⟨a, ha, hld⟩ := h.ldRow hi (K := fun p36 => (Ending.returned (.pointer p36)) = .returned (.pointer (some ⟨s.lb i, 0, none⟩)) ∧ w = w) ⟨rfl, rfl⟩
  refine optB_some ha (req_intro (by simp; omega) ?_)
  rw [Int.toNat_natCast]
  exact hld
theorem at_l1 {Fb F r : Nat} {B8 : Nat} {t8 : TypeId} {K2 : World → Prop} {w0 : World} {O : Ow} {s : HS} (vr : ∀ p ∈ s.vl, ¬ badI p.1) (hlen : s.vl.length ≤ 2048)
    (hK : ∀ w Fp vs', HM w O s → RepE w Fp F vs' [] nof nof → (∀ v, v ∈ vs' ↔ (lk s.vl v).isSome) → HB w B8 #[.pointer (some ⟨F, 0, none⟩), .map (some Fb)] t8 → GM w eI eMp W64 Fb [] → (∀ k, Fp k → w0.heap.size ≤ k ∧ k ≠ B8 ∧ k ≠ Fb) → Keeps (fun k => w0.heap.size ≤ k) w0 w → K2 w) :
    ∀ (n : Nat) (left : List (Int × Int)) (cur : Option (Int × Int)) (w : World) (Fp : Nat → Prop) (vs' : List Int), left.length = n → NdK left → HM w O s → (∀ k t, O k = some t → k < w0.heap.size) → RepE w Fp F vs' [] nof nof → GI w eI eI W64 s.mv r s.vl left cur → (∀ v, v ∈ vs' ↔ (lk s.vl v).isSome ∧ lk left v = none) → vs'.length + left.length = s.vl.length → HB w B8 #[.pointer (some ⟨F, 0, none⟩), .map (some Fb)] t8 → GM w eI eMp W64 Fb [] → (∀ k, Fp k → w0.heap.size ≤ k ∧ k ≠ B8 ∧ k ≠ Fb ∧ k ≠ r) → w0.heap.size ≤ r → r ≠ B8 → r ≠ Fb → Keeps (fun k => w0.heap.size ≤ k) w0 w →
      f_hdt_Graph_at.l1 (n + 1) ⟨B8, 0, none⟩ (some ⟨r, 0, none⟩) w K2 := by
  intro n
  induction n with
  | zero =>
    intro left cur w Fp vs' hn ndl hm hO hr gi hv hl hb gb hF hr0 hr8 hrb kk
    have : left = [] := List.length_eq_zero_iff.1 hn
    subst this
    unfold f_hdt_Graph_at.l1
    refine gi.next (fun _ => ⟨false, [], rfl, sel_f rfl ?_⟩) (fun x v w' hx => by cases hx) eI_inj
    exact hK w Fp vs' hm hr (fun v => by rw [hv]; simp [lk]) hb gb (fun k hk => ⟨(hF k hk).1, (hF k hk).2.1, (hF k hk).2.2.1⟩) kk
  | succ n ih =>
    intro left cur w Fp vs' hn ndl hm hO hr gi hv hl hb gb hF hr0 hr8 hrb kk
    unfold f_hdt_Graph_at.l1
    refine gi.next (fun e => by rw [e] at hn; cases hn) (fun x v w1 hx g1 hlt k1 z1 => ⟨true, [.int .i64 x, .int .i64 v], rfl, sel_t rfl ?_⟩) eI_inj
    have notO : ∀ {k}, w0.heap.size ≤ k → ∀ t, O k ≠ some t := fun hk t e => by have := hO _ t e; omega
    have hm1 : HM w1 O s := ⟨fun t => (hm.part t).keep k1 fun b hb hbr => by rw [hbr] at hb; exact notO hr0 _ hb, fun b t e => by rw [z1]; exact hm.dom b t e⟩
    have hr1 : RepE w1 Fp F vs' [] nof nof := hr.other k1 fun k hk hf => (hF k hf).2.2.2 hk
    have hb1 := hb.keeps k1 (fun e => hr8 e.symm)
    have gb1 := gb.keeps k1 (fun e => hrb e.symm)
    have kk1 := kk.trans' k1 (S := fun k => w0.heap.size ≤ k) fun k hk e => by rw [e] at hk; omega
    refine g1.entry ⟨x, v, rfl, hb_ldP0 hb1 rfl ?_⟩
    have hmem := gi.sub _ hx
    have hxw : W64 x := gi.ok _ hmem
    have hx1 : lk s.vl x = some v := lk_mem gi.nd hmem
    have hxl : lk left x = some v := lk_mem ndl hx
    have hxn : x ∉ vs' := fun h => by have := ((hv x).1 h).2; rw [hxl] at this; cases this
    have hdl : (delK left x).length + 1 = left.length := by
      have gen : ∀ (l : List (Int × Int)), NdK l → ∀ v, lk l x = some v → (delK l x).length + 1 = l.length := by
        intro l
        induction l with
        | nil => intro _ v h; cases h
        | cons p l ihl =>
          intro nd v h
          unfold NdK at nd
          rw [List.map_cons, List.nodup_cons] at nd
          unfold lk at h
          by_cases q : p.1 = x
          · have : delK (p :: l) x = delK l x := by unfold delK; rw [List.filter_cons_of_neg (by simp [q])]
            rw [this, delK_none fun p' hp' e => nd.1 (by rw [q, ← e]; exact List.mem_map_of_mem hp')]; rfl
          · rw [if_neg q] at h
            have : delK (p :: l) x = p :: delK l x := by unfold delK; rw [List.filter_cons_of_pos (by simp [q])]
            rw [this, List.length_cons, List.length_cons, ihl nd.2 v h]
      exact gen left ndl v hxl
    have hc : addVC vs' x = 0 := by
      unfold addVC
      rw [if_neg (vr _ hmem), if_neg hxn, if_neg (by omega)]
    refine (AddV_ok hr1 hxw).mono ?_
    rintro _ w2 ⟨Fp2, rfl, hr2, u2⟩
    have e1 : addVr vs' x = wiI vs' x := by unfold addVr; rw [if_pos hc]
    have e2 : kvA vs' nof x = nof := by funext y; unfold kvA; split <;> rfl
    rw [e1, e2] at hr2
    have s1 : w1.heap.size ≤ w2.heap.size := u2.kp.size
    have hm2 : HM w2 O s := ⟨fun t => (hm1.part t).keep u2.kp fun b hb hf => notO (hF b hf).1 _ hb, fun b t e => Nat.lt_of_lt_of_le (hm1.dom b t e) s1⟩
    have hrlt := g1.lt
    have hblt := hb1.lt
    have gblt := gb1.lt
    refine ⟨_, rfl, ih (delK left x) (some (x, v)) w2 Fp2 (wiI vs' x) (by omega) (ndl.del x) hm2 hO hr2 (g1.keeps u2.kp (fun hf => ?_) (fun hf => (hF r hf).2.2.2 rfl)) (fun y => ?_) ?_ (hb1.keeps u2.kp fun hf => (hF B8 hf).2.1 rfl) (gb1.keeps u2.kp fun hf => (hF Fb hf).2.2.1 rfl) (fun k hk => ?_) hr0 hr8 hrb (kk1.trans' u2.kp fun k hk hf => (hF k hf).1)⟩
    · have h1 := (hm1.part .mv).2
      exact notO (hF _ hf).1 _ h1
    · rw [wiI_mem, hv y, lk_delK]
      constructor
      · rintro (rfl | ⟨h1, h2⟩)
        · rw [if_pos rfl, hx1]; exact ⟨rfl, rfl⟩
        · refine ⟨h1, ?_⟩
          split
          · rfl
          · exact h2
      · rintro ⟨h1, h2⟩
        by_cases q : x = y
        · exact .inl q.symm
        · rw [if_neg q] at h2; exact .inr ⟨h1, h2⟩
    · have := (wiI_perm vs' x).length_eq
      rw [this, List.length_cons]; omega
    · rcases u2.fr k hk with h1 | h1
      · exact hF k h1
      · have hkk := kk1.size
        exact ⟨by omega, by omega, by omega, by omega⟩
end
def HS.newL (s : HS) (b F m : Nat) (A : Addr) (c : Nat) : HS := { s with L := s.L + 1, lA := some A, lc := c, lb := upN s.lb s.L b, F := upN s.F s.L F, lm := upN s.lm s.L m, ll := upN s.ll s.L [], fv := upN s.fv s.L s.vs, fe := upN s.fe s.L [], kv := upN s.kv s.L nof, ke := upN s.ke s.L nof }
theorem Ab.ext' {a b : Ab} (h1 : a.vs = b.vs) (h2 : a.es = b.es) (h3 : a.fe = b.fe) (h4 : a.lo = b.lo) (h5 : a.kv = b.kv) (h6 : a.ke = b.ke) : a = b := by
  cases a; cases b; simp only at h1 h2 h3 h4 h5 h6; subst h1; subst h2; subst h3; subst h4; subst h5; subst h6; rfl
theorem HS.newL_ab (s : HS) (b F m : Nat) (A : Addr) (c : Nat) : (s.newL b F m A c).ab = s.ab := by
  have gen : ∀ {α : Type} (f : Nat → α) (x z : α) (hx : x = z) (k : Nat), (if k < s.L + 1 then upN f s.L x k else z) = if k < s.L then f k else z := fun f x z hx k => by
    by_cases q : k < s.L
    · rw [if_pos q, if_pos (by omega), upN_ne _ _ (by omega)]
    · rw [if_neg q]
      by_cases q2 : k = s.L
      · subst q2; rw [if_pos (by omega), upN_same, hx]
      · rw [if_neg (by omega)]
  refine Ab.ext' rfl rfl ?_ ?_ ?_ ?_
  · funext k; exact gen s.fe [] [] rfl k
  · funext k v
    show (if k < s.L + 1 then loF (upN s.ll s.L []) s.inn k v else []) = if k < s.L then s.lo k v else []
    by_cases q : k < s.L
    · rw [if_pos q, if_pos (by omega)]
      unfold HS.lo loF
      rw [upN_ne _ _ (by omega)]
    · rw [if_neg q]
      by_cases q2 : k = s.L
      · subst q2
        rw [if_pos (by omega)]
        exact loF_none (by rw [upN_same]; rfl)
      · rw [if_neg (by omega)]
  · funext k v
    have := gen (fun k => s.kv k v) false false rfl k
    show (if k < s.L + 1 then upN s.kv s.L nof k v else false) = if k < s.L then s.kv k v else false
    rw [← this]
    unfold upN
    by_cases q2 : k = s.L
    · simp [q2, nof]
    · simp [q2]
  · funext k v
    have := gen (fun k => s.ke k v) false false rfl k
    show (if k < s.L + 1 then upN s.ke s.L nof k v else false) = if k < s.L then s.ke k v else false
    rw [← this]
    unfold upN
    by_cases q2 : k = s.L
    · simp [q2, nof]
    · simp [q2]
theorem lps_newL (s : HS) (b F m : Nat) (A : Addr) (c : Nat) : lps (s.newL b F m A c) = lps s ++ [ePt b] := by
  unfold lps
  show (List.range (s.L + 1)).map (fun i => ePt (upN s.lb s.L b i)) = _
  rw [List.range_succ, List.map_append, List.map_singleton, upN_same]
  congr 1
  exact List.map_congr_left fun i hi => by rw [upN_ne _ _ (by have := List.mem_range.1 hi; omega)]
section
variable {w w' : World} {O O' : Ow} {s s' : HS} {i : Nat}
theorem HM.newL (h : HM w O s) {b F m c : Nat} {A : Addr} {Fp : Nat → Prop} (kp : Keeps (fun k => O k = some .g ∨ O k = some .lr) w w') (hG : HB w' s.G (gC (s.newL b F m A c)) TG) (hR : OwnW w' 0 TLp (some A) c (lps s ++ [ePt b])) (hA : O A.block = some .lr ∨ w.heap.size ≤ A.block)
    (hr : RepE w' Fp F s.vs [] nof nof) (hF : ∀ k, Fp k → w.heap.size ≤ k ∧ k ≠ b ∧ k ≠ m ∧ k ≠ A.block) (hb : HB w' b #[.pointer (some ⟨F, 0, none⟩), .map (some m)] TLv) (hm : GM w' eI eMp W64 m []) (hbm : b ≠ m) (hb0 : w.heap.size ≤ b) (hm0 : w.heap.size ≤ m) (hAb : A.block ≠ b) (hAm : A.block ≠ m) :
    ∃ O', HM w' O' (s.newL b F m A c) ∧ UH O w O' w' := by
  have hsz := kp.size
  obtain ⟨O', hO'⟩ : ∃ O' : Ow, O' = fun k => if k < w.heap.size then O k else if k < w'.heap.size then some (if k = b then .lv s.L else if k = m then .lm s.L else if k = A.block then .lr else .fo s.L) else none := ⟨_, rfl⟩
  have old : ∀ {k t}, O k = some t → O' k = some t := fun {k t} hk => by rw [hO']; show (if _ then _ else _) = _; rw [if_pos (h.dom k t hk)]; exact hk
  have nw : ∀ {k}, w.heap.size ≤ k → k < w'.heap.size → O' k = some (if k = b then .lv s.L else if k = m then .lm s.L else if k = A.block then .lr else .fo s.L) := fun {k} h1 h2 => by rw [hO']; show (if _ then _ else _) = _; rw [if_neg (by omega), if_pos h2]
  have keep : ∀ t, t ≠ .g → t ≠ .lr → Part s O' w' t := fun t h1 h2 => ((h.part t).keep kp fun k hk hs => by
    rw [hk] at hs
    rcases hs with hs | hs
    · injection hs with hs; exact h1 hs
    · injection hs with hs; exact h2 hs).mono fun k hk => old hk
  refine ⟨O', ⟨fun t => ?_, fun k t e => ?_⟩, kp.mono fun k hk hs e => ?_, fun k e => ?_⟩
  · cases t with
    | g => exact ⟨hG, old (h.part .g).2⟩
    | sd => exact keep .sd (by simp) (by simp)
    | lr =>
      refine ⟨by rw [lps_newL]; exact hR, fun a ha => ?_⟩
      injection ha with ha; subst ha
      rcases hA with hA | hA
      · exact old hA
      · rw [nw hA (hR.block A rfl).2, if_neg hAb, if_neg hAm, if_pos rfl]
    | mv => exact keep .mv (by simp) (by simp)
    | me => exact keep .me (by simp) (by simp)
    | lv k =>
      intro hk
      have hk : k < s.L + 1 := hk
      by_cases q : k = s.L
      · subst q
        show HB w' (upN s.lb s.L b s.L) #[.pointer (some ⟨upN s.F s.L F s.L, 0, none⟩), .map (some (upN s.lm s.L m s.L))] TLv ∧ O' (upN s.lb s.L b s.L) = _
        rw [upN_same, upN_same, upN_same]
        exact ⟨hb, by rw [nw hb0 hb.lt, if_pos rfl]⟩
      · have := keep (.lv k) (by simp) (by simp) (by omega)
        show HB w' (upN s.lb s.L b k) #[.pointer (some ⟨upN s.F s.L F k, 0, none⟩), .map (some (upN s.lm s.L m k))] TLv ∧ O' (upN s.lb s.L b k) = _
        rw [upN_ne _ _ q, upN_ne _ _ q, upN_ne _ _ q]
        exact this
    | fo k =>
      intro hk
      have hk : k < s.L + 1 := hk
      by_cases q : k = s.L
      · subst q
        refine ⟨Fp, ?_, fun x hx => ?_⟩
        · show RepE w' Fp (upN s.F s.L F s.L) (upN s.fv s.L s.vs s.L) (upN s.fe s.L [] s.L) (upN s.kv s.L nof s.L) (upN s.ke s.L nof s.L)
          rw [upN_same, upN_same, upN_same, upN_same, upN_same]
          exact hr
        · obtain ⟨h1, h2, h3, h4⟩ := hF x hx
          rw [nw h1 (hr.lt x hx), if_neg h2, if_neg h3, if_neg h4]
      · have := keep (.fo k) (by simp) (by simp) (by omega)
        obtain ⟨Fq, h1, h2⟩ := this
        refine ⟨Fq, ?_, h2⟩
        show RepE w' Fq (upN s.F s.L F k) (upN s.fv s.L s.vs k) (upN s.fe s.L [] k) (upN s.kv s.L nof k) (upN s.ke s.L nof k)
        rw [upN_ne _ _ q, upN_ne _ _ q, upN_ne _ _ q, upN_ne _ _ q, upN_ne _ _ q]
        exact h1
    | lm k =>
      intro hk
      have hk : k < s.L + 1 := hk
      show GM w' eI eMp W64 (upN s.lm s.L m k) (upN s.ll s.L [] k) ∧ O' (upN s.lm s.L m k) = _
      by_cases q : k = s.L
      · subst q
        rw [upN_same, upN_same]
        exact ⟨hm, by rw [nw hm0 hm.lt, if_neg hbm.symm, if_pos rfl]⟩
      · have := keep (.lm k) (by simp) (by simp) (by omega)
        rw [upN_ne _ _ q, upN_ne _ _ q]
        exact this
    | inn k v =>
      intro hk x hx
      have hk : k < s.L + 1 := hk
      have hx : lk (upN s.ll s.L [] k) v = some x := hx
      by_cases q : k = s.L
      · subst q; rw [upN_same] at hx; cases hx
      · rw [upN_ne _ _ q] at hx
        exact keep (.inn k v) (by simp) (by simp) (by omega) x hx
    | ed id => exact keep (.ed id) (by simp) (by simp)
  · rw [hO'] at e
    have e : (if k < w.heap.size then O k else if k < w'.heap.size then some (if k = b then Tg.lv s.L else if k = m then .lm s.L else if k = A.block then .lr else .fo s.L) else none) = some t := e
    split at e
    · omega
    · split at e
      · assumption
      · cases e
  · rw [e] at hs; rcases hs with hs | hs <;> cases hs
  · by_cases q : k < w.heap.size
    · rw [hO'] at e
      have e : (if k < w.heap.size then O k else _) ≠ none := e
      rw [if_pos q] at e
      exact .inl e
    · exact .inr (by omega)
theorem at_new (h : HM w O s) (hvs : s.vs.Pairwise (· < ·)) (hk : ∀ v, v ∈ s.vs ↔ (lk s.vl v).isSome) (vr : ∀ p ∈ s.vl, ¬ badI p.1) (hlen : s.vl.length ≤ 2048) (hL : s.L ≤ 17592186044000) :
    Calls Tryz.prog 32 #[.pointer (some ⟨s.G, 0, none⟩), .int .i64 (s.L : Int)] w fun e w' => ∃ O' b F m A c, e = .returned (.pointer (some ⟨b, 0, none⟩)) ∧ HM w' O' (s.newL b F m A c) ∧ UH O w O' w' := by
  apply f_hdt_Graph_at.ok
  unfold f_hdt_Graph_at.wp
  refine ⟨2, ?_⟩
  unfold f_hdt_Graph_at.l0
  obtain ⟨hR, _, hsdl, hsd0⟩ := h.part .sd
  refine h.ldLv (sel_t (by simp) (h.ldSd ?_))
  refine (New_ok' hR rfl hsd0 hsdl).mono ?_
  rintro _ w1 ⟨F, Fp, rfl, hr1, hF1, g1⟩
  refine ⟨_, rfl, alW_intro ?_⟩
  have hm2 := GM.new (eK := eI) (eV := eMp) (okK := W64) w1
  have b2 : Below w1.heap.size w1 (w1.alloc (.map #[] 0)) := (Below.refl _ _).alloc (Nat.le_refl _) _
  have z2 : (w1.alloc (.map #[] 0)).heap.size = w1.heap.size + 1 := Array.size_push _
  obtain ⟨w2, hw2⟩ : ∃ w2, w1.alloc (.map #[] 0) = w2 := ⟨_, rfl⟩
  rw [hw2] at hm2 b2 z2 ⊢
  obtain ⟨m, hmm⟩ : ∃ m, w1.heap.size = m := ⟨_, rfl⟩
  rw [hmm] at hm2 z2 ⊢
  have hs1 := g1.size
  refine al_new fun w3 b e3 z3 hb3 b3 => ?_
  have g3 : Below w.heap.size w w3 := (g1.trans (b2.mono g1.size)).trans (b3.mono (by omega))
  have h3 := h.below g3
  have hm3 := hm2.keeps (S := fun _ => False) (.of_below b3) id
  have hr3 := (hr1.below b2).below b3
  refine h3.ldV ((h3.part .mv).1.range KTv fun w4 r e4 z4 gi4 b4 => ⟨_, rfl, s.vl.length + 1, ?_⟩)
  have g4 : Below w.heap.size w w4 := g3.trans (b4.mono (by omega))
  have h4 := h.below g4
  have hFs : ∀ k, Fp k → k < m := fun k hk => by have := hr1.lt k hk; omega
  refine at_l1 (w0 := w) (F := F) (B8 := b) (Fb := m) (r := r) vr hlen ?_ s.vl.length s.vl none w4 Fp [] rfl (h.part .mv).1.nd h4 (fun k t e => h.dom k t e) (hr3.below b4) gi4 (fun v => ?_) (by simp) (hb3.below b4) (hm3.keeps (S := fun _ => False) (.of_below b4) id) (fun k hk => ?_) (by omega) (by omega) (by omega) (.of_below g4)
  · intro w5 Fp5 vs5 h5 hr5 hv5 hb5 hm5 hF5 k5 _
    have evs : vs5 = s.vs := sorted_ext (by obtain ⟨_, _, _, _, _, _, _, _, _, _, _, _, h4⟩ := hr5; exact h4.vss) hvs fun v => by rw [hv5, hk]
    subst evs
    refine h5.ldLv (al_new fun w6 B6 e6 z6 hb6 b6 => ?_)
    have h6 := h5.below b6
    have s5 := k5.size
    refine appW_runs TLpE rfl (h6.part .lr).1 (lps_len s).symm hb6 rfl (Nat.zero_le _) (by rw [lps_len]; omega) (by rw [lps_len]; omega) fun A c w7 hR7 k7 hA => ⟨_, _, _, rfl, ?_⟩
    have k7' : Keeps (fun k => O k = some .lr) w6 w7 := k7.mono fun k hk hs => by
      obtain ⟨a, ha, hab⟩ := ob_own hs
      rw [← hab]; exact (h.part .lr).2 a ha
    have notR : ∀ {k}, w.heap.size ≤ k → ¬ O k = some .lr := fun hk e => by have := h.dom _ _ e; omega
    have hG7 : HB w7 s.G (gC s) TG := (h6.part .g).1.keeps k7' fun e => by rw [(h.part .g).2] at e; cases e
    have bk : w.heap.size ≤ b := by omega
    have mk : w.heap.size ≤ m := by omega
    have s7 := k7.size
    refine hb_st (j := 1) hG7 (by show 1 < 4; omega) fun w8 hG8 k8 => ?_
    have hGk : ∀ {k}, w.heap.size ≤ k → k ≠ s.G := fun hk e => by have := h.dom _ _ (h.part .g).2; omega
    have hG8 : HB w8 s.G (gC (s.newL b F m A c)) TG := by
      have e : gC (s.newL b F m A c) = (gC s).setIfInBounds 1 (.slice (some A) (lps s ++ [ePt b]).length c) := by
        have : (lps s ++ [ePt b]).length = s.L + 1 := by rw [List.length_append, lps_len]; rfl
        rw [this]; rfl
      rw [e]; exact hG8
    have hRG : A.block ≠ s.G := fun e => by
      rcases hA with hA | hA
      · have h1 := (h.part .lr).2 A hA
        rw [e, (h.part .g).2] at h1; cases h1
      · have := h.dom _ _ (h.part .g).2; omega
    have hA' : O A.block = some .lr ∨ w.heap.size ≤ A.block := hA.imp (fun hA => (h.part .lr).2 A hA) fun hA => by omega
    have kall : Keeps (fun k => O k = some .g ∨ O k = some .lr) w w8 :=
      (((k5.mono (S' := fun k => O k = some .g ∨ O k = some .lr) fun k hk hs => by omega).trans' (Keeps.of_below (S := fun _ => False) b6) fun k _ hf => hf.elim).trans' k7' fun k _ e => .inr e).trans' k8 fun k _ e => by rw [e]; exact .inl (h.part .g).2
    have blt : b < w5.heap.size := hb5.lt
    have mlt : m < w5.heap.size := hm5.lt
    have hb8 := ((hb5.below b6).keeps k7' (notR bk)).keeps k8 (hGk bk)
    have hm8 := ((hm5.keeps (S := fun _ => False) (.of_below b6) id).keeps k7' (notR mk)).keeps k8 (hGk mk)
    have hr8 := ((hr5.below b6).other k7' fun k hk hf => notR (hF5 k hf).1 hk).other k8 fun k hk hf => hGk (hF5 k hf).1 hk
    have hAn : ∀ {k}, w.heap.size ≤ k → k < w5.heap.size → A.block ≠ k := fun hk1 hk2 e => by
      rcases hA with hA | hA
      · have := h.dom _ _ ((h.part .lr).2 A hA); omega
      · omega
    obtain ⟨O', hM, u⟩ := h.newL (b := b) (F := F) (m := m) (c := c) (A := A) (Fp := Fp5) kall hG8 (hR7.keeps k8 fun a ha => by injection ha with ha; rw [← ha]; exact hRG) hA' hr8 (fun k hk => ⟨(hF5 k hk).1, (hF5 k hk).2.1, (hF5 k hk).2.2, (hAn (hF5 k hk).1 (hr5.lt k hk)).symm⟩) hb8 hm8 (by omega) bk mk (hAn bk blt) (hAn mk mlt)
    unfold f_hdt_Graph_at.l0
    have hlt : s.L < (s.newL b F m A c).L := Nat.lt_succ_self _
    refine hM.ldLv (sel_f (by rw [decide_eq_false_iff_not]; show ¬ (((s.L + 1 : Nat) : Int) ≤ (s.L : Int)); omega) fun _ => hM.ldLv ?_)
    obtain ⟨a, ha, hld⟩ := hM.ldRow hlt (K := fun p36 => ∃ O' b F m A c, (Ending.returned (.pointer p36)) = .returned (.pointer (some ⟨b, 0, none⟩)) ∧ HM w8 O' (s.newL b F m A c) ∧ UH O w O' w8) ⟨O', b, F, m, A, c, by
      show Ending.returned (.pointer (some ⟨upN s.lb s.L b s.L, 0, none⟩)) = _
      rw [upN_same], hM, u⟩
    refine optB_some ha (req_intro (by rw [decide_eq_true_iff]; show 0 ≤ (s.L : Int) ∧ (s.L : Int) < ((s.L + 1 : Nat) : Int); omega) ?_)
    rw [Int.toNat_natCast]
    exact hld
  · simp only [List.not_mem_nil, false_iff]
    rintro ⟨h1, h2⟩
    rw [h2] at h1; cases h1
  · have := hF1 k hk; have := hFs k hk
    exact ⟨by omega, by omega, by omega, by omega⟩
end
abbrev LB : Nat := 17592186044000
structure WS (s : HS) : Prop where
  fv : ∀ i, i < s.L → s.fv i = s.vs
  vss : s.vs.Pairwise (· < ·)
  vk : ∀ v, v ∈ s.vs ↔ (lk s.vl v).isSome
  vr : ∀ p ∈ s.vl, ¬ badI p.1
  vlen : s.vl.length ≤ 2048
  L0 : 0 < s.L
theorem WS.ok {s : HS} (h : WS s) {v : Int} (hv : v ∈ s.vs) : ¬ badI v := by
  have h1 := (h.vk v).1 hv
  cases q : lk s.vl v with
  | none => rw [q] at h1; cases h1
  | some x => exact h.vr (v, x) (lk_some q)
structure Rs (s s' : HS) : Prop where
  G : s'.G = s.G
  mv : s'.mv = s.mv
  me : s'.me = s.me
  vl : s'.vl = s.vl
  vs : s'.vs = s.vs
  blk : s'.blk = s.blk
  it : s'.it = s.it
  inn : s'.inn = s.inn
  ll : ∀ k, k < s.L → s'.ll k = s.ll k
  lm : ∀ k, k < s.L → s'.lm k = s.lm k
  lb : ∀ k, k < s.L → s'.lb k = s.lb k
  L : s.L ≤ s'.L
  ws : WS s → WS s'
theorem Rs.refl (s : HS) : Rs s s := ⟨rfl, rfl, rfl, rfl, rfl, rfl, rfl, rfl, fun _ _ => rfl, fun _ _ => rfl, fun _ _ => rfl, Nat.le_refl _, id⟩
theorem Rs.trans {a b c : HS} (h : Rs a b) (k : Rs b c) : Rs a c :=
  ⟨k.G.trans h.G, k.mv.trans h.mv, k.me.trans h.me, k.vl.trans h.vl, k.vs.trans h.vs, k.blk.trans h.blk, k.it.trans h.it, k.inn.trans h.inn, fun i hi => (k.ll i (Nat.lt_of_lt_of_le hi h.L)).trans (h.ll i hi), fun i hi => (k.lm i (Nat.lt_of_lt_of_le hi h.L)).trans (h.lm i hi), fun i hi => (k.lb i (Nat.lt_of_lt_of_le hi h.L)).trans (h.lb i hi), Nat.le_trans h.L k.L, fun w => k.ws (h.ws w)⟩
structure Sm (s : HS) (i : Nat) (s' : HS) : Prop where
  rs : Rs s s'
  ab : s'.ab = s.ab
  L : s'.L = max s.L (i + 1)
theorem Sm.refl {s : HS} {i : Nat} (hi : i < s.L) : Sm s i s := ⟨.refl _, rfl, by omega⟩
def At (O0 : Ow) (w0 w : World) (s : HS) : Prop := ∃ O, HM w O s ∧ UH O0 w0 O w
theorem HM.at {w : World} {O : Ow} {s : HS} (h : HM w O s) : At O w w s := ⟨O, h, .refl _ _⟩
section
variable {w w' w0 : World} {O O' O0 : Ow} {s s' : HS} {i : Nat}
theorem At.below (h : At O0 w0 w s) (g : Below w.heap.size w w') : At O0 w0 w' s := by
  obtain ⟨O, hm, u⟩ := h
  exact ⟨O, hm.below g, u.trans (.below g)⟩
theorem At.drew (h : At O0 w0 w s) : At O0 w0 w.drew s := h.below ((Below.refl _ _).drew)
theorem At.at_in (h : At O0 w0 w s) (hi : i < s.L) (hL : s.L ≤ 17592186044416) : Calls Tryz.prog 32 #[.pointer (some ⟨s.G, 0, none⟩), .int .i64 (i : Int)] w fun e w' => e = .returned (.pointer (some ⟨s.lb i, 0, none⟩)) ∧ w' = w := by
  obtain ⟨O, hm, u⟩ := h
  exact Rd.at_in hm hi hL
theorem newL_rs (b F m : Nat) (A : Addr) (c : Nat) : Rs s (s.newL b F m A c) :=
  ⟨rfl, rfl, rfl, rfl, rfl, rfl, rfl, rfl, fun k hk => upN_ne _ _ (by omega), fun k hk => upN_ne _ _ (by omega), fun k hk => upN_ne _ _ (by omega), Nat.le_succ _, fun ws => ⟨fun k hk => by
    show upN s.fv s.L s.vs k = s.vs
    by_cases q : k = s.L
    · subst q; rw [upN_same]
    · rw [upN_ne _ _ q]
      have hk : k < s.L + 1 := hk
      exact ws.fv k (by omega), ws.vss, ws.vk, ws.vr, ws.vlen, Nat.succ_pos _⟩⟩
theorem At.at (h : At O0 w0 w s) (ws : WS s) (hi : i ≤ s.L) (hL : s.L ≤ LB) :
    Calls Tryz.prog 32 #[.pointer (some ⟨s.G, 0, none⟩), .int .i64 (i : Int)] w fun e w' => ∃ s', e = .returned (.pointer (some ⟨s'.lb i, 0, none⟩)) ∧ At O0 w0 w' s' ∧ Sm s i s' := by
  have hL' : s.L ≤ 17592186044000 := hL
  by_cases q : i < s.L
  · refine (h.at_in q (by omega)).mono ?_
    rintro _ _ ⟨rfl, rfl⟩
    exact ⟨s, rfl, h, .refl q⟩
  · obtain rfl : i = s.L := by omega
    obtain ⟨O, hm, u⟩ := h
    refine (at_new hm ws.vss ws.vk ws.vr ws.vlen hL).mono ?_
    rintro _ w' ⟨O', b, F, m, A, c, rfl, hm', u'⟩
    refine ⟨s.newL b F m A c, ?_, ⟨O', hm', u.trans u'⟩, newL_rs _ _ _ _ _, HS.newL_ab _ _ _ _ _ _, ?_⟩
    · show _ = Ending.returned (.pointer (some ⟨upN s.lb s.L b s.L, 0, none⟩))
      rw [upN_same]
    · show s.L + 1 = _
      omega
theorem HS.setF_ab {vs' : List Int} {es' : List E} {kv' ke' : Int → Bool} (hi : i < s.L) : (s.setF i vs' es' kv' ke').ab = { s.ab with fe := upN s.ab.fe i es', kv := upN s.ab.kv i kv', ke := upN s.ab.ke i ke' } := by
  refine Ab.ext' rfl rfl ?_ rfl ?_ ?_
  · funext k
    show (if k < s.L then upN s.fe i es' k else []) = upN s.ab.fe i es' k
    by_cases q : k = i
    · subst q; rw [if_pos hi, upN_same, upN_same]
    · rw [upN_ne _ _ q, upN_ne _ _ q]; rfl
  · funext k v
    show (if k < s.L then upN s.kv i kv' k v else false) = upN s.ab.kv i kv' k v
    by_cases q : k = i
    · subst q; rw [if_pos hi, upN_same, upN_same]
    · rw [upN_ne _ _ q, upN_ne _ _ q]; rfl
  · funext k v
    show (if k < s.L then upN s.ke i ke' k v else false) = upN s.ab.ke i ke' k v
    by_cases q : k = i
    · subst q; rw [if_pos hi, upN_same, upN_same]
    · rw [upN_ne _ _ q, upN_ne _ _ q]; rfl
theorem HS.ab_fe (hi : i < s.L) : s.ab.fe i = s.fe i := if_pos hi
theorem HS.ab_kv (hi : i < s.L) : s.ab.kv i = s.kv i := by funext v; exact if_pos hi
theorem HS.ab_ke (hi : i < s.L) : s.ab.ke i = s.ke i := by funext v; exact if_pos hi
theorem HS.ab_lo (hi : i < s.L) : s.ab.lo i = s.lo i := by funext v; exact if_pos hi
theorem setF_rs {es' : List E} {kv' ke' : Int → Bool} : Rs s (s.setF i (s.fv i) es' kv' ke') :=
  ⟨rfl, rfl, rfl, rfl, rfl, rfl, rfl, rfl, fun _ _ => rfl, fun _ _ => rfl, fun _ _ => rfl, Nat.le_refl _, fun ws => ⟨fun k hk => by
    show upN s.fv i (s.fv i) k = s.vs
    rw [upN_self]; exact ws.fv k hk, ws.vss, ws.vk, ws.vr, ws.vlen, ws.L0⟩⟩
def HS.linkF (s : HS) (i : Nat) (e : E) : HS := s.setF i (s.fv i) (insE (s.fe i) e) (s.kv i) (fun y => if y = e.id then false else s.ke i y)
def HS.markF (s : HS) (i : Nat) (x : Int) (on : Bool) : HS := s.setF i (s.fv i) (s.fe i) (s.kv i) (keM (s.fe i) (s.ke i) x on)
theorem At.link (h : At O0 w0 w s) (ws : WS s) (hi : i < s.L) {e : E} (h1 : ¬ badI e.id) (h2 : e.u ∈ s.vs) (h3 : e.v ∈ s.vs) (h0 : e.w = 0) (h4 : e.id ∉ (s.fe i).map E.id) (h5 : ¬ Cn (s.fe i) e.u e.v) :
    Calls Tryz.prog 41 #[.pointer (some ⟨s.F i, 0, none⟩), .int .i64 e.id, .int .i64 e.u, .int .i64 e.v] w fun en w' => en = .returned (.int .i64 0) ∧ At O0 w0 w' (s.linkF i e) := by
  obtain ⟨O, hm, u⟩ := h
  refine (hm.link hi (W64.id h1).1 (W64.id (ws.ok h2)).1 (W64.id (ws.ok h3)).1 h0).mono ?_
  rintro _ w' ⟨j, O', hj, rfl, hm', u'⟩
  rw [ws.fv i hi] at hj
  have hjf : j = false := by
    cases j with
    | false => rfl
    | true => exact absurd ((hj h2 h3).1 rfl) h5
  subst hjf
  have hc : linkC (s.fv i) (s.fe i) e false = 0 := by
    unfold linkC
    rw [ws.fv i hi, if_neg (fun h => h.elim h1 fun h => h.elim (ws.ok h2) (ws.ok h3)), if_neg (by rw [h0]; omega), if_neg h4, if_neg (fun h => h ⟨h2, h3⟩), if_neg (by decide)]
  refine ⟨by rw [hc], O', ?_, u.trans u'⟩
  have e1 : linkEr (s.fv i) (s.fe i) e false = insE (s.fe i) e := by unfold linkEr; rw [if_pos hc]
  have e2 : keL (s.fv i) (s.fe i) (s.ke i) e false = fun y => if y = e.id then false else s.ke i y := by
    funext y; unfold keL; simp only [hc, true_and]
  rw [e1, e2] at hm'
  exact hm'
theorem At.markE (h : At O0 w0 w s) (hi : i < s.L) {x : Int} (hx : W64 x) (on : Bool) :
    Calls Tryz.prog 42 #[.pointer (some ⟨s.F i, 0, none⟩), .int .i64 x, .bool on] w fun en w' => ∃ c : Int, en = .returned (.int .i64 c) ∧ At O0 w0 w' (s.markF i x on) := by
  obtain ⟨O, hm, u⟩ := h
  refine (hm.markE hi hx on).mono ?_
  rintro _ w' ⟨O', rfl, hm', u'⟩
  exact ⟨_, rfl, O', hm', u.trans u'⟩
theorem el_lk (nd : (s.es.map Ed.id).Nodup) {d : Ed} (hd : d ∈ s.es) : lk s.el d.id = some (s.blk d.id) := by
  have ndk : NdK s.el := by
    unfold NdK HS.el
    rw [List.map_map]
    exact nd
  exact lk_mem ndk (List.mem_map.2 ⟨d, hd, rfl⟩)
def HS.setD (s : HS) (d' : Ed) : HS := { s with es := setE s.es d' }
theorem setD_el (d' : Ed) : (s.setD d').el = s.el := by
  have h := setE_ids s.es d'
  have e1 : ∀ l : List Ed, (l.map fun d => (d.id, s.blk d.id)) = (l.map Ed.id).map fun i => (i, s.blk i) := fun l => by rw [List.map_map]; rfl
  show ((setE s.es d').map fun d => (d.id, s.blk d.id)) = s.es.map fun d => (d.id, s.blk d.id)
  rw [e1, h, ← e1]
theorem HM.setD (h : HM w O s) (nd : (s.es.map Ed.id).Nodup) {d d' : Ed} (hd : d ∈ s.es) (he : d'.id = d.id) (kp : Keeps (fun k => k = s.blk d.id) w w') (hb : HB w' (s.blk d.id) (edC d') TDe) : ∃ O', HM w' O' (s.setD d') ∧ UH O w O' w' := by
  have hO := (h.part (.ed d.id) d hd rfl).2
  refine ⟨_, h.change (t := .ed d.id) kp (fun b hb => by rw [hb]; exact hO) (fun t' ht hp => ?_) ?_⟩
  · cases t' with
    | ed id =>
      intro x hx hxi
      rcases (setE_mem nd hd he).1 hx with rfl | ⟨hx', _⟩
      · exact absurd (show Tg.ed id = .ed d.id by rw [← hxi, he]) ht
      · exact hp x hx' hxi
    | me =>
      show GM _ _ _ _ s.me (s.setD d').el ∧ _
      rw [setD_el]; exact hp
    | g => exact hp
    | sd => exact hp
    | lr => exact hp
    | mv => exact hp
    | lv j => exact hp
    | fo j => exact hp
    | lm j => exact hp
    | inn j v => exact hp
  · intro x hx hxi
    rcases (setE_mem nd hd he).1 hx with rfl | ⟨hx', hn⟩
    · exact ⟨hb, (ext_old (h.dom _ _ hO)).trans hO⟩
    · exact absurd hxi hn
theorem setD_rs (d' : Ed) : Rs s (s.setD d') := ⟨rfl, rfl, rfl, rfl, rfl, rfl, rfl, rfl, fun _ _ => rfl, fun _ _ => rfl, fun _ _ => rfl, Nat.le_refl _, fun ws => ⟨ws.fv, ws.vss, ws.vk, ws.vr, ws.vlen, ws.L0⟩⟩
theorem At.ed (h : At O0 w0 w s) {d : Ed} (hd : d ∈ s.es) : HB w (s.blk d.id) (edC d) TDe := by
  obtain ⟨O, hm, u⟩ := h
  exact (hm.part (.ed d.id) d hd rfl).1
theorem At.ldF (h : At O0 w0 w s) (hi : i < s.L) {K : Option Addr → Prop} (hk : K (some ⟨s.F i, 0, none⟩)) : ldP w (⟨s.lb i, 0, none⟩ : Addr) K := by
  obtain ⟨O, hm, u⟩ := h
  exact hm.ldF hi hk
theorem At.ldE (h : At O0 w0 w s) {K : Option Nat → Prop} (hk : K (some s.me)) : ldM w ((⟨s.G, 0, none⟩ : Addr).add 3) K := by
  obtain ⟨O, hm, u⟩ := h
  exact hm.ldE hk
theorem At.lkE (h : At O0 w0 w s) {x : Int} (hx : W64 x) {K : Value → World → Prop} (hk : K (match lk s.el x with | some b => ePt b | none => .pointer none) w) : Runs Tryz.prog (Instr.lookup 65 (.map (some s.me)) (.int .i64 x) false) w K := by
  obtain ⟨O, hm, u⟩ := h
  refine (hm.part .me).1.look KTp hx (zP' w) ?_
  cases hq : lk s.el x with
  | none => rw [hq] at hk; exact hk
  | some b => rw [hq] at hk; exact hk
theorem At.stD (h : At O0 w0 w s) (nd : (s.es.map Ed.id).Nodup) {d d' : Ed} (hd : d ∈ s.es) (he : d'.id = d.id) {j : Nat} (hj : j < 4) {v : Value} (hv : (edC d).setIfInBounds j v = edC d') {K : World → Prop} (hk : ∀ w', At O0 w0 w' (s.setD d') → K w') : stW w ((⟨s.blk d.id, 0, none⟩ : Addr).add j) v K := by
  obtain ⟨O, hm, u⟩ := h
  have hb := (hm.part (.ed d.id) d hd rfl).1
  refine hb_st hb (by show j < 4; exact hj) fun w' hb' k => ?_
  rw [hv] at hb'
  obtain ⟨O', hm', u'⟩ := hm.setD nd hd he k hb'
  exact hk w' ⟨O', hm', u.trans u'⟩
end
section
variable {w w' w0 : World} {O O' O0 : Ow} {s s' : HS} {i : Nat}
def Lvl (O0 : Ow) (w0 : World) (s : HS) (i : Nat) (p : Value) (w : World) : Prop := ∃ s', p = .pointer (some ⟨s'.lb i, 0, none⟩) ∧ At O0 w0 w s' ∧ Sm s i s'
def Inv (O0 : Ow) (w0 : World) (s : HS) (i : Nat) (w : World) : Prop := ∃ s', At O0 w0 w s' ∧ (s' = s ∨ Sm s i s')
def Gd (O0 : Ow) (w0 : World) (s : HS) (i : Nat) (a b : World) : Prop := (Inv O0 w0 s i a → Inv O0 w0 s i b) ∧ ∀ p, Lvl O0 w0 s i p a → Lvl O0 w0 s i p b
theorem Gd.refl (a : World) : Gd O0 w0 s i a a := ⟨id, fun _ => id⟩
theorem Gd.trans {a b c : World} (h : Gd O0 w0 s i a b) (k : Gd O0 w0 s i b c) : Gd O0 w0 s i a c := ⟨fun q => k.1 (h.1 q), fun p q => k.2 p (h.2 p q)⟩
theorem Inv.same (h : Inv O0 w0 s i w) : ∃ s', At O0 w0 w s' ∧ Rs s s' ∧ s'.ab = s.ab := by
  obtain ⟨s', h, rfl | h'⟩ := h
  · exact ⟨s', h, .refl _, rfl⟩
  · exact ⟨s', h, h'.rs, h'.ab⟩
theorem Inv.at (h : Inv O0 w0 s i w) (ws : WS s) (hi : i ≤ s.L) (hL : s.L ≤ LB) :
    Calls Tryz.prog 32 #[.pointer (some ⟨s.G, 0, none⟩), .int .i64 (i : Int)] w fun e w' => ∃ p : Option Addr, e = .returned (.pointer p) ∧ Gd O0 w0 s i w w' ∧ Lvl O0 w0 s i (.pointer p) w' := by
  have hL' : s.L ≤ 17592186044000 := hL
  by_cases q : ∃ p, Lvl O0 w0 s i p w
  · obtain ⟨p, s1, rfl, h1, m1⟩ := q
    have e := m1.L
    rw [← m1.rs.G]
    refine (h1.at_in (i := i) (by omega) (by omega)).mono ?_
    rintro _ _ ⟨rfl, rfl⟩
    exact ⟨_, rfl, .refl _, s1, rfl, h1, m1⟩
  · obtain ⟨s1, h1, rfl | m1⟩ := h
    · refine (h1.at ws hi hL).mono ?_
      rintro _ w' ⟨s2, rfl, h2, m2⟩
      exact ⟨_, rfl, ⟨fun _ => ⟨s2, h2, .inr m2⟩, fun p hp => absurd ⟨p, hp⟩ q⟩, s2, rfl, h2, m2⟩
    · exact absurd ⟨_, s1, rfl, h1, m1⟩ q
theorem raise_ok (h : At O0 w0 w s) (ws : WS s) (c : Core s.ab) {d : Ed} (hd : d ∈ s.es) (ht : d.tr = true) (hl : d.lv = i) (hi : i < s.L) (hL : s.L ≤ LB) :
    Calls Tryz.prog 72 #[.pointer (some ⟨s.G, 0, none⟩), .int .i64 d.id, .int .i64 (i : Int)] w fun e w' => e = .returned (.tuple #[]) ∧ ∃ s', At O0 w0 w' s' ∧ Rs s s' ∧ s'.L = max s.L (i + 2) ∧ Raised s.ab i d s'.ab := by
  have hL' : s.L ≤ 17592186044000 := hL
  have hid := (W64.id (c.ok d hd)).1
  have ew : IntKind.i64.wrap ((i : Int) + 1) = ((i + 1 : Nat) : Int) := by rw [w64_in (by omega)]; omega
  have nd : (s.es.map Ed.id).Nodup := c.ids
  have elk : ∀ {s' : HS}, Rs s s' → s'.ab = s.ab → lk s'.el d.id = some (s.blk d.id) := fun {s'} r ea => by
    have ee : s'.es = s.es := congrArg Ab.es ea
    rw [← r.blk]
    exact el_lk (by rw [ee]; exact nd) (by rw [ee]; exact hd)
  apply f_hdt_Graph_raise.ok
  unfold f_hdt_Graph_raise.wp
  refine drW_intro ⟨f_hdt_Graph_raise.h0_ok _ _ _, Gd O0 w0 s (i + 1), fun k v w => if k = 3 then v = .map (some s.me) else if k = 5 then v = .pointer (some ⟨s.blk d.id, 0, none⟩) else Lvl O0 w0 s (i + 1) v w, fun _ => .refl _, fun _ _ _ => .trans, fun k v a b _ g hv => ?_, ⟨fun _ w4 g => ?_, fun _ w4 g m hm => ?_, fun _ w4 g => ?_, trivial⟩, fun w4 g m hm pe5 h5 pe9 h9 => ?_⟩
  · have hv : if k = 3 then v = .map (some s.me) else if k = 5 then v = .pointer (some ⟨s.blk d.id, 0, none⟩) else Lvl O0 w0 s (i + 1) v a := hv
    show if k = 3 then v = .map (some s.me) else if k = 5 then v = .pointer (some ⟨s.blk d.id, 0, none⟩) else Lvl O0 w0 s (i + 1) v b
    split
    · rename_i q; rw [if_pos q] at hv; exact hv
    · rename_i q
      rw [if_neg q] at hv
      split
      · rename_i q2; rw [if_pos q2] at hv; exact hv
      · rename_i q2; rw [if_neg q2] at hv; exact g.2 v hv
  · obtain ⟨s1, h1, r1, a1⟩ := (g.1 ⟨s, h.drew, .inl rfl⟩).same
    rw [← r1.G]
    refine h1.ldE ⟨.refl _, ?_⟩
    show Value.map (some s1.me) = .map (some s.me)
    rw [r1.me]
  · obtain ⟨s1, h1, r1, a1⟩ := (g.1 ⟨s, h.drew, .inl rfl⟩).same
    have hm : Value.map m = .map (some s.me) := hm
    rw [hm, ← r1.me]
    refine h1.lkE hid ?_
    rw [elk r1 a1]
    exact ⟨_, rfl, .refl _, rfl⟩
  · rw [ew]
    exact (g.1 ⟨s, h.drew, .inl rfl⟩).at ws (by omega) hL
  · have h5 : Value.pointer pe5 = .pointer (some ⟨s.blk d.id, 0, none⟩) := h5
    injection h5 with h5
    subst h5
    have h9 : Lvl O0 w0 s (i + 1) (.pointer pe9) w4 := h9
    obtain ⟨s1, hp, h1, m1⟩ := h9
    injection hp with hp
    subst hp
    have r1 := m1.rs
    have L1 := m1.L
    have ws1 := r1.ws ws
    have hiL : i < s1.L := by omega
    have hiL2 : i + 1 < s1.L := by omega
    rw [← r1.G]
    refine (h1.at_in hiL (by omega)).mono ?_
    rintro _ _ ⟨rfl, rfl⟩
    refine ⟨_, rfl, optB_some rfl (h1.ldF hiL ((h1.markE hiL hid false).mono ?_))⟩
    rintro _ w6 ⟨c1, rfl, h2⟩
    have hes1 : s1.es = s.es := congrArg Ab.es m1.ab
    have hb1 : s1.blk = s.blk := r1.blk
    have hd2 : d ∈ (s1.markF i d.id false).es := by show d ∈ s1.es; rw [hes1]; exact hd
    have nd2 : ((s1.markF i d.id false).es.map Ed.id).Nodup := by show (s1.es.map Ed.id).Nodup; rw [hes1]; exact nd
    have e2 := h2.ed hd2
    have eb : (s1.markF i d.id false).blk d.id = s.blk d.id := congrFun hb1 d.id
    have h2s := fun {K} hk => h2.stD (K := K) (d' := { d with lv := i + 1 }) nd2 hd2 rfl (j := 2) (by omega) (v := .int .i64 ((i + 1 : Nat) : Int)) rfl hk
    rw [eb] at e2 h2s
    refine ⟨_, rfl, optB_some rfl (hb_ldI (j := 2) e2 rfl (optB_some rfl ?_))⟩
    rw [hl, ew]
    refine h2s fun w7 h3 => drW_intro ?_
    have h3 := h3.drew
    obtain ⟨w8, hw8⟩ : ∃ w8, w7.drew = w8 := ⟨_, rfl⟩
    rw [hw8] at h3 ⊢
    obtain ⟨s3, hs3⟩ : ∃ s3, (s1.markF i d.id false).setD { d with lv := i + 1 } = s3 := ⟨_, rfl⟩
    have r3 : Rs s1 s3 := by rw [← hs3]; exact (setF_rs (s := s1)).trans (setD_rs _)
    have eF : s3.F = s1.F := by rw [← hs3]; rfl
    have L3 : s3.L = s1.L := by rw [← hs3]; rfl
    have hab3 : s3.ab = { s.ab with es := setE s.es { d with lv := i + 1 }, ke := upN s.ab.ke i (keM (s.ab.fe i) (s.ab.ke i) d.id false) } := by
      rw [← hs3]
      have : (s1.markF i d.id false).ab = { s1.ab with fe := upN s1.ab.fe i (s1.fe i), kv := upN s1.ab.kv i (s1.kv i), ke := upN s1.ab.ke i (keM (s1.fe i) (s1.ke i) d.id false) } := HS.setF_ab hiL
      have e' : ((s1.markF i d.id false).setD { d with lv := i + 1 }).ab = { (s1.markF i d.id false).ab with es := setE (s1.markF i d.id false).es { d with lv := i + 1 } } := rfl
      rw [e', this, ← HS.ab_fe hiL, ← HS.ab_kv hiL, ← HS.ab_ke hiL, upN_self, upN_self, m1.ab]
      show _ = ({ s.ab with es := setE s.es _, ke := _ } : Ab)
      rw [← hes1]; rfl
    rw [hs3] at h3
    have hd3 : { d with lv := i + 1 } ∈ s3.es := by
      have : s3.es = setE s.es { d with lv := i + 1 } := congrArg Ab.es hab3
      rw [this]
      exact (setE_mem nd hd (d' := { d with lv := i + 1 }) rfl).2 (.inl rfl)
    have e3 := h3.ed hd3
    have eb3 : s3.blk d.id = s.blk d.id := by rw [r3.blk, hb1]
    have e3 : HB w8 (s.blk d.id) (edC { d with lv := i + 1 }) TDe := by rw [← eb3]; exact e3
    have ws3 := r3.ws ws1
    have hi3 : i + 1 < s3.L := by omega
    have elb : s1.lb (i + 1) = s3.lb (i + 1) := (r3.lb _ hiL2).symm
    rw [elb]
    refine optB_some rfl (h3.ldF hi3 (optB_some rfl (hb_ldI0 e3 rfl (optB_some rfl (hb_ldI (j := 1) e3 rfl ?_)))))
    have fe3 : s3.fe (i + 1) = s.ab.fe (i + 1) := by rw [← HS.ab_fe hi3, hab3]
    have vs3 : s3.vs = s.ab.vs := congrArg Ab.vs hab3
    have hnid : d.e.id ∉ (s3.fe (i + 1)).map E.id := fun hm => by
      rw [fe3] at hm
      obtain ⟨e, he, hid⟩ := List.mem_map.1 hm
      obtain ⟨d2, hd2, _, hlv, rfl⟩ := (c.fe _ e).1 he
      have : d2 = d := c.inj hd2 hd hid
      subst this
      omega
    refine (h3.link ws3 hi3 (e := d.e) (c.ok d hd) (by rw [vs3]; exact (c.ends d hd).1) (by rw [vs3]; exact (c.ends d hd).2) rfl hnid (by rw [fe3]; exact c.raise_nc hd ht hl)).mono ?_
    rintro _ w9 ⟨rfl, h4⟩
    have hi4 : i + 1 < (s3.linkF (i + 1) d.e).L := hi3
    refine ⟨_, rfl, optB_some rfl (h4.ldF (s := s3.linkF (i + 1) d.e) hi4 ((h4.markE hi4 hid true).mono ?_))⟩
    rintro _ w10 ⟨c2, rfl, h5⟩
    have hab4 : (s3.linkF (i + 1) d.e).ab = { s3.ab with fe := upN s3.ab.fe (i + 1) (insE (s3.fe (i + 1)) d.e), kv := upN s3.ab.kv (i + 1) (s3.kv (i + 1)), ke := upN s3.ab.ke (i + 1) (fun y => if y = d.e.id then false else s3.ke (i + 1) y) } := HS.setF_ab hi3
    obtain ⟨s4, hs4⟩ : ∃ s4, s3.linkF (i + 1) d.e = s4 := ⟨_, rfl⟩
    have r4 : Rs s3 s4 := by rw [← hs4]; exact setF_rs
    have L4 : s4.L = s3.L := by rw [← hs4]; rfl
    rw [hs4] at h5 hab4 hi4
    have hab5 : (s4.markF (i + 1) d.id true).ab = { s4.ab with fe := upN s4.ab.fe (i + 1) (s4.fe (i + 1)), kv := upN s4.ab.kv (i + 1) (s4.kv (i + 1)), ke := upN s4.ab.ke (i + 1) (keM (s4.fe (i + 1)) (s4.ke (i + 1)) d.id true) } := HS.setF_ab hi4
    rw [← HS.ab_fe hi3, ← HS.ab_kv hi3, ← HS.ab_ke hi3, upN_self, hab3] at hab4
    rw [← HS.ab_fe hi4, ← HS.ab_kv hi4, ← HS.ab_ke hi4, upN_self, upN_self, hab4] at hab5
    refine ⟨_, rfl, rfl, s4.markF (i + 1) d.id true, h5, ((r1.trans r3).trans r4).trans setF_rs, ?_, ?_⟩
    · show s4.L = _
      omega
    rw [hab5]
    have inS : d.id ∈ (s.ab.fe i).map E.id := List.mem_map.2 ⟨d.e, (c.fe i _).2 ⟨d, hd, ht, by omega, rfl⟩, rfl⟩
    refine ⟨rfl, rfl, fun e => ?_, fun k hk e => ?_, rfl, fun _ _ _ => rfl, ?_, ?_, fun k id hk => ?_, fun k hk => ?_⟩
    · show e ∈ upN s.ab.fe (i + 1) (insE (s.ab.fe (i + 1)) d.e) (i + 1) ↔ _
      rw [upN_same, insE_mem, List.mem_append, List.mem_singleton, or_comm]
    · show e ∈ upN s.ab.fe (i + 1) (insE (s.ab.fe (i + 1)) d.e) k ↔ _
      rw [upN_ne _ _ hk]
    · show upN (upN (upN s.ab.ke i _) (i + 1) _) (i + 1) _ i d.id = false
      rw [upN_ne _ _ (by omega), upN_ne _ _ (by omega), upN_same]
      unfold keM
      rw [if_pos ⟨inS, rfl⟩]
    · show upN (upN (upN s.ab.ke i _) (i + 1) _) (i + 1) _ (i + 1) d.id = true
      rw [upN_same]
      unfold keM
      have q : d.id ∈ (upN s.ab.fe (i + 1) (insE (s.ab.fe (i + 1)) d.e) (i + 1)).map E.id := by
        rw [upN_same]
        exact insE_ids.2 (.inl rfl)
      exact if_pos ⟨q, rfl⟩
    · have eM : ∀ (es : List E) (ke : Int → Bool) on, keM es ke d.id on id = ke id := fun es ke on => by unfold keM; rw [if_neg fun q => hk q.2]
      have g2 : ∀ (f : Nat → Int → Bool) (j : Nat) (x : Int → Bool), x id = f j id → upN f j x k id = f k id := fun f j x hx => by
        by_cases q : k = j
        · subst q; rw [upN_same, hx]
        · rw [upN_ne _ _ q]
      show upN (upN (upN s.ab.ke i _) (i + 1) _) (i + 1) _ k id = s.ab.ke k id
      rw [g2 _ _ _ (eM _ _ _), g2 _ _ _ (if_neg hk), g2 _ _ _ (eM _ _ _)]
    · show upN (upN (upN s.ab.ke i _) (i + 1) _) (i + 1) _ k d.id = s.ab.ke k d.id
      rw [upN_ne _ _ (by omega), upN_ne _ _ (by omega), upN_ne _ _ (by omega)]
end
structure Rw (s s' : HS) : Prop where
  G : s'.G = s.G
  mv : s'.mv = s.mv
  me : s'.me = s.me
  vl : s'.vl = s.vl
  vs : s'.vs = s.vs
  blk : s'.blk = s.blk
  L : s.L ≤ s'.L
  lb : ∀ k, k < s.L → s'.lb k = s.lb k
  ws : WS s → WS s'
theorem Rs.rw {s s' : HS} (h : Rs s s') : Rw s s' := ⟨h.G, h.mv, h.me, h.vl, h.vs, h.blk, h.L, h.lb, h.ws⟩
theorem Rw.refl (s : HS) : Rw s s := (Rs.refl s).rw
theorem Rw.trans {a b c : HS} (h : Rw a b) (k : Rw b c) : Rw a c :=
  ⟨k.G.trans h.G, k.mv.trans h.mv, k.me.trans h.me, k.vl.trans h.vl, k.vs.trans h.vs, k.blk.trans h.blk, Nat.le_trans h.L k.L, fun i hi => (k.lb i (Nat.lt_of_lt_of_le hi h.L)).trans (h.lb i hi), fun w => k.ws (h.ws w)⟩
structure Itr (s : HS) (P : Nat → Int → Prop) (s' : HS) : Prop where
  n : ∀ k y, s.it k y = none → s'.it k y = none
  sm : ∀ k y r l c, s.it k y = some (r, l, c) → (P k y → s'.it k y = some (r, l, none)) ∧ (¬ P k y → s'.it k y = some (r, l, c))
  has : ∀ k y b, k < s.L → lk (s.ll k) y = some b → lk (s'.ll k) y = some b
theorem Rs.itr {s s' : HS} (h : Rs s s') {P : Nat → Int → Prop} (hP : ∀ k y r l c, s.it k y = some (r, l, c) → ¬ P k y) : Itr s P s' :=
  ⟨fun k y e => by rw [h.it]; exact e, fun k y r l c e => ⟨fun p => absurd p (hP k y r l c e), fun _ => by rw [h.it]; exact e⟩, fun k y b hk e => by rw [h.ll k hk]; exact e⟩
structure HgA (a : Ab) (i : Nat) (d : Ed) (on : Bool) (a' : Ab) : Prop where
  vs : a'.vs = a.vs
  es : a'.es = a.es
  fe : a'.fe = a.fe
  ke : a'.ke = a.ke
  lo : ∀ k y id', id' ∈ a'.lo k y ↔ if k = i ∧ d.at y then (if on = true then id' = d.id ∨ id' ∈ a.lo k y else id' ∈ a.lo k y ∧ id' ≠ d.id) else id' ∈ a.lo k y
  kv : ∀ k, ∀ y ∈ a.vs, (a'.kv k y = true ↔ if k = i ∧ d.at y then a'.lo k y ≠ [] else a.kv k y = true)
theorem nil_mem {α : Type} {l : List α} : l ≠ [] ↔ ∃ x, x ∈ l := by
  cases l with
  | nil => simp
  | cons a t => simp
theorem ne_same {α : Type} {l m : List α} (h : ∀ x, x ∈ l ↔ x ∈ m) : l ≠ [] ↔ m ≠ [] := by
  rw [nil_mem, nil_mem]
  exact ⟨fun ⟨x, hx⟩ => ⟨x, (h x).1 hx⟩, fun ⟨x, hx⟩ => ⟨x, (h x).2 hx⟩⟩
theorem HgA.kvA {a a' : Ab} {i : Nat} {d : Ed} {on : Bool} (h : HgA a i d on a') (c : ∀ k, ∀ v ∈ a.vs, (a.kv k v = true ↔ a.lo k v ≠ [])) : ∀ k, ∀ v ∈ a'.vs, (a'.kv k v = true ↔ a'.lo k v ≠ []) := by
  intro k v hv
  rw [h.vs] at hv
  rw [h.kv k v hv]
  by_cases q : k = i ∧ d.at v
  · rw [if_pos q]
  · rw [if_neg q, c k v hv]
    refine ne_same fun x => ?_
    rw [h.lo k v x, if_neg q]
section
variable {w w' w0 : World} {O O' O0 : Ow} {s s' : HS} {i : Nat}
theorem At.hang (h : At O0 w0 w s) (ws : WS s) (hi : i < s.L) {d : Ed} {be : Nat} (hE : HB w be (edC d) TDe) (hn : d.u ≠ d.v) (hid : ¬ badI d.id) (hu : d.u ∈ s.vs) (hv : d.v ∈ s.vs) (on : Bool) (hit : ∀ y, d.at y → ∀ r l c, s.it i y = some (r, l, c) → (∃ b0, lk (s.ll i) y = some b0) ∧ on = false ∧ ∃ bb, c = some (d.id, bb)) :
    Calls Tryz.prog 43 #[.pointer (some ⟨s.lb i, 0, none⟩), .int .i64 d.id, .pointer (some ⟨be, 0, none⟩), .bool on] w fun e w' => e = .returned (.tuple #[]) ∧ ∃ s', At O0 w0 w' s' ∧ Rw s s' ∧ Itr s (fun k y => k = i ∧ d.at y) s' ∧ s'.L = s.L ∧ HgA s.ab i d on s'.ab := by
  obtain ⟨O, hm, u⟩ := h
  refine (hang_ok hm hi hE hn (W64.id hid).1 (W64.id (ws.ok hu)).1 (W64.id (ws.ok hv)).1 on hit).mono ?_
  rintro _ w' ⟨rfl, O', ll', inn', it', kv', hm', u', g⟩
  refine ⟨rfl, _, ⟨O', hm', u.trans u'⟩, ⟨rfl, rfl, rfl, rfl, rfl, rfl, Nat.le_refl _, fun _ _ => rfl, fun ws => ⟨ws.fv, ws.vss, ws.vk, ws.vr, ws.vlen, ws.L0⟩⟩, ⟨g.itn, fun k y r l c e => ⟨fun p => ?_, fun p => ?_⟩, fun k y b _ e => g.has k y b e⟩, rfl, rfl, rfl, rfl, rfl, fun k y id' => ?_, fun k y hy => ?_⟩
  · have := g.its k y r l c e
    rw [if_pos p] at this; exact this
  · have := g.its k y r l c e
    rw [if_neg p] at this; exact this
  · show id' ∈ (if k < s.L then loF ll' inn' k y else []) ↔ if k = i ∧ d.at y then (if on = true then id' = d.id ∨ id' ∈ (if k < s.L then s.lo k y else []) else id' ∈ (if k < s.L then s.lo k y else []) ∧ id' ≠ d.id) else id' ∈ (if k < s.L then s.lo k y else [])
    by_cases q : k < s.L
    · rw [if_pos q, if_pos q]
      exact g.lo k y id'
    · rw [if_neg q, if_neg q, if_neg fun p => q (by omega)]
  · show (if k < s.L then kv' k y else false) = true ↔ if k = i ∧ d.at y then (if k < s.L then loF ll' inn' k y else []) ≠ [] else (if k < s.L then s.kv k y else false) = true
    by_cases q : k < s.L
    · rw [if_pos q, if_pos q, if_pos q, g.kv k y]
      by_cases p : k = i ∧ d.at y
      · have hf : y ∈ s.fv i := by rw [ws.fv i hi]; exact hy
        rw [if_pos p, if_pos ⟨p.1, p.2, hf⟩]
        exact decide_eq_true_iff
      · rw [if_neg p, if_neg fun x => p ⟨x.1, x.2.1⟩]
    · rw [if_neg q, if_neg q, if_neg q, if_neg fun p => q (by omega)]
end
section
variable {w w' w0 : World} {O O' O0 : Ow} {s s' : HS} {i : Nat}
open Classical in
theorem At.joined (h : At O0 w0 w s) (ws : WS s) (hi : i < s.L) {u v : Int} (hu : u ∈ s.vs) (hv : v ∈ s.vs) :
    Calls Tryz.prog 37 #[.pointer (some ⟨s.F i, 0, none⟩), .int .i64 u, .int .i64 v] w fun e w' => ∃ b, e = .returned (.tuple #[.bool b, .int .i64 0]) ∧ (b = true ↔ Cn (s.fe i) u v) ∧ At O0 w0 w' s := by
  obtain ⟨O, hm, uu⟩ := h
  refine (hm.fjoined hi (W64.id (ws.ok hu)).1 (W64.id (ws.ok hv)).1).mono ?_
  rintro _ w' ⟨rfl, hm', g⟩
  refine ⟨decide (Cn (s.fe i) u v), ?_, decide_eq_true_iff, O, hm', uu.trans (.below g)⟩
  rw [ws.fv i hi]
  have e : decide (u ∈ s.vs ∧ v ∈ s.vs ∧ Cn (s.fe i) u v) = decide (Cn (s.fe i) u v) := by
    rw [decide_eq_decide]
    exact ⟨fun h => h.2.2, fun h => ⟨hu, hv, h⟩⟩
  rw [e, if_pos ⟨hu, hv⟩]
theorem At.lvB (h : At O0 w0 w s) (hi : i < s.L) : HB w (s.lb i) (lvC s i) TLv := by
  obtain ⟨O, hm, uu⟩ := h
  exact (hm.part (.lv i) hi).1
structure Lnk (A : Ab) (e : E) (k : Nat) (B : Ab) : Prop where
  vs : B.vs = A.vs
  es : B.es = A.es
  lo : B.lo = A.lo
  kv : B.kv = A.kv
  fe : ∀ j, B.fe j = if j < k then insE (A.fe j) e else A.fe j
  ke : ∀ j y, B.ke j y = if j < k ∧ y = e.id then false else A.ke j y
theorem joins_l0 {d : Ed} {A : Ab} {K0 : World → Prop} {s0 : HS} (hL : s0.L ≤ LB) (hid : ¬ badI d.id) (hu : d.u ∈ s0.vs) (hv : d.v ∈ s0.vs) (hi : i < s0.L) (hd : d ∈ A.es) (hno : ∀ k, k ≤ i → d.id ∉ (A.fe k).map E.id) (hnc : ∀ k, k ≤ i → ¬ Cn (A.fe k) d.u d.v)
    (hK : ∀ w s, At O0 w0 w s → Rs s0 s → s.L = s0.L → s.F = s0.F → Lnk A d.e (i + 1) s.ab → K0 w) :
    ∀ (n k : Nat) (w : World) (s : HS), n + k = i + 1 → At O0 w0 w s → Rs s0 s → s.L = s0.L → s.F = s0.F → WS s → Lnk A d.e k s.ab →
      f_hdt_Graph_joins.l0 (n + 1) ⟨s0.G, 0, none⟩ d.id (i : Int) (some ⟨s0.blk d.id, 0, none⟩) (k : Int) w K0 := by
  have hL' : s0.L ≤ 17592186044000 := hL
  intro n
  induction n with
  | zero =>
    intro k w s hk h r hl hF ws ln
    unfold f_hdt_Graph_joins.l0
    refine sel_f (by simp; omega) ?_
    have : k = i + 1 := by omega
    subst this
    exact hK w s h r hl hF ln
  | succ n ih =>
    intro k w s hk h r hl hF ws ln
    unfold f_hdt_Graph_joins.l0
    refine sel_t (by simp; omega) (drW_intro ?_)
    have h := h.drew
    obtain ⟨w1, hw1⟩ : ∃ w1, w.drew = w1 := ⟨_, rfl⟩
    rw [hw1] at h ⊢
    have hks : k < s.L := by omega
    have hd1 : d ∈ s.es := by have e : s.es = A.es := ln.es; rw [e]; exact hd
    have hb1 := h.ed hd1
    rw [r.blk] at hb1
    refine ⟨fun a => HB a (s0.blk d.id) (edC d) TDe ∧ HB a (s.lb k) (lvC s k) TLv, ⟨hb1, h.lvB hks⟩, optB_some rfl ⟨d.u, fun a ha => (ha.1.cell 0).trans rfl, optB_some rfl ⟨d.v, fun a ha => (ha.1.cell 1).trans rfl, ?_⟩⟩⟩
    rw [← r.G]
    refine (h.at_in hks (by omega)).mono ?_
    rintro _ _ ⟨rfl, rfl⟩
    refine ⟨_, rfl, ⟨hb1, h.lvB hks⟩, optB_some rfl ⟨some ⟨s.F k, 0, none⟩, fun a ha => (ha.2.cell 0).trans rfl, ?_⟩⟩
    have fek : s.fe k = A.fe k := by rw [← HS.ab_fe hks, ln.fe, if_neg (by omega)]
    have vsk : s.vs = s0.vs := r.vs
    refine (h.link ws hks (e := d.e) hid (by rw [vsk]; exact hu) (by rw [vsk]; exact hv) rfl (by rw [fek]; exact hno k (by omega)) (by rw [fek]; exact hnc k (by omega))).mono ?_
    rintro _ w2 ⟨rfl, h2⟩
    refine ⟨_, rfl, ?_⟩
    rw [w64_in (by omega), show (k : Int) + 1 = ((k + 1 : Nat) : Int) by omega]
    have r2 : Rs s (s.linkF k d.e) := setF_rs
    have := ih (k + 1) w2 (s.linkF k d.e) (by omega) h2 (r.trans r2) hl hF (r2.ws ws) ?_
    · rw [r.G]; exact this
    · have e : (s.linkF k d.e).ab = { s.ab with fe := upN s.ab.fe k (insE (s.fe k) d.e), kv := upN s.ab.kv k (s.kv k), ke := upN s.ab.ke k (fun y => if y = d.e.id then false else s.ke k y) } := HS.setF_ab hks
      rw [e, ← HS.ab_kv hks, ← HS.ab_ke hks, upN_self, fek]
      refine ⟨ln.vs, ln.es, ln.lo, ln.kv, fun j => ?_, fun j y => ?_⟩
      · show upN s.ab.fe k _ j = _
        by_cases q : j = k
        · subst q; rw [upN_same, if_pos (by omega)]
        · rw [upN_ne _ _ q, ln.fe]
          by_cases q2 : j < k
          · rw [if_pos q2, if_pos (by omega)]
          · rw [if_neg q2, if_neg (by omega)]
      · show upN s.ab.ke k _ j y = _
        by_cases q : j = k
        · subst q
          rw [upN_same]
          by_cases q2 : y = d.e.id
          · rw [if_pos q2, if_pos ⟨by omega, q2⟩]
          · rw [if_neg q2, ln.ke, if_neg fun x => q2 x.2, if_neg fun x => q2 x.2]
        · rw [upN_ne _ _ q, ln.ke]
          by_cases q2 : j < k ∧ y = d.e.id
          · rw [if_pos q2, if_pos ⟨by omega, q2.2⟩]
          · rw [if_neg q2, if_neg fun x => q2 ⟨by omega, x.2⟩]
end
section
variable {w w' w0 : World} {O O' O0 : Ow} {s s' : HS} {i : Nat}
theorem Itr.none' {P : Nat → Int → Prop} (h : Itr s P s') {k : Nat} {y : Int} (e : ∀ r l c, s.it k y ≠ some (r, l, c)) : s'.it k y = none := h.n k y (by
  cases q : s.it k y with
  | none => rfl
  | some x => obtain ⟨r, l, c⟩ := x; exact absurd q (e r l c))
theorem Itr.tr {a b c : HS} {P : Nat → Int → Prop} (h : Itr a P b) (k : Itr b (fun _ _ => False) c) (hL : a.L ≤ b.L) : Itr a P c :=
  ⟨fun j y e => k.n j y (h.n j y e), fun j y r l cc e => ⟨fun p => (k.sm j y r l none ((h.sm j y r l cc e).1 p)).2 id, fun p => (k.sm j y r l cc ((h.sm j y r l cc e).2 p)).2 id⟩, fun j y b hj e => k.has j y b (by omega) (h.has j y b hj e)⟩
theorem joins_ok (h : At O0 w0 w s) (ws : WS s) (c : Core s.ab) {d : Ed} (hd : d ∈ s.es) (ht : d.tr = false) (hn : d.u ≠ d.v) (hl : d.lv = i) (hi : i < s.L) (hL : s.L ≤ LB) (hit : ∀ k y r l c, s.it k y = some (r, l, c) → k = i ∧ (d.at y → (∃ b0, lk (s.ll i) y = some b0) ∧ ∃ bb, c = some (d.id, bb)))
    (hnc : ¬ Cn (s.ab.fe i) d.u d.v → ∀ k, k ≤ i → ¬ Cn (s.ab.fe k) d.u d.v) :
    Calls Tryz.prog 74 #[.pointer (some ⟨s.G, 0, none⟩), .int .i64 d.id, .int .i64 (i : Int)] w fun e w' => ∃ b s', e = .returned (.bool b) ∧ At O0 w0 w' s' ∧ Rw s s' ∧ s'.L ≤ max s.L (i + 2) ∧ Itr s (fun k y => k = i ∧ d.at y) s' ∧ (b = true → Linked s.ab i d s'.ab ∧ ¬ Cn (s.ab.fe i) d.u d.v) ∧ (b = false → Upped s.ab i d s'.ab ∧ Cn (s.ab.fe i) d.u d.v) := by
  have hL' : s.L ≤ 17592186044000 := hL
  have hid := c.ok d hd
  have hidW := (W64.id hid).1
  have nd : (s.es.map Ed.id).Nodup := c.ids
  have ew : IntKind.i64.wrap ((i : Int) + 1) = ((i + 1 : Nat) : Int) := by rw [w64_in (by omega)]; omega
  have hends := c.ends d hd
  apply f_hdt_Graph_joins.ok
  unfold f_hdt_Graph_joins.wp
  refine drW_intro ⟨f_hdt_Graph_joins.h1_ok _ _ _, fun a b => b = a, fun k v w => if k = 2 then v = .pointer (some ⟨s.lb i, 0, none⟩) else if k = 6 then v = .map (some s.me) else v = .pointer (some ⟨s.blk d.id, 0, none⟩), fun _ => rfl, fun a b c h1 h2 => h2.trans h1, fun k v a b _ _ hv => hv, ⟨fun _ w4 g => ?_, fun _ w4 g => ?_, fun _ w4 g m hm => ?_, trivial⟩, fun w4 g pe2 h2 m hm pe8 h8 => ?_⟩
  · subst g
    refine (h.drew.at_in hi (by omega)).mono ?_
    rintro _ _ ⟨rfl, rfl⟩
    exact ⟨_, rfl, rfl, rfl⟩
  · subst g
    exact h.drew.ldE ⟨rfl, rfl⟩
  · subst g
    have hm : Value.map m = .map (some s.me) := hm
    rw [hm]
    refine h.drew.lkE hidW ?_
    rw [el_lk nd hd]
    exact ⟨_, rfl, rfl, rfl⟩
  · subst g
    have h2 : Value.pointer pe2 = .pointer (some ⟨s.lb i, 0, none⟩) := h2
    have h8 : Value.pointer pe8 = .pointer (some ⟨s.blk d.id, 0, none⟩) := h8
    injection h2 with h2
    injection h8 with h8
    subst h2
    subst h8
    have h := h.drew
    obtain ⟨w1, hw1⟩ : ∃ w1, w.drew = w1 := ⟨_, rfl⟩
    rw [hw1] at h ⊢
    refine (h.hang ws hi (h.ed hd) hn hid hends.1 hends.2 false fun y hy r l c e => ?_).mono ?_
    · obtain ⟨_, h1⟩ := hit i y r l c e
      exact ⟨(h1 hy).1, rfl, (h1 hy).2⟩
    rintro _ w2 ⟨rfl, s1, h1, r1, t1, L1, g1⟩
    refine ⟨rfl, drW_intro ?_⟩
    have h1 := h1.drew
    obtain ⟨w3, hw3⟩ : ∃ w3, w2.drew = w3 := ⟨_, rfl⟩
    rw [hw3] at h1 ⊢
    have ws1 := r1.ws ws
    have hi1 : i < s1.L := by omega
    have es1 : s1.es = s.es := g1.es
    have hd1 : d ∈ s1.es := by rw [es1]; exact hd
    have nd1 : (s1.es.map Ed.id).Nodup := by rw [es1]; exact nd
    have hE1 := h1.ed hd1
    rw [r1.blk] at hE1
    have fe1 : s1.fe i = s.ab.fe i := by rw [← HS.ab_fe hi1, g1.fe]
    have vs1 : s1.vs = s.vs := r1.vs
    rw [← r1.lb i hi]
    refine optB_some rfl (h1.ldF hi1 (optB_some rfl (hb_ldI0 hE1 rfl (optB_some rfl (hb_ldI (j := 1) hE1 rfl ?_)))))
    refine (h1.joined ws1 hi1 (by rw [vs1]; exact hends.1) (by rw [vs1]; exact hends.2)).mono ?_
    rintro _ w4 ⟨b4, rfl, hb4, h2⟩
    rw [fe1] at hb4
    have hE2 := h2.ed hd1
    have eb1 : s1.blk d.id = s.blk d.id := congrFun r1.blk d.id
    rw [r1.blk] at hE2
    by_cases hc : Cn (s.ab.fe i) d.u d.v
    · -- it rises
      rw [hb4.2 hc]
      refine ⟨_, _, rfl, sel_t rfl (optB_some rfl (hb_ldI (j := 2) hE2 rfl (optB_some rfl ?_)))⟩
      rw [hl, ew]
      have st := fun {K} hk => h2.stD (K := K) (d' := { d with lv := i + 1 }) nd1 hd1 rfl (j := 2) (by omega) (v := .int .i64 ((i + 1 : Nat) : Int)) rfl hk
      rw [eb1] at st
      refine st fun w5 h3 => ?_
      obtain ⟨s2, hs2⟩ : ∃ s2, s1.setD { d with lv := i + 1 } = s2 := ⟨_, rfl⟩
      have r2 : Rs s1 s2 := by rw [← hs2]; exact setD_rs _
      have L2 : s2.L = s1.L := by rw [← hs2]; rfl
      have ab2 : s2.ab = { s1.ab with es := setE s1.es { d with lv := i + 1 } } := by rw [← hs2]; rfl
      rw [hs2] at h3
      have ws2 := r2.ws ws1
      rw [← r1.G, ← r2.G]
      refine (h3.at ws2 (i := i + 1) (by omega) (by show s2.L ≤ 17592186044000; omega)).mono ?_
      rintro _ w6 ⟨s3, rfl, h4, m3⟩
      have r3 := m3.rs
      have L3 := m3.L
      have ws3 := r3.ws ws2
      have hd3 : { d with lv := i + 1 } ∈ s3.es := by
        have e3 : s3.es = setE s1.es { d with lv := i + 1 } := by
          have := congrArg Ab.es m3.ab
          rw [ab2] at this; exact this
        rw [e3]
        exact (setE_mem nd1 hd1 (d' := { d with lv := i + 1 }) rfl).2 (.inl rfl)
      have hE4 := h4.ed hd3
      have eb3 : s3.blk d.id = s.blk d.id := by rw [r3.blk, r2.blk]; exact eb1
      have hE4 : HB w6 (s.blk d.id) (edC { d with lv := i + 1 }) TDe := by rw [← eb3]; exact hE4
      have vs3 : s3.vs = s.vs := by rw [r3.vs, r2.vs]; exact vs1
      have itN : ∀ y, s3.it (i + 1) y = none := fun y => by
        rw [r3.it, r2.it]
        exact t1.none' fun r l c e => absurd (hit _ _ _ _ _ e).1 (by omega)
      refine ⟨_, rfl, (h4.hang ws3 (i := i + 1) (by omega) (d := { d with lv := i + 1 }) hE4 hn hid (by rw [vs3]; exact hends.1) (by rw [vs3]; exact hends.2) true fun y _ r l c e => by rw [itN y] at e; cases e).mono ?_⟩
      rintro _ w7 ⟨rfl, s4, h5, r5, t5, L5, g5⟩
      refine ⟨rfl, _, s4, rfl, h5, ((r1.trans r2.rw).trans r3.rw).trans r5, by omega, ?_, (fun e => by cases e), fun _ => ⟨?_, hc⟩⟩
      · refine ((t1.tr (r2.itr fun _ _ _ _ _ _ => id) (by omega)).tr (r3.itr fun _ _ _ _ _ _ => id) (by omega)).tr ⟨t5.n, fun k y r l c e => ⟨False.elim, fun _ => (t5.sm k y r l c e).2 fun p => ?_⟩, t5.has⟩ (by omega)
        rw [p.1, itN y] at e; cases e
      · have ab3 : s3.ab = { s1.ab with es := setE s1.es { d with lv := i + 1 } } := m3.ab.trans ab2
        rw [ab3] at g5
        refine ⟨g5.vs.trans g1.vs, g5.es.trans (by show setE s1.es _ = setE s.es _; rw [es1]), fun k e => ?_, fun k v id => ?_, ?_, g5.ke.trans g1.ke⟩
        · rw [g5.fe]
          show e ∈ s1.ab.fe k ↔ _
          rw [g1.fe]
        · have q5 := g5.lo k v id
          have q1 := g1.lo k v id
          rw [q5]
          show (if k = i + 1 ∧ d.at v then (if true = true then id = d.id ∨ id ∈ s1.ab.lo k v else id ∈ s1.ab.lo k v ∧ id ≠ d.id) else id ∈ s1.ab.lo k v) ↔ _
          rw [if_pos (c := true = true) rfl]
          by_cases p1 : k = i + 1 ∧ d.at v
          · rw [if_pos p1, q1, if_neg (c := k = i ∧ d.at v) (fun x => by omega), if_neg (c := d.at v ∧ k = i) (fun x => by omega), if_pos (c := d.at v ∧ k = i + 1) ⟨p1.2, p1.1⟩]
          · rw [if_neg p1, q1]
            by_cases p2 : k = i ∧ d.at v
            · rw [if_pos p2, if_neg (c := false = true) (by decide), if_pos (c := d.at v ∧ k = i) ⟨p2.2, p2.1⟩]
            · rw [if_neg p2, if_neg fun x => p2 ⟨x.2, x.1⟩, if_neg fun x => p1 ⟨x.2, x.1⟩]
        · have k1 := g1.kvA c.kv
          have k5 := g5.kvA k1
          intro k v hv
          exact k5 k v (by rw [g5.vs]; show v ∈ s1.ab.vs; rw [g1.vs]; exact hv)
    · -- it joins
      rw [Bool.eq_false_iff.2 fun x => hc (hb4.1 x)]
      have nc := hnc hc
      refine ⟨_, _, rfl, sel_f rfl (optB_some rfl ?_)⟩
      have st := fun {K} hk => h2.stD (K := K) (d' := { d with tr := true }) nd1 hd1 rfl (j := 3) (by omega) (v := .bool true) rfl hk
      rw [eb1] at st
      refine st fun w5 h3 => ?_
      obtain ⟨s2, hs2⟩ : ∃ s2, s1.setD { d with tr := true } = s2 := ⟨_, rfl⟩
      have r2 : Rs s1 s2 := by rw [← hs2]; exact setD_rs _
      have L2 : s2.L = s1.L := by rw [← hs2]; rfl
      have ab2 : s2.ab = { s1.ab with es := setE s1.es { d with tr := true } } := by rw [← hs2]; rfl
      rw [hs2] at h3
      have ws2 := r2.ws ws1
      have vs2 : s2.vs = s.vs := by rw [r2.vs]; exact vs1
      have eG : s2.G = s.G := by rw [r2.G]; exact r1.G
      have ebl : s2.blk d.id = s.blk d.id := by rw [r2.blk]; exact eb1
      have fe2 : s2.ab.fe = s.ab.fe := by rw [ab2]; exact g1.fe
      have hd2 : { d with tr := true } ∈ s2.ab.es := by
        rw [ab2]
        exact (setE_mem nd1 hd1 (d' := { d with tr := true }) rfl).2 (.inl rfl)
      have hno : ∀ k, k ≤ i → d.id ∉ (s2.ab.fe k).map E.id := fun k hk hm => by
        rw [fe2] at hm
        obtain ⟨e, he, hid⟩ := List.mem_map.1 hm
        obtain ⟨d2, hd2, ht2, hlv, rfl⟩ := (c.fe _ e).1 he
        have : d2 = d := c.inj hd2 hd hid
        subst this
        rw [ht] at ht2; cases ht2
      refine ⟨i + 1 + 1, ?_⟩
      rw [← eG, ← ebl]
      refine joins_l0 (O0 := O0) (w0 := w0) (i := i) (d := { d with tr := true }) (A := s2.ab) (s0 := s2) (by show s2.L ≤ 17592186044000; omega) hid (by rw [vs2]; exact hends.1) (by rw [vs2]; exact hends.2) (by omega) hd2 hno (fun k hk => by rw [fe2]; exact nc k hk) ?_ (i + 1) 0 w5 s2 (by omega) h3 (.refl _) rfl rfl ws2 ⟨rfl, rfl, rfl, rfl, fun j => by rw [if_neg (by omega)], fun j y => by rw [if_neg (by omega)]⟩
      · intro w6 s3 h4 r3 L3 F3 ln _
        have hi3 : i < s3.L := by omega
        have elb : s3.lb i = s1.lb i := by rw [r3.lb i (by omega), r2.lb i hi1]
        rw [← elb]
        refine optB_some rfl (h4.ldF hi3 ((h4.markE hi3 hidW true).mono ?_))
        rintro _ w7 ⟨c1, rfl, h5⟩
        have r4 : Rs s3 (s3.markF i d.id true) := setF_rs
        have ab4 : (s3.markF i d.id true).ab = { s3.ab with fe := upN s3.ab.fe i (s3.fe i), kv := upN s3.ab.kv i (s3.kv i), ke := upN s3.ab.ke i (keM (s3.fe i) (s3.ke i) d.id true) } := HS.setF_ab hi3
        rw [← HS.ab_fe hi3, ← HS.ab_kv hi3, ← HS.ab_ke hi3, upN_self, upN_self] at ab4
        refine ⟨_, rfl, _, s3.markF i d.id true, rfl, h5, ((r1.trans r2.rw).trans r3.rw).trans r4.rw, ?_, ?_, fun _ => ⟨?_, hc⟩, fun e => by cases e⟩
        · show s3.L ≤ _
          omega
        · exact ((t1.tr (r2.itr fun _ _ _ _ _ _ => id) (by omega)).tr (r3.itr fun _ _ _ _ _ _ => id) (by omega)).tr (r4.itr fun _ _ _ _ _ _ => id) (by omega)
        · rw [ab4]
          have eL : s3.ab.lo = s1.ab.lo := by rw [ln.lo, ab2]
          have eK : s3.ab.kv = s1.ab.kv := by rw [ln.kv, ab2]
          have eE : s2.ab.ke = s.ab.ke := by rw [ab2]; exact g1.ke
          have inF : d.id ∈ (s3.ab.fe i).map E.id := by
            rw [ln.fe, if_pos (by omega)]
            exact insE_ids.2 (.inl rfl)
          refine ⟨?_, ?_, fun k hk e => ?_, fun k hk e => ?_, fun k v id => ?_, fun k v hv => ?_, fun k hk => ?_, fun k id hk => ?_⟩
          · show s3.ab.vs = _
            rw [ln.vs, ab2]; exact g1.vs
          · show s3.ab.es = _
            rw [ln.es, ab2]
            show setE s1.es _ = setE s.es _
            rw [es1]
          · show e ∈ s3.ab.fe k ↔ _
            rw [ln.fe, if_pos (by omega), insE_mem, fe2, List.mem_append, List.mem_singleton, or_comm]; rfl
          · show e ∈ s3.ab.fe k ↔ _
            rw [ln.fe, if_neg (by omega), fe2]
          · show id ∈ s3.ab.lo k v ↔ _
            rw [eL, g1.lo k v id]
            by_cases p2 : k = i ∧ d.at v
            · rw [if_pos p2, if_neg (c := false = true) (by decide), if_pos (c := d.at v ∧ k = i) ⟨p2.2, p2.1⟩]
            · rw [if_neg p2, if_neg fun x => p2 ⟨x.2, x.1⟩]
          · show s3.ab.kv k v = true ↔ s3.ab.lo k v ≠ []
            rw [eK, eL]
            exact g1.kvA c.kv k v (by rw [g1.vs]; exact hv)
          · show upN s3.ab.ke i _ k d.id = true ↔ _
            by_cases q : k = i
            · subst q
              rw [upN_same]
              unfold keM
              rw [if_pos ⟨inF, rfl⟩]; simp
            · rw [upN_ne _ _ q, ln.ke, if_pos ⟨by omega, rfl⟩]
              simp [q]
          · show upN s3.ab.ke i _ k id = _
            by_cases q : k = i
            · subst q
              rw [upN_same]
              unfold keM
              rw [if_neg fun x => hk x.2, ln.ke, if_neg fun x => hk x.2, eE]
            · rw [upN_ne _ _ q, ln.ke, if_neg fun x => hk x.2, eE]
end
def HS.setIt (s : HS) (f : Nat → Int → It) : HS := { s with it := f }
section
variable {w w' w0 : World} {O O' O0 : Ow} {s s' : HS} {i : Nat} {v : Int}
theorem setIt_rw (f : Nat → Int → It) : Rw s (s.setIt f) := ⟨rfl, rfl, rfl, rfl, rfl, rfl, Nat.le_refl _, fun _ _ => rfl, fun ws => ⟨ws.fv, ws.vss, ws.vk, ws.vr, ws.vlen, ws.L0⟩⟩
theorem HM.itSet (h : HM w O s) (hi : i < s.L) {b : Nat} (hb : lk (s.ll i) v = some b) {r : Nat} {l : List (Int × Bool)} {c : Option (Int × Bool)} (k : Keeps (fun k => k = r) w w') (hr : O r = some (.inn i v) ∨ w.heap.size ≤ r) (hrl : r < w'.heap.size) (hm : IM w' b (s.inn i v) (some (r, l, c))) :
    ∃ O', HM w' O' (s.setIt (upd2 s.it i v (some (r, l, c)))) ∧ UH O w O' w' := by
  obtain ⟨h1, h2, h3⟩ := h.part (.inn i v) hi b hb
  have k' : Keeps (fun k => O k = some (.inn i v)) w w' := k.mono fun x hx e => by
    rw [e]; rw [e] at hx; rcases hr with hr | hr
    · exact hr
    · omega
  refine ⟨_, h.change (t := .inn i v) k' (fun x hx => hx) (fun t' ht hp => ?_) (fun _ b' hb' => ?_)⟩
  · cases t' with
    | inn j y =>
      have hjy : ¬ (j = i ∧ y = v) := fun e => ht (by rw [e.1, e.2])
      intro hl b hb
      have := hp hl b hb
      show IM _ _ _ (upd2 s.it i v _ j y) ∧ _ ∧ ∀ r l c, upd2 s.it i v _ j y = _ → _
      rw [upd2_ne _ _ hjy]
      exact this
    | g => exact hp
    | sd => exact hp
    | lr => exact hp
    | mv => exact hp
    | me => exact hp
    | lv j => exact hp
    | lm j => exact hp
    | fo j => exact hp
    | ed id => exact hp
  · have hb' : lk (s.ll i) v = some b' := hb'
    rw [hb] at hb'
    injection hb' with hb'
    subst hb'
    show IM _ _ _ (upd2 s.it i v _ i v) ∧ _ ∧ ∀ r l c, upd2 s.it i v _ i v = _ → _
    rw [upd2_same]
    refine ⟨hm, by rw [ext_old (h.dom _ _ h2)]; exact h2, fun r' l' c' e => ?_⟩
    injection e with e; injection e with e1 e2
    subst e1
    rcases hr with hr | hr
    · rw [ext_old (h.dom _ _ hr)]; exact hr
    · exact ext_new hr hrl
theorem At.range (h : At O0 w0 w s) (hi : i < s.L) {b : Nat} (hb : lk (s.ll i) v = some b) {K : Value → World → Prop} (hk : ∀ w' r, At O0 w0 w' (s.setIt (upd2 s.it i v (some (r, s.inn i v, none)))) → K (.pointer (some ⟨r, 0, none⟩)) w') :
    Runs Tryz.prog (Instr.range 124 (.map (some b))) w K := by
  obtain ⟨O, hm, u⟩ := h
  refine (hm.part (.inn i v) hi b hb).1.gm.range KTb fun w1 r e z g1 b1 => ?_
  obtain ⟨O1, h1, u1⟩ := hm.itSet hi hb (r := r) (l := s.inn i v) (c := none) (Keeps.of_below b1) (.inr (by omega)) (by omega) g1
  exact hk w1 r ⟨O1, h1, u.trans u1⟩
theorem At.next (h : At O0 w0 w s) (hi : i < s.L) {b : Nat} (hb : lk (s.ll i) v = some b) {r : Nat} {left : List (Int × Bool)} {cur : Option (Int × Bool)} (hit : s.it i v = some (r, left, cur)) {ty : TypeId} {K : Value → World → Prop} (h0 : left = [] → K (.tuple #[.bool false]) w)
    (h1 : ∀ id bb w', (id, bb) ∈ s.inn i v → At O0 w0 w' (s.setIt (upd2 s.it i v (some (r, delK left id, some (id, bb))))) → (delK left id).length < left.length → (∀ {K : Value → World → Prop}, K (.tuple #[.int .i64 id, .bool bb]) w' → Runs Tryz.prog (Instr.entry (.pointer (some ⟨r, 0, none⟩))) w' K) → K (.tuple #[.bool true, .int .i64 id, .bool bb]) w') :
    Runs Tryz.prog (Instr.next (.pointer (some ⟨r, 0, none⟩)) false ty) w K := by
  obtain ⟨O, hm, u⟩ := h
  obtain ⟨p1, p2, p3⟩ := hm.part (.inn i v) hi b hb
  rw [hit] at p1
  have g : GI w eI eBo W64 b r (s.inn i v) left cur := p1
  refine g.next h0 (fun id bb w1 hx g1 hlt k1 z1 => ?_) eI_inj
  obtain ⟨O1, hm1, u1⟩ := hm.itSet hi hb (r := r) (l := delK left id) (c := some (id, bb)) k1 (.inl (p3 r left cur hit)) g1.lt g1
  exact h1 id bb w1 (g.sub _ hx) ⟨O1, hm1, u.trans u1⟩ hlt fun hk => g1.entry hk
theorem At.itNone (h : At O0 w0 w s) : At O0 w0 w (s.setIt fun _ _ => none) := by
  obtain ⟨O, hm, u⟩ := h
  refine ⟨O, ⟨fun t => ?_, hm.dom⟩, u⟩
  have hp := hm.part t
  cases t with
  | inn j y =>
    intro hl b hb
    obtain ⟨h1, h2, h3⟩ := hp hl b hb
    exact ⟨h1.gm, h2, fun r l c e => by cases e⟩
  | g => exact hp
  | sd => exact hp
  | lr => exact hp
  | mv => exact hp
  | me => exact hp
  | lv j => exact hp
  | lm j => exact hp
  | fo j => exact hp
  | ed id => exact hp
end
theorem setE_count {es : List Ed} {p : Ed → Bool} {d d' : Ed} (nd : (es.map Ed.id).Nodup) (hd : d ∈ es) (he : d'.id = d.id) (h1 : p d = true) (h2 : p d' = false) : ((setE es d').filter p).length < (es.filter p).length := by
  have no : ∀ l : List Ed, d.id ∉ l.map Ed.id → setE l d' = l := fun l hl => by
    unfold setE
    conv => rhs; rw [← List.map_id l]
    apply List.map_congr_left
    intro x hx
    show (if x.id = d'.id then d' else x) = x
    rw [if_neg]
    intro e
    exact hl (by rw [← he, ← e]; exact List.mem_map_of_mem hx)
  induction es with
  | nil => cases hd
  | cons x t ih =>
    rw [List.map_cons, List.nodup_cons] at nd
    rcases List.mem_cons.1 hd with rfl | hd
    · have e1 : setE (d :: t) d' = d' :: t := by
        show (if d.id = d'.id then d' else d) :: setE t d' = _
        rw [if_pos he.symm, no t nd.1]
      rw [e1, List.filter_cons_of_neg (by rw [h2]; decide), List.filter_cons_of_pos h1]
      exact Nat.lt_succ_self _
    · have hne : x.id ≠ d'.id := fun e => nd.1 (by rw [e, he]; exact List.mem_map_of_mem hd)
      have e1 : setE (x :: t) d' = x :: setE t d' := by
        show (if x.id = d'.id then d' else x) :: setE t d' = _
        rw [if_neg hne]
      have := ih nd.2 hd
      rw [e1]
      by_cases q : p x = true
      · rw [List.filter_cons_of_pos q, List.filter_cons_of_pos q]
        exact Nat.succ_lt_succ this
      · rw [List.filter_cons_of_neg q, List.filter_cons_of_neg q]
        exact this
def cT (i : Nat) (d : Ed) : Bool := d.tr && decide (d.lv = i)
def cL (i : Nat) (d : Ed) : Bool := !d.tr && decide (d.lv = i)
structure Rpl (x : E) (i : Nat) (a0 a : Ab) : Prop where
  vs : a.vs = a0.vs
  core : Core a
  sk : a.sk = a0.sk
  sp : Sp a x (i + 1)
  nc : NC a x (i + 1)
def Upp (i : Nat) (u : Int) (a : Ab) : Prop := ∀ e ∈ a.fe i, Cn (a.fe i) u e.u → e ∈ a.fe (i + 1)
section
variable {a0 a a' : Ab} {i : Nat} {d : Ed} {x : E} {u : Int}
theorem Rpl.raise (h : Rpl x i a0 a) (r : Raised a i d a') (hd : d ∈ a.es) (ht : d.tr = true) (hl : d.lv = i) : Rpl x i a0 a' :=
  ⟨r.vs.trans h.vs, r.core h.core hd ht hl, (r.sk h.core hd).trans h.sk, r.sp h.core hd ht h.sp, r.nc h.nc⟩
theorem Rpl.up (h : Rpl x i a0 a) (r : Upped a i d a') (hd : d ∈ a.es) (ht : d.tr = false) (hn : d.u ≠ d.v) (hl : d.lv = i) (hc : Cn (a.fe (i + 1)) d.u d.v) : Rpl x i a0 a' :=
  ⟨r.vs.trans h.vs, r.core h.core hd ht hn hl, (r.sk h.core hd).trans h.sk, r.sp h.core hd h.sp hc, r.nc h.nc⟩
theorem Upp.up (h : Upp i u a) (r : Upped a i d a') : Upp i u a' := fun e he hc => (r.fe (i + 1) e).2 (h e ((r.fe i e).1 he) ((r.fe i).cn.1 hc))
theorem upp_of (c : Core a) (hi : ∀ y ∈ cmpE (a.fe i) u, a.ke i y = false) : Upp i u a := fun e he hc => by
  obtain ⟨d, hd, ht, hl, rfl⟩ := (c.fe i e).1 he
  have h1 := hi d.id (cmpE_mem.2 ⟨d.e, he, rfl, hc⟩)
  have h2 : d.lv ≠ i := fun q => by
    have := (c.ke i d hd ht hl).2 q
    rw [h1] at this; cases this
  exact (c.fe (i + 1) _).2 ⟨d, hd, ht, by omega, rfl⟩
theorem marked (c : Core a) {y : Int} (hy : y ∈ cmpE (a.fe i) u) (hk : a.ke i y = true) : ∃ d ∈ a.es, d.id = y ∧ d.tr = true ∧ d.lv = i := by
  obtain ⟨e, he, rfl, hc⟩ := cmpE_mem.1 hy
  obtain ⟨d, hd, ht, hl, rfl⟩ := (c.fe i e).1 he
  exact ⟨d, hd, rfl, ht, (c.ke i d hd ht hl).1 hk⟩
end
structure RSt (s0 : HS) (x : E) (i : Nat) (t : HS) : Prop where
  rw : Rw s0 t
  L : t.L ≤ max s0.L (i + 2)
  rp : Rpl x i s0.ab t.ab
  ws : WS t
def NoIt (t : HS) : Prop := ∀ k y, t.it k y = none
structure REn (s0 : HS) (i : Nat) (t : HS) : Prop where
  rw : Rw s0 t
  L : t.L ≤ max s0.L (i + 2)
  it : NoIt t
  ws : WS t
  core : Core t.ab
  sk : t.ab.sk = s0.ab.sk
  sp : ∀ y, Sp t.ab y 0
section
variable {w w' w0 : World} {O O' O0 : Ow} {s s' s0 : HS} {i : Nat} {v : Int} {x : E} {u : Int}
theorem At.someE (h : At O0 w0 w s) (ws : WS s) (hi : i < s.L) (hu : u ∈ s.vs) :
    Calls Tryz.prog 71 #[.pointer (some ⟨s.F i, 0, none⟩), .int .i64 u] w fun e w' => ∃ (x c : Int), e = .returned (.tuple #[.int .i64 x, .int .i64 c]) ∧ SomeS (cmpE (s.ab.fe i) u) (s.ab.ke i) x ∧ At O0 w0 w' s := by
  obtain ⟨O, hm, uu⟩ := h
  refine (hm.someE hi (W64.id (ws.ok hu)).1).mono ?_
  rintro _ w' ⟨x, rfl, h1, hm', g⟩
  rw [HS.ab_fe hi, HS.ab_ke hi]
  exact ⟨x, _, rfl, h1 (by rw [ws.fv i hi]; exact hu), O, hm', uu.trans (.below g)⟩
theorem At.someV (h : At O0 w0 w s) (ws : WS s) (hi : i < s.L) (hu : u ∈ s.vs) :
    Calls Tryz.prog 73 #[.pointer (some ⟨s.F i, 0, none⟩), .int .i64 u] w fun e w' => ∃ (x c : Int), e = .returned (.tuple #[.int .i64 x, .int .i64 c]) ∧ SomeS (cmpV s.vs (s.ab.fe i) u) (s.ab.kv i) x ∧ At O0 w0 w' s := by
  obtain ⟨O, hm, uu⟩ := h
  refine (hm.someV hi (W64.id (ws.ok hu)).1).mono ?_
  rintro _ w' ⟨x, rfl, h1, hm', g⟩
  rw [HS.ab_fe hi, HS.ab_kv hi]
  rw [ws.fv i hi] at h1
  exact ⟨x, _, rfl, h1 hu, O, hm', uu.trans (.below g)⟩
theorem At.size (h : At O0 w0 w s) (ws : WS s) (hi : i < s.L) (hu : u ∈ s.vs) :
    Calls Tryz.prog 48 #[.pointer (some ⟨s.F i, 0, none⟩), .int .i64 u] w fun e w' => ∃ (x c : Int), e = .returned (.tuple #[.int .i64 x, .int .i64 c]) ∧ At O0 w0 w' s := by
  obtain ⟨O, hm, uu⟩ := h
  refine (hm.fsize hi (W64.id (ws.ok hu)).1).mono ?_
  rintro _ w' ⟨rfl, hm', g⟩
  exact ⟨_, _, rfl, O, hm', uu.trans (.below g)⟩
theorem At.lmLook (h : At O0 w0 w s) (hi : i < s.L) (hv : W64 v) {K : Value → World → Prop} (hk : K (.map (lk (s.ll i) v)) w) : Runs Tryz.prog (Instr.lookup 78 (.map (some (s.lm i))) (.int .i64 v) false) w K := by
  obtain ⟨O, hm, uu⟩ := h
  exact hm.lmLook hi hv hk
theorem At.ldL (h : At O0 w0 w s) (hi : i < s.L) {K : Option Nat → Prop} (hk : K (some (s.lm i))) : ldM w ((⟨s.lb i, 0, none⟩ : Addr).add 1) K := by
  obtain ⟨O, hm, uu⟩ := h
  exact hm.ldL hi hk
theorem replace_l1 (hi : i < s0.L) (hL : s0.L < LB) (hu : u ∈ s0.vs) {K0 : World → Prop} (hK : ∀ w t, At O0 w0 w t → RSt s0 x i t → NoIt t → Upp i u t.ab → K0 w) :
    ∀ (n : Nat) (t : HS) (w : World) (y : Int), (t.es.filter (cT i)).length ≤ n → At O0 w0 w t → RSt s0 x i t → NoIt t → SomeS (cmpE (t.ab.fe i) u) (t.ab.ke i) y →
      f_hdt_Graph_replace.l1 (n + 1) ⟨s0.G, 0, none⟩ u (i : Int) (some ⟨s0.lb i, 0, none⟩) y w K0 := by
  have hL' : s0.L < 17592186044000 := hL
  intro n
  induction n with
  | zero =>
    intro t w y hn h ri ni sy
    unfold f_hdt_Graph_replace.l1
    rcases sy with ⟨h1, h2⟩ | ⟨rfl, h1⟩
    · obtain ⟨d, hd, rfl, ht, hl⟩ := marked ri.rp.core h1 h2
      have : d ∈ t.es.filter (cT i) := List.mem_filter.2 ⟨hd, by simp [cT, ht, hl]⟩
      rw [List.length_eq_zero_iff.1 (Nat.le_zero.1 hn)] at this
      cases this
    · exact sel_f (by decide) (hK w t h ri ni (upp_of ri.rp.core h1))
  | succ n ih =>
    intro t w y hn h ri ni sy
    unfold f_hdt_Graph_replace.l1
    rcases sy with ⟨h1, h2⟩ | ⟨rfl, h1⟩
    · obtain ⟨d, hd, rfl, ht, hl⟩ := marked ri.rp.core h1 h2
      have hid := W64.id (ri.rp.core.ok d hd)
      have hit : i < t.L := Nat.lt_of_lt_of_le hi ri.rw.L
      have hLt := ri.L
      refine sel_t (by simp; omega) ?_
      rw [← ri.rw.G]
      refine (raise_ok h ri.ws ri.rp.core hd ht hl hit (by show t.L ≤ 17592186044000; omega)).mono ?_
      rintro _ w1 ⟨rfl, t1, h1, r1, L1, ra⟩
      have ri1 : RSt s0 x i t1 := ⟨ri.rw.trans r1.rw, by omega, ri.rp.raise ra hd ht hl, r1.ws ri.ws⟩
      have hi1 : i < t1.L := Nat.lt_of_lt_of_le hi ri1.rw.L
      have ni1 : NoIt t1 := fun k y => by rw [r1.it]; exact ni k y
      refine ⟨rfl, optB_some rfl ?_⟩
      rw [← ri1.rw.lb i hi]
      refine h1.ldF hi1 ((h1.someE ri1.ws hi1 (by rw [ri1.rw.vs]; exact hu)).mono ?_)
      rintro _ w2 ⟨y2, c2, rfl, sy2, h2⟩
      refine ⟨_, _, rfl, ?_⟩
      have hcnt : (t1.es.filter (cT i)).length < (t.es.filter (cT i)).length := by
        have e : t1.es = setE t.es { d with lv := i + 1 } := ra.es
        rw [e]
        exact setE_count ri.rp.core.ids hd rfl (by simp [cT, ht, hl]) (by simp [cT])
      have := ih t1 w2 y2 (by omega) h2 ri1 ni1 sy2
      rw [ri.rw.G, ri1.rw.lb i hi]
      exact this
    · exact sel_f (by decide) (hK w t h ri ni (upp_of ri.rp.core h1))
theorem lo_edge (c : Core s.ab) (hi : i < s.L) {b : Nat} {y id : Int} {bb : Bool} (hb : lk (s.ll i) y = some b) (hm : (id, bb) ∈ s.inn i y) : ∃ d ∈ s.es, d.id = id ∧ d.tr = false ∧ d.u ≠ d.v ∧ d.lv = i ∧ d.at y := by
  have : id ∈ s.ab.lo i y := by
    rw [HS.ab_lo hi]
    have e : s.lo i y = (s.inn i y).map Prod.fst := loF_some hb
    rw [e]
    exact List.mem_map_of_mem hm
  exact (c.lo i y id).1 this
theorem replace_l3 (hi : i < s0.L) (hL : s0.L < LB) {y : Int} {r m : Nat} {K4 : World → Prop} {Kr : Bool → World → Prop}
    (hK : ∀ w t, At O0 w0 w t → RSt s0 x i t → NoIt t → Upp i u t.ab → (t.es.filter (cL i)).length < m → K4 w) (hR : ∀ w t, At O0 w0 w t → REn s0 i t → Kr true w) :
    ∀ (n : Nat) (t : HS) (w : World) (left : List (Int × Bool)) (cur : Option (Int × Bool)) (b : Nat), left.length ≤ n → At O0 w0 w t → RSt s0 x i t → t.it i y = some (r, left, cur) → (∀ k z, ¬ (k = i ∧ z = y) → t.it k z = none) → lk (t.ll i) y = some b → Cn (t.ab.fe i) u y → Upp i u t.ab → (t.es.filter (cL i)).length ≤ m → (left = [] → (t.es.filter (cL i)).length < m) →
      f_hdt_Graph_replace.l3 (n + 1) ⟨s0.G, 0, none⟩ (i : Int) (some ⟨r, 0, none⟩) w K4 Kr := by
  have hL' : s0.L < 17592186044000 := hL
  intro n
  induction n with
  | zero =>
    intro t w left cur b hn h ri it1 it2 hb hc up cm cm0
    have hi1 : i < t.L := Nat.lt_of_lt_of_le hi ri.rw.L
    unfold f_hdt_Graph_replace.l3
    refine h.next hi1 hb it1 (fun e => ⟨false, [], rfl, sel_f rfl (hK w _ h.itNone ⟨ri.rw.trans (setIt_rw _), ri.L, ri.rp, (setIt_rw _).ws ri.ws⟩ (fun _ _ => rfl) up (cm0 e))⟩) (fun id bb w1 hx h1 hlt he => ?_)
    omega
  | succ n ih =>
    intro t w left cur b hn h ri it1 it2 hb hc up cm cm0
    have hi1 : i < t.L := Nat.lt_of_lt_of_le hi ri.rw.L
    have hLt := ri.L
    unfold f_hdt_Graph_replace.l3
    refine h.next hi1 hb it1 (fun e => ⟨false, [], rfl, sel_f rfl (hK w _ h.itNone ⟨ri.rw.trans (setIt_rw _), ri.L, ri.rp, (setIt_rw _).ws ri.ws⟩ (fun _ _ => rfl) up (cm0 e))⟩) (fun id bb w1 hx h1 hlt he => ⟨true, [.int .i64 id, .bool bb], rfl, sel_t rfl (he ⟨id, bb, rfl, ?_⟩)⟩)
    obtain ⟨d, hd, rfl, ht, hn', hl, hat⟩ := lo_edge ri.rp.core hi1 hb hx
    obtain ⟨t1, ht1⟩ : ∃ t1, t.setIt (upd2 t.it i y (some (r, delK left d.id, some (d.id, bb)))) = t1 := ⟨_, rfl⟩
    have rw1 : Rw t t1 := by rw [← ht1]; exact setIt_rw _
    have ab1 : t1.ab = t.ab := by rw [← ht1]; rfl
    have L1 : t1.L = t.L := by rw [← ht1]; rfl
    have es1 : t1.es = t.es := by rw [← ht1]; rfl
    have ll1 : t1.ll = t.ll := by rw [← ht1]; rfl
    have it1' : t1.it i y = some (r, delK left d.id, some (d.id, bb)) := by rw [← ht1]; exact upd2_same _ _ _ _
    have it2' : ∀ k z, ¬ (k = i ∧ z = y) → t1.it k z = none := fun k z hne => by rw [← ht1]; exact (upd2_ne _ _ hne).trans (it2 k z hne)
    rw [ht1] at h1
    have c1 : Core t1.ab := by rw [ab1]; exact ri.rp.core
    rw [← ri.rw.G, ← rw1.G]
    refine (joins_ok h1 (rw1.ws ri.ws) c1 (by rw [es1]; exact hd) ht hn' hl (by omega) (by show t1.L ≤ 17592186044000; omega) (fun k z r' l' c' e => ?_) (fun hj => ?_)).mono ?_
    · by_cases q : k = i ∧ z = y
      · obtain ⟨rfl, rfl⟩ := q
        refine ⟨rfl, fun _ => ⟨⟨b, by rw [ll1]; exact hb⟩, ?_⟩⟩
        rw [it1'] at e
        injection e with e; injection e with e1 e2; injection e2 with e2 e3
        exact ⟨bb, e3.symm⟩
      · rw [it2' k z q] at e; cases e
    · rw [ab1] at hj ⊢
      exact link_nc ri.rp.core hd ht hn' hl ri.rp.sp ri.rp.nc hj
    rintro _ w2 ⟨bv, t2, rfl, h2, r2, L2, tr2, hT, hF⟩
    refine ⟨bv, rfl, ?_⟩
    have rw02 : Rw s0 t2 := (ri.rw.trans rw1).trans r2
    have L02 : t2.L ≤ max s0.L (i + 2) := by omega
    cases bv with
    | true =>
      obtain ⟨ln, hj⟩ := hT rfl
      rw [ab1] at ln hj
      refine sel_t rfl (hR w2 _ h2.itNone ⟨rw02.trans (setIt_rw _), L02, fun _ _ => rfl, (setIt_rw _).ws (r2.ws (rw1.ws ri.ws)), ?_, ?_, fun z => ?_⟩)
      · exact ln.core ri.rp.core hd ht hn' hl (link_nc ri.rp.core hd ht hn' hl ri.rp.sp ri.rp.nc hj 0 (Nat.zero_le _))
      · exact (ln.sk ri.rp.core hd).trans ri.rp.sk
      · exact ln.sp ri.rp.core hd ht hn' hl ri.rp.sp hj z
    | false =>
      obtain ⟨ra, hj⟩ := hF rfl
      rw [ab1] at ra hj
      have cu : Cn (t.ab.fe i) u d.u ∧ Cn (t.ab.fe i) u d.v := by
        rcases hat with q | q
        · rw [← q] at hc; exact ⟨hc, hc.trans hj⟩
        · rw [← q] at hc; exact ⟨hc.trans hj.symm, hc⟩
      have hup : Cn (t.ab.fe (i + 1)) d.u d.v := (up_cn up cu.1).symm.trans (up_cn up cu.2)
      have ri2 : RSt s0 x i t2 := ⟨rw02, L02, ri.rp.up ra hd ht hn' hl hup, r2.ws (rw1.ws ri.ws)⟩
      have hcnt : (t2.es.filter (cL i)).length < (t.es.filter (cL i)).length := by
        have e : t2.es = setE t.es { d with lv := i + 1 } := ra.es
        rw [e]
        exact setE_count ri.rp.core.ids hd rfl (by simp [cL, ht, hl]) (by simp [cL])
      refine sel_f rfl ?_
      have := ih t2 w2 (delK left d.id) none b (by omega) h2 ri2 ((tr2.sm i y _ _ _ it1').1 ⟨rfl, hat⟩) (fun k z hne => tr2.n k z (it2' k z hne)) (tr2.has i y b (by omega) (by rw [ll1]; exact hb)) ((ra.fe i).cn.2 hc) (up.up ra) (by omega) (fun _ => by omega)
      rw [rw1.G, ri.rw.G]
      exact this
end
section
variable {w w' w0 : World} {O O' O0 : Ow} {s s' s0 : HS} {i : Nat} {v : Int} {x : E} {u : Int}
theorem lo_some (hi : i < s.L) {y : Int} (h : s.ab.lo i y ≠ []) : ∃ b, lk (s.ll i) y = some b ∧ s.inn i y ≠ [] := by
  rw [HS.ab_lo hi] at h
  cases hb : lk (s.ll i) y with
  | none => exact absurd (loF_none hb) h
  | some b =>
    refine ⟨b, rfl, fun e => h ?_⟩
    have e1 : s.lo i y = (s.inn i y).map Prod.fst := loF_some hb
    rw [e1, e]; rfl
theorem replace_l2 (hi : i < s0.L) (hL : s0.L < LB) (hu : u ∈ s0.vs) {K2 : World → Prop} {Kr : Bool → World → Prop}
    (hK : ∀ w t, At O0 w0 w t → RSt s0 x i t → NoIt t → (∀ v ∈ t.ab.vs, Cn (t.ab.fe i) u v → t.ab.lo i v = []) → K2 w) (hR : ∀ w t, At O0 w0 w t → REn s0 i t → ∀ _ : Go.Dn.Fr, Kr true w) :
    ∀ (m : Nat) (t : HS) (w : World) (y : Int), (t.es.filter (cL i)).length ≤ m → At O0 w0 w t → RSt s0 x i t → NoIt t → Upp i u t.ab → SomeS (cmpV t.vs (t.ab.fe i) u) (t.ab.kv i) y →
      f_hdt_Graph_replace.l2 (m + 1) ⟨s0.G, 0, none⟩ u (i : Int) (some ⟨s0.lb i, 0, none⟩) y w K2 Kr := by
  have hL' : s0.L < 17592186044000 := hL
  intro m
  induction m with
  | zero =>
    intro t w y hn h ri ni up sy
    have hi1 : i < t.L := Nat.lt_of_lt_of_le hi ri.rw.L
    unfold f_hdt_Graph_replace.l2
    rcases sy with ⟨h1, h2⟩ | ⟨rfl, h1⟩
    · exfalso
      obtain ⟨hy, hcy⟩ := cmpV_mem.1 h1
      have hlo := (ri.rp.core.kv i y hy).1 h2
      obtain ⟨z, hz⟩ := nil_mem.1 hlo
      obtain ⟨d, hd, _, ht, hne, hl, _⟩ := (ri.rp.core.lo i y z).1 hz
      have : d ∈ t.es.filter (cL i) := List.mem_filter.2 ⟨hd, by simp [cL, ht, hl]⟩
      rw [List.length_eq_zero_iff.1 (Nat.le_zero.1 hn)] at this
      cases this
    · refine sel_f (by decide) (hK w t h ri ni fun v hv hc => ?_)
      have h3 := h1 v (cmpV_mem.2 ⟨hv, hc⟩)
      apply Classical.byContradiction
      intro h4
      have := (ri.rp.core.kv i v hv).2 h4
      rw [h3] at this; cases this
  | succ m ih =>
    intro t w y hn h ri ni up sy
    have hi1 : i < t.L := Nat.lt_of_lt_of_le hi ri.rw.L
    unfold f_hdt_Graph_replace.l2
    rcases sy with ⟨h1, h2⟩ | ⟨rfl, h1⟩
    · obtain ⟨hy, hcy⟩ := cmpV_mem.1 h1
      have hlo := (ri.rp.core.kv i y hy).1 h2
      obtain ⟨b, hb, hne⟩ := lo_some hi1 hlo
      have hyW := W64.id (ri.ws.ok hy)
      refine sel_t (by simp; omega) (optB_some rfl ?_)
      rw [← ri.rw.lb i hi]
      refine h.ldL hi1 (h.lmLook hi1 hyW.1 ?_)
      rw [hb]
      refine ⟨some b, rfl, h.range hi1 hb fun w1 r h1 => ⟨_, rfl, (t.inn i y).length + 1, ?_⟩⟩
      refine replace_l3 (O0 := O0) (w0 := w0) (x := x) (u := u) (y := y) (r := r) (m := m + 1) hi hL ?_ (fun w t h re => hR w t h re) (t.inn i y).length (t.setIt (upd2 t.it i y (some (r, t.inn i y, none)))) w1 (t.inn i y) none b (Nat.le_refl _) h1 ⟨ri.rw.trans (setIt_rw _), ri.L, ri.rp, (setIt_rw _).ws ri.ws⟩ (upd2_same _ _ _ _) (fun k z hk => (upd2_ne _ _ hk).trans (ni k z)) hb hcy up hn (fun e => absurd e hne)
      intro w2 t2 h2 ri2 ni2 up2 hlt _
      have hi2 : i < t2.L := Nat.lt_of_lt_of_le hi ri2.rw.L
      have elb : t.lb i = t2.lb i := by rw [ri.rw.lb i hi, ri2.rw.lb i hi]
      rw [elb]
      refine optB_some rfl (h2.ldF hi2 ((h2.someV ri2.ws hi2 (by rw [ri2.rw.vs]; exact hu)).mono ?_))
      rintro _ w3 ⟨y2, c2, rfl, sy2, h3⟩
      refine ⟨_, _, rfl, ?_⟩
      rw [ri2.rw.lb i hi]
      exact ih t2 w3 y2 (by omega) h3 ri2 ni2 up2 sy2
    · refine sel_f (by decide) (hK w t h ri ni fun v hv hc => ?_)
      have h3 := h1 v (cmpV_mem.2 ⟨hv, hc⟩)
      apply Classical.byContradiction
      intro h4
      have := (ri.rp.core.kv i v hv).2 h4
      rw [h3] at this; cases this
def RQ (O0 : Ow) (w0 : World) (s0 : HS) (x : E) (i : Nat) (b : Bool) (w : World) : Prop := ∃ t, At O0 w0 w t ∧ if b = true then REn s0 i t else Rw s0 t ∧ t.L ≤ max s0.L (i + 2) ∧ NoIt t ∧ WS t ∧ Core t.ab ∧ t.ab.sk = s0.ab.sk ∧ Sp t.ab x i ∧ NC t.ab x i
theorem replace_j0 (h : At O0 w0 w s0) (ri : RSt s0 x i s0) (ni : NoIt s0) (hi : i < s0.L) (hL : s0.L < LB) (hux : u = x.u ∨ u = x.v) (hu : u ∈ s0.vs) {Kr : Bool → World → Prop} (hK : ∀ b w, RQ O0 w0 s0 x i b w → Kr b w) :
    f_hdt_Graph_replace.j0 ⟨s0.G, 0, none⟩ u (i : Int) (some ⟨s0.lb i, 0, none⟩) w Kr := by
  unfold f_hdt_Graph_replace.j0
  refine optB_some rfl (h.ldF hi ((h.someE ri.ws hi hu).mono ?_))
  rintro _ w1 ⟨y1, c1, rfl, sy1, h1⟩
  refine ⟨_, _, rfl, (s0.es.filter (cT i)).length + 1, ?_⟩
  refine replace_l1 (x := x) hi hL hu ?_ _ s0 w1 y1 (Nat.le_refl _) h1 ri ni sy1
  intro w2 t2 h2 ri2 ni2 up2 _
  have hi2 : i < t2.L := Nat.lt_of_lt_of_le hi ri2.rw.L
  rw [← ri2.rw.lb i hi]
  refine optB_some rfl (h2.ldF hi2 ((h2.someV ri2.ws hi2 (by rw [ri2.rw.vs]; exact hu)).mono ?_))
  rintro _ w3 ⟨y3, c3, rfl, sy3, h3⟩
  refine ⟨_, _, rfl, (t2.es.filter (cL i)).length + 1, ?_⟩
  rw [ri2.rw.lb i hi]
  refine replace_l2 (x := x) hi hL hu ?_ (fun w t ht re _ _ => hK true w ⟨t, ht, by rw [if_pos rfl]; exact re⟩) _ t2 w3 y3 (Nat.le_refl _) h3 ri2 ni2 up2 sy3
  intro w4 t4 h4 ri4 ni4 hno _
  refine hK false w4 ⟨t4, h4, ?_⟩
  rw [if_neg (by decide)]
  exact ⟨ri4.rw, ri4.L, ni4, ri4.ws, ri4.rp.core, ri4.rp.sk, sp_fail ri4.rp.core ri4.rp.sp hux hno, fun k hk => ri4.rp.nc k (by omega)⟩
theorem replace_ok (h : At O0 w0 w s0) (ws : WS s0) (c : Core s0.ab) (sp : Sp s0.ab x (i + 1)) (nc : NC s0.ab x (i + 1)) (ni : NoIt s0) (hi : i < s0.L) (hL : s0.L < LB) (hu : x.u ∈ s0.vs) (hv : x.v ∈ s0.vs) :
    Calls Tryz.prog 45 #[.pointer (some ⟨s0.G, 0, none⟩), .int .i64 x.u, .int .i64 x.v, .int .i64 (i : Int)] w fun e w' => ∃ b, e = .returned (.bool b) ∧ RQ O0 w0 s0 x i b w' := by
  have hL' : s0.L < 17592186044000 := hL
  have ri : RSt s0 x i s0 := ⟨.refl _, by omega, ⟨rfl, c, rfl, sp, nc⟩, ws⟩
  apply f_hdt_Graph_replace.ok
  unfold f_hdt_Graph_replace.wp
  refine (h.at_in hi (by omega)).mono ?_
  rintro _ _ ⟨rfl, rfl⟩
  refine ⟨_, rfl, optB_some rfl (h.ldF hi ((h.size ws hi hu).mono ?_))⟩
  rintro _ w1 ⟨x1, c1, rfl, h1⟩
  refine ⟨_, _, rfl, optB_some rfl (h1.ldF hi ((h1.size ws hi hv).mono ?_))⟩
  rintro _ w2 ⟨x2, c2, rfl, h2⟩
  refine ⟨_, _, rfl, ?_⟩
  by_cases q : x2 < x1
  · exact sel_t (decide_eq_true q) (replace_j0 h2 ri ni hi hL (.inr rfl) hv fun b w hq _ => ⟨b, rfl, hq⟩)
  · exact sel_f (decide_eq_false q) (replace_j0 h2 ri ni hi hL (.inl rfl) hu fun b w hq _ => ⟨b, rfl, hq⟩)
end
end Go.Proofs.YtbhhbnnmdekjiaaGreat.Rd
