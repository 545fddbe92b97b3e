/- A forest of linkcut by its vertices and edges: what holds, and the calls that change nothing of it. Conditions: none. -/
import Derived.Test.YtfknppccgojhdaaLcM
namespace Go.Dn
open Go.RowKit
set_option linter.unusedVariables false
theorem nodup_subI : ∀ {l m : List Int}, l.Nodup → (∀ x ∈ l, x ∈ m) → l.length ≤ m.length
  | [], _, _, _ => by simp
  | a :: l, m, nd, h => by
    rw [List.nodup_cons] at nd
    have ha : a ∈ m := h a (by simp)
    have := nodup_subI (l := l) (m := m.erase a) nd.2 fun x hx => (List.mem_erase_of_ne (fun (e : x = a) => nd.1 (by rw [← e]; exact hx))).2 (h x (by simp [hx]))
    rw [List.length_erase_of_mem ha] at this
    have := List.length_pos_of_mem ha
    simp only [List.length_cons]; omega
theorem nodup_map_of {α : Type} {f : α → Int} {g : α → Nat} : ∀ {l : List α}, (l.map f).Nodup → (∀ a ∈ l, ∀ b ∈ l, g a = g b → f a = f b) → (l.map g).Nodup
  | [], _, _ => by simp
  | a :: l, h, k => by
    rw [List.map_cons, List.nodup_cons] at h ⊢
    refine ⟨fun hm => ?_, nodup_map_of h.2 fun x hx y hy => k x (by simp [hx]) y (by simp [hy])⟩
    obtain ⟨b, hb, e⟩ := List.mem_map.1 hm
    have := k a (by simp) b (by simp [hb]) e.symm
    exact h.1 (this ▸ List.mem_map_of_mem hb)
section
variable {vs : List Int} {es : List E} {vn en : Int → Nat} {own : Nat → E} {S : Nat → Prop} {par : Nat → Nat}
/-- no more edges than vertices -/
theorem Gr.el (g : Gr vs es vn en own S) (t : Tr S par) (ha : ∀ y z, AdjS S par y z ↔ Gn es vn en y z) : es.length ≤ vs.length := by
  let k : E → Nat := fun e => if par (en e.id) = vn e.u then vn e.v else vn e.u
  have hk : ∀ e ∈ es, par (k e) = en e.id ∧ k e ∈ vs.map vn := by
    intro e he
    have r := g.er e he
    have hne : vn e.u ≠ vn e.v := fun h => r.2.2.2.2.1 (g.vi _ r.2.2.1 _ r.2.2.2.1 h)
    have hu := ((ha _ _).2 (gn_ev (vn := vn) he (.inl rfl))).2.2
    have hv := ((ha _ _).2 (gn_ev (vn := vn) he (.inr rfl))).2.2
    show par (if _ then _ else _) = _ ∧ (if _ then _ else _) ∈ _
    by_cases h : par (en e.id) = vn e.u
    · rw [if_pos h]
      refine ⟨?_, List.mem_map_of_mem r.2.2.2.1⟩
      rcases hv with hv | hv
      · exact absurd (h.symm.trans hv) hne
      · exact hv
    · rw [if_neg h]
      refine ⟨?_, List.mem_map_of_mem r.2.2.1⟩
      rcases hu with hu | hu
      · exact absurd hu h
      · exact hu
  have nd : (es.map k).Nodup := nodup_map_of g.eid fun a hA b hB e => by
    have := (hk a hA).1.symm.trans ((congrArg par e).trans (hk b hB).1)
    rw [g.ei hA hB this]
  have := nodup_sub nd (m := vs.map vn) fun x hx => by
    obtain ⟨e, he, rfl⟩ := List.mem_map.1 hx
    exact (hk e he).2
  simpa using this
end
theorem kw_bound {own : Nat → E} : ∀ {l : List Nat}, (∀ x ∈ l, own x = zE ∨ 0 < (own x).id ∧ 0 ≤ (own x).w ∧ (own x).w ≤ 1099511627776) → 0 ≤ wOf own l ∧ wOf own l ≤ 1099511627776 * kOf own l ∧ kOf own l = ((l.filter fun x => decide (0 < (own x).id)).length : Int)
  | [], _ => by simp [wOf, kOf]
  | x :: l, h => by
    obtain ⟨h1, h2, h3⟩ := kw_bound (l := l) fun y hy => h y (by simp [hy])
    rcases h x (by simp) with e | ⟨e1, e2, e3⟩
    · simp only [wOf, kOf, k1, e, zE]
      have : ¬ (0 : Int) < 0 := by omega
      rw [if_neg this, List.filter_cons_of_neg (by simp [e, zE])]
      omega
    · simp only [wOf, kOf, k1, if_pos e1]
      rw [List.filter_cons_of_pos (by simpa using e1), List.length_cons]
      omega
/-- few edges: their sums are small -/
theorem sm_of {own : Nat → E} {S : Nat → Prop} {ids : List Int} (h1 : ∀ x, S x → own x = zE ∨ (own x).id ∈ ids ∧ 0 < (own x).id ∧ 0 ≤ (own x).w ∧ (own x).w ≤ 1099511627776) (h2 : ∀ x y, S x → S y → 0 < (own x).id → (own x).id = (own y).id → x = y) (h3 : ids.length ≤ 4096) : Sm own S := by
  intro l nd hS
  obtain ⟨k1, k2, k3⟩ := kw_bound (own := own) (l := l) fun x hx => (h1 x (hS x hx)).imp id fun h => h.2
  have nd2 : ((l.filter fun x => decide (0 < (own x).id)).map fun x => (own x).id).Nodup := by
    have : ∀ {l : List Nat}, l.Nodup → (∀ x ∈ l, S x ∧ 0 < (own x).id) → (l.map fun x => (own x).id).Nodup := by
      intro l
      induction l with
      | nil => intro _ _; simp
      | cons x l ih =>
        intro hn hm
        rw [List.nodup_cons] at hn
        rw [List.map_cons, List.nodup_cons]
        refine ⟨fun hx => ?_, ih hn.2 fun y hy => hm y (by simp [hy])⟩
        obtain ⟨y, hy, e⟩ := List.mem_map.1 hx
        have := h2 x y (hm x (by simp)).1 (hm y (by simp [hy])).1 (hm x (by simp)).2 e.symm
        exact hn.1 (this ▸ hy)
    exact this (nd.filter _) fun x hx => by
      rw [List.mem_filter] at hx
      exact ⟨hS x hx.1, by simpa using hx.2⟩
  have := nodup_subI nd2 (m := ids) fun i hi => by
    obtain ⟨x, hx, rfl⟩ := List.mem_map.1 hi
    rw [List.mem_filter] at hx
    rcases h1 x (hS x hx.1) with e | e
    · have h5 := hx.2; rw [e] at h5; simp [zE] at h5
    · exact e.1
  rw [List.length_map] at this
  unfold In53
  omega
def deg : List E → Int → Int
  | [], _ => 0
  | e :: es, v => (if e.u = v then 1 else 0) + (if e.v = v then 1 else 0) + deg es v
/-- what is told of a path -/
def sumW (p : List E) : Int := (p.map E.w).sum
structure MxP (p : List E) (e : E) : Prop where
  z : p = [] → e = zE
  s : p ≠ [] → e ∈ p ∧ ∀ a ∈ p, leE a e
end Go.Dn
namespace Go.Proofs.Ytfknppccgojhdaa.Rd
open Go.Dn Go.RowKit
set_option linter.unusedVariables false
set_option maxRecDepth 100000
abbrev TI : TypeId := 3
structure Rep' (w : World) (r : LC) (vs : List Int) (es : List E) (N : Nat → Nd) (own : Nat → E) (S : Nat → Prop) (par : Nat → Nat) (Fo : Fst) (vn en : Int → Nat) (nf : Int → Int) (nk : List Int) (A : Option Addr) (c : Nat) (sp : List Nat) : Prop where
  env : En own S r w N par Fo
  gr : Gr vs es vn en own S
  adj : ∀ y z, AdjS S par y z ↔ Gn es vn en y z
  own0 : own 0 = zE
  ov : OM Try.prog w TI r.mv vs (fun i => (vn i : Int))
  oe : OM Try.prog w TI r.me (es.map E.id) (fun i => (en i : Int))
  on : OM Try.prog w TI r.mn nk nf
  nfd : ∀ v ∈ vs, nf v = deg es v
  nkv : ∀ v ∈ nk, v ∈ vs
  spr : Spr w r A c sp
  spd : ∀ i ∈ sp, ¬ S i ∧ i ≠ 0
  spn : sp.Nodup
  cnt : r.n = 1 + vs.length + es.length + sp.length
  nb : r.n ≤ 10000
  dv : r.mv ≠ r.R ∧ r.mv ≠ r.g ∧ r.mv ≠ r.me ∧ r.mv ≠ r.mn
  de : r.me ≠ r.R ∧ r.me ≠ r.g ∧ r.me ≠ r.mn
  dn : r.mn ≠ r.R ∧ r.mn ≠ r.g
  da : ∀ a, A = some a → a.block ≠ r.mv ∧ a.block ≠ r.me ∧ a.block ≠ r.mn
def Fp (r : LC) (A : Option Addr) (k : Nat) : Prop := k = r.R ∨ k = r.g ∨ k = r.mv ∨ k = r.me ∨ k = r.mn ∨ ∃ a, A = some a ∧ a.block = k
/-- a forest with these vertices and edges; which blocks are its own -/
def Rep (w : World) (F : Nat → Prop) (R : Nat) (vs : List Int) (es : List E) : Prop := ∃ r N own S par Fo vn en nf nk A c sp, r.R = R ∧ (∀ k, F k ↔ Fp r A k) ∧ Rep' w r vs es N own S par Fo vn en nf nk A c sp
structure Upd (F : Nat → Prop) (w w' : World) (F' : Nat → Prop) : Prop where
  kp : Keeps F w w'
  fr : ∀ k, F' k → F k ∨ w.heap.size ≤ k
theorem Upd.trans {F F' F2 : Nat → Prop} {w w' w2 : World} (h : Upd F w w' F') (k : Upd F' w' w2 F2) : Upd F w w2 F2 :=
  ⟨h.kp.trans' k.kp fun i hi h1 => (h.fr i h1).resolve_right (by omega), fun i hi => (k.fr i hi).elim (fun h1 => h.fr i h1) fun h1 => .inr (Nat.le_trans h.kp.size h1)⟩
section
variable {w : World} {r : LC} {vs : List Int} {es : List E} {N : Nat → Nd} {own : Nat → E} {S : Nat → Prop} {par : Nat → Nat} {Fo : Fst} {vn en : Int → Nat} {nf : Int → Int} {nk : List Int} {A : Option Addr} {c : Nat} {sp : List Nat}
theorem Rep'.tr (h : Rep' w r vs es N own S par Fo vn en nf nk A c sp) : Tr S par := ⟨h.env.fo.up, h.env.fo.ps, fun y hy => h.env.fo.nz hy⟩
/-- the trees turned, all else the same -/
theorem Rep'.turned (h : Rep' w r vs es N own S par Fo vn en nf nk A c sp) {w' : World} {N' : Nat → Nd} {par' : Nat → Nat} {Fo' : Fst} (e : En own S r w' N' par' Fo') (k : Keeps (fun k => k = r.g) w w') (ha : ∀ y z, AdjS S par' y z ↔ AdjS S par y z) : Rep' w' r vs es N' own S par' Fo' vn en nf nk A c sp :=
  ⟨e, h.gr, fun y z => (ha y z).trans (h.adj y z), h.own0, h.ov.keeps k h.dv.2.1, h.oe.keeps k h.de.2.1, h.on.keeps k h.dn.2, h.nfd, h.nkv, ⟨h.spr.v, h.spr.own.keeps k fun a ha => (h.spr.ap a ha).2, h.spr.ap, h.spr.lt⟩, h.spd, h.spn, h.cnt, h.nb, h.dv, h.de, h.dn, h.da⟩
/-- other blocks changed -/
theorem Rep'.other (h : Rep' w r vs es N own S par Fo vn en nf nk A c sp) {w' : World} {Q : Nat → Prop} (k : Keeps Q w w') (hQ : ∀ k, Q k → ¬ Fp r A k) : Rep' w' r vs es N own S par Fo vn en nf nk A c sp := by
  have n : ∀ k, Fp r A k → ¬ Q k := fun k hk hq => hQ k hq hk
  exact ⟨⟨h.env.lp.keeps k (n _ (.inl rfl)) (n _ (.inr (.inl rfl))), h.env.rm, h.env.fo, h.env.n0, h.env.nl⟩, h.gr, h.adj, h.own0, h.ov.keeps k (n _ (.inr (.inr (.inl rfl)))), h.oe.keeps k (n _ (.inr (.inr (.inr (.inl rfl))))), h.on.keeps k (n _ (.inr (.inr (.inr (.inr (.inl rfl)))))), h.nfd, h.nkv,
    ⟨h.spr.v, h.spr.own.keeps k fun a ha => n _ (.inr (.inr (.inr (.inr (.inr ⟨a, ha, rfl⟩))))), h.spr.ap, h.spr.lt⟩, h.spd, h.spn, h.cnt, h.nb, h.dv, h.de, h.dn, h.da⟩
theorem Rep'.lt (h : Rep' w r vs es N own S par Fo vn en nf nk A c sp) : ∀ k, Fp r A k → k < w.heap.size := by
  rintro k (rfl | rfl | rfl | rfl | rfl | ⟨a, ha, rfl⟩)
  · exact h.env.lp.R_lt
  · exact h.env.lp.g_lt.2
  · exact h.ov.lt
  · exact h.oe.lt
  · exact h.on.lt
  · exact (h.spr.own.block a ha).2
theorem Rep'.below (h : Rep' w r vs es N own S par Fo vn en nf nk A c sp) {w' : World} (hb : Below w.heap.size w w') : Rep' w' r vs es N own S par Fo vn en nf nk A c sp := h.other (Q := fun _ => False) (.of_below hb) (fun _ h => h.elim)
theorem Rep'.cm (h : Rep' w r vs es N own S par Fo vn en nf nk A c sp) : w.cell? ((⟨r.R, 0, none⟩ : Addr).add 1) = some (.map (some r.mv)) ∧ w.cell? ((⟨r.R, 0, none⟩ : Addr).add 2) = some (.map (some r.me)) ∧ w.cell? ((⟨r.R, 0, none⟩ : Addr).add 3) = some (.map (some r.mn)) :=
  ⟨by rw [h.env.lp.cellR]; rfl, by rw [h.env.lp.cellR]; rfl, by rw [h.env.lp.cellR]; rfl⟩
end
theorem Rep.other {w w' : World} {F Q : Nat → Prop} {R : Nat} {vs : List Int} {es : List E} (h : Rep w F R vs es) (k : Keeps Q w w') (hQ : ∀ k, Q k → ¬ F k) : Rep w' F R vs es := by
  obtain ⟨r, N, own, S, par, Fo, vn, en, nf, nk, A, c, sp, h1, h2, h3⟩ := h
  exact ⟨r, N, own, S, par, Fo, vn, en, nf, nk, A, c, sp, h1, h2, h3.other k fun k hk hf => hQ k hk ((h2 k).2 hf)⟩
theorem Rep.below {w w' : World} {F : Nat → Prop} {R : Nat} {vs : List Int} {es : List E} (h : Rep w F R vs es) (hb : Below w.heap.size w w') : Rep w' F R vs es := h.other (Q := fun _ => False) (.of_below hb) (fun _ h => h.elim)
theorem Rep.lt {w : World} {F : Nat → Prop} {R : Nat} {vs : List Int} {es : List E} (h : Rep w F R vs es) : ∀ k, F k → k < w.heap.size := by
  obtain ⟨r, N, own, S, par, Fo, vn, en, nf, nk, A, c, sp, h1, h2, h3⟩ := h
  exact fun k hk => h3.lt k ((h2 k).1 hk)
def badI (i : Int) : Prop := i < 1 ∨ i > 2147483647
theorem badId_ok (i : Int) (w : World) : Calls Try.prog 31 #[.int .i64 i] w fun e w' => (∃ b, e = .returned (.bool b) ∧ (b = true ↔ badI i)) ∧ w' = w := by
  apply f_linkcut_badId.ok
  unfold f_linkcut_badId.wp
  unfold badI
  by_cases h : i < 1
  · exact sel_t (by simpa using h) ⟨⟨true, rfl, by simp [h]⟩, rfl⟩
  · exact sel_f (by simpa using h) ⟨⟨_, rfl, by simp [h]⟩, rfl⟩
theorem W64.nat {n : Nat} (h : n ≤ 1000000) : W64 (n : Int) := by unfold W64; omega
theorem Len_ok {w : World} {F : Nat → Prop} {R : Nat} {vs : List Int} {es : List E} (h : Rep w F R vs es) :
    Calls Try.prog 11 #[.pointer (some ⟨R, 0, none⟩)] w fun e w' => e = .returned (.tuple #[.int .i64 (vs.length : Int), .int .i64 (es.length : Int)]) ∧ Rep w' F R vs es ∧ Upd F w w' F := by
  have h0 := h
  obtain ⟨r, N, own, S, par, Fo, vn, en, nf, nk, A, c, sp, rfl, h2, h3⟩ := h
  apply f_linkcut_Forest_Len.ok
  unfold f_linkcut_Forest_Len.wp
  have hd : Rep' w.drew r vs es N own S par Fo vn en nf nk A c sp := h3.below (Below.refl _ _).drew
  refine drW_intro ⟨fun w' => w' = w.drew, rfl, _, fun w' e => by rw [e]; exact hd.cm.1, _, fun w' e => by rw [e]; exact hd.cm.2.1, ?_⟩
  refine hd.ov.len MTi ⟨_, rfl, rfl, hd.oe.len MTi ⟨_, rfl, ?_, ?_, ?_⟩⟩
  · simp
  · exact h0.below (Below.refl _ _).drew
  · exact ⟨(Keeps.refl _ _).drew, fun k hk => .inl hk⟩
theorem _root_.Go.Dn.Gr.en_pos {vs : List Int} {es : List E} {vn en : Int → Nat} {own : Nat → E} {S : Nat → Prop} (g : Gr vs es vn en own S) (hz : ∀ y, S y → y ≠ 0) (i : Int) : en i ≠ 0 ↔ ∃ e ∈ es, e.id = i := by
  constructor
  · intro h
    by_cases hm : i ∈ es.map E.id
    · obtain ⟨e, he, e2⟩ := List.mem_map.1 hm; exact ⟨e, he, e2⟩
    · exact absurd (g.ez i hm) h
  · rintro ⟨e, he, rfl⟩
    exact hz _ (g.eS e he).1
theorem _root_.Go.Dn.Gr.vn_pos {vs : List Int} {es : List E} {vn en : Int → Nat} {own : Nat → E} {S : Nat → Prop} (g : Gr vs es vn en own S) (hz : ∀ y, S y → y ≠ 0) (v : Int) : vn v ≠ 0 ↔ v ∈ vs := by
  constructor
  · intro h
    by_cases hm : v ∈ vs
    · exact hm
    · exact absurd (g.vz v hm) h
  · intro hv; exact hz _ (g.vS v hv).1
/-- the edge of an id, or the zero edge -/
def edgeE (es : List E) (i : Int) : E := (es.find? fun e => e.id == i).getD zE
def edgeB (es : List E) (i : Int) : Bool := es.any fun e => e.id == i
theorem edge_own {vs : List Int} {es : List E} {vn en : Int → Nat} {own : Nat → E} {S : Nat → Prop} (g : Gr vs es vn en own S) (hz : ∀ y, S y → y ≠ 0) (h0 : own 0 = zE) (i : Int) : own (en i) = edgeE es i ∧ (decide ((en i : Int) > 0)) = edgeB es i := by
  unfold edgeE edgeB
  by_cases hm : ∃ e ∈ es, e.id = i
  · have hne := (g.en_pos hz i).2 hm
    obtain ⟨e, he, rfl⟩ := hm
    have hf : es.find? (fun a => a.id == e.id) = some e := by
      cases hf : es.find? (fun a => a.id == e.id) with
      | none =>
        rw [List.find?_eq_none] at hf
        exact absurd (by simp) (hf e he)
      | some a =>
        have h1 := List.find?_some hf
        have h2 := List.mem_of_find?_eq_some hf
        rw [g.idi h2 he (by simpa using h1)]
    rw [hf, (g.eS e he).2]
    refine ⟨rfl, ?_⟩
    rw [show (es.any fun a => a.id == e.id) = true from List.any_eq_true.2 ⟨e, he, by simp⟩]
    simp; omega
  · have h1 : en i = 0 := Classical.byContradiction fun h => hm ((g.en_pos hz i).1 h)
    have hf : es.find? (fun a => a.id == i) = none := by
      rw [List.find?_eq_none]; intro a ha h2; exact hm ⟨a, ha, by simpa using h2⟩
    have hb : (es.any fun a => a.id == i) = false := by
      rw [List.any_eq_false]; intro a ha h2; exact hm ⟨a, ha, by simpa using h2⟩
    rw [h1, h0, hf, hb]
    exact ⟨rfl, by simp⟩
theorem Edge_ok {w : World} {F : Nat → Prop} {R : Nat} {vs : List Int} {es : List E} (h : Rep w F R vs es) {i : Int} (hi : W64 i) :
    Calls Try.prog 12 #[.pointer (some ⟨R, 0, none⟩), .int .i64 i] w fun e w' => e = .returned (.tuple #[.agg (eC (edgeE es i)), .bool (edgeB es i)]) ∧ Rep w' F R vs es ∧ Upd F w w' F := by
  have h0 := h
  obtain ⟨r, N, own, S, par, Fo, vn, en, nf, nk, A, c, sp, rfl, h2, h3⟩ := h
  apply f_linkcut_Forest_Edge.ok
  unfold f_linkcut_Forest_Edge.wp
  refine al_new fun w1 b1 e1 s1 hb1 g1 => ?_
  have hb1 : HB w1 b1 (eC zE) 33 := hb1
  have r1 := h3.below g1
  refine ⟨_, r1.cm.2.1, r1.oe.look MTi hi ⟨_, rfl, ?_⟩⟩
  have hlt : en i < r.n := by
    by_cases h0 : en i = 0
    · rw [h0]; exact h3.env.n0
    · obtain ⟨e, he, rfl⟩ := (h3.gr.en_pos h3.tr.nz i).1 h0
      exact h3.env.rm.sl _ (h3.gr.eS e he).1
  have ho : (N (en i)).o = edgeE es i := by rw [h3.env.rm.no]; exact (edge_own h3.gr h3.tr.nz h3.own0 i).1
  refine lc_at (K := fun a8 => ldI w1 ((a8.add _).add 4) .i64 _) r1.env.lp hlt rfl ?_
  rw [add_add _ 4 1, add_add _ 4 2, add_add _ 4 3]
  refine lc_ld r1.env.lp hlt rfl 4 (by omega) rfl (lc_ld r1.env.lp hlt rfl 5 (by omega) rfl (lc_ld r1.env.lp hlt rfl 6 (by omega) rfl (lc_ld r1.env.lp hlt rfl 7 (by omega) rfl ?_)))
  rw [ho]
  refine hb_st0 hb1 (by simp [eC]) fun w2 q2 k2 => hb_st q2 (j := 1) (by simp [eC]) fun w3 q3 k3 => hb_st q3 (j := 2) (by simp [eC]) fun w4 q4 k4 => hb_st q4 (j := 3) (by simp [eC]) fun w5 q5 k5 => ?_
  have q5 : HB w5 b1 (eC (edgeE es i)) 33 := q5
  have k := (k2.trans k3).trans (k4.trans k5)
  refine hb_ldI0 q5 rfl (hb_ldI q5 (j := 1) rfl (hb_ldI q5 (j := 2) rfl (hb_ldI q5 (j := 3) rfl ⟨?_, ?_, ?_⟩)))
  · rw [(edge_own h3.gr h3.tr.nz h3.own0 i).2]; rfl
  · exact (h0.below g1).other k fun j hj hf => by have := h0.lt j hf; omega
  · exact ⟨(Keeps.of_below g1).trans' k fun j hj e => by omega, fun k hk => .inl hk⟩
theorem Joined_ok {w : World} {F : Nat → Prop} {R : Nat} {vs : List Int} {es : List E} (h : Rep w F R vs es) {u v : Int} (hu : W64 u) (hv : W64 v) :
    Calls Try.prog 24 #[.pointer (some ⟨R, 0, none⟩), .int .i64 u, .int .i64 v] w fun e w' => (∃ b, e = .returned (.tuple #[.bool b, .int .i64 (if u ∈ vs ∧ v ∈ vs then 0 else 51)]) ∧ (b = true ↔ u ∈ vs ∧ v ∈ vs ∧ ∃ p, Wk es u p v ∧ NB p)) ∧ Rep w' F R vs es ∧ Upd F w w' F := by
  have h0 := h
  obtain ⟨r, N, own, S, par, Fo, vn, en, nf, nk, A, c, sp, rfl, h2, h3⟩ := h
  apply f_linkcut_Forest_Joined.ok
  unfold f_linkcut_Forest_Joined.wp
  have hd : Rep' w.drew r vs es N own S par Fo vn en nf nk A c sp := h3.below (Below.refl _ _).drew
  refine drW_intro ⟨f_linkcut_Forest_Joined.h1_ok .., fun a b => a = b, fun i x _ => (i = 3 → x = .map (some r.mv)) ∧ (i = 5 → x = .int .i64 (vn u : Int)) ∧ (i = 9 → x = .map (some r.mv)) ∧ (i = 11 → x = .int .i64 (vn v : Int)), fun _ => rfl, fun _ _ _ h k => h.trans k, fun _ _ _ _ _ _ h => h, ⟨?_, ?_, ?_, ?_, trivial⟩, ?_⟩
  · rintro _ w1 rfl
    exact ⟨_, hd.cm.1, rfl, by simp⟩
  · rintro _ w1 rfl me hme
    rw [show me = some r.mv by have := hme.1 rfl; injection this]
    exact hd.ov.look MTi hu ⟨_, rfl, rfl, by simp⟩
  · rintro _ w1 rfl
    exact ⟨_, hd.cm.1, rfl, by simp⟩
  · rintro _ w1 rfl me hme
    rw [show me = some r.mv by have := hme.2.2.1 rfl; injection this]
    exact hd.ov.look MTi hv ⟨_, rfl, rfl, by simp⟩
  · rintro w1 rfl me3 _ x5 h5 me9 _ x11 h11
    have e5 : x5 = (vn u : Int) := by have := h5.2.1 rfl; injection this
    have e11 : x11 = (vn v : Int) := by have := h11.2.2.2 rfl; injection this
    subst e5; subst e11
    have pu := h3.gr.vn_pos h3.tr.nz u
    have pv := h3.gr.vn_pos h3.tr.nz v
    by_cases u0 : vn u = 0
    · have hn : ¬ u ∈ vs := fun h => pu.2 h u0
      refine sel_t (by simp [u0]) ⟨⟨false, by rw [if_neg (fun h => hn h.1)], by simp [hn]⟩, h0.below (Below.refl _ _).drew, (Keeps.refl _ _).drew, fun k hk => .inl hk⟩
    refine sel_f (by simp; omega) ?_
    by_cases v0 : vn v = 0
    · have hn : ¬ v ∈ vs := fun h => pv.2 h v0
      refine sel_t (by simp [v0]) ⟨⟨false, by rw [if_neg (fun h => hn h.2)], by simp [hn]⟩, h0.below (Below.refl _ _).drew, (Keeps.refl _ _).drew, fun k hk => .inl hk⟩
    refine sel_f (by simp; omega) ?_
    have hu' := pu.1 u0
    have hv' := pv.1 v0
    refine (joined_ok hd.env (h3.gr.vS u hu').1 (h3.gr.vS v hv').1).mono ?_
    rintro e w2 ⟨⟨b, rfl, hb⟩, N', Fo', en2, k2⟩
    refine ⟨_, rfl, ⟨b, by rw [if_pos ⟨hu', hv'⟩], ?_⟩, ⟨r, N', own, S, par, Fo', vn, en, nf, nk, A, c, sp, rfl, h2, hd.turned en2 k2 (fun _ _ => Iff.rfl)⟩, (Keeps.refl _ _).drew.trans (k2.mono fun k _ hk => (h2 k).2 (.inr (.inl hk))), fun k hk => .inl hk⟩
    rw [hb, same_wk h3.gr h3.tr h3.adj hu' hv']
    simp [hu', hv']
end Go.Proofs.Ytfknppccgojhdaa.Rd
