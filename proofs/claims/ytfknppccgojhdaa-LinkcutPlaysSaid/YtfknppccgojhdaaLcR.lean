/- Link and Cut, walked. Conditions: none. -/
import Derived.Test.YtfknppccgojhdaaLcQ
namespace Go.Dn
open Go.RowKit
set_option linter.unusedVariables false
theorem deg_le : ∀ (es : List E) (v : Int), deg es v ≤ 2 * es.length
  | [], _ => by simp [deg]
  | e :: es, v => by
    have := deg_le es v
    simp only [deg, List.length_cons]
    split <;> split <;> omega
theorem mem_ins {x a : Int} {l : List Int} (h : x ∈ (if a ∈ l then l else a :: l)) : x = a ∨ x ∈ l := by
  split at h
  · exact .inr h
  · exact List.mem_cons.1 h
theorem SameC.refl {S : Nat → Prop} {par : Nat → Nat} (t : Tr S par) {a : Nat} (ha : S a) : SameC par a a := by
  obtain ⟨c, hc⟩ := t.up a ha
  exact ⟨c, c, hc, hc, rfl⟩
end Go.Dn
namespace Go.Proofs.Ytfknppccgojhdaa.Rd
open Go.Dn Go.RowKit
set_option linter.unusedVariables false
set_option maxRecDepth 100000
/-- a forest in memory amid a change -/
structure Md (w : World) (r : LC) (N : Nat → Nd) (own : Nat → E) (S : Nat → Prop) (par : Nat → Nat) (Fo : Fst) (kv ke kn : List Int) (fv fe fn : Int → Int) (A : Option Addr) (c : Nat) (sp : List Nat) : Prop where
  env : En own S r w N par Fo
  ov : OM Try.prog w TI r.mv kv fv
  oe : OM Try.prog w TI r.me ke fe
  on : OM Try.prog w TI r.mn kn fn
  spr : Spr w r A c sp
  nb : r.n ≤ 10000
  dv : r.mv ≠ r.R ∧ r.mv ≠ r.g ∧ r.mv ≠ r.me ∧ r.mv ≠ r.mn
  de : r.me ≠ r.R ∧ r.me ≠ r.g ∧ r.me ≠ r.mn
  dn : r.mn ≠ r.R ∧ r.mn ≠ r.g
  da : ∀ a, A = some a → a.block ≠ r.mv ∧ a.block ≠ r.me ∧ a.block ≠ r.mn
section
variable {w w' : World} {r r' : LC} {vs : List Int} {es : List E} {N N' : Nat → Nd} {own : Nat → E} {S : Nat → Prop} {par par' : Nat → Nat} {Fo Fo' : Fst} {vn en : Int → Nat} {nf : Int → Int} {nk : List Int} {A : Option Addr} {c : Nat} {sp sp' : List Nat} {i : Nat} {e : E} {kv ke kn : List Int} {fv fe fn : Int → Int}
theorem Rep'.md (h : Rep' w r vs es N own S par Fo vn en nf nk A c sp) : Md w r N own S par Fo vs (es.map E.id) nk (fun i => (vn i : Int)) (fun i => (en i : Int)) nf A c sp := ⟨h.env, h.ov, h.oe, h.on, h.spr, h.nb, h.dv, h.de, h.dn, h.da⟩
theorem MadeP.md (h : MadeP w w' r r' vs es own S par N Fo vn en nf nk A c sp' i e) : Md w' r' (stN N i (mkNd e)) (setO own i e) (fun y => S y ∨ y = i) (setP par i 0) (fun p => p = (.node i false .nil .nil, 0) ∨ Fo p) vs (es.map E.id) nk (fun i => (vn i : Int)) (fun i => (en i : Int)) nf A c sp' := ⟨h.env, h.ov, h.oe, h.on, h.spr, h.nb, h.dv, h.de, h.dn, h.da⟩
theorem Md.turned (h : Md w r N own S par Fo kv ke kn fv fe fn A c sp) (e : En own S r w' N' par' Fo') (k : Keeps (fun k => k = r.g) w w') : Md w' r N' own S par' Fo' kv ke kn fv fe fn A c sp :=
  ⟨e, h.ov.keeps k h.dv.2.1, h.oe.keeps k h.de.2.1, h.on.keeps k h.dn.2, h.spr.keeps k fun a ha => (h.spr.ap a ha).2, h.nb, h.dv, h.de, h.dn, h.da⟩
theorem Md.other (h : Md w r N own S par Fo kv ke kn fv fe fn A c sp) {Q : Nat → Prop} (k : Keeps Q w w') (hQ : ∀ k, Q k → ¬ Fp r A k) : Md w' r N own S par Fo kv ke kn fv fe fn A c sp := by
  have n : ∀ k, Fp r A k → ¬ Q k := fun k hk hq => hQ k hq hk
  exact ⟨h.env.keeps k (n _ (.inl rfl)) (n _ (.inr (.inl rfl))), h.ov.keeps k (n _ (.inr (.inr (.inl rfl)))), h.oe.keeps k (n _ (.inr (.inr (.inr (.inl rfl))))), h.on.keeps k (n _ (.inr (.inr (.inr (.inr (.inl rfl)))))), h.spr.keeps k fun a ha => n _ (.inr (.inr (.inr (.inr (.inr ⟨a, ha, rfl⟩))))), h.nb, h.dv, h.de, h.dn, h.da⟩
theorem Md.below (h : Md w r N own S par Fo kv ke kn fv fe fn A c sp) (hb : Below w.heap.size w w') : Md w' r N own S par Fo kv ke kn fv fe fn A c sp := h.other (Q := fun _ => False) (.of_below hb) (fun _ h => h.elim)
theorem Md.lt (h : Md w r N own S par Fo kv ke kn fv fe fn A c sp) : ∀ k, Fp r A k → k < w.heap.size := by
  rintro k (rfl | rfl | rfl | rfl | rfl | ⟨a, ha, rfl⟩)
  · exact h.env.lp.R_lt
  · exact h.env.lp.g_lt.2
  · exact h.ov.lt
  · exact h.oe.lt
  · exact h.on.lt
  · exact (h.spr.own.block a ha).2
theorem Md.cm (h : Md w r N own S par Fo kv ke kn fv fe fn A c sp) : w.cell? ((⟨r.R, 0, none⟩ : Addr).add 1) = some (.map (some r.mv)) ∧ w.cell? ((⟨r.R, 0, none⟩ : Addr).add 2) = some (.map (some r.me)) ∧ w.cell? ((⟨r.R, 0, none⟩ : Addr).add 3) = some (.map (some r.mn)) :=
  ⟨by rw [h.env.lp.cellR]; rfl, by rw [h.env.lp.cellR]; rfl, by rw [h.env.lp.cellR]; rfl⟩
theorem Md.onK (h : Md w r N own S par Fo kv ke kn fv fe fn A c sp) (k : Keeps (fun k => k = r.mn) w w') {kn' : List Int} {fn' : Int → Int} (o : OM Try.prog w' TI r.mn kn' fn') : Md w' r N own S par Fo kv ke kn' fv fe fn' A c sp :=
  ⟨h.env.keeps k (fun e => h.dn.1 e.symm) (fun e => h.dn.2 e.symm), h.ov.keeps k (fun e => h.dv.2.2.2 e), h.oe.keeps k (fun e => h.de.2.2 e), o, h.spr.keeps k fun a ha => (h.da a ha).2.2, h.nb, h.dv, h.de, h.dn, h.da⟩
theorem Md.oeK (h : Md w r N own S par Fo kv ke kn fv fe fn A c sp) (k : Keeps (fun k => k = r.me) w w') {ke' : List Int} {fe' : Int → Int} (o : OM Try.prog w' TI r.me ke' fe') : Md w' r N own S par Fo kv ke' kn fv fe' fn A c sp :=
  ⟨h.env.keeps k (fun e => h.de.1 e.symm) (fun e => h.de.2.1 e.symm), h.ov.keeps k (fun e => h.dv.2.2.1 e), o, h.on.keeps k (fun e => h.de.2.2 e.symm), h.spr.keeps k fun a ha => (h.da a ha).2.1, h.nb, h.dv, h.de, h.dn, h.da⟩
/-- a topmost node is hung on another tree's node -/
theorem up_step (h : En own S r w N par Fo) {a x : Nat} {R : ST} (hT : Fo (.node a false .nil R, 0)) (xS : S x) (hns : ¬ SameC par a x) {K : World → Prop}
    (hK : ∀ w' N' Fo', En own S r w' N' (setP par a x) Fo' → Keeps (fun k => k = r.g) w w' → (∀ y z, AdjS S (setP par a x) y z ↔ AdjS S par y z ∨ (y = a ∧ z = x) ∨ (y = x ∧ z = a)) → K w') :
    ldS w ⟨r.R, 0, none⟩ fun A n c => optB A fun a' => req (decide (0 ≤ (a : Int) ∧ (a : Int) < (n : Int))) <| stW w ((a'.add ((a : Int).toNat * 13)).add 2) (.int .i64 ((x : Nat) : Int)) K := by
  have aS := h.fo.inS hT a (by simp [ST.ids])
  have alt := h.rm.sl a aS
  refine lc_at (K := fun A => stW w ((A.add _).add 2) _ _) h.lp alt rfl ?_
  refine lc_st h.lp alt rfl 2 (by omega) _ (set_up _ _) fun w4 l4 k4 => ?_
  have t4 := (h.fo.ok _ _ hT)
  have aR : a ∉ R.ids := by have := t4.2.2.2; simp [ST.ids] at this; exact this.1
  have hok : OkS (stN N a { N a with up := x }) own (.node a false .nil R) x := by
    refine t4.1.reup t4.2.2.2 (fun _ => ?_) (fun y hy hne => ?_)
    · show stN _ _ _ a = _; rw [stN_same]; rfl
    · exact stN_ne _ _ hne
  refine hK w4 _ _ ⟨l4, ⟨h.rm.oo, h.rm.sm, fun z => ?_, h.rm.sl⟩, h.fo.hang hT xS hns hok (fun z hz => stN_ne _ _ hz), h.n0, h.nl⟩ k4 (adj_hang aS xS t4.2.2.1.1 (fun y hy => h.fo.nz hy))
  by_cases hz : z = a
  · subst hz; rw [stN_same]; exact h.rm.no z
  · rw [stN_ne _ _ hz]; exact h.rm.no z
end
/-- what Link answers; j: the two are joined -/
def linkC (vs : List Int) (es : List E) (e : E) (j : Bool) : Int := if badI e.id ∨ badI e.u ∨ badI e.v then 1 else if e.w < 0 ∨ 1099511627776 < e.w then 53 else if e.id ∈ es.map E.id then 50 else if ¬ (e.u ∈ vs ∧ e.v ∈ vs) then 51 else if j = true then 151 else 0
def linkE (vs : List Int) (es : List E) (e : E) (j : Bool) : List E := if linkC vs es e j = 0 then e :: es else es
def Jn (es : List E) (u v : Int) : Prop := ∃ p, Wk es u p v ∧ NB p
theorem linkC_zero {vs : List Int} {es : List E} {e : E} {j : Bool} (h : linkC vs es e j = 0) : ¬ badI e.id ∧ ¬ badI e.u ∧ ¬ badI e.v ∧ 0 ≤ e.w ∧ e.w ≤ 1099511627776 ∧ e.id ∉ es.map E.id ∧ e.u ∈ vs ∧ e.v ∈ vs ∧ j = false := by
  unfold linkC at h
  split at h
  · cases h
  split at h
  · cases h
  split at h
  · cases h
  split at h
  · cases h
  split at h
  · cases h
  rename_i h1 h2 h3 h4 h5
  simp only [not_or] at h1 h2
  have h4 := Classical.not_not.1 h4
  exact ⟨h1.1, h1.2.1, h1.2.2, by omega, by omega, h3, h4.1, h4.2, by simpa using h5⟩
theorem Link_ok {w : World} {F : Nat → Prop} {R : Nat} {vs : List Int} {es : List E} (h : Rep w F R vs es) {e : E} (hu : W64 e.u) (hv : W64 e.v) :
    Calls Try.prog 17 #[.pointer (some ⟨R, 0, none⟩), .agg (eC e)] w fun en w' => ∃ j : Bool, (e.u ∈ vs → e.v ∈ vs → (j = true ↔ Jn es e.u e.v)) ∧ en = .returned (.int .i64 (linkC vs es e j)) ∧ ∃ F', Rep w' F' R vs (linkE vs es e j) ∧ Upd F w w' F' := by
  have h0 := h
  apply f_linkcut_Forest_Link.ok
  unfold f_linkcut_Forest_Link.wp
  refine al_new fun w1 b1 e1 s1 hb1 g1 => ?_
  have hb1 : HB w1 b1 (eC e) 33 := hb1
  obtain ⟨r, N, own, S, par, Fo, vn, en, nf, nk, A, c, sp, rfl, h2, h3⟩ := h
  have h3 := h3.below g1
  have hd : Rep' w1.drew r vs es N own S par Fo vn en nf nk A c sp := h3.below (Below.refl _ _).drew
  have hbd : HB w1.drew b1 (eC e) 33 := hb1
  have nF : ¬ Fp r A b1 := fun hf => by have h1 := h0.lt b1 ((h2 _).2 hf); omega
  have same : ∀ {w' vs' es'}, Below w1.heap.size w1 w' → Rep' w' r vs' es' N own S par Fo vn en nf nk A c sp → ∃ F', Rep w' F' r.R vs' es' ∧ Upd F w w' F' := fun hb hr => ⟨F, ⟨_, _, _, _, _, _, _, _, _, _, _, _, _, rfl, h2, hr⟩, (Keeps.of_below g1).trans' (.of_below (S := F) hb) (fun _ _ h => h), fun k hk => .inl hk⟩
  have bd : Below w1.heap.size w1 w1.drew := (Below.refl _ _).drew
  -- a jn that is right whatever holds
  obtain ⟨jn, hjn⟩ : ∃ j : Bool, j = true ↔ Jn es e.u e.v := ⟨@decide (Jn es e.u e.v) (Classical.propDecidable _), by simp⟩
  refine drW_intro ⟨f_linkcut_Forest_Link.h1_ok .., fun a b => a = b, fun i x _ => (i = 3 → x = .map (some r.mv)) ∧ (i = 5 → x = .int .i64 e.u) ∧ (i = 6 → x = .int .i64 (vn e.u : Int)) ∧ (i = 10 → x = .map (some r.mv)) ∧ (i = 12 → x = .int .i64 e.v) ∧ (i = 13 → x = .int .i64 (vn e.v : Int)), fun _ => rfl, fun _ _ _ h k => h.trans k, fun _ _ _ _ _ _ h => h, ⟨?_, ?_, ?_, ?_, ?_, ?_, trivial⟩, ?_⟩
  · rintro _ w1 rfl
    exact ⟨_, hd.cm.1, rfl, by simp⟩
  · rintro _ w1 rfl
    exact hb_ldI hbd (j := 1) rfl ⟨rfl, by simp⟩
  · rintro _ w1 rfl me hme xe hxe
    rw [show me = some r.mv by have := hme.1 rfl; injection this, show xe = e.u by have := hxe.2.1 rfl; injection this]
    exact hd.ov.look MTi hu ⟨_, rfl, rfl, by simp⟩
  · rintro _ w1 rfl
    exact ⟨_, hd.cm.1, rfl, by simp⟩
  · rintro _ w1 rfl
    exact hb_ldI hbd (j := 2) rfl ⟨rfl, by simp⟩
  · rintro _ w1 rfl me hme xe hxe
    rw [show me = some r.mv by have := hme.2.2.2.1 rfl; injection this, show xe = e.v by have := hxe.2.2.2.2.1 rfl; injection this]
    exact hd.ov.look MTi hv ⟨_, rfl, rfl, by simp⟩
  rintro w2 rfl me3 _ x5 _ x6 h6 me10 _ x12 _ x13 h13
  have e6 : x6 = (vn e.u : Int) := by have := h6.2.2.1 rfl; injection this
  have e13 : x13 = (vn e.v : Int) := by have := h13.2.2.2.2.2 rfl; injection this
  subst e6; subst e13
  refine hb_ldI0 hbd rfl ?_
  refine (badId_ok _ _).mono ?_
  rintro e w2 ⟨⟨b, rfl, hb⟩, rfl⟩
  refine ⟨b, rfl, ?_⟩
  by_cases hbad1 : badI e.id
  · have ec : linkC vs es e jn = 1 := by unfold linkC; rw [if_pos (.inl hbad1)]
    exact sel_t (hb.2 hbad1) ⟨jn, fun _ _ => hjn, by rw [ec], same bd (by unfold linkE; rw [if_neg (by rw [ec]; decide)]; exact hd)⟩
  refine sel_f (Bool.eq_false_iff.2 fun hh => hbad1 (hb.1 hh)) (hb_ldI hbd (j := 1) rfl ?_)
  refine (badId_ok _ _).mono ?_
  rintro _ w2 ⟨⟨b, rfl, hb⟩, rfl⟩
  refine ⟨b, rfl, ?_⟩
  by_cases hbad2 : badI e.u
  · have ec : linkC vs es e jn = 1 := by unfold linkC; rw [if_pos (.inr (.inl hbad2))]
    exact sel_t (hb.2 hbad2) ⟨jn, fun _ _ => hjn, by rw [ec], same bd (by unfold linkE; rw [if_neg (by rw [ec]; decide)]; exact hd)⟩
  refine sel_f (Bool.eq_false_iff.2 fun hh => hbad2 (hb.1 hh)) (hb_ldI hbd (j := 2) rfl ?_)
  refine (badId_ok _ _).mono ?_
  rintro _ w2 ⟨⟨b, rfl, hb⟩, rfl⟩
  refine ⟨b, rfl, ?_⟩
  by_cases hbad3 : badI e.v
  · have ec : linkC vs es e jn = 1 := by unfold linkC; rw [if_pos (.inr (.inr hbad3))]
    exact sel_t (hb.2 hbad3) ⟨jn, fun _ _ => hjn, by rw [ec], same bd (by unfold linkE; rw [if_neg (by rw [ec]; decide)]; exact hd)⟩
  refine sel_f (Bool.eq_false_iff.2 fun hh => hbad3 (hb.1 hh)) (hb_ldI hbd (j := 3) rfl ?_)
  have nb3 : ¬ (badI e.id ∨ badI e.u ∨ badI e.v) := by simp [hbad1, hbad2, hbad3]
  by_cases hw1 : e.w < 0
  · have ec : linkC vs es e jn = 53 := by unfold linkC; rw [if_neg nb3, if_pos (.inl hw1)]
    exact sel_t (by simpa using hw1) ⟨jn, fun _ _ => hjn, by rw [ec], same bd (by unfold linkE; rw [if_neg (by rw [ec]; decide)]; exact hd)⟩
  refine sel_f (by simpa using hw1) (hb_ldI hbd (j := 3) rfl ?_)
  by_cases hw2 : 1099511627776 < e.w
  · have ec : linkC vs es e jn = 53 := by unfold linkC; rw [if_neg nb3, if_pos (.inr hw2)]
    exact sel_t (by simpa using hw2) ⟨jn, fun _ _ => hjn, by rw [ec], same bd (by unfold linkE; rw [if_neg (by rw [ec]; decide)]; exact hd)⟩
  refine sel_f (by simpa using hw2) (drW_intro ?_)
  have nw : ¬ (e.w < 0 ∨ 1099511627776 < e.w) := by simp [hw1, hw2]
  have hdd : Rep' w1.drew.drew r vs es N own S par Fo vn en nf nk A c sp := hd.below (Below.refl _ _).drew
  have hbdd : HB w1.drew.drew b1 (eC e) 33 := hb1
  have bdd : Below w1.heap.size w1 w1.drew.drew := bd.drew
  obtain ⟨wi, i1, i2⟩ := W64.id hbad1
  refine ⟨_, hdd.cm.2.1, hb_ldI0 hbdd rfl (hdd.oe.look MTi wi ⟨_, rfl, ?_⟩)⟩
  have pe := h3.gr.en_pos h3.tr.nz e.id
  by_cases hid : e.id ∈ es.map E.id
  · have ec : linkC vs es e jn = 50 := by unfold linkC; rw [if_neg nb3, if_neg nw, if_pos hid]
    obtain ⟨a, ha, ea⟩ := List.mem_map.1 hid
    have := pe.2 ⟨a, ha, ea⟩
    exact sel_t (by simp; omega) ⟨jn, fun _ _ => hjn, by rw [ec], same bdd (by unfold linkE; rw [if_neg (by rw [ec]; decide)]; exact hdd)⟩
  refine sel_f (by simp [h3.gr.ez _ hid]) ?_
  have pu := h3.gr.vn_pos h3.tr.nz e.u
  have pv := h3.gr.vn_pos h3.tr.nz e.v
  by_cases u0 : vn e.u = 0
  · have ec : linkC vs es e jn = 51 := by unfold linkC; rw [if_neg nb3, if_neg nw, if_neg hid, if_pos (fun hh => pu.2 hh.1 u0)]
    exact sel_t (by simp [u0]) ⟨jn, fun _ _ => hjn, by rw [ec], same bdd (by unfold linkE; rw [if_neg (by rw [ec]; decide)]; exact hdd)⟩
  refine sel_f (by simp; omega) ?_
  by_cases v0 : vn e.v = 0
  · have ec : linkC vs es e jn = 51 := by unfold linkC; rw [if_neg nb3, if_neg nw, if_neg hid, if_pos (fun hh => pv.2 hh.2 v0)]
    exact sel_t (by simp [v0]) ⟨jn, fun _ _ => hjn, by rw [ec], same bdd (by unfold linkE; rw [if_neg (by rw [ec]; decide)]; exact hdd)⟩
  refine sel_f (by simp; omega) ?_
  have hu' := pu.1 u0
  have hv' := pv.1 v0
  have uS := (h3.gr.vS _ hu').1
  have vS := (h3.gr.vS _ hv').1
  refine (joined_ok hdd.env uS vS).mono ?_
  rintro _ w2 ⟨⟨b, rfl, hb⟩, N1, F1, en1, k1⟩
  have r1 := hdd.turned en1 k1 (fun _ _ => Iff.rfl)
  have hjb : b = true ↔ Jn es e.u e.v := hb.trans (same_wk h3.gr h3.tr h3.adj hu' hv')
  have K1 : Keeps (Fp r A) w w2 := ((Keeps.of_below g1).trans (.of_below (by have := bdd; exact this))).trans (k1.mono fun k _ hk => .inr (.inl hk))
  have hbE : HB w2 b1 (eC e) 33 := hbdd.keeps k1 fun e => nF (.inr (.inl e))
  refine ⟨b, rfl, ?_⟩
  cases b with
  | true =>
    have ec : linkC vs es e true = 151 := by unfold linkC; rw [if_neg nb3, if_neg nw, if_neg hid, if_neg (fun h => h ⟨hu', hv'⟩), if_pos rfl]
    refine sel_t rfl ⟨true, fun _ _ => hjb, by rw [ec], F, ?_, K1.mono (fun k _ hk => (h2 k).2 hk), fun k hk => .inl hk⟩
    unfold linkE; rw [if_neg (by rw [ec]; decide)]
    exact ⟨_, _, _, _, _, _, _, _, _, _, _, _, _, rfl, h2, r1⟩
  | false =>
  have ec : linkC vs es e false = 0 := by unfold linkC; rw [if_neg nb3, if_neg nw, if_neg hid, if_neg (fun h => h ⟨hu', hv'⟩), if_neg (by decide)]
  have ns : ¬ SameC par (vn e.u) (vn e.v) := fun h => by have := hb.2 h; cases this
  have huv : e.u ≠ e.v := fun h => by rw [h] at ns; exact ns (SameC.refl h3.tr vS)
  refine sel_f rfl ?_
  unfold f_linkcut_Forest_Link.j0
  refine hb_ldI0 hbE rfl (hb_ldI hbE (j := 1) rfl (hb_ldI hbE (j := 2) rfl (hb_ldI hbE (j := 3) rfl ?_)))
  have hel := h3.gr.el h3.tr h3.adj
  have hvl := h3.gr.vl
  show Calls Try.prog _ #[_, .agg (eC e)] w2 _
  refine (make_ok (e := e) r1.env.lp (by have := r1.nb; omega) r1.env.n0 r1.spr).mono ?_
  rintro _ w3 ⟨r', sp', i, rfl, m⟩
  have iS : ¬ S i := by
    rcases m.it with ⟨e1, _⟩ | ⟨_, _, e1, _⟩
    · exact (h3.spd i (by rw [e1]; simp)).1
    · rw [e1]; exact fun hs => Nat.lt_irrefl _ (h3.env.rm.sl _ hs)
  have g3 := h3.gr.addE iS hid ⟨i1, i2, hu', hv', huv, by omega, by omega⟩
  have M := r1.made (by omega) m (.inr (by omega)) (g3.sm (by simp; omega))
  have MD := M.md
  refine ⟨_, rfl, drW_intro ?_⟩
  have MD := MD.below (Below.refl _ _).drew
  have nF' : ¬ Fp r' A b1 := fun hf => by
    rcases M.fr _ hf with h | h
    · exact nF h
    · have := hbE.lt; omega
  have hb3 : HB w3.drew b1 (eC e) 33 := hbE.keeps M.kp.drew nF
  rw [← M.R]
  have wI : W64 (i : Int) := W64.nat (by have := M.il; have := M.nb; omega)
  refine ⟨_, MD.cm.2.1, hb_ldI0 hb3 rfl (MD.oe.upd MTi wi wI (by simp; omega) fun w4 o4 k4 => ?_)⟩
  rw [if_neg hid] at o4
  have MD4 := MD.oeK k4 o4
  have hb4 := hb3.keeps k4 fun e => nF' (.inr (.inr (.inr (.inl e))))
  refine (root_ok MD4.env (.inl uS)).mono ?_
  rintro _ w5 ⟨rfl, par5, N5, F5, R5, p5⟩
  have MD5 := MD4.turned p5.en p5.kp
  have t5 : Tr (fun y => S y ∨ y = i) par5 := ⟨p5.en.fo.up, p5.en.fo.ps, fun y hy => p5.en.fo.nz hy⟩
  have a5 : ∀ y z, AdjS (fun y => S y ∨ y = i) par5 y z ↔ AdjS S par y z := fun y z => (p5.adj y z).trans ((M.adj y z).trans (h3.adj y z).symm)
  have uni : vn e.u ≠ i := fun h => iS (h ▸ uS)
  have vni : vn e.v ≠ i := fun h => iS (h ▸ vS)
  have ns5 : ¬ SameC par5 (vn e.u) i := fun h =>
    SameC.closed t5 (Q := fun y => y ≠ i) (fun y z hyz _ hz => iS (hz ▸ ((a5 y z).1 hyz).2.1)) (.inl uS) (.inr rfl) h uni rfl
  refine ⟨rfl, up_step p5.en p5.top (.inr rfl) ns5 fun w6 N6 F6 en6 k6 a6 => ?_⟩
  have MD6 := MD5.turned en6 k6
  refine (root_ok en6 (.inr rfl)).mono ?_
  rintro _ w7 ⟨rfl, par7, N7, F7, R7, p7⟩
  have MD7 := MD6.turned p7.en p7.kp
  have t7 : Tr (fun y => S y ∨ y = i) par7 := ⟨p7.en.fo.up, p7.en.fo.ps, fun y hy => p7.en.fo.nz hy⟩
  have a7 : ∀ y z, AdjS (fun y => S y ∨ y = i) par7 y z ↔ AdjS S par y z ∨ (y = vn e.u ∧ z = i) ∨ (y = i ∧ z = vn e.u) := fun y z => (p7.adj y z).trans ((a6 y z).trans (by rw [a5]))
  have ns7 : ¬ SameC par7 i (vn e.v) := fun h => by
    have := SameC.closed t7 (Q := fun y => y = i ∨ (S y ∧ SameC par (vn e.u) y)) (fun y z hyz hy => ?_) (.inr rfl) (.inl vS) h (.inl rfl)
    · exact this.elim vni fun hh => ns hh.2
    · rcases (a7 y z).1 hyz with h1 | ⟨h1, h2⟩ | ⟨h1, h2⟩
      · rcases hy with hy | hy
        · exact absurd (hy ▸ h1.1) iS
        · exact .inr ⟨h1.2.1, hy.2.trans (adj_same h3.tr h1)⟩
      · exact .inl h2
      · rw [h2]; exact .inr ⟨uS, SameC.refl h3.tr uS⟩
  refine ⟨rfl, up_step p7.en p7.top (.inl vS) ns7 fun w8 N8 F8 en8 k8 a8 => drW_intro ?_⟩
  have MD8 := (MD7.turned en8 k8).below (Below.refl _ _).drew
  have a8' : ∀ y z, AdjS (fun y => S y ∨ y = i) (setP par7 i (vn e.v)) y z ↔ Gn (e :: es) vn (setI en e.id i) y z := fun y z => by
    rw [a8, a7, h3.adj, gn_addE h3.gr hid]
    constructor
    · rintro ((h | ⟨h1, h2⟩ | ⟨h1, h2⟩) | ⟨h1, h2⟩ | ⟨h1, h2⟩)
      · exact .inl h
      · exact .inr (.inr ⟨h2, .inl h1⟩)
      · exact .inr (.inl ⟨h1, .inl h2⟩)
      · exact .inr (.inl ⟨h1, .inr h2⟩)
      · exact .inr (.inr ⟨h2, .inr h1⟩)
    · rintro (h | ⟨h1, h2 | h2⟩ | ⟨h1, h2 | h2⟩)
      · exact .inl (.inl h)
      · exact .inl (.inr (.inr ⟨h1, h2⟩))
      · exact .inr (.inl ⟨h1, h2⟩)
      · exact .inl (.inr (.inl ⟨h2, h1⟩))
      · exact .inr (.inr ⟨h2, h1⟩)
  have kg : Keeps (fun k => k = r'.g) w4 w8.drew := (((p5.kp.trans k6).trans p7.kp).trans k8).drew
  have hb8 : HB w8.drew b1 (eC e) 33 := hb4.keeps kg fun e => nF' (.inr (.inl e))
  have du := h3.nfd _ hu'
  have dv := h3.nfd _ hv'
  have dl := deg_le es e.u
  have dl2 := deg_le es e.v
  have dn := deg_nn es e.u
  have dn2 := deg_nn es e.v
  have nkl : nk.length ≤ vs.length := nodup_subI h3.on.nd h3.nkv
  refine ⟨_, MD8.cm.2.2, hb_ldI hb8 (j := 1) rfl (MD8.on.look MTi hu ⟨_, rfl, ?_⟩)⟩
  have w1' : IntKind.i64.wrap (nf e.u + 1) = nf e.u + 1 := w64_in (by omega)
  rw [w1']
  refine MD8.on.upd MTi hu (by unfold W64; omega) (by omega) fun w9 o9 k9 => drW_intro ?_
  have MD9 := (MD8.onK k9 o9).below (Below.refl _ _).drew
  have hb9 : HB w9.drew b1 (eC e) 33 := hb8.keeps k9.drew fun e => nF' (.inr (.inr (.inr (.inr (.inl e)))))
  refine ⟨_, MD9.cm.2.2, hb_ldI hb9 (j := 2) rfl (MD9.on.look MTi hv ⟨_, rfl, ?_⟩)⟩
  rw [if_neg (fun h : e.v = e.u => huv h.symm)]
  have w2' : IntKind.i64.wrap (nf e.v + 1) = nf e.v + 1 := w64_in (by omega)
  rw [w2']
  have hkv : ∀ x ∈ (if e.u ∈ nk then nk else e.u :: nk), x ∈ vs := fun x hx => by
    rcases mem_ins hx with rfl | hx
    · exact hu'
    · exact h3.nkv x hx
  refine MD9.on.upd MTi hv (by unfold W64; omega) (by have := nodup_subI MD9.on.nd hkv; omega) fun w10 o10 k10 => ?_
  have MDA := MD9.onK k10 o10
  intro _
  refine ⟨false, fun _ _ => hjb, by rw [ec], Fp r' A, ⟨r', _, _, _, _, _, vn, setI en e.id i, _, _, A, c, sp', rfl, fun _ => Iff.rfl, ⟨MDA.env, ?_, ?_, M.own0, MDA.ov, ?_, MDA.on, ?_, ?_, MDA.spr, M.spd, M.spn, ?_, MDA.nb, MDA.dv, MDA.de, MDA.dn, MDA.da⟩⟩, ?_, ?_⟩
  · unfold linkE; rw [if_pos ec]; exact g3
  · unfold linkE; rw [if_pos ec]; exact a8'
  · unfold linkE; rw [if_pos ec]; exact MDA.oe.cf fun j => by unfold setI; split <;> simp_all
  · intro y hy
    unfold linkE; rw [if_pos ec]
    have := h3.nfd y hy
    simp only [deg]
    by_cases y1 : y = e.v
    · have : ¬ e.u = y := fun h => huv (h.trans y1)
      rw [if_pos y1, if_neg this, if_pos y1.symm, ← y1, h3.nfd y hy]; omega
    · by_cases y2 : y = e.u
      · rw [if_neg y1, if_pos y2, if_pos y2.symm, if_neg (fun h => y1 h.symm), ← y2, h3.nfd y hy]; omega
      · rw [if_neg y1, if_neg y2, if_neg (fun h => y2 h.symm), if_neg (fun h => y1 h.symm), h3.nfd y hy]; omega
  · intro x hx
    rcases mem_ins hx with rfl | hx
    · exact hv'
    · exact hkv x hx
  · unfold linkE; rw [if_pos ec]
    have := M.cnt; simp; omega
  · have kE : Keeps (Fp r A) w2 w3.drew := M.kp.drew
    have K2 : Keeps (Fp r' A) w3.drew w10 := (((k4.mono fun k _ hk => .inr (.inr (.inr (.inl hk)))).trans (kg.mono fun k _ hk => .inr (.inl hk))).trans (k9.mono fun k _ hk => .inr (.inr (.inr (.inr (.inl hk)))))).drew.trans (k10.mono fun k _ hk => .inr (.inr (.inr (.inr (.inl hk)))))
    have hsz := K1.size
    refine ((K1.trans kE).trans' K2 fun k hk hf => ?_).mono fun k _ hk => (h2 k).2 hk
    rcases M.fr k hf with h | h
    · exact h
    · omega
  · intro k hk
    rcases M.fr k hk with h | h
    · exact .inl ((h2 k).2 h)
    · exact .inr (by have := K1.size; omega)
end Go.Proofs.Ytfknppccgojhdaa.Rd
