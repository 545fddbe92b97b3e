/- The document's plain forest: Edge, AddV, DelV, Cut. Conditions: none. -/
import Derived.Test.YtkkobfajahmfaaaErW
namespace Go.Proofs.Ytkkobfajahmfaaa.Rd
open Go.Dn Go.RowKit
set_option linter.unusedVariables false
set_option maxRecDepth 100000
/-- the document's forest as a value -/
structure RS where
  A0 : Option Addr
  n0 : Nat
  c0 : Nat
  A1 : Option Addr
  n1 : Nat
  c1 : Nat
  A2 : Option Addr
  n2 : Nat
  c2 : Nat
  A3 : Option Addr
  n3 : Nat
  c3 : Nat
def rsC (s : RS) : Array Value := #[.slice s.A0 s.n0 s.c0, .slice s.A1 s.n1 s.c1, .slice s.A2 s.n2 s.c2, .slice s.A3 s.n3 s.c3]
def Rb (s : RS) (k : Nat) : Prop := Ob s.A0 k ∨ Ob s.A1 k ∨ Ob s.A2 k ∨ Ob s.A3 k
structure RF (w : World) (s : RS) (vr : List Int) (er : List E) (mv me : List Int) : Prop where
  v : RI w s.A0 vr
  nv : s.n0 = vr.length
  e : RE w s.A1 er
  ne : s.n1 = er.length
  n2 : s.n2 = mv.length
  n3 : s.n3 = me.length
  lt : ∀ k, Rb s k → k < w.heap.size
  vl : vr.length ≤ 2048
  el : er.length ≤ 4096
  m2 : RI w s.A2 mv
  m3 : RI w s.A3 me
  l2 : mv.length ≤ 4096
  l3 : me.length ≤ 4096
theorem RF.keeps {S : Nat → Prop} {w w' : World} {s : RS} {vr : List Int} {er : List E} {mv me : List Int} (h : RF w s vr er mv me) (k : Keeps S w w') (hS : ∀ b, Rb s b → ¬ S b) : RF w' s vr er mv me :=
  ⟨h.v.keeps k fun a ha => hS _ (.inl ⟨a, ha, rfl⟩), h.nv, h.e.keeps k fun a ha => hS _ (.inr (.inl ⟨a, ha, rfl⟩)), h.ne, h.n2, h.n3, fun b hb => Nat.lt_of_lt_of_le (h.lt b hb) k.size, h.vl, h.el, h.m2.keeps k fun a ha => hS _ (.inr (.inr (.inl ⟨a, ha, rfl⟩))), h.m3.keeps k fun a ha => hS _ (.inr (.inr (.inr ⟨a, ha, rfl⟩))), h.l2, h.l3⟩
theorem RF.belw {w w' : World} {s : RS} {vr : List Int} {er : List E} {mv me : List Int} (h : RF w s vr er mv me) (k : Below w.heap.size w w') : RF w' s vr er mv me := h.keeps (S := fun _ => False) (.of_below k) fun _ _ => id
def s0 : RS := ⟨none, 0, 0, none, 0, 0, none, 0, 0, none, 0, 0⟩
theorem RF.zero (w : World) : RF w s0 [] [] [] [] where
  v := fun i h => absurd h (Nat.not_lt_zero _)
  nv := rfl
  e := fun i h => absurd h (Nat.not_lt_zero _)
  ne := rfl
  n2 := rfl
  n3 := rfl
  lt := fun k hk => by
    rcases hk with ⟨_, h, _⟩ | ⟨_, h, _⟩ | ⟨_, h, _⟩ | ⟨_, h, _⟩ <;> cases h
  vl := by simp
  el := by simp
  m2 := fun i h => absurd h (Nat.not_lt_zero _)
  m3 := fun i h => absurd h (Nat.not_lt_zero _)
  l2 := by simp
  l3 := by simp
theorem HB.belK {w0 w w' : World} {b : Nat} (hb : Below w0.heap.size w0 w) (k : Keeps (fun k => k = b) w w') (h : w0.heap.size ≤ b) : Below w0.heap.size w0 w' := hb.trans (k.below hb.size fun i hi e => by omega)
/-- four slices set down and taken up -/
theorem ret4 {w : World} {b : Nat} {cs : Array Value} {t : TypeId} (h : HB w b cs t) (hc : cs.size = 4) (s : RS) {K : Option Addr → Nat → Nat → Option Addr → Nat → Nat → Option Addr → Nat → Nat → Option Addr → Nat → Nat → World → Prop} (hk : ∀ w', HB w' b (rsC s) t → Keeps (fun k => k = b) w w' → K s.A0 s.n0 s.c0 s.A1 s.n1 s.c1 s.A2 s.n2 s.c2 s.A3 s.n3 s.c3 w') :
    stW w (⟨b, 0, none⟩ : Addr) (.slice s.A0 s.n0 s.c0) fun w1 => stW w1 ((⟨b, 0, none⟩ : Addr).add 1) (.slice s.A1 s.n1 s.c1) fun w2 => stW w2 ((⟨b, 0, none⟩ : Addr).add 2) (.slice s.A2 s.n2 s.c2) fun w3 => stW w3 ((⟨b, 0, none⟩ : Addr).add 3) (.slice s.A3 s.n3 s.c3) fun w4 =>
      ldS w4 (⟨b, 0, none⟩ : Addr) fun A0 n0 c0 => ldS w4 ((⟨b, 0, none⟩ : Addr).add 1) fun A1 n1 c1 => ldS w4 ((⟨b, 0, none⟩ : Addr).add 2) fun A2 n2 c2 => ldS w4 ((⟨b, 0, none⟩ : Addr).add 3) fun A3 n3 c3 => K A0 n0 c0 A1 n1 c1 A2 n2 c2 A3 n3 c3 w4 := by
  refine hb_st0 h (by omega) fun w1 h1 k1 => hb_st (j := 1) h1 (by simp; omega) fun w2 h2 k2 => hb_st (j := 2) h2 (by simp; omega) fun w3 h3 k3 => hb_st (j := 3) h3 (by simp; omega) fun w4 h4 k4 => ?_
  have e : (((cs.setIfInBounds 0 (.slice s.A0 s.n0 s.c0)).setIfInBounds 1 (.slice s.A1 s.n1 s.c1)).setIfInBounds 2 (.slice s.A2 s.n2 s.c2)).setIfInBounds 3 (.slice s.A3 s.n3 s.c3) = rsC s := by
    obtain ⟨l⟩ := cs
    match l, hc with
    | [_, _, _, _], _ => rfl
  rw [e] at h4
  exact hb_ldS0 h4 rfl (hb_ldS (j := 1) h4 rfl (hb_ldS (j := 2) h4 rfl (hb_ldS (j := 3) h4 rfl (hk w4 h4 ((k1.trans k2).trans (k3.trans k4))))))
theorem put4 {w : World} {b : Nat} {cs : Array Value} {t : TypeId} (h : HB w b cs t) (hc : cs.size = 4) (s : RS) {K : World → Prop} (hk : ∀ w', HB w' b (rsC s) t → Keeps (fun k => k = b) w w' → K w') :
    stW w (⟨b, 0, none⟩ : Addr) (.slice s.A0 s.n0 s.c0) fun w1 => stW w1 ((⟨b, 0, none⟩ : Addr).add 1) (.slice s.A1 s.n1 s.c1) fun w2 => stW w2 ((⟨b, 0, none⟩ : Addr).add 2) (.slice s.A2 s.n2 s.c2) fun w3 => stW w3 ((⟨b, 0, none⟩ : Addr).add 3) (.slice s.A3 s.n3 s.c3) K := by
  refine hb_st0 h (by omega) fun w1 h1 k1 => hb_st (j := 1) h1 (by simp; omega) fun w2 h2 k2 => hb_st (j := 2) h2 (by simp; omega) fun w3 h3 k3 => hb_st (j := 3) h3 (by simp; omega) fun w4 h4 k4 => ?_
  have e : (((cs.setIfInBounds 0 (.slice s.A0 s.n0 s.c0)).setIfInBounds 1 (.slice s.A1 s.n1 s.c1)).setIfInBounds 2 (.slice s.A2 s.n2 s.c2)).setIfInBounds 3 (.slice s.A3 s.n3 s.c3) = rsC s := by
    obtain ⟨l⟩ := cs
    match l, hc with
    | [_, _, _, _], _ => rfl
  rw [e] at h4
  exact hk w4 h4 ((k1.trans k2).trans (k3.trans k4))
theorem get4 {w : World} {b : Nat} {t : TypeId} {s : RS} (h : HB w b (rsC s) t) {K : Option Addr → Nat → Nat → Option Addr → Nat → Nat → Option Addr → Nat → Nat → Option Addr → Nat → Nat → Prop} (hk : K s.A0 s.n0 s.c0 s.A1 s.n1 s.c1 s.A2 s.n2 s.c2 s.A3 s.n3 s.c3) :
      ldS w (⟨b, 0, none⟩ : Addr) fun A0 n0 c0 => ldS w ((⟨b, 0, none⟩ : Addr).add 1) fun A1 n1 c1 => ldS w ((⟨b, 0, none⟩ : Addr).add 2) fun A2 n2 c2 => ldS w ((⟨b, 0, none⟩ : Addr).add 3) fun A3 n3 c3 => K A0 n0 c0 A1 n1 c1 A2 n2 c2 A3 n3 c3 :=
  hb_ldS0 h rfl (hb_ldS (j := 1) h rfl (hb_ldS (j := 2) h rfl (hb_ldS (j := 3) h rfl hk)))
/-- four numbers of an edge set down -/
theorem putE {w : World} {b : Nat} {cs : Array Value} {t : TypeId} (h : HB w b cs t) (hc : cs.size = 4) (e : E) {K : World → Prop} (hk : ∀ w', HB w' b (eC e) t → Keeps (fun k => k = b) w w' → K w') :
    stW w (⟨b, 0, none⟩ : Addr) (.int .i64 e.id) fun w1 => stW w1 ((⟨b, 0, none⟩ : Addr).add 1) (.int .i64 e.u) fun w2 => stW w2 ((⟨b, 0, none⟩ : Addr).add 2) (.int .i64 e.v) fun w3 => stW w3 ((⟨b, 0, none⟩ : Addr).add 3) (.int .i64 e.w) K := by
  refine hb_st0 h (by omega) fun w1 h1 k1 => hb_st (j := 1) h1 (by simp; omega) fun w2 h2 k2 => hb_st (j := 2) h2 (by simp; omega) fun w3 h3 k3 => hb_st (j := 3) h3 (by simp; omega) fun w4 h4 k4 => ?_
  have e : (((cs.setIfInBounds 0 (.int .i64 e.id)).setIfInBounds 1 (.int .i64 e.u)).setIfInBounds 2 (.int .i64 e.v)).setIfInBounds 3 (.int .i64 e.w) = eC e := by
    obtain ⟨l⟩ := cs
    match l, hc with
    | [_, _, _, _], _ => rfl
  rw [e] at h4
  exact hk w4 h4 ((k1.trans k2).trans (k3.trans k4))
theorem getE {w : World} {b : Nat} {t : TypeId} {e : E} (h : HB w b (eC e) t) {K : Int → Int → Int → Int → Prop} (hk : K e.id e.u e.v e.w) :
    ldI w (⟨b, 0, none⟩ : Addr) .i64 fun x0 => ldI w ((⟨b, 0, none⟩ : Addr).add 1) .i64 fun x1 => ldI w ((⟨b, 0, none⟩ : Addr).add 2) .i64 fun x2 => ldI w ((⟨b, 0, none⟩ : Addr).add 3) .i64 fun x3 => K x0 x1 x2 x3 :=
  hb_ldI0 h rfl (hb_ldI h (j := 1) rfl (hb_ldI h (j := 2) rfl (hb_ldI h (j := 3) rfl hk)))
theorem rowE {w : World} {a : Addr} {i : Nat} {e : E} (h : REd w a i e) {K : Int → Int → Int → Int → Prop} (hk : K e.id e.u e.v e.w) :
    ldI w (a.add ((i : Int).toNat * 4)) .i64 fun x0 => ldI w ((a.add ((i : Int).toNat * 4)).add 1) .i64 fun x1 => ldI w ((a.add ((i : Int).toNat * 4)).add 2) .i64 fun x2 => ldI w ((a.add ((i : Int).toNat * 4)).add 3) .i64 fun x3 => K x0 x1 x2 x3 := by
  rw [Int.toNat_natCast]
  exact ldI_intro h.c0 (ldI_intro h.c1 (ldI_intro h.c2 (ldI_intro h.c3 hk)))
/-! ### Edge -/
theorem edgeE_cons (e : E) (es : List E) (i : Int) : edgeE (e :: es) i = (if e.id = i then e else edgeE es i) ∧ edgeB (e :: es) i = (if e.id = i then true else edgeB es i) := by
  unfold edgeE edgeB
  by_cases h : e.id = i <;> simp [h, List.find?_cons]
theorem REdge_l0 {w : World} {A : Option Addr} {l : List E} {n c : Nat} (r : RE w A l) (hn : n = l.length) (hl : l.length ≤ 100000) {x : Int} {b4 : Nat} {v0 v2 : Value} {b2 : Nat} {t2 t4 : TypeId} (h2 : HB w b2 #[v0, .slice A n c, v2] t2) (h4 : HB w b4 (eC zE) t4) {K0 : World → Prop} {Kr : Bool → World → Prop}
    (h0 : edgeB l x = false → K0 w) (h1 : edgeB l x = true → ∀ w', HB w' b4 (eC (edgeE l x)) t4 → Keeps (fun k => k = b4) w w' → Kr true w') : ∀ (m i : Nat), l.length - i = m → i ≤ l.length → (edgeB l x = edgeB (l.drop i) x ∧ edgeE l x = edgeE (l.drop i) x) →
      f_ref05_Edge.l0 (m + 1) x (⟨b2, 0, none⟩ : Addr) (⟨b4, 0, none⟩ : Addr) (i : Int) w K0 Kr := by
  subst hn
  intro m
  induction m with
  | zero =>
    intro i hm hi ht
    have : i = l.length := by omega
    subst this
    unfold f_ref05_Edge.l0
    refine hb_ldS h2 (j := 1) rfl (sel_f (by simp) (h0 ?_))
    rw [ht.1, List.drop_length]; rfl
  | succ m ih =>
    intro i hm hi ht
    have hlt : i < l.length := by omega
    obtain ⟨a, rfl, q⟩ := r i hlt
    unfold f_ref05_Edge.l0
    rw [List.drop_eq_getElem_cons hlt] at ht
    obtain ⟨k1, k2⟩ := edgeE_cons l[i] (l.drop (i + 1)) x
    rw [k1, k2] at ht
    refine hb_ldS h2 (j := 1) rfl (sel_t (by simpa using hlt) (hb_ldS h2 (j := 1) rfl (optB_some rfl (req_intro (by simp; omega) (ldI_intro (by rw [Int.toNat_natCast]; exact q.c0) ?_)))))
    by_cases e : l[i].id = x
    · rw [if_pos e, if_pos e] at ht
      refine sel_t (by simp [e]) (hb_ldS h2 (j := 1) rfl (optB_some rfl (req_intro (by simp; omega) (rowE q (putE h4 rfl l[i] fun w' h' k' => ?_)))))
      exact h1 ht.1 w' (by rw [ht.2]; exact h') k'
    · rw [if_neg e, if_neg e] at ht
      refine sel_f (by simp [e]) ?_
      rw [w64_in (by omega), show (i : Int) + 1 = ((i + 1 : Nat) : Int) by omega]
      exact ih (i + 1) (by omega) (by omega) ht
theorem edgeE_none {es : List E} {i : Int} (h : edgeB es i = false) : edgeE es i = zE := by
  unfold edgeB at h
  unfold edgeE
  rw [List.find?_eq_none.2 fun a ha h2 => by rw [List.any_eq_false] at h; exact h a ha h2]; rfl
theorem REdge5_ok {w : World} {A : Option Addr} {l : List E} {n c : Nat} (r : RE w A l) (hn : n = l.length) (hl : l.length ≤ 100000) (x : Int) :
    Calls Try.prog 50 #[.agg #[.slice none 0 0, .slice A n c, .slice none 0 0], .int .i64 x] w fun e w' => e = .returned (.tuple #[.agg (eC (edgeE l x)), .bool (edgeB l x)]) ∧ Below w.heap.size w w' := by
  apply f_ref05_Edge.ok
  unfold f_ref05_Edge.wp
  refine al_new fun w1 b1 e1 s1 h1 g1 => al_new fun w2 b2 e2 s2 h2 g2 => ?_
  have h1' := h1.below g2
  have hb := g1.trans (g2.mono (by omega))
  have h2 : HB w2 b2 (eC zE) 50 := h2
  refine ⟨l.length + 1, REdge_l0 (r.below hb) hn hl h1' h2 (fun h0 => ?_) (fun h0 w3 h3 k3 => ?_) l.length 0 (by omega) (by omega) (by simp)⟩
  · intro _
    refine putE h2 rfl zE fun w3 h3 k3 => getE h3 ?_
    refine ⟨?_, HB.belK hb k3 (by omega)⟩
    rw [edgeE_none h0, h0]; rfl
  · intro _
    refine getE h3 ⟨?_, HB.belK hb k3 (by omega)⟩
    rw [h0]; rfl
theorem REdge_ok {w : World} {s : RS} {vr : List Int} {er : List E} {mv me : List Int} (h : RF w s vr er mv me) (x : Int) :
    Calls Try.prog 27 #[.agg (rsC s), .int .i64 x] w fun e w' => e = .returned (.tuple #[.agg (eC (edgeE er x)), .bool (edgeB er x)]) ∧ Below w.heap.size w w' := by
  apply f_ref16_Edge.ok
  unfold f_ref16_Edge.wp
  refine al_new fun w1 b1 e1 s1 h1 g1 => al_new fun w2 b2 e2 s2 h2 g2 => ?_
  have hb := g1.trans (g2.mono (by omega))
  have h1 : HB w2 b1 (rsC s) 43 := h1.below g2
  have h2 : HB w2 b2 (eC zE) 50 := h2
  refine hb_ldS h1 (j := 1) rfl ((REdge5_ok (h.belw hb).e h.ne (by have := h.el; omega) x).mono ?_)
  rintro _ w3 ⟨rfl, g3⟩
  refine ⟨_, _, _, _, _, rfl, ?_⟩
  have hb3 := hb.trans (g3.mono hb.size)
  refine putE (h2.below g3) rfl (edgeE er x) fun w4 h4 k4 => getE h4 ⟨rfl, HB.belK hb3 k4 (by omega)⟩
/-! ### AddV -/
structure Sb (w : World) (s s' : RS) : Prop where
  b : ∀ k, Rb s' k → Rb s k ∨ w.heap.size ≤ k
theorem Sb.refl (w : World) (s : RS) : Sb w s s := ⟨fun k h => .inl h⟩
def addVr (vr : List Int) (v : Int) : List Int := if addVC vr v = 0 then wiI vr v else vr
theorem RAddV_ok {w : World} {s : RS} {vr : List Int} {er : List E} {mv me : List Int} (h : RF w s vr er mv me) (v : Int) :
    Calls Try.prog 20 #[.agg (rsC s), .int .i64 v] w fun e w' => ∃ s', e = .returned (.tuple #[.agg (rsC s'), .int .i64 (addVC vr v)]) ∧ RF w' s' (addVr vr v) er mv me ∧ Sb w s s' ∧ Below w.heap.size w w' := by
  apply f_ref16_AddV.ok
  unfold f_ref16_AddV.wp
  refine al_new fun w1 b1 e1 s1 h1 g1 => al_new fun w2 b2 e2 s2 h2 g2 => ?_
  have hb := g1.trans (g2.mono (by omega))
  have h1 : HB w2 b1 (rsC s) 43 := h1.below g2
  have hf := h.belw hb
  refine (RBad_ok v w2).mono ?_
  rintro _ w3 ⟨⟨b, rfl, hbad⟩, rfl⟩
  refine ⟨b, rfl, ?_⟩
  have same : ∀ {w'}, addVC vr v ≠ 0 → Keeps (fun k => k = b2) w3 w' → ∃ s', Ending.returned (.tuple #[.agg (rsC s), .int .i64 (addVC vr v)]) = .returned (.tuple #[.agg (rsC s'), .int .i64 (addVC vr v)]) ∧ RF w' s' (addVr vr v) er mv me ∧ Sb w s s' ∧ Below w.heap.size w w' := fun hc hk => ⟨s, rfl, by unfold addVr; rw [if_neg hc]; exact h.belw (HB.belK hb hk (by omega)), .refl _ _, HB.belK hb hk (by omega)⟩
  by_cases hv : badI v
  · have ec : addVC vr v = 1 := by unfold addVC; rw [if_pos hv]
    have := @same
    rw [ec] at this ⊢
    exact sel_t (hbad.2 hv) (get4 h1 (ret4 h2 rfl s fun w4 h4 k4 => this (by decide) k4))
  refine sel_f (Bool.eq_false_iff.2 fun hh => hv (hbad.1 hh)) (hb_ldS0 h1 rfl ((Has_ok hf.v h.nv (by have := h.vl; omega) v).mono ?_))
  rintro _ w4 ⟨rfl, rfl⟩
  refine ⟨_, rfl, ?_⟩
  by_cases hm : v ∈ vr
  · have ec : addVC vr v = 50 := by unfold addVC; rw [if_neg hv, if_pos hm]
    have := @same
    rw [ec] at this ⊢
    exact sel_t (by simpa using hm) (get4 h1 (ret4 h2 rfl s fun w4 h4 k4 => this (by decide) k4))
  refine sel_f (by simpa using hm) (hb_ldS0 h1 rfl ?_)
  have hnv := h.nv
  by_cases hl : 2048 ≤ vr.length
  · have ec : addVC vr v = 55 := by unfold addVC; rw [if_neg hv, if_neg hm, if_pos hl]
    have := @same
    rw [ec] at this ⊢
    exact sel_t (by simp; omega) (get4 h1 (ret4 h2 rfl s fun w4 h4 k4 => this (by decide) k4))
  have ec : addVC vr v = 0 := by unfold addVC; rw [if_neg hv, if_neg hm, if_neg hl]
  have er' : addVr vr v = wiI vr v := by unfold addVr; rw [if_pos ec]
  rw [ec, er']
  refine sel_f (by simp; omega) (drW_intro ?_)
  have hbd := hb.drew
  have hfd := h.belw hbd
  refine ⟨fun w' => HB w' b1 (rsC s) 43, h1, _, _, _, fun w' h => (h.cell 0).trans rfl, _, _, _, fun w' h => (h.cell 1).trans rfl, (With_ok hfd.v h.nv (by have := h.vl; omega) v).mono ?_⟩
  rintro _ w5 ⟨A', c', rfl, o5, g5⟩
  have h1d : HB w4.drew b1 (rsC s) 43 := h1
  have h2d : HB w4.drew b2 #[.slice none 0 0, .slice none 0 0, .slice none 0 0, .slice none 0 0] 43 := h2
  have h15 := h1d.below g5
  have h25 := h2d.below g5
  refine ⟨_, _, _, rfl, h15, hb_st0 h15 (by simp [rsC]) fun w6 h6 k6 => hb_st h6 (j := 1) (by simp [rsC]) fun w7 h7 k7 => ?_⟩
  have h7 : HB w7 b1 (rsC { s with A0 := A', n0 := (wiI vr v).length, c0 := c' }) 43 := h7
  have h27 := (h25.keeps k6 (by omega)).keeps k7 (by omega)
  have hb5 := hbd.trans (g5.mono hbd.size)
  have hb7 := HB.belK hb5 (k6.trans k7) (by omega)
  have lw : (wiI vr v).length = vr.length + 1 := by have := (wiI_perm vr v).length_eq; simpa using this
  have hb4s : w.heap.size ≤ w4.drew.heap.size := hbd.size
  refine get4 h7 (ret4 h27 rfl { s with A0 := A', n0 := (wiI vr v).length, c0 := c' } fun w8 h8 k8 => ⟨{ s with A0 := A', n0 := (wiI vr v).length, c0 := c' }, rfl, ?_, ?_, HB.belK hb7 k8 (by omega)⟩)
  · have hA : ∀ a, A' = some a → b2 < a.block ∧ a.block < w5.heap.size := fun a ha => by
      have := o5.block a ha
      have h9 : w4.drew.heap.size = w4.heap.size := rfl
      have := h2.lt
      omega
    have o8 : OwnI w8 w4.drew.heap.size TI A' c' (wiI vr v) := ((o5.keeps k6 fun a ha e => by have := hA a ha; omega).keeps k7 fun a ha e => by have := hA a ha; omega).keeps k8 fun a ha e => by have := hA a ha; omega
    have hf8 := h.belw (HB.belK hb7 k8 (by omega))
    refine ⟨o8.reads, rfl, hf8.e, h.ne, h.n2, h.n3, ?_, by rw [lw]; omega, h.el, hf8.m2, hf8.m3, h.l2, h.l3⟩
    rintro k (⟨a, ha, rfl⟩ | hk)
    · exact (o8.block a ha).2
    · exact hf8.lt k (.inr hk)
  · constructor
    rintro k (⟨a, ha, rfl⟩ | hk)
    · exact .inr (by have := (o5.block a ha).1; omega)
    · exact .inl (.inr hk)
/-! ### DelV -/
theorem RDelV_l0 {w : World} {s : RS} {vr : List Int} {er : List E} {mv me : List Int} (h : RF w s vr er mv me) {v : Int} {b1 b2 : Nat} {cs : Array Value} (h1 : HB w b1 (rsC s) 43) (h2 : HB w b2 cs 43) (hc : cs.size = 4) {K0 : World → Prop} {Kr : Int → World → Prop}
    (k0 : deg er v = 0 → K0 w) (kr : 0 < deg er v → ∀ w', HB w' b2 (rsC s) 43 → Keeps (fun k => k = b2) w w' → Kr 52 w') : ∀ (m i : Nat), er.length - i = m → i ≤ er.length → (deg er v = deg (er.drop i) v) → f_ref16_DelV.l0 (m + 1) v (⟨b1, 0, none⟩ : Addr) (⟨b2, 0, none⟩ : Addr) (i : Int) w K0 Kr := by
  have hne := h.ne
  have hel := h.el
  intro m
  induction m with
  | zero =>
    intro i hm hi ht
    have : i = er.length := by omega
    subst this
    unfold f_ref16_DelV.l0
    refine hb_ldS h1 (j := 1) rfl (sel_f (by simp [hne]) (k0 ?_))
    rw [ht, List.drop_length]; rfl
  | succ m ih =>
    intro i hm hi ht
    have hlt : i < er.length := by omega
    obtain ⟨a, hA, q⟩ := h.e i hlt
    unfold f_ref16_DelV.l0
    rw [List.drop_eq_getElem_cons hlt] at ht
    simp only [deg] at ht
    have hnn := deg_nn (er.drop (i + 1)) v
    refine hb_ldS h1 (j := 1) rfl (sel_t (by simp; omega) (hb_ldS h1 (j := 1) rfl (optB_some hA (req_intro (by simp; omega) (ldI_intro (by rw [Int.toNat_natCast]; exact q.c1) ?_)))))
    by_cases e : er[i].u = v
    · rw [if_pos e] at ht
      refine sel_t (by simp [e]) (get4 h1 (put4 h2 hc s fun w' h' k' => kr ?_ w' h' k'))
      split at ht <;> omega
    · rw [if_neg e] at ht
      refine sel_f (by simp [e]) (hb_ldS h1 (j := 1) rfl (optB_some hA (req_intro (by simp; omega) (ldI_intro (by rw [Int.toNat_natCast]; exact q.c2) ?_))))
      by_cases e2 : er[i].v = v
      · rw [if_pos e2] at ht
        exact sel_t (by simp [e2]) (get4 h1 (put4 h2 hc s fun w' h' k' => kr (by omega) w' h' k'))
      · rw [if_neg e2] at ht
        refine sel_f (by simp [e2]) ?_
        rw [w64_in (by omega), show (i : Int) + 1 = ((i + 1 : Nat) : Int) by omega]
        exact ih (i + 1) (by omega) (by omega) (by omega)
def delMr (vr : List Int) (er : List E) (mv : List Int) (v : Int) : List Int := if delVC vr er v = 0 then woI mv v else mv
def delVr (vr : List Int) (er : List E) (v : Int) : List Int := if delVC vr er v = 0 then woI vr v else vr
theorem RDelV_ok {w : World} {s : RS} {vr : List Int} {er : List E} {mv me : List Int} (h : RF w s vr er mv me) (v : Int) :
    Calls Try.prog 21 #[.agg (rsC s), .int .i64 v] w fun e w' => ∃ s', e = .returned (.tuple #[.agg (rsC s'), .int .i64 (delVC vr er v)]) ∧ RF w' s' (delVr vr er v) er (delMr vr er mv v) me ∧ Sb w s s' ∧ Below w.heap.size w w' := by
  apply f_ref16_DelV.ok
  unfold f_ref16_DelV.wp
  refine al_new fun w1 b1 e1 s1 h1 g1 => al_new fun w2 b2 e2 s2 h2 g2 => ?_
  have hb := g1.trans (g2.mono (by omega))
  have h1 : HB w2 b1 (rsC s) 43 := h1.below g2
  have hf := h.belw hb
  refine (RBad_ok v w2).mono ?_
  rintro _ w3 ⟨⟨b, rfl, hbad⟩, rfl⟩
  refine ⟨b, rfl, ?_⟩
  have same : ∀ {w'}, delVC vr er v ≠ 0 → Keeps (fun k => k = b2) w3 w' → ∃ s', Ending.returned (.tuple #[.agg (rsC s), .int .i64 (delVC vr er v)]) = .returned (.tuple #[.agg (rsC s'), .int .i64 (delVC vr er v)]) ∧ RF w' s' (delVr vr er v) er (delMr vr er mv v) me ∧ Sb w s s' ∧ Below w.heap.size w w' := fun hc hk => ⟨s, rfl, by unfold delVr delMr; rw [if_neg hc, if_neg hc]; exact h.belw (HB.belK hb hk (by omega)), .refl _ _, HB.belK hb hk (by omega)⟩
  by_cases hv : badI v
  · have ec : delVC vr er v = 1 := by unfold delVC; rw [if_pos hv]
    have := @same
    rw [ec] at this ⊢
    exact sel_t (hbad.2 hv) (get4 h1 (ret4 h2 rfl s fun w4 h4 k4 => this (by decide) k4))
  refine sel_f (Bool.eq_false_iff.2 fun hh => hv (hbad.1 hh)) (hb_ldS0 h1 rfl ((Has_ok hf.v h.nv (by have := h.vl; omega) v).mono ?_))
  rintro _ w4 ⟨rfl, rfl⟩
  refine ⟨_, rfl, ?_⟩
  by_cases hm : ¬ v ∈ vr
  · have ec : delVC vr er v = 51 := by unfold delVC; rw [if_neg hv, if_pos hm]
    have := @same
    rw [ec] at this ⊢
    exact sel_t (by simpa using hm) (get4 h1 (ret4 h2 rfl s fun w4 h4 k4 => this (by decide) k4))
  refine sel_f (by simpa using hm) ⟨er.length + 1, RDelV_l0 hf h1 h2 rfl (fun hd => ?_) (fun hd w5 h5 k5 => ?_) er.length 0 (by omega) (by omega) (by simp)⟩
  · have ec : delVC vr er v = 0 := by unfold delVC; rw [if_neg hv, if_neg hm, if_neg (by omega)]
    have er' : delVr vr er v = woI vr v := by unfold delVr; rw [if_pos ec]
    have em' : delMr vr er mv v = woI mv v := by unfold delMr; rw [if_pos ec]
    rw [ec, er', em']
    intro _
    refine drW_intro ?_
    have hbd := hb.drew
    have hfd := h.belw hbd
    refine ⟨fun w' => HB w' b1 (rsC s) 43, h1, _, _, _, fun w' h => (h.cell 0).trans rfl, _, _, _, fun w' h => (h.cell 1).trans rfl, (Without_ok hfd.v h.nv (by have := h.vl; omega) v).mono ?_⟩
    rintro _ w5 ⟨A', c', rfl, o5, g5⟩
    have h1d : HB w4.drew b1 (rsC s) 43 := h1
    have h2d : HB w4.drew b2 #[.slice none 0 0, .slice none 0 0, .slice none 0 0, .slice none 0 0] 43 := h2
    have h15 := h1d.below g5
    have h25 := h2d.below g5
    refine ⟨_, _, _, rfl, h15, hb_st0 h15 (by simp [rsC]) fun w6 h6 k6 => hb_st h6 (j := 1) (by simp [rsC]) fun w7 h7 k7 => ?_⟩
    have h7 : HB w7 b1 (rsC { s with A0 := A', n0 := (woI vr v).length, c0 := c' }) 43 := h7
    have h27 := (h25.keeps k6 (by omega)).keeps k7 (by omega)
    have hb5 := hbd.trans (g5.mono hbd.size)
    have hb7 := HB.belK hb5 (k6.trans k7) (by omega)
    refine hb_ldS h7 (j := 2) rfl ((Without_ok (h.belw hb7).m2 h.n2 (by have := h.l2; omega) v).mono ?_)
    rintro _ w8 ⟨A2, c2, rfl, o8, g8⟩
    have hb8 := hb7.trans (g8.mono hb7.size)
    refine ⟨_, _, _, rfl, hb_st (h7.below g8) (j := 2) (by simp [rsC]) fun w9 h9 k9 => ?_⟩
    have h9 : HB w9 b1 (rsC { s with A0 := A', n0 := (woI vr v).length, c0 := c', A2 := A2, n2 := (woI mv v).length, c2 := c2 }) 43 := h9
    have hb9 := HB.belK hb8 k9 (by omega)
    have h29 := (h27.below g8).keeps k9 (by omega)
    have lw : (woI vr v).length ≤ vr.length := List.length_filter_le _ _
    have lw2 : (woI mv v).length ≤ mv.length := List.length_filter_le _ _
    have hl2 := h.l2
    have hs7 := hb7.size
    have h1l7 := h7.lt
    have h2l7 := h27.lt
    have hb4s : w.heap.size ≤ w4.drew.heap.size := hbd.size
    have hvl := h.vl
    refine get4 h9 (ret4 h29 rfl { s with A0 := A', n0 := (woI vr v).length, c0 := c', A2 := A2, n2 := (woI mv v).length, c2 := c2 } fun wA hA kA => ⟨_, rfl, ?_, ?_, HB.belK hb9 kA (by omega)⟩)
    · have hA : ∀ a, A' = some a → b2 < a.block ∧ a.block < w5.heap.size := fun a ha => by
        have := o5.block a ha
        have h9 : w4.drew.heap.size = w4.heap.size := rfl
        have := h2.lt
        omega
      have o7 : OwnI w7 w4.drew.heap.size TI A' c' (woI vr v) := (o5.keeps k6 fun a ha e => by have := hA a ha; omega).keeps k7 fun a ha e => by have := hA a ha; omega
      have o9 : OwnI w9 w4.drew.heap.size TI A' c' (woI vr v) := (o7.keeps (S := fun _ => False) (.of_below g8) fun _ _ => id).keeps k9 fun a ha e => by have := hA a ha; omega
      have oA := o9.keeps kA fun a ha e => by have := hA a ha; omega
      have hfA := h.belw (HB.belK hb9 kA (by omega))
      have o2A := (o8.keeps k9 fun a ha e => by have := (o8.block a ha).1; omega).keeps kA fun a ha e => by have := (o8.block a ha).1; omega
      refine ⟨oA.reads, rfl, hfA.e, h.ne, rfl, h.n3, ?_, by show (woI vr v).length ≤ 2048; omega, h.el, o2A.reads, hfA.m3, by show (woI mv v).length ≤ 4096; omega, h.l3⟩
      rintro k (⟨a, ha, rfl⟩ | hk | ⟨a, ha, rfl⟩ | hk)
      · exact (oA.block a ha).2
      · exact hfA.lt k (.inr (.inl hk))
      · exact (o2A.block a ha).2
      · exact hfA.lt k (.inr (.inr (.inr hk)))
    · constructor
      rintro k (⟨a, ha, rfl⟩ | hk | ⟨a, ha, rfl⟩ | hk)
      · exact .inr (by have := (o5.block a ha).1; omega)
      · exact .inl (.inr (.inl hk))
      · exact .inr (by have := (o8.block a ha).1; omega)
      · exact .inl (.inr (.inr (.inr hk)))
  · have ec : delVC vr er v = 52 := by unfold delVC; rw [if_neg hv, if_neg hm, if_pos hd]
    have := @same
    rw [ec] at this ⊢
    intro _
    exact get4 h5 (this (by decide) k5)
end Go.Proofs.Ytkkobfajahmfaaa.Rd
