/- One call of a script, on a forest and on the document's; a script's calls on a forest. Conditions: none. -/
import Derived.Test.YtkkobfajahmfaaaEuY
namespace Go.Proofs.Ytkkobfajahmfaaa.Rd
open Go.Dn Go.RowKit
set_option linter.unusedVariables false
set_option linter.unusedSimpArgs false
set_option maxRecDepth 100000
abbrev Nt := List Int × List E
structure EO where
  k : Int
  id : Int
  u : Int
  v : Int
  on : Bool
def EO.e (o : EO) : E := ⟨o.id, o.u, o.v, 0⟩
def oC (o : EO) : Array Value := #[.int .i64 o.k, .int .i64 o.id, .int .i64 o.u, .int .i64 o.v, .bool o.on]
structure OpW (o : EO) : Prop where
  i : W64 o.id
  u : W64 o.u
  v : W64 o.v
open Classical in
noncomputable def jb (n : Nt) (o : EO) : Bool := decide (Cn n.2 o.u o.v)
noncomputable def nstp (n : Nt) (o : EO) : Nt :=
  if o.k = 1 then (addVr n.1 o.u, n.2) else if o.k = 2 then (delVr n.1 n.2 o.u, n.2) else if o.k = 3 then (n.1, linkEr n.1 n.2 o.e (jb n o)) else if o.k = 4 then (n.1, cutEr n.2 o.id) else n
noncomputable def cdO (n : Nt) (o : EO) : Int :=
  if o.k = 1 then addVC n.1 o.u else if o.k = 2 then delVC n.1 n.2 o.u else if o.k = 3 then linkC n.1 n.2 o.e (jb n o) else if o.k = 4 then cutC n.2 o.id else if o.k = 5 then cdV n.1 o.u else if o.k = 6 then (if o.id ∈ n.2.map E.id then 0 else 152) else 0
noncomputable def kvs (n : Nt) (kv : Int → Bool) (o : EO) : Int → Bool := if o.k = 1 then kvA n.1 kv o.u else if o.k = 5 then kvM n.1 kv o.u o.on else kv
noncomputable def kes (n : Nt) (ke : Int → Bool) (o : EO) : Int → Bool := if o.k = 3 then keL n.1 n.2 ke o.e (jb n o) else if o.k = 6 then keM n.2 ke o.id o.on else ke
def mvs (n : Nt) (mv : List Int) (o : EO) : List Int := if o.k = 2 then delMr n.1 n.2 mv o.u else if o.k = 5 then (if o.u ∈ n.1 then mkI mv o.u o.on else mv) else mv
def mes (n : Nt) (me : List Int) (o : EO) : List Int := if o.k = 4 then cutMr n.2 me o.id else if o.k = 6 then (if o.id ∈ n.2.map E.id then mkI me o.id o.on else me) else me
/-- a forest and the document's, within a law -/
structure L2 (w0 w : World) (Fp : Nat → Prop) (F : Nat) (n : Nt) (kv ke : Int → Bool) (s : RS) (d : Nt) (mv me : List Int) : Prop where
  f : LF w0 w Fp F n.1 n.2 kv ke
  r : RF w s d.1 d.2 mv me
  d : ∀ k, Rb s k → ¬ Fp k
structure Lo (w0 w : World) (Fp : Nat → Prop) (b : Nat) (cs : Array Value) (t : TypeId) : Prop where
  hb : HB w b cs t
  nF : ¬ Fp b
  lo : w0.heap.size ≤ b
section
variable {w0 w w' : World} {Fp Fp' : Nat → Prop} {F : Nat} {n n' d d' : Nt} {kv ke kv' ke' : Int → Bool} {s s' : RS} {mv me mv' me' : List Int} {b : Nat} {cs : Array Value} {t : TypeId}
theorem Lo.call (h : Lo w0 w Fp b cs t) (u : Upd Fp w w' Fp') : Lo w0 w' Fp' b cs t :=
  ⟨h.hb.keeps u.kp h.nF, fun hf => by
    rcases u.fr b hf with h1 | h1
    · exact h.nF h1
    · have := h.hb.lt; omega, h.lo⟩
theorem Lo.below (h : Lo w0 w Fp b cs t) (hb : Below w.heap.size w w') : Lo w0 w' Fp b cs t := ⟨h.hb.below hb, h.nF, h.lo⟩
theorem LF.new {vs : List Int} {es : List E} (h : LF w0 w Fp F vs es kv ke) {e : Nat} (hb : HB w' e cs t) (he : w.heap.size ≤ e) : Lo w0 w' Fp e cs t := ⟨hb, fun hf => by have := h.rep.lt e hf; omega, Nat.le_trans h.bel.size he⟩
theorem L2.below (h : L2 w0 w Fp F n kv ke s d mv me) (hb : Below w.heap.size w w') : L2 w0 w' Fp F n kv ke s d mv me := ⟨h.f.below hb, h.r.belw hb, h.d⟩
theorem L2.ref (h : L2 w0 w Fp F n kv ke s d mv me) (hr : RF w' s' d'.1 d'.2 mv' me') (hs : Sb w s s') (hb : Below w.heap.size w w') : L2 w0 w' Fp F n kv ke s' d' mv' me' :=
  ⟨h.f.below hb, hr, fun k hk hf => by
    rcases hs.b k hk with h1 | h1
    · exact h.d k h1 hf
    · have := h.f.rep.lt k hf; omega⟩
theorem L2.call (h : L2 w0 w Fp F n kv ke s d mv me) (hf : LF w0 w' Fp' F n'.1 n'.2 kv' ke') (u : Upd Fp w w' Fp') : L2 w0 w' Fp' F n' kv' ke' s d mv me :=
  ⟨hf, h.r.keeps u.kp h.d, fun k hk hf' => by
    rcases u.fr k hf' with h1 | h1
    · exact h.d k hk h1
    · have := h.r.lt k hk; omega⟩
end
/-- four slices passed through a block of their own -/
theorem pass4 {w : World} (s : RS) {K : Option Addr → Nat → Nat → Option Addr → Nat → Nat → Option Addr → Nat → Nat → Option Addr → Nat → Nat → World → Prop} (hk : ∀ w', Below w.heap.size w w' → K s.A0 s.n0 s.c0 s.A1 s.n1 s.c1 s.A2 s.n2 s.c2 s.A3 s.n3 s.c3 w') :
    alW w (.cells #[.slice none 0 0, .slice none 0 0, .slice none 0 0, .slice none 0 0] 43) fun b w0 => stW w0 (⟨b, 0, none⟩ : Addr) (.slice s.A0 s.n0 s.c0) fun w1 => stW w1 ((⟨b, 0, none⟩ : Addr).add 1) (.slice s.A1 s.n1 s.c1) fun w2 => stW w2 ((⟨b, 0, none⟩ : Addr).add 2) (.slice s.A2 s.n2 s.c2) fun w3 => stW w3 ((⟨b, 0, none⟩ : Addr).add 3) (.slice s.A3 s.n3 s.c3) fun w4 =>
      ldS w4 (⟨b, 0, none⟩ : Addr) fun A0 n0 c0 => ldS w4 ((⟨b, 0, none⟩ : Addr).add 1) fun A1 n1 c1 => ldS w4 ((⟨b, 0, none⟩ : Addr).add 2) fun A2 n2 c2 => ldS w4 ((⟨b, 0, none⟩ : Addr).add 3) fun A3 n3 c3 => K A0 n0 c0 A1 n1 c1 A2 n2 c2 A3 n3 c3 w4 := by
  refine al_new fun w1 b e1 s1 h1 g1 => ?_
  exact ret4 h1 rfl s fun w2 h2 k2 => hk w2 (HB.belK g1 k2 (by omega))
/-- what a call does -/
structure DoesR (w0 w : World) (Fp : Nat → Prop) (F : Nat) (n : Nt) (kv ke : Int → Bool) (s : RS) (d : Nt) (mv me : List Int) (o : EO) (en : Ending) (w' : World) : Prop where
  ex : ∃ Fp' s', en = .returned (.tuple #[.agg (rsC s'), .bool (cdO n o == cdO d o)]) ∧ L2 w0 w' Fp' F (nstp n o) (kvs n kv o) (kes n ke o) s' (nstp d o) (mvs d mv o) (mes d me o) ∧ Upd Fp w w' Fp' ∧ Sb w s s'
section
variable {w0 w : World} {Fp : Nat → Prop} {F : Nat} {n d : Nt} {kv ke : Int → Bool} {s : RS} {mv me : List Int}
/-- the end of each call: the document's forest set down in the result's block -/
theorem does_fin {w4 : World} {Fp' : Nat → Prop} {b5 : Nat} {n' d' : Nt} {kv' ke' : Int → Bool} {mv' me' : List Int} {s' : RS} {o : EO} {c : Bool} {cs5 : Array Value} (n5 : w.heap.size ≤ b5) (h5 : HB w4 b5 cs5 43) (hF5 : ¬ Fp' b5) (l5 : w0.heap.size ≤ b5)
    (H4 : L2 w0 w4 Fp' F n' kv' ke' s' d' mv' me') (u4 : Upd Fp w w4 Fp') (sb : Sb w s s') (hb5 : ¬ Rb s' b5) (en : nstp n o = n') (ekv : kvs n kv o = kv') (eke : kes n ke o = ke') (ed : nstp d o = d') (emv : mvs d mv o = mv') (eme : mes d me o = me') (ec : (cdO n o == cdO d o) = c) (hc5 : cs5.size = 4) :
      (stW w4 (⟨b5, 0, none⟩ : Addr) (.slice s'.A0 s'.n0 s'.c0) fun w1 => stW w1 ((⟨b5, 0, none⟩ : Addr).add 1) (.slice s'.A1 s'.n1 s'.c1) fun w2 => stW w2 ((⟨b5, 0, none⟩ : Addr).add 2) (.slice s'.A2 s'.n2 s'.c2) fun w3 => stW w3 ((⟨b5, 0, none⟩ : Addr).add 3) (.slice s'.A3 s'.n3 s'.c3) fun w4 =>
      ldS w4 (⟨b5, 0, none⟩ : Addr) fun A0 n0 c0 => ldS w4 ((⟨b5, 0, none⟩ : Addr).add 1) fun A1 n1 c1 => ldS w4 ((⟨b5, 0, none⟩ : Addr).add 2) fun A2 n2 c2 => ldS w4 ((⟨b5, 0, none⟩ : Addr).add 3) fun A3 n3 c3 =>
        DoesR w0 w Fp F n kv ke s d mv me o (.returned (.tuple #[.agg #[.slice A0 n0 c0, .slice A1 n1 c1, .slice A2 n2 c2, .slice A3 n3 c3], .bool c])) w4) := by
  subst en; subst ekv; subst eke; subst ed; subst emv; subst eme; subst ec
  refine ret4 h5 hc5 s' fun w7 h7 k7 => ⟨Fp', s', rfl, ⟨⟨H4.f.rep.other k7 fun k e hf => hF5 (e ▸ hf), H4.f.lo, H4.f.bel.trans (k7.below H4.f.bel.size fun i hi e => by omega)⟩, H4.r.keeps k7 fun k hk e => hb5 (e ▸ hk), H4.d⟩, ⟨?_, fun k hk => u4.fr k hk⟩, sb⟩
  exact u4.kp.trans' k7 fun k hk e => by omega
end
theorem Sb.up {w w' : World} {s s' : RS} (h : Sb w' s s') (hw : w.heap.size ≤ w'.heap.size) : Sb w s s' := ⟨fun k hk => (h.b k hk).imp id fun h => by omega⟩
theorem Sb.no {w w' : World} {s s' : RS} {vr : List Int} {er : List E} {mv me : List Int} (h : Sb w' s s') (hr : RF w s vr er mv me) {b : Nat} (hb : w.heap.size ≤ b) (hb' : b < w'.heap.size) : ¬ Rb s' b := fun hk => by
  rcases h.b b hk with h1 | h1
  · have := hr.lt b h1; omega
  · omega
theorem linkC_j {n : Nt} {o : EO} {j : Bool} (hj : jC n.1 n.2 o.u o.v j) : linkC n.1 n.2 o.e j = linkC n.1 n.2 o.e (jb n o) := by
  by_cases hm : o.u ∈ n.1 ∧ o.v ∈ n.1
  · have : j = jb n o := by
      have h1 := hj hm.1 hm.2
      unfold jb
      cases j with
      | true => simpa using h1
      | false => simpa using h1
    rw [this]
  · unfold linkC
    rw [if_pos (show ¬ (o.e.u ∈ n.1 ∧ o.e.v ∈ n.1) from hm), if_pos (show ¬ (o.e.u ∈ n.1 ∧ o.e.v ∈ n.1) from hm)]
theorem linkEr_j {n : Nt} {o : EO} {j : Bool} (hj : jC n.1 n.2 o.u o.v j) : linkEr n.1 n.2 o.e j = linkEr n.1 n.2 o.e (jb n o) := by unfold linkEr; rw [linkC_j hj]
theorem keL_j {n : Nt} {o : EO} {j : Bool} {ke : Int → Bool} (hj : jC n.1 n.2 o.u o.v j) : keL n.1 n.2 ke o.e j = keL n.1 n.2 ke o.e (jb n o) := by funext i; unfold keL; rw [linkC_j hj]
theorem hb_ldB {w : World} {b : Nat} {cs : Array Value} {t : TypeId} (h : HB w b cs t) {j : Nat} {x : Bool} (hj : cs[j]? = some (.bool x)) {K : Bool → Prop} (hk : K x) : ldB w ((⟨b, 0, none⟩ : Addr).add j) K := ⟨_, (h.cell j).trans hj, hk⟩
theorem L2.st {w0 w w' : World} {Fp : Nat → Prop} {F : Nat} {n d : Nt} {kv ke : Int → Bool} {s : RS} {mv me : List Int} {b : Nat} (h : L2 w0 w Fp F n kv ke s d mv me) (k : Keeps (fun k => k = b) w w') (h1 : ¬ Fp b) (h2 : ¬ Rb s b) (h3 : w0.heap.size ≤ b) : L2 w0 w' Fp F n kv ke s d mv me :=
  ⟨⟨h.f.rep.other k fun k e hf => h1 (e ▸ hf), h.f.lo, h.f.bel.trans (k.below h.f.bel.size fun i hi e => by omega)⟩, h.r.keeps k fun k hk e => h2 (e ▸ hk), h.d⟩
theorem Upd.st {Fp Fp' : Nat → Prop} {w w1 w2 : World} {b : Nat} (u : Upd Fp w w1 Fp') (k : Keeps (fun k => k = b) w1 w2) (hb : w.heap.size ≤ b) : Upd Fp w w2 Fp' := ⟨u.kp.trans' k fun k hk e => by omega, u.fr⟩
/-- a mark's row set down in the document's forest -/
theorem RF.mark2 {w : World} {s : RS} {vr : List Int} {er : List E} {mv me mv' : List Int} (h : RF w s vr er mv me) {A : Option Addr} {c B : Nat} (o : OwnI w B TI A c mv') (hl : mv'.length ≤ 4096) : RF w { s with A2 := A, n2 := mv'.length, c2 := c } vr er mv' me :=
  ⟨h.v, h.nv, h.e, h.ne, rfl, h.n3, fun k hk => by
    rcases hk with h1 | h1 | ⟨a, ha, e⟩ | h1
    · exact h.lt k (.inl h1)
    · exact h.lt k (.inr (.inl h1))
    · rw [← e]; exact (o.block a ha).2
    · exact h.lt k (.inr (.inr (.inr h1))), h.vl, h.el, o.reads, h.m3, hl, h.l3⟩
theorem RF.mark3 {w : World} {s : RS} {vr : List Int} {er : List E} {mv me me' : List Int} (h : RF w s vr er mv me) {A : Option Addr} {c B : Nat} (o : OwnI w B TI A c me') (hl : me'.length ≤ 4096) : RF w { s with A3 := A, n3 := me'.length, c3 := c } vr er mv me' :=
  ⟨h.v, h.nv, h.e, h.ne, h.n2, rfl, fun k hk => by
    rcases hk with h1 | h1 | h1 | ⟨a, ha, e⟩
    · exact h.lt k (.inl h1)
    · exact h.lt k (.inr (.inl h1))
    · exact h.lt k (.inr (.inr (.inl h1)))
    · rw [← e]; exact (o.block a ha).2, h.vl, h.el, h.m2, o.reads, h.l2, hl⟩
theorem Sb.mark2 {w w' : World} {s : RS} {A : Option Addr} {c n e : Nat} {l : List Int} (o : OwnI w' w.heap.size e A c l) : Sb w s { s with A2 := A, n2 := n, c2 := c } := ⟨fun k hk => by
  rcases hk with h1 | h1 | ⟨a, ha, e⟩ | h1
  · exact .inl (.inl h1)
  · exact .inl (.inr (.inl h1))
  · rw [← e]; exact .inr (o.block a ha).1
  · exact .inl (.inr (.inr (.inr h1)))⟩
theorem Sb.mark3 {w w' : World} {s : RS} {A : Option Addr} {c n e : Nat} {l : List Int} (o : OwnI w' w.heap.size e A c l) : Sb w s { s with A3 := A, n3 := n, c3 := c } := ⟨fun k hk => by
  rcases hk with h1 | h1 | h1 | ⟨a, ha, e⟩
  · exact .inl (.inl h1)
  · exact .inl (.inr (.inl h1))
  · exact .inl (.inr (.inr (.inl h1)))
  · rw [← e]; exact .inr (o.block a ha).1⟩
theorem mkI_le (l : List Int) (x : Int) (on : Bool) : (mkI l x on).length ≤ l.length + 1 := by
  have := woI_le l x
  unfold mkI
  split
  · rw [(wiI_perm _ _).length_eq]; simp only [List.length_cons]; omega
  · omega
theorem cdO6 (n : Nt) {o : EO} (k : o.k = 6) : cdO n o = if o.id ∈ n.2.map E.id then 0 else 152 := by
  unfold cdO
  rw [if_neg (by omega), if_neg (by omega), if_neg (by omega), if_neg (by omega), if_neg (by omega), if_pos k]
section
variable {w0 w : World} {Fp : Nat → Prop} {F : Nat} {n d : Nt} {kv ke : Int → Bool} {s : RS} {mv me : List Int}
theorem does_ok (h : L2 w0 w Fp F n kv ke s d mv me) (g : RG d.1 d.2) (hel : d.2.length ≤ 4095) (hmv : mv.length ≤ 4095) (hme : me.length ≤ 4095) {o : EO} (ho : OpW o) :
    Calls Try.prog 26 #[.pointer (some ⟨F, 0, none⟩), .agg (rsC s), .agg (oC o)] w (DoesR w0 w Fp F n kv ke s d mv me o) := by
  apply f_law16_changes.ok
  unfold f_law16_changes.wp
  refine al_new fun w1 b1 e1 s1 h1 g1 => al_new fun w2 b3 e3 s3 h3 g2 => al_new fun w3 b5 e5 s5 h5 g3 => ?_
  have hb := (g1.trans (g2.mono (by omega))).trans (g3.mono (by omega))
  have H := h.below hb
  have h1 : Lo w0 w3 Fp b1 (rsC s) 43 := h.f.new ((h1.below g2).below g3) (by omega)
  have h3 : Lo w0 w3 Fp b3 (oC o) 45 := h.f.new (h3.below g3) (by omega)
  have h5 : Lo w0 w3 Fp b5 #[.slice none 0 0, .slice none 0 0, .slice none 0 0, .slice none 0 0] 43 := h.f.new h5 (by omega)
  have n5 : w.heap.size ≤ b5 := by omega
  have n1 : b1 ≠ b5 := by omega
  have u3 : Upd Fp w w3 Fp := .below hb
  have hs3 := hb.size
  refine hb_ldI0 h3.hb rfl ?_
  by_cases k : o.k = 1
  · refine sel_t (by simp [k]) (hb_ldI h3.hb (j := 2) rfl ((AddV_ok H.f.rep ho.u).mono ?_))
    rintro _ w4 ⟨F', rfl, r4, u4⟩
    have H4 := H.call (n' := (addVr n.1 o.u, n.2)) (H.f.call r4 u4) u4
    refine ⟨_, rfl, get4 (h1.call u4).hb (hb_ldI (h3.call u4).hb (j := 2) rfl ((RAddV_ok H4.r o.u).mono ?_))⟩
    rintro _ w5 ⟨s', rfl, r5, sb5, g5⟩
    have H5 := H4.ref (d' := (addVr d.1 o.u, d.2)) r5 sb5 g5
    have l5 := (h5.call u4).below g5
    refine ⟨_, _, _, _, _, _, _, _, _, _, _, _, _, rfl, pass4 s' fun w6 g6 => ?_⟩
    refine does_fin n5 (l5.below g6).hb l5.nF h5.lo (H5.below g6) (((u3.trans u4).trans (.below g5)).trans (.below g6)) (sb5.up (by have := u4.kp.size; omega)) (sb5.no h.r n5 (h5.call u4).hb.lt) (by simp [nstp, cdO, kvs, kes, mvs, mes, k]) (by simp [nstp, cdO, kvs, kes, mvs, mes, k]) (by simp [nstp, cdO, kvs, kes, mvs, mes, k]) (by simp [nstp, cdO, kvs, kes, mvs, mes, k]) (by simp [nstp, cdO, kvs, kes, mvs, mes, k]) (by simp [nstp, cdO, kvs, kes, mvs, mes, k]) (by simp [nstp, cdO, kvs, kes, mvs, mes, k]) rfl
  refine sel_f (by simp [k]) ?_
  have k1 := k; clear k
  by_cases k : o.k = 2
  · refine sel_t (by simp [k]) (hb_ldI h3.hb (j := 2) rfl ((DelV_ok H.f.rep ho.u).mono ?_))
    rintro _ w4 ⟨F', rfl, r4, u4⟩
    have H4 := H.call (n' := (delVr n.1 n.2 o.u, n.2)) (H.f.call r4 u4) u4
    refine ⟨_, rfl, get4 (h1.call u4).hb (hb_ldI (h3.call u4).hb (j := 2) rfl ((RDelV_ok H4.r o.u).mono ?_))⟩
    rintro _ w5 ⟨s', rfl, r5, sb5, g5⟩
    have H5 := H4.ref (d' := (delVr d.1 d.2 o.u, d.2)) r5 sb5 g5
    have l5 := (h5.call u4).below g5
    refine ⟨_, _, _, _, _, _, _, _, _, _, _, _, _, rfl, pass4 s' fun w6 g6 => ?_⟩
    refine does_fin n5 (l5.below g6).hb l5.nF h5.lo (H5.below g6) (((u3.trans u4).trans (.below g5)).trans (.below g6)) (sb5.up (by have := u4.kp.size; omega)) (sb5.no h.r n5 (h5.call u4).hb.lt) (by simp [nstp, cdO, kvs, kes, mvs, mes, k]) (by simp [nstp, cdO, kvs, kes, mvs, mes, k]) (by simp [nstp, cdO, kvs, kes, mvs, mes, k]) (by simp [nstp, cdO, kvs, kes, mvs, mes, k]) (by simp [nstp, cdO, kvs, kes, mvs, mes, k]) (by simp [nstp, cdO, kvs, kes, mvs, mes, k]) (by simp [nstp, cdO, kvs, kes, mvs, mes, k]) rfl
  refine sel_f (by simp [k]) ?_
  have k2 := k; clear k
  by_cases k : o.k = 3
  · refine sel_t (by simp [k]) (hb_ldI h3.hb (j := 1) rfl (hb_ldI h3.hb (j := 2) rfl (hb_ldI h3.hb (j := 3) rfl ((Link_ok H.f.rep (e := o.e) ho.i ho.u ho.v rfl).mono ?_))))
    rintro _ w4 ⟨j, F', hj, rfl, r4, u4⟩
    rw [linkC_j hj]
    rw [linkEr_j hj, keL_j hj] at r4
    have H4 := H.call (n' := (n.1, linkEr n.1 n.2 o.e (jb n o))) (H.f.call r4 u4) u4
    refine ⟨_, rfl, get4 (h1.call u4).hb (hb_ldI (h3.call u4).hb (j := 1) rfl (hb_ldI (h3.call u4).hb (j := 2) rfl (hb_ldI (h3.call u4).hb (j := 3) rfl ((RLink16_ok H4.r g hel (e := o.e) (by show ¬ ((0 : Int) < 0 ∨ (1099511627776 : Int) < 0); decide)).mono ?_))))⟩
    rintro _ w5 ⟨s', j', hj', rfl, r5, sb5, g5⟩
    have hj' : jC d.1 d.2 o.u o.v j' := fun hu hv => (hj' hu hv).trans (jn_cn g.ids)
    rw [linkEr_j hj'] at r5
    rw [linkC_j hj']
    have H5 := H4.ref (d' := (d.1, linkEr d.1 d.2 o.e (jb d o))) r5 sb5 g5
    have l5 := (h5.call u4).below g5
    refine ⟨_, _, _, _, _, _, _, _, _, _, _, _, _, rfl, pass4 s' fun w6 g6 => ?_⟩
    refine does_fin n5 (l5.below g6).hb l5.nF h5.lo (H5.below g6) (((u3.trans u4).trans (.below g5)).trans (.below g6)) (sb5.up (by have := u4.kp.size; omega)) (sb5.no h.r n5 (h5.call u4).hb.lt) (by simp [nstp, cdO, kvs, kes, mvs, mes, k]) (by simp [nstp, cdO, kvs, kes, mvs, mes, k]) (by simp [nstp, cdO, kvs, kes, mvs, mes, k]) (by simp [nstp, cdO, kvs, kes, mvs, mes, k]) (by simp [nstp, cdO, kvs, kes, mvs, mes, k]) (by simp [nstp, cdO, kvs, kes, mvs, mes, k]) (by simp [nstp, cdO, kvs, kes, mvs, mes, k]) rfl
  refine sel_f (by simp [k]) ?_
  have k3 := k; clear k
  by_cases k : o.k = 4
  · refine sel_t (by simp [k]) (hb_ldI h3.hb (j := 1) rfl ((Cut_ok' H.f.rep ho.i).mono ?_))
    rintro _ w4 ⟨F', rfl, r4, u4⟩
    have H4 := H.call (n' := (n.1, cutEr n.2 o.id)) (H.f.call r4 u4) u4
    refine ⟨_, rfl, get4 (h1.call u4).hb (hb_ldI (h3.call u4).hb (j := 1) rfl ((RCut_ok H4.r o.id).mono ?_))⟩
    rintro _ w5 ⟨s', rfl, r5, sb5, g5⟩
    have H5 := H4.ref (d' := (d.1, cutEr d.2 o.id)) r5 sb5 g5
    have l5 := (h5.call u4).below g5
    refine ⟨_, _, _, _, _, _, _, _, _, _, _, _, _, rfl, pass4 s' fun w6 g6 => ?_⟩
    refine does_fin n5 (l5.below g6).hb l5.nF h5.lo (H5.below g6) (((u3.trans u4).trans (.below g5)).trans (.below g6)) (sb5.up (by have := u4.kp.size; omega)) (sb5.no h.r n5 (h5.call u4).hb.lt) (by simp [nstp, cdO, kvs, kes, mvs, mes, k]) (by simp [nstp, cdO, kvs, kes, mvs, mes, k]) (by simp [nstp, cdO, kvs, kes, mvs, mes, k]) (by simp [nstp, cdO, kvs, kes, mvs, mes, k]) (by simp [nstp, cdO, kvs, kes, mvs, mes, k]) (by simp [nstp, cdO, kvs, kes, mvs, mes, k]) (by simp [nstp, cdO, kvs, kes, mvs, mes, k]) rfl
  refine sel_f (by simp [k]) ?_
  have k4 := k; clear k
  by_cases k : o.k = 5
  · refine sel_t (by simp [k]) (hb_ldI h3.hb (j := 2) rfl (hb_ldB h3.hb (j := 4) rfl ((MarkV_ok H.f.rep ho.u o.on).mono ?_)))
    rintro _ w4 ⟨rfl, r4, u4⟩
    have H4 := H.call (n' := n) (H.f.call r4 u4) u4
    have u04 := u3.trans u4
    have l5 := h5.call u4
    refine ⟨_, rfl, hb_ldS0 (h1.call u4).hb rfl (hb_ldI (h3.call u4).hb (j := 2) rfl (hasI_step H4.r.v H4.r.nv (by have := H4.r.vl; omega) ?_))⟩
    by_cases hin : o.u ∈ d.1
    · refine sel_f (by simp [hin]) (hb_ldS (h1.call u4).hb (j := 2) rfl (hb_ldI (h3.call u4).hb (j := 2) rfl (hb_ldB (h3.call u4).hb (j := 4) rfl ((Mark_ok H4.r.m2 H4.r.n2 (by omega) o.u o.on).mono ?_))))
      rintro _ w5 ⟨A', c', rfl, o5, g5⟩
      have ml := mkI_le mv o.u o.on
      have H5 := H4.ref (d' := d) ((H4.r.belw g5).mark2 o5 (by omega)) (.mark2 o5) g5
      have sb5 : Sb w s { s with A2 := A', n2 := (mkI mv o.u o.on).length, c2 := c' } := (Sb.mark2 o5).up (by have := u4.kp.size; omega)
      refine ⟨_, _, _, rfl, hb_st ((h1.call u4).below g5).hb (j := 2) (by simp [rsC]) fun w6 h6 k6 => ?_⟩
      have h6 : HB w6 b1 (rsC { s with A2 := A', n2 := (mkI mv o.u o.on).length, c2 := c' }) 43 := h6
      refine get4 h6 (does_fin n5 ((l5.below g5).hb.keeps k6 (Ne.symm n1)) l5.nF h5.lo (H5.st k6 (h1.call u4).nF ((Sb.mark2 o5).no h.r (by omega) (h1.call u4).hb.lt) h1.lo) ((u04.trans (.below g5)).st k6 (by omega)) sb5 ((Sb.mark2 o5).no h.r n5 l5.hb.lt) (by simp [nstp, cdO, kvs, kes, mvs, mes, k]) (by simp [nstp, cdO, kvs, kes, mvs, mes, k]) (by simp [nstp, cdO, kvs, kes, mvs, mes, k]) (by simp [nstp, cdO, kvs, kes, mvs, mes, k]) (by simp [mvs, k, hin]) (by simp [nstp, cdO, kvs, kes, mvs, mes, k]) (by simp [cdO, k, cdV, hin]) rfl)
    · refine sel_t (by simp [hin]) (get4 (h1.call u4).hb (does_fin n5 l5.hb l5.nF h5.lo H4 u04 (.refl _ _) ((Sb.refl w4 s).no h.r n5 l5.hb.lt) (by simp [nstp, cdO, kvs, kes, mvs, mes, k]) (by simp [nstp, cdO, kvs, kes, mvs, mes, k]) (by simp [nstp, cdO, kvs, kes, mvs, mes, k]) (by simp [nstp, cdO, kvs, kes, mvs, mes, k]) (by simp [mvs, k, hin]) (by simp [nstp, cdO, kvs, kes, mvs, mes, k]) (by simp [cdO, k, cdV, hin]) rfl))
  refine sel_f (by simp [k]) ?_
  have k5 := k; clear k
  by_cases k : o.k = 6
  · refine sel_t (by simp [k]) (hb_ldI h3.hb (j := 1) rfl (hb_ldB h3.hb (j := 4) rfl ((MarkE_ok H.f.rep ho.i o.on).mono ?_)))
    rintro _ w4 ⟨rfl, r4, u4⟩
    have H4 := H.call (n' := n) (H.f.call r4 u4) u4
    have u04 := u3.trans u4
    refine ⟨_, rfl, get4 (h1.call u4).hb (hb_ldI (h3.call u4).hb (j := 1) rfl ((REdge_ok H4.r o.id).mono ?_))⟩
    rintro _ w4' ⟨rfl, g4⟩
    refine ⟨_, _, _, _, _, rfl, al_new fun w4'' b6 e6 s6 h6 g6 => putE h6 rfl (edgeE d.2 o.id) fun w5 h6 k6 => ?_⟩
    have gg : Below w4.heap.size w4 w5 := HB.belK (g4.trans (g6.mono g4.size)) k6 (by have := g4.size; omega)
    have u05 := u04.trans (.below gg)
    have H5 := H4.below gg
    have L1 := (h1.call u4).below gg
    have L3 := (h3.call u4).below gg
    have L5 := (h5.call u4).below gg
    by_cases hin : o.id ∈ d.2.map E.id
    · have eb : edgeB d.2 o.id = true := (edgeB_iff _ _).2 hin
      refine sel_f (by rw [eb]; rfl) (hb_ldS L1.hb (j := 3) rfl (hb_ldI L3.hb (j := 1) rfl (hb_ldB L3.hb (j := 4) rfl ((Mark_ok H5.r.m3 H5.r.n3 (by omega) o.id o.on).mono ?_))))
      rintro _ w7 ⟨A', c', rfl, o7, g7⟩
      have ml := mkI_le me o.id o.on
      have H7 := H5.ref (d' := d) ((H5.r.belw g7).mark3 o7 (by omega)) (.mark3 o7) g7
      have sb7 : Sb w s { s with A3 := A', n3 := (mkI me o.id o.on).length, c3 := c' } := (Sb.mark3 o7).up (by have := u05.kp.size; omega)
      refine ⟨_, _, _, rfl, hb_st (L1.below g7).hb (j := 3) (by simp [rsC]) fun w8 h8 k8 => ?_⟩
      have h8 : HB w8 b1 (rsC { s with A3 := A', n3 := (mkI me o.id o.on).length, c3 := c' }) 43 := h8
      refine get4 h8 (does_fin n5 ((L5.below g7).hb.keeps k8 (Ne.symm n1)) L5.nF h5.lo (H7.st k8 L1.nF ((Sb.mark3 o7).no h.r (by omega) L1.hb.lt) h1.lo) ((u05.trans (.below g7)).st k8 (by omega)) sb7 ((Sb.mark3 o7).no h.r n5 L5.hb.lt) (by simp [nstp, cdO, kvs, kes, mvs, mes, k]) (by simp [nstp, cdO, kvs, kes, mvs, mes, k]) (by simp [nstp, cdO, kvs, kes, mvs, mes, k]) (by simp [nstp, cdO, kvs, kes, mvs, mes, k]) (by simp [nstp, cdO, kvs, kes, mvs, mes, k]) (by unfold mes; rw [if_neg (by omega), if_pos k, if_pos hin]) (by rw [cdO6 d k, cdO6 n k, if_pos hin]) rfl)
    · have eb : edgeB d.2 o.id = false := by cases hh : edgeB d.2 o.id with | false => rfl | true => exact absurd ((edgeB_iff _ _).1 hh) hin
      refine sel_t (by rw [eb]; rfl) (get4 L1.hb (does_fin n5 L5.hb L5.nF h5.lo H5 u05 (.refl _ _) ((Sb.refl w5 s).no h.r n5 L5.hb.lt) (by simp [nstp, cdO, kvs, kes, mvs, mes, k]) (by simp [nstp, cdO, kvs, kes, mvs, mes, k]) (by simp [nstp, cdO, kvs, kes, mvs, mes, k]) (by simp [nstp, cdO, kvs, kes, mvs, mes, k]) (by simp [nstp, cdO, kvs, kes, mvs, mes, k]) (by unfold mes; rw [if_neg (by omega), if_pos k, if_neg hin]) (by rw [cdO6 d k, cdO6 n k, if_neg hin]) rfl))
  refine sel_f (by simp [k]) ?_
  refine get4 h1.hb (does_fin n5 h5.hb h5.nF h5.lo H u3 (.refl _ _) ((Sb.refl w3 s).no h.r n5 h5.hb.lt) ?_ ?_ ?_ ?_ ?_ ?_ ?_ rfl) <;> simp [nstp, cdO, kvs, kes, mvs, mes, k, k1, k2, k3, k4, k5]
end
end Go.Proofs.Ytkkobfajahmfaaa.Rd
