/- AddV and DelV, walked. Conditions: none. -/
import Derived.Test.YtfknppccgojhdaaLcP
namespace Go.Dn
open Go.RowKit
set_option linter.unusedVariables false
theorem OM.cf {P : Program} {w : World} {k : TypeId} {b : Nat} {ks : List Int} {f g : Int → Int} (h : OM P w k b ks f) (hf : ∀ i, g i = f i) : OM P w k b ks g := by
  rw [show g = f from funext hf]; exact h
end Go.Dn
namespace Go.Proofs.Ytfknppccgojhdaa.Rd
open Go.Dn Go.RowKit
set_option linter.unusedVariables false
set_option maxRecDepth 100000
theorem TIn' : ElTy Try.prog 26 3 (.int .i64 0) 8 := ⟨by kernel_rfl, by kernel_rfl⟩
theorem W64.id {i : Int} (h : ¬ badI i) : W64 i ∧ 1 ≤ i ∧ i ≤ 2147483647 := by unfold badI at h; unfold W64; omega
theorem En.keeps {own : Nat → E} {S : Nat → Prop} {r : LC} {w w' : World} {N : Nat → Nd} {par : Nat → Nat} {Fo : Fst} {Q : Nat → Prop} (h : En own S r w N par Fo) (k : Keeps Q w w') (h1 : ¬ Q r.R) (h2 : ¬ Q r.g) : En own S r w' N par Fo := ⟨h.lp.keeps k h1 h2, h.rm, h.fo, h.n0, h.nl⟩
theorem Spr.keeps {w w' : World} {r : LC} {A : Option Addr} {c : Nat} {sp : List Nat} {Q : Nat → Prop} (h : Spr w r A c sp) (k : Keeps Q w w') (hA : ∀ a, A = some a → ¬ Q a.block) : Spr w' r A c sp := ⟨h.v, h.own.keeps k hA, h.ap, h.lt⟩
section
variable {w w' : World} {r r' : LC} {vs : List Int} {es : List E} {N : Nat → Nd} {own : Nat → E} {S : Nat → Prop} {par : Nat → Nat} {Fo : Fst} {vn en : Int → Nat} {nf : Int → Int} {nk : List Int} {A : Option Addr} {c : Nat} {sp sp' : List Nat} {i : Nat} {e : E}
/-- what is there behind a make -/
structure MadeP (w w' : World) (r r' : LC) (vs : List Int) (es : List E) (own : Nat → E) (S : Nat → Prop) (par : Nat → Nat) (N : Nat → Nd) (Fo : Fst) (vn en : Int → Nat) (nf : Int → Int) (nk : List Int) (A : Option Addr) (c : Nat) (sp' : List Nat) (i : Nat) (e : E) : Prop where
  iS : ¬ S i
  i0 : i ≠ 0
  il : i < r'.n
  env : En (setO own i e) (fun y => S y ∨ y = i) r' w' (stN N i (mkNd e)) (setP par i 0) (fun p => p = (.node i false .nil .nil, 0) ∨ Fo p)
  adj : ∀ y z, AdjS (fun y => S y ∨ y = i) (setP par i 0) y z ↔ Gn es vn en y z
  own0 : setO own i e 0 = zE
  ov : OM Try.prog w' TI r'.mv vs (fun i => (vn i : Int))
  oe : OM Try.prog w' TI r'.me (es.map E.id) (fun i => (en i : Int))
  on : OM Try.prog w' TI r'.mn nk nf
  spr : Spr w' r' A c sp'
  spd : ∀ j ∈ sp', ¬ (S j ∨ j = i) ∧ j ≠ 0
  spn : sp'.Nodup
  cnt : r'.n = 2 + vs.length + es.length + sp'.length
  nb : r'.n ≤ 10000
  dv : r'.mv ≠ r'.R ∧ r'.mv ≠ r'.g ∧ r'.mv ≠ r'.me ∧ r'.mv ≠ r'.mn
  de : r'.me ≠ r'.R ∧ r'.me ≠ r'.g ∧ r'.me ≠ r'.mn
  dn : r'.mn ≠ r'.R ∧ r'.mn ≠ r'.g
  da : ∀ a, A = some a → a.block ≠ r'.mv ∧ a.block ≠ r'.me ∧ a.block ≠ r'.mn
  kp : Keeps (Fp r A) w w'
  fr : ∀ k, Fp r' A k → Fp r A k ∨ w.heap.size ≤ k
  R : r'.R = r.R
  mv : r'.mv = r.mv
  me : r'.me = r.me
  mn : r'.mn = r.mn
theorem Rep'.made (h : Rep' w r vs es N own S par Fo vn en nf nk A c sp) (hl : es.length ≤ 2048) (m : MkP w w' r r' N A c sp sp' i e) (he : e = zE ∨ 0 < e.id) (hsm : Sm (setO own i e) (fun y => S y ∨ y = i)) : MadeP w w' r r' vs es own S par N Fo vn en nf nk A c sp' i e := by
  have iS : ¬ S i ∧ i ≠ 0 := by
    rcases m.it with ⟨e1, _⟩ | ⟨_, _, e1, _⟩
    · exact h.spd i (by rw [e1]; simp)
    · rw [e1]
      exact ⟨fun hs => Nat.lt_irrefl _ (h.env.rm.sl _ hs), by have := h.env.n0; omega⟩
  have hvl := h.gr.vl
  have hcnt : r'.n = 2 + vs.length + es.length + sp'.length ∧ r'.n ≤ 10000 := by
    have hh := h.cnt; have := h.nb
    rcases m.it with ⟨e1, e2⟩ | ⟨e1, e2, _, e3⟩
    · have h5 : sp.length = sp'.length + 1 := by rw [e1]; simp
      omega
    · have h5 : sp.length = 0 := by rw [e1]; rfl
      have h6 : sp'.length = 0 := by rw [e2]; rfl
      omega
  have il : i < r'.n := by
    rcases m.it with ⟨e1, e2⟩ | ⟨e1, e2, e3, e4⟩
    · rw [e2]; exact h.spr.lt i (by rw [e1]; simp)
    · omega
  have nle : r.n ≤ r'.n := by rcases m.it with ⟨e1, e2⟩ | ⟨e1, e2, e3, e4⟩ <;> omega
  have hmo : ∀ x, (stN N i (mkNd e) x).o = setO own i e x := fun x => by
    by_cases hx : x = i
    · rw [hx, stN_same, setO_same]; rfl
    · rw [stN_ne _ _ hx, setO_ne _ _ hx]; exact h.env.rm.no x
  have ho : OwnOk (setO own i e) := fun x => by
    by_cases hx : x = i
    · rw [hx, setO_same]; exact he
    · rw [setO_ne _ _ hx]; exact h.env.rm.oo x
  have hag : Ag (setO own i e) [i] (mkNd e) := by
    have hone := IsMx.one ho i
    rw [setO_same] at hone
    rcases he with h0 | h0
    · refine ⟨?_, ?_, ?_⟩
      · show IsMx _ _ (if 0 < e.id then e else zE); rw [if_neg (by rw [h0]; decide), ← h0]; exact hone
      · show (if 0 < e.id then e.w else 0) = _; rw [if_neg (by rw [h0]; decide)]; simp [wOf, setO_same, h0, zE]
      · show (if 0 < e.id then (1 : Int) else 0) = _; rw [if_neg (by rw [h0]; decide)]; simp [kOf, setO_same, h0, zE, k1]
    · refine ⟨?_, ?_, ?_⟩
      · show IsMx _ _ (if 0 < e.id then e else zE); rw [if_pos h0]; exact hone
      · show (if 0 < e.id then e.w else 0) = _; rw [if_pos h0]; simp [wOf, setO_same]
      · show (if 0 < e.id then (1 : Int) else 0) = _; rw [if_pos h0]; simp [kOf, setO_same, k1, h0]
  have hok : OkS (stN N i (mkNd e)) (setO own i e) (.node i false .nil .nil) 0 := by
    refine ⟨iS.2, by rw [stN_same]; rfl, by rw [stN_same]; rfl, by rw [stN_same]; rfl, by rw [stN_same]; rfl, by rw [stN_same]; exact hag, trivial, trivial⟩
  have hsz := m.kp.size
  have g' : ∀ k, k < w.heap.size → k ≠ r.g → k ≠ r'.g := fun k hk hne e => by rcases m.g with h | h <;> omega
  have mvl := h.ov.lt
  have mel := h.oe.lt
  have mnl := h.on.lt
  have al : ∀ a, A = some a → a.block < w.heap.size := fun a ha => (h.spr.own.block a ha).2
  have dv := h.dv; have de := h.de; have dn := h.dn
  refine ⟨iS.1, iS.2, il, ⟨m.lp, ⟨ho, hsm, hmo, ?_⟩, h.env.fo.add iS.1 (fun y hy => setO_ne _ _ hy) (fun y hy => stN_ne _ _ hy) hok, by omega, by omega⟩, ?_, ?_, ?_, ?_, ?_, m.spr, ?_, ?_, hcnt.1, hcnt.2, ?_, ?_, ?_, ?_, ?_, ?_, m.R, m.mv, m.me, m.mn⟩
  · rintro x (hx | rfl)
    · exact Nat.lt_of_lt_of_le (h.env.rm.sl x hx) nle
    · exact il
  · intro y z
    rw [adj_add iS.1 iS.2 h.env.fo.ps (fun y hy => h.env.fo.nz hy)]
    exact h.adj y z
  · rw [setO_ne _ _ (fun h => iS.2 h.symm)]; exact h.own0
  · rw [m.mv]; exact h.ov.keeps m.kp (by rintro (e | e); exact dv.1 e; exact dv.2.1 e)
  · rw [m.me]; exact h.oe.keeps m.kp (by rintro (e | e); exact de.1 e; exact de.2.1 e)
  · rw [m.mn]; exact h.on.keeps m.kp (by rintro (e | e); exact dn.1 e; exact dn.2 e)
  · intro j hj
    have : j ∈ sp ∧ j ≠ i := by
      rcases m.it with ⟨e1, e2⟩ | ⟨e1, e2, e3, e4⟩
      · have hn := h.spn
        rw [e1] at hn ⊢
        rw [List.nodup_append] at hn
        exact ⟨by simp [hj], fun e => hn.2.2 j hj i (by simp) e⟩
      · rw [e2] at hj; cases hj
    exact ⟨fun hh => hh.elim (h.spd j this.1).1 this.2, (h.spd j this.1).2⟩
  · rcases m.it with ⟨e1, e2⟩ | ⟨e1, e2, e3, e4⟩
    · have hn := h.spn
      rw [e1, List.nodup_append] at hn; exact hn.1
    · rw [e2]; exact .nil
  · rw [m.mv, m.R, m.me, m.mn]; exact ⟨dv.1, g' _ mvl dv.2.1, dv.2.2⟩
  · rw [m.R, m.me, m.mn]; exact ⟨de.1, g' _ mel de.2.1, de.2.2⟩
  · rw [m.R, m.mn]; exact ⟨dn.1, g' _ mnl dn.2⟩
  · rw [m.mv, m.me, m.mn]; exact h.da
  · exact m.kp.mono fun k _ hk => hk.elim .inl fun h => .inr (.inl h)
  · rintro k (rfl | rfl | rfl | rfl | rfl | ⟨a, ha, rfl⟩)
    · rw [m.R]; exact .inl (.inl rfl)
    · exact m.g.imp (fun h => .inr (.inl h)) id
    · rw [m.mv]; exact .inl (.inr (.inr (.inl rfl)))
    · rw [m.me]; exact .inl (.inr (.inr (.inr (.inl rfl))))
    · rw [m.mn]; exact .inl (.inr (.inr (.inr (.inr (.inl rfl)))))
    · exact .inl (.inr (.inr (.inr (.inr (.inr ⟨a, ha, rfl⟩)))))
theorem spare_app (h : Lp w r N) (hs : Spr w r A c sp) {b : Nat} {t : TypeId} (hb : HB w b #[.int .i64 (i : Int)] t) (hl : sp.length ≤ 100000) {K : Value → World → Prop}
    (hK : ∀ A' c' w', OwnI w' r.B TI (some A') c' (zs (sp ++ [i])) → Keeps (fun k => ∃ a, A = some a ∧ a.block = k) w w' → (A = some A' ∨ w.heap.size ≤ A'.block) → K (.slice (some A') (sp ++ [i]).length c') w') :
    Runs Try.prog (Builtin.append_ #[26, 26] 26 #[.slice A sp.length c, .slice (some (⟨b, 0, none⟩ : Addr)) 1 1]) w K := by
  have ho : OwnW w r.B TI A c ((zs sp).map (.int .i64)) := by
    have := hs.own
    unfold OwnI at this
    unfold OwnW
    rw [List.length_map]; exact this
  have hB : r.B ≤ w.heap.size := by have := h.hB; have := h.R_lt; omega
  have hlz : ((zs sp).map (Value.int .i64)).length = sp.length := by simp [zs]
  refine appW_runs TIn' rfl ho (by simp [zs]) hb rfl hB (by rw [hlz]; omega) (by rw [hlz]; omega) fun A' c' w' o' k' f' => ?_
  have e : ((zs sp).map (Value.int .i64) ++ [.int .i64 (i : Int)]) = (zs (sp ++ [i])).map (Value.int .i64) := by simp [zs]
  rw [e] at o' ⊢
  rw [show ((zs (sp ++ [i])).map (Value.int .i64)).length = (sp ++ [i]).length by simp [zs]]
  refine hK A' c' w' ?_ (k'.mono fun k _ hk => ?_) f'
  · unfold OwnW at o'
    unfold OwnI
    rw [List.length_map] at o'; exact o'
  · cases A with
    | none => simp [Value.ownBlock] at hk
    | some a => exact ⟨a, rfl, by simpa [Value.ownBlock] using hk.symm⟩
theorem spare_put (h : Lp w r N) {A' : Addr} {c' : Nat} {sp' : List Nat} (ho : OwnI w r.B TI (some A') c' (zs sp')) (hne : A'.block ≠ r.R ∧ A'.block ≠ r.g) (hlt : ∀ i ∈ sp', i < r.n) {K : World → Prop}
    (hK : ∀ w', Lp w' { r with sp := .slice (some A') sp'.length c' } N → Spr w' { r with sp := .slice (some A') sp'.length c' } (some A') c' sp' → Keeps (fun k => k = r.R) w w' → K w') : stW w ((⟨r.R, 0, none⟩ : Addr).add 4) (.slice (some A') sp'.length c') K := by
  obtain ⟨wr, l, k⟩ := h.setSp (.slice (some A') sp'.length c')
  refine stW_intro wr (hK _ l ⟨rfl, ho.keeps k fun a ha => by injection ha with ha; subst ha; exact hne.1, fun a ha => by injection ha with ha; subst ha; exact hne, hlt⟩ k)
end
instance (i : Int) : Decidable (badI i) := inferInstanceAs (Decidable (_ ∨ _))
/-- what AddV answers -/
def addVC (vs : List Int) (v : Int) : Int := if badI v then 1 else if v ∈ vs then 50 else if 2048 ≤ vs.length then 55 else 0
def addVs (vs : List Int) (v : Int) : List Int := if addVC vs v = 0 then v :: vs else vs
theorem AddV_ok {w : World} {F : Nat → Prop} {R : Nat} {vs : List Int} {es : List E} (h : Rep w F R vs es) {v : Int} :
    Calls Try.prog 23 #[.pointer (some ⟨R, 0, none⟩), .int .i64 v] w fun e w' => e = .returned (.int .i64 (addVC vs v)) ∧ ∃ F', Rep w' F' R (addVs vs v) es ∧ Upd F w w' F' := by
  have h0 := h
  apply f_linkcut_Forest_AddV.ok
  unfold f_linkcut_Forest_AddV.wp
  refine (badId_ok v w).mono ?_
  rintro e w1 ⟨⟨b, rfl, hb⟩, rfl⟩
  refine ⟨b, rfl, ?_⟩
  have same : ∀ {w'}, Below w1.heap.size w1 w' → addVC vs v ≠ 0 → ∃ F', Rep w' F' R (addVs vs v) es ∧ Upd F w1 w' F' := fun hb hc => ⟨F, by unfold addVs; rw [if_neg hc]; exact h0.below hb, Keeps.of_below hb, fun k hk => .inl hk⟩
  by_cases hbad : badI v
  · have e1 : addVC vs v = 1 := by unfold addVC; rw [if_pos hbad]
    exact sel_t (hb.2 hbad) ⟨by rw [e1], same (Below.refl _ _) (by rw [e1]; decide)⟩
  refine sel_f (Bool.eq_false_iff.2 fun hh => hbad (hb.1 hh)) ?_
  obtain ⟨wv, v1, v2⟩ := W64.id hbad
  obtain ⟨r, N, own, S, par, Fo, vn, en, nf, nk, A, c, sp, rfl, h2, h3⟩ := h
  have pv := h3.gr.vn_pos h3.tr.nz v
  refine ⟨_, h3.cm.1, h3.ov.look MTi wv ⟨_, rfl, ?_⟩⟩
  by_cases hv : v ∈ vs
  · have e1 : addVC vs v = 50 := by unfold addVC; rw [if_neg hbad, if_pos hv]
    have := pv.2 hv
    exact sel_t (by simp; omega) ⟨by rw [e1], same (Below.refl _ _) (by rw [e1]; decide)⟩
  have vz := h3.gr.vz v hv
  refine sel_f (by simp [vz]) ⟨_, h3.cm.1, h3.ov.len MTi ⟨_, rfl, ?_⟩⟩
  by_cases hl : 2048 ≤ vs.length
  · have e1 : addVC vs v = 55 := by unfold addVC; rw [if_neg hbad, if_neg hv, if_pos hl]
    exact sel_t (by simp; omega) ⟨by rw [e1], same (Below.refl _ _) (by rw [e1]; decide)⟩
  have e1 : addVC vs v = 0 := by unfold addVC; rw [if_neg hbad, if_neg hv, if_neg hl]
  refine sel_f (by simp; omega) (drW_intro ?_)
  have hd : Rep' w1.drew r vs es N own S par Fo vn en nf nk A c sp := h3.below (Below.refl _ _).drew
  have hel := h3.gr.el h3.tr h3.adj
  have hvl := h3.gr.vl
  refine ⟨fun w' => w'.cell? ((⟨r.R, 0, none⟩ : Addr).add 1) = some (.map (some r.mv)), hd.cm.1, _, fun w' h => h, ?_⟩
  refine (make_ok (e := zE) hd.env.lp (by have := hd.nb; omega) hd.env.n0 hd.spr).mono ?_
  rintro e w2 ⟨r', sp', i, rfl, m⟩
  have iS : ¬ S i := by
    rcases m.it with ⟨e1, _⟩ | ⟨_, _, e1, _⟩
    · exact (h3.spd i (by rw [e1]; simp)).1
    · rw [e1]; exact fun hs => Nat.lt_irrefl _ (h3.env.rm.sl _ hs)
  have g2 := h3.gr.addV iS hv ⟨v1, v2⟩ (by omega)
  have M := hd.made (by omega) m (.inl rfl) (g2.sm (by omega))
  have c2 : w2.cell? ((⟨r.R, 0, none⟩ : Addr).add 1) = some (.map (some r.mv)) := by
    rw [← M.R, M.env.lp.cellR, ← M.mv]; rfl
  refine ⟨_, rfl, c2, ?_⟩
  rw [← M.mv]
  refine M.ov.upd MTi wv (W64.nat (by have := M.il; have := M.nb; omega)) (by omega) fun w3 o3 k3 => ?_
  rw [if_neg hv] at o3
  refine ⟨by rw [e1], Fp r' A, ⟨r', stN N i (mkNd zE), setO own i zE, fun y => S y ∨ y = i, setP par i 0, fun p => p = (.node i false .nil .nil, 0) ∨ Fo p, setI vn v i, en, nf, nk, A, c, sp', M.R, fun _ => Iff.rfl, ?_⟩, ?_⟩
  · unfold addVs; rw [if_pos e1]
    refine ⟨M.env.keeps k3 (fun e => M.dv.1 e.symm) (fun e => M.dv.2.1 e.symm), g2, fun y z => (M.adj y z).trans (gn_addV h3.gr hv y z).symm, M.own0, ?_, M.oe.keeps k3 (fun e => M.dv.2.2.1 e.symm), M.on.keeps k3 (fun e => M.dv.2.2.2 e.symm), ?_, ?_, M.spr.keeps k3 fun a ha => (M.da a ha).1, M.spd, M.spn, ?_, M.nb, M.dv, M.de, M.dn, M.da⟩
    · exact o3.cf fun j => by unfold setI; split <;> simp_all
    · intro u hu
      rcases List.mem_cons.1 hu with rfl | hu
      · rw [h3.on.z _ (fun hm => hv (h3.nkv _ hm))]
        exact (deg_zero.2 fun e he => ⟨fun h => hv (by rw [← h]; exact (h3.gr.er e he).2.2.1), fun h => hv (by rw [← h]; exact (h3.gr.er e he).2.2.2.1)⟩).symm
      · exact h3.nfd u hu
    · exact fun u hu => .tail _ (h3.nkv u hu)
    · have := M.cnt; simp; omega
  · have kall : Keeps (Fp r A) w1 w3 := (((Keeps.refl _ _).drew).trans M.kp).trans (k3.mono fun k _ hk => .inr (.inr (.inl (by rw [hk, M.mv]))))
    exact ⟨kall.mono fun k _ hk => (h2 k).2 hk, fun k hk => (M.fr k hk).imp (h2 k).2 id⟩
/-- what DelV answers -/
def delVC (vs : List Int) (es : List E) (v : Int) : Int := if badI v then 1 else if v ∉ vs then 51 else if 0 < deg es v then 52 else 0
def delVs (vs : List Int) (es : List E) (v : Int) : List Int := if delVC vs es v = 0 then vs.erase v else vs
theorem DelV_ok {w : World} {F : Nat → Prop} {R : Nat} {vs : List Int} {es : List E} (h : Rep w F R vs es) {v : Int} :
    Calls Try.prog 25 #[.pointer (some ⟨R, 0, none⟩), .int .i64 v] w fun e w' => e = .returned (.int .i64 (delVC vs es v)) ∧ ∃ F', Rep w' F' R (delVs vs es v) es ∧ Upd F w w' F' := by
  have h0 := h
  apply f_linkcut_Forest_DelV.ok
  unfold f_linkcut_Forest_DelV.wp
  refine (badId_ok v w).mono ?_
  rintro e w1 ⟨⟨b, rfl, hb⟩, rfl⟩
  refine ⟨b, rfl, ?_⟩
  have same : delVC vs es v ≠ 0 → ∃ F', Rep w1 F' R (delVs vs es v) es ∧ Upd F w1 w1 F' := fun hc => ⟨F, by unfold delVs; rw [if_neg hc]; exact h0, Keeps.refl _ _, fun k hk => .inl hk⟩
  by_cases hbad : badI v
  · have e1 : delVC vs es v = 1 := by unfold delVC; rw [if_pos hbad]
    exact sel_t (hb.2 hbad) ⟨by rw [e1], same (by rw [e1]; decide)⟩
  refine sel_f (Bool.eq_false_iff.2 fun hh => hbad (hb.1 hh)) ?_
  obtain ⟨wv, v1, v2⟩ := W64.id hbad
  obtain ⟨r, N, own, S, par, Fo, vn, en, nf, nk, A, c, sp, rfl, h2, h3⟩ := h
  have pv := h3.gr.vn_pos h3.tr.nz v
  refine ⟨_, h3.cm.1, h3.ov.look MTi wv ⟨_, rfl, ?_⟩⟩
  by_cases hv : ¬ v ∈ vs
  · have e1 : delVC vs es v = 51 := by unfold delVC; rw [if_neg hbad, if_pos hv]
    exact sel_t (by simp [h3.gr.vz v hv]) ⟨by rw [e1], same (by rw [e1]; decide)⟩
  have hv : v ∈ vs := Classical.not_not.1 hv
  have vnz := pv.2 hv
  refine sel_f (by simp; omega) ⟨_, h3.cm.2.2, h3.on.look MTi wv ⟨_, rfl, ?_⟩⟩
  rw [h3.nfd v hv]
  by_cases hdg : 0 < deg es v
  · have e1 : delVC vs es v = 52 := by unfold delVC; rw [if_neg hbad, if_neg (fun h => h hv), if_pos hdg]
    exact sel_t (by simpa using hdg) ⟨by rw [e1], same (by rw [e1]; decide)⟩
  have e1 : delVC vs es v = 0 := by unfold delVC; rw [if_neg hbad, if_neg (fun h => h hv), if_neg hdg]
  refine sel_f (by simpa using hdg) (drW_intro ?_)
  have d0 := deg_zero.1 (show deg es v = 0 by have := deg_nn es v; omega)
  have hd : Rep' w1.drew r vs es N own S par Fo vn en nf nk A c sp := h3.below (Below.refl _ _).drew
  have vS := (h3.gr.vS v hv).1
  refine ⟨fun w' => Lp w' r N, hd.env.lp, A, sp.length, c, fun w' h => by rw [h.cellR]; show some r.sp = _; rw [hd.spr.v], _, fun w' h => by rw [h.cellR]; rfl, hd.ov.look MTi wv ⟨_, rfl, hd.env.lp, ?_⟩⟩
  refine al_new fun w2 b2 eb sb hb2 g2 => ?_
  have r2 := hd.below g2
  have hb2 : HB w2 b2 #[.int .i64 (vn v : Int)] TI := hb2
  refine ⟨r2.env.lp, spare_app r2.env.lp r2.spr hb2 (by have := r2.cnt; have := r2.nb; omega) fun A' c' w3 o3 k3 f3 => ?_⟩
  have nR : ∀ a, A = some a → ¬ Fp r none a.block := by
    rintro a ha (h | h | h | h | h | ⟨_, h, _⟩)
    · exact (r2.spr.ap a ha).1 h
    · exact (r2.spr.ap a ha).2 h
    · exact (r2.da a ha).1 h
    · exact (r2.da a ha).2.1 h
    · exact (r2.da a ha).2.2 h
    · cases h
  have nA : ∀ k, Fp r none k → ¬ ∃ a, A = some a ∧ a.block = k := by rintro k hk ⟨a, ha, rfl⟩; exact nR a ha hk
  have nA' : ¬ Fp r none A'.block := fun hk => by
    rcases f3 with h | h
    · exact nA _ hk ⟨A', h, rfl⟩
    · have : A'.block < w2.heap.size := r2.lt _ (by rcases hk with h | h | h | h | h | ⟨_, h, _⟩; exact .inl h; exact .inr (.inl h); exact .inr (.inr (.inl h)); exact .inr (.inr (.inr (.inl h))); exact .inr (.inr (.inr (.inr (.inl h)))); cases h)
      omega
  have l3 : Lp w3 r N := r2.env.lp.keeps k3 (nA _ (.inl rfl)) (nA _ (.inr (.inl rfl)))
  refine ⟨_, _, _, rfl, l3, ?_⟩
  refine spare_put l3 o3 ⟨fun e => nA' (.inl e), fun e => nA' (.inr (.inl e))⟩ (fun i hi => ?_) fun w4 l4 s4 k4 => ?_
  · rcases List.mem_append.1 hi with hi | hi
    · exact hd.spr.lt i hi
    · rw [List.mem_singleton.1 hi]; exact hd.env.rm.sl _ vS
  have ov4 : OM Try.prog w4 TI r.mv vs (fun i => (vn i : Int)) := (r2.ov.keeps k3 (nA _ (.inr (.inr (.inl rfl))))).keeps k4 r2.dv.1
  have oe4 : OM Try.prog w4 TI r.me (es.map E.id) (fun i => (en i : Int)) := (r2.oe.keeps k3 (nA _ (.inr (.inr (.inr (.inl rfl)))))).keeps k4 r2.de.1
  have on4 : OM Try.prog w4 TI r.mn nk nf := (r2.on.keeps k3 (nA _ (.inr (.inr (.inr (.inr (.inl rfl))))))).keeps k4 r2.dn.1
  refine ⟨_, (l4.cellR 1).trans rfl, ov4.del MTi wv fun w5 o5 k5 => ⟨rfl, ?_⟩⟩
  have l5 := l4.keeps k5 (fun e => r2.dv.1 e.symm) (fun e => r2.dv.2.1 e.symm)
  have on5 := on4.keeps k5 (fun e => r2.dv.2.2.2 e.symm)
  refine ⟨_, (l5.cellR 3).trans rfl, on5.del MTi wv fun w6 o6 k6 => ⟨rfl, by rw [e1], ?_⟩⟩
  have l6 := l5.keeps k6 (fun e => r2.dn.1 e.symm) (fun e => r2.dn.2 e.symm)
  have iso : ∀ z, ¬ AdjS S par (vn v) z := fun z hz => by
    obtain ⟨e, he, hh, _⟩ := gn_of_v h3.gr hv ((h3.adj _ _).1 hz)
    rcases hh with hh | hh
    · exact (d0 e he).1 hh
    · exact (d0 e he).2 hh
  have vsp : vn v ∉ sp := fun hm => (h3.spd _ hm).1 vS
  refine ⟨Fp { r with sp := .slice (some A') (sp ++ [vn v]).length c' } (some A'), ⟨{ r with sp := .slice (some A') (sp ++ [vn v]).length c' }, N, own, fun y => S y ∧ y ≠ vn v, par, fun p => Fo p ∧ vn v ∉ p.1.ids, setI vn v 0, en, fun j => if j = v then 0 else nf j, nk.erase v, some A', c', sp ++ [vn v], rfl, fun _ => Iff.rfl, ?_⟩, ?_⟩
  · unfold delVs; rw [if_pos e1]
    refine ⟨⟨l6, ⟨h3.env.rm.oo, h3.env.rm.sm.mono fun y hy => ⟨hy.1, rfl⟩, h3.env.rm.no, fun y hy => h3.env.rm.sl y hy.1⟩, h3.env.fo.drop iso vS, h3.env.n0, h3.env.nl⟩, h3.gr.delV hv d0, fun y z => ((adj_drop iso y z).trans (h3.adj y z)).trans (gn_delV d0 y z).symm, h3.own0, ?_, (oe4.keeps k5 (fun e => r2.dv.2.2.1 e.symm)).keeps k6 (fun e => r2.de.2.2 e), o6, ?_, ?_, (s4.keeps k5 ?_).keeps k6 ?_, ?_, ?_, ?_, h3.nb, r2.dv, r2.de, r2.dn, ?_⟩
    · exact (o5.keeps k6 (fun e => r2.dv.2.2.2 e)).cf fun j => by unfold setI; split <;> simp_all
    · intro u hu
      have : u ≠ v := fun e => by subst e; exact List.Nodup.not_mem_erase h3.gr.vnd hu
      show (if u = v then 0 else nf u) = _
      rw [if_neg this]; exact h3.nfd u (List.mem_of_mem_erase hu)
    · intro u hu
      have : u ≠ v := fun e => by subst e; exact List.Nodup.not_mem_erase h3.on.nd hu
      exact (List.mem_erase_of_ne this).2 (h3.nkv u (List.mem_of_mem_erase hu))
    · rintro a ha h; injection ha with ha; subst ha; exact nA' (.inr (.inr (.inl h)))
    · rintro a ha h; injection ha with ha; subst ha; exact nA' (.inr (.inr (.inr (.inr (.inl h)))))
    · intro j hj
      rcases List.mem_append.1 hj with hj | hj
      · exact ⟨fun h => (h3.spd j hj).1 h.1, (h3.spd j hj).2⟩
      · rw [List.mem_singleton.1 hj]; exact ⟨fun h => h.2 rfl, vnz⟩
    · rw [List.nodup_append]
      exact ⟨h3.spn, by simp, fun a ha b hb e => by rw [List.mem_singleton.1 hb] at e; exact vsp (e ▸ ha)⟩
    · have := h3.cnt; have := List.length_pos_of_mem hv
      show r.n = _
      rw [List.length_erase_of_mem hv, List.length_append]; simp; omega
    · rintro a ha; injection ha with ha; subst ha
      exact ⟨fun h => nA' (.inr (.inr (.inl h))), fun h => nA' (.inr (.inr (.inr (.inl h)))), fun h => nA' (.inr (.inr (.inr (.inr (.inl h)))))⟩
  · have kall : Keeps (Fp r A) w1 w6 := by
      refine (((((Keeps.refl _ _).drew.trans (.of_below g2)).trans (k3.mono fun k _ hk => .inr (.inr (.inr (.inr (.inr hk)))))).trans (k4.mono fun k _ hk => .inl hk)).trans (k5.mono fun k _ hk => .inr (.inr (.inl hk)))).trans (k6.mono fun k _ hk => .inr (.inr (.inr (.inr (.inl hk)))))
    refine ⟨kall.mono fun k _ hk => (h2 k).2 hk, ?_⟩
    rintro k (h | h | h | h | h | ⟨a, ha, rfl⟩)
    · exact .inl ((h2 k).2 (.inl h))
    · exact .inl ((h2 k).2 (.inr (.inl h)))
    · exact .inl ((h2 k).2 (.inr (.inr (.inl h))))
    · exact .inl ((h2 k).2 (.inr (.inr (.inr (.inl h)))))
    · exact .inl ((h2 k).2 (.inr (.inr (.inr (.inr (.inl h))))))
    · injection ha with ha; subst ha
      rcases f3 with h | h
      · exact .inl ((h2 _).2 (.inr (.inr (.inr (.inr (.inr ⟨_, h, rfl⟩))))))
      · exact .inr (by have h1 := g2.size; have h2 : w1.drew.heap.size = w1.heap.size := rfl; omega)
end Go.Proofs.Ytfknppccgojhdaa.Rd
