/- access and joined, walked. Conditions: none. -/
import Derived.Test.YtfknppccgojhdaaLcG
namespace Go.Dn
open Go.RowKit
set_option linter.unusedVariables false
theorem lst_ne {l : List Nat} (h : l ≠ []) (p q : Nat) : lst p l = lst q l := by
  cases l with
  | nil => exact absurd rfl h
  | cons x l => rfl
theorem flat_nil {T : ST} (h : T.flat = []) : T = .nil := by
  cases T with
  | nil => rfl
  | node x t l r => cases t <;> simp [ST.flat] at h
/-- the same root -/
def SameC (par : Nat → Nat) (a b : Nat) : Prop := ∃ ca cb, Up par a ca ∧ Up par b cb ∧ ca.head? = cb.head?
theorem head_pre {a b c : List Nat} {y : Nat} (e : c = a ++ y :: b) : c.head? = (a ++ [y]).head? := by
  subst e; cases a <;> rfl
end Go.Dn
namespace Go.Proofs.Ytfknppccgojhdaa.Rd
open Go.Dn Go.RowKit
set_option linter.unusedVariables false
set_option maxRecDepth 100000
/-- a forest in memory, ready for calls -/
structure En (own : Nat → E) (S : Nat → Prop) (r : LC) (w : World) (N : Nat → Nd) (par : Nat → Nat) (Fo : Fst) : Prop where
  lp : Lp w r N
  rm : Rm own S r N
  fo : FoOk own S N par Fo
  n0 : 0 < r.n
  nl : r.n ≤ 1000000
theorem En.tre {own : Nat → E} {S : Nat → Prop} {r : LC} {w : World} {N : Nat → Nd} {par : Nat → Nat} {Fo : Fst} (h : En own S r w N par Fo) {T : ST} {q : Nat} (hT : Fo (T, q)) : Tre own S r N T q where
  ok := (h.fo.ok T q hT).1
  nd := (h.fo.ok T q hT).2.2.2
  inS := h.fo.inS hT
  pl := by
    rcases h.fo.pp hT with h0 | h0
    · rw [h0]; exact h.n0
    · exact h.rm.sl _ h0
  nk := h.fo.nokid hT
theorem agOf {own : Nat → E} {M : Nat → Nd} {t : ST} {u : Nat} (ht : OkS M own t u) : (t.root = 0 ∧ t.ids = []) ∨ (t.root ≠ 0 ∧ t.root ∈ t.ids ∧ Ag own t.ids (M t.root)) := by
  cases t with
  | nil => exact .inl ⟨rfl, rfl⟩
  | node y t l r => exact .inr ⟨ht.1, by simp [ST.root, ST.ids], ht.2.2.2.2.2.1⟩
/-- a tree's root gets another right child -/
theorem setR {own : Nat → E} {S : Nat → Prop} {w : World} {r : LC} {N : Nat → Nd} {y : Nat} {L R B : ST} {q : Nat} (hl : Lp w r N) (hr : Rm own S r N) (hok : OkS N own (.node y false L R) q) (hB : OkS N own B y) (hnd : (L.ids ++ y :: B.ids).Nodup) (hS : ∀ z ∈ L.ids ++ y :: B.ids, S z) (n0 : 0 < r.n) {K : World → Prop}
    {a : Addr} (ha : a = ((⟨r.g, 0, none⟩ : Addr).add ((y : Int).toNat * 13)).add 1)
    (hK : ∀ w' N', Aft r w w' N' → OkS N' own (.node y false L B) q → (∀ z, z ≠ y → N' z = N z) → (N' y).o = (N y).o → K w') :
    stW w a (.int .i64 (B.root : Int)) fun w2 => Calls Try.prog 44 #[.pointer (some ⟨r.R, 0, none⟩), .int .i64 (y : Int)] w2 fun e w3 => e = .returned (.tuple #[]) ∧ K w3 := by
  subst ha
  obtain ⟨h1, h2, h3, h4, h5, h6, h7, h8⟩ := hok
  have yS : S y := hS y (by simp)
  have rlt : ∀ (t : ST), (∀ z ∈ t.ids, S z) → t.root < r.n := fun t ht => by
    by_cases h0 : t.root = 0
    · omega
    · exact hr.sl _ (ht _ (root_mem h0))
  have llt := rlt L fun z hz => hS z (by simp [hz])
  have blt := rlt B fun z hz => hS z (by simp [hz])
  have nd := hnd
  simp only [List.nodup_append, List.nodup_cons, List.mem_cons] at nd
  obtain ⟨n1, ⟨n2, n3⟩, n4⟩ := nd
  have yL : y ∉ L.ids := fun hm => n4 y hm y (.inl rfl) rfl
  refine lc_stc hl (hr.sl y yS) rfl true rfl B.root fun w2 l2 k2 => ?_
  generalize hM : stN N y (setc true (N y) B.root) = M at l2
  have My : M y = setc true (N y) B.root := by rw [← hM, stN_same]
  have Mn : ∀ z, z ≠ y → M z = N z := fun z hz => by rw [← hM, stN_ne _ _ hz]
  have Mo : ∀ z, (M z).o = own z := fun z => by
    by_cases e : z = y
    · subst e; rw [My]; exact hr.no _
    · rw [Mn z e]; exact hr.no z
  have oL : OkS M own L y := h7.congr fun z hz => Mn z fun e => yL (e ▸ hz)
  have oB : OkS M own B y := hB.congr fun z hz => Mn z fun e => n2 (e ▸ hz)
  refine (pull_ok (S := S) l2 hr.oo hr.sm Mo (x := y) (A := L.ids) (B := B.ids) (hr.sl y yS) llt blt (by rw [My]; exact h3) (by rw [My]; rfl) (agOf oL) (agOf oB) h1 hnd hS).mono ?_
  rintro e w3 ⟨rfl, d, sd, gd, l3, k3⟩
  refine ⟨rfl, hK w3 _ ⟨l3, k2.trans k3⟩ ?_ ?_ ?_⟩
  · refine ⟨h1, by rw [stN_same, sd.up, My]; exact h2, by rw [stN_same, sd.c0, My]; exact h3, by rw [stN_same, sd.c1, My]; rfl, by rw [stN_same, sd.tn, My]; exact h5, by rw [stN_same]; exact gd, ?_, ?_⟩
    · exact oL.congr fun z hz => stN_ne _ _ fun e => yL (e ▸ hz)
    · exact oB.congr fun z hz => stN_ne _ _ fun e => n2 (e ▸ hz)
  · intro z hz; rw [stN_ne _ _ hz, Mn z hz]
  · rw [stN_same, sd.o, My]; rfl
/-- what access leaves -/
structure AccP (own : Nat → E) (S : Nat → Prop) (par : Nat → Nat) (r : LC) (w w' : World) (N N' : Nat → Nd) (Fo Fo' : Fst) (x : Nat) (a : ST) : Prop where
  en : En own S r w' N' par Fo'
  kp : Keeps (fun k => k = r.g) w w'
  top : Fo' (.node x false a .nil, 0)
  way : Up par x (a.flat ++ [x])
  un : ∀ T, Fo (T, 0) → (∀ y ∈ a.flat ++ [x], y ∉ T.ids) → Fo' (T, 0)
theorem access_l0 {own : Nat → E} {S : Nat → Prop} {par : Nat → Nat} {r : LC} {w0 : World} {Fo0 : Fst} {x : Nat} {cx : List Nat} (xS : S x) {K : World → Prop}
    (hK : ∀ w' N' Fo' B, En own S r w' N' par Fo' → Keeps (fun k => k = r.g) w0 w' → Fo' (B, 0) → lst 0 B.flat = x → (∀ T, Fo0 (T, 0) → (∀ y ∈ cx, y ∉ T.ids) → Fo' (T, 0)) → K w') :
    ∀ (n : Nat) (c : List Nat) (y : Nat) (B : ST) (N : Nat → Nd) (Fo : Fst) (w : World), c.length < n → Up par y c → (∃ d, cx = c ++ d) → En own S r w N par Fo → Keeps (fun k => k = r.g) w0 w → ((B = .nil ∧ y = x) ∨ (Fo (B, y) ∧ lst 0 B.flat = x)) → (y = 0 ∨ S y) →
      (∀ T, Fo0 (T, 0) → (∀ y ∈ cx, y ∉ T.ids) → Fo (T, 0)) → f_linkcut_Forest_access.l0 n ⟨r.R, 0, none⟩ (B.root : Int) (y : Int) w K := by
  intro n
  induction n with
  | zero => intro c y B N Fo w hc; omega
  | succ n ih =>
    intro c y B N Fo w hc hup hpre hen hk hB hy hun
    unfold f_linkcut_Forest_access.l0
    by_cases y0 : y = 0
    · subst y0
      refine sel_f (by simp) ?_
      rcases hB with ⟨_, e⟩ | ⟨h1, h2⟩
      · exact absurd e.symm (hen.fo.nz xS)
      · exact hK w N Fo B hen hk h1 h2 hun
    · have yS : S y := hy.resolve_left y0
      obtain ⟨⟨T, q⟩, hT, hyT⟩ := (hen.fo.mem y).1 yS
      refine sel_t (by simp; omega) ?_
      refine (splay_ok hen.lp hen.rm hen.nl (hen.tre hT) hyT).mono ?_
      rintro e w2 ⟨rfl, N2, L, R, t2, fl2⟩
      refine ⟨rfl, ?_⟩
      have rm2 := t2.rm hen.rm
      refine lc_at (K := fun a => stW w2 ((a.add _).add _) _ _) t2.aft.1 (rm2.sl y yS) rfl ?_
      have hBo : B = .nil ∨ Fo (B, y) := hB.imp (fun h => h.1) (fun h => h.1)
      have BT : ∀ z, z ∈ B.ids → z ∉ T.ids := by
        intro z hz hz2
        rcases hBo with rfl | hB
        · simp [ST.ids] at hz
        · have := hen.fo.uq _ _ z hB hT hz hz2
          injection this with e1 e2
          subst e1; subst e2
          exact (hen.fo.nokid hT).1 hyT
      have oB : OkS N2 own B y := by
        rcases hBo with rfl | hB
        · trivial
        · exact (hen.fo.ok B y hB).1.congr fun z hz => t2.el z (BT z hz)
      have Bn : B.ids.Nodup := by
        rcases hBo with rfl | hB
        · simp [ST.ids]
        · exact (hen.fo.ok B y hB).2.2.2
      have BS : ∀ z ∈ B.ids, S z := by
        rcases hBo with rfl | hB
        · simp [ST.ids]
        · exact hen.fo.inS hB
      have nd2 : (L.ids ++ y :: R.ids).Nodup := t2.pm.nodup_iff.2 (hen.tre hT).nd
      have tm : ∀ z, z ∈ L.ids ∨ z = y ∨ z ∈ R.ids → z ∈ T.ids := fun z hz => t2.pm.mem_iff.1 (by simpa [ST.ids] using hz)
      simp only [List.nodup_append, List.nodup_cons, List.mem_cons] at nd2
      obtain ⟨n1, ⟨n2, n3⟩, n4⟩ := nd2
      have yL : y ∉ L.ids := fun hm => n4 y hm y (.inl rfl) rfl
      have yB : y ∉ B.ids := fun hm => BT y hm hyT
      refine setR t2.aft.1 rm2 t2.ok oB (nd3 n1 Bn yL yB fun z hz hz2 => BT z hz2 (tm z (.inl hz))) (fun z hz => ?_) hen.n0 rfl fun w3 N3 a3 ok3 el3 o3 => ?_
      · simp only [List.mem_append, List.mem_cons] at hz
        rcases hz with hz | rfl | hz
        · exact hen.fo.inS hT z (tm z (.inl hz))
        · exact yS
        · exact BS z hz
      refine lc_at (K := fun a => ldI w3 ((a.add _).add 2) .i64 _) a3.1 (rm2.sl y yS) rfl (lc_ld a3.1 (rm2.sl y yS) rfl 2 (by omega) rfl ?_)
      rw [ok3.2.1]
      have oR : OkS N3 own R y := t2.ok.2.2.2.2.2.2.2.congr fun z hz => el3 z fun e => n2 (e ▸ hz)
      obtain ⟨fo3, tm3, _⟩ := hen.fo.step (N' := N3) hT fl2 t2.pm hBo ok3 oR (fun z hz => (el3 z fun e => hz (e ▸ hyT)).trans (t2.el z hz))
      have hfl : T.flat = L.flat ++ y :: R.flat := by rw [← fl2]; simp [ST.flat]
      obtain ⟨c', c1, c2⟩ := hen.fo.way hT hfl
      have ec := hup.unique c2
      obtain ⟨d, hd⟩ := hpre
      refine ih c' q (.node y false L B) N3 (stepF Fo T q y L R B) w3 ?_ c1 ⟨L.flat ++ [y] ++ d, by rw [hd, ec]; simp⟩ ⟨a3.1, ⟨rm2.oo, rm2.sm, fun z => ?_, rm2.sl⟩, fo3, hen.n0, hen.nl⟩ ((hk.trans t2.aft.2).trans a3.2) (.inr ⟨.inl rfl, ?_⟩) (hen.fo.pp hT) ?_
      · rw [ec] at hc; simp at hc; omega
      · by_cases e : z = y
        · subst e; exact o3.trans (rm2.no _)
        · rw [el3 z e]; exact rm2.no z
      · show lst 0 (L.flat ++ y :: B.flat) = x
        rw [lst_app]
        show lst y B.flat = x
        rcases hB with ⟨rfl, e⟩ | ⟨h1, h2⟩
        · exact e
        · rw [← h2]
          refine lst_ne (fun e0 => ?_) _ _
          have := (hen.fo.ok B y h1).2.1
          rw [flat_nil e0] at this
          exact this rfl
      · intro T' hT' hdis
        refine .inr (.inr ⟨hun T' hT' hdis, fun e => ?_, fun e => ?_⟩)
        · injection e with e1 e2
          subst e1
          exact hdis y (by rw [hd, ec]; simp) hyT
        · injection e with e1 e2
          exact y0 e2.symm
theorem access_ok {own : Nat → E} {S : Nat → Prop} {par : Nat → Nat} {r : LC} {w : World} {N : Nat → Nd} {Fo : Fst} (h : En own S r w N par Fo) {x : Nat} (xS : S x) :
    Calls Try.prog 30 #[.pointer (some ⟨r.R, 0, none⟩), .int .i64 (x : Int)] w fun e w' => e = .returned (.tuple #[]) ∧ ∃ N' Fo' a, AccP own S par r w w' N N' Fo Fo' x a := by
  apply f_linkcut_Forest_access.ok
  unfold f_linkcut_Forest_access.wp
  obtain ⟨c, hc⟩ := h.fo.up x xS
  refine ⟨c.length + 1, access_l0 (Fo0 := Fo) (cx := c) xS (fun w2 N2 Fo2 B en2 k2 hB hl hun => ?_) (c.length + 1) c x .nil N Fo w (by omega) hc ⟨[], by simp⟩ h (Keeps.refl _ _) (.inl ⟨rfl, rfl⟩) (.inr xS) (fun T hT _ => hT)⟩
  intro _
  have hBn : B.flat ≠ [] := fun e0 => by
    have := (en2.fo.ok B 0 hB).2.1
    rw [flat_nil e0] at this
    exact this rfl
  have xB : x ∈ B.ids := flat_mem.1 (by rw [← hl]; exact lst_mem hBn)
  refine (splay_ok en2.lp en2.rm en2.nl (en2.tre hB) xB).mono ?_
  rintro e w3 ⟨rfl, N3, a, b, t3, fl3⟩
  have hfl : B.flat = a.flat ++ x :: b.flat := by rw [← fl3]; simp [ST.flat]
  have hbn : b = .nil := by
    apply flat_nil
    cases hb : b.flat with
    | nil => rfl
    | cons z l =>
      exfalso
      rw [hfl, lst_app] at hl
      have h1 : lst x b.flat = x := hl
      have h2 : x ∈ b.flat := by
        have := lst_mem (q := x) (a := b.flat) (by rw [hb]; simp)
        rwa [h1] at this
      have nd := t3.pm.nodup_iff.2 (en2.tre hB).nd
      simp only [ST.ids, List.nodup_append, List.nodup_cons] at nd
      exact nd.2.1.1 (flat_mem.1 h2)
  subst hbn
  have fo3 := en2.fo.form (N' := N3) hB fl3 t3.pm t3.ok t3.ok.1 t3.el
  have way : Up par x (a.flat ++ [x]) := by
    have hfl : B.flat = a.flat ++ x :: [] := by rw [hfl]; rfl
    obtain ⟨c0, c1, c2⟩ := en2.fo.way hB hfl
    have : c0 = [] := c1.unique .zero
    subst this; simpa using c2
  refine And.intro rfl ⟨rfl, N3, _, a, ⟨⟨t3.aft.1, t3.rm en2.rm, fo3, h.n0, h.nl⟩, k2.trans t3.aft.2, .inl rfl, way, fun T hT hdis => ?_⟩⟩
  have ec := hc.unique way
  refine .inr ⟨hun T hT (by rw [ec]; exact hdis), fun e => ?_⟩
  injection e with e1 e2
  subst e1
  exact hdis x (by simp) xB
/-- joined: whether both have the same root -/
theorem joined_ok {own : Nat → E} {S : Nat → Prop} {par : Nat → Nat} {r : LC} {w : World} {N : Nat → Nd} {Fo : Fst} (h : En own S r w N par Fo) {a b : Nat} (aS : S a) (bS : S b) :
    Calls Try.prog 32 #[.pointer (some ⟨r.R, 0, none⟩), .int .i64 (a : Int), .int .i64 (b : Int)] w fun e w' => (∃ v, e = .returned (.bool v) ∧ (v = true ↔ SameC par a b)) ∧ ∃ N' Fo', En own S r w' N' par Fo' ∧ Keeps (fun k => k = r.g) w w' := by
  apply f_linkcut_Forest_joined.ok
  unfold f_linkcut_Forest_joined.wp
  by_cases hab : a = b
  · subst hab
    obtain ⟨c, hc⟩ := h.fo.up a aS
    exact sel_t (by simp) ⟨⟨true, rfl, by simp; exact ⟨c, c, hc, hc, rfl⟩⟩, N, Fo, h, Keeps.refl _ _⟩
  · refine sel_f (by simp; omega) ?_
    refine (access_ok h aS).mono ?_
    rintro e w1 ⟨rfl, N1, F1, ta, p1⟩
    refine ⟨rfl, (access_ok p1.en bS).mono ?_⟩
    rintro e w2 ⟨rfl, N2, F2, tb, p2⟩
    refine ⟨rfl, lc_at (K := fun A => ldI w2 ((A.add _).add 2) .i64 _) p2.en.lp (p2.en.rm.sl a aS) rfl (lc_ld p2.en.lp (p2.en.rm.sl a aS) rfl 2 (by omega) rfl ?_)⟩
    refine ⟨⟨_, rfl, ?_⟩, N2, F2, p2.en, p1.kp.trans p2.kp⟩
    have hTa : (ST.node a false ta .nil).flat = ta.flat ++ [a] := by simp [ST.flat]
    have hTb : (ST.node b false tb .nil).flat = tb.flat ++ [b] := by simp [ST.flat]
    constructor
    · intro hv
      by_cases hh : (ta.flat ++ [a]).head? = (tb.flat ++ [b]).head?
      · exact ⟨_, _, p1.way, p2.way, hh⟩
      · exfalso
        have := p2.un _ p1.top (fun y hy hy2 => by
          have hy2 := flat_mem.2 hy2
          rw [hTa] at hy2
          obtain ⟨a1, a2, ea⟩ := List.append_of_mem hy2
          obtain ⟨b1, b2, eb⟩ := List.append_of_mem hy
          have := (p1.way.pre ea).unique (p2.way.pre eb)
          rw [head_pre ea, head_pre eb, this] at hh
          exact hh rfl)
        have hu : (N2 a).up = 0 := (p2.en.fo.ok _ _ this).1.2.1
        rw [hu] at hv; simp at hv
    · rintro ⟨ca, cb, ha, hb, hh⟩
      rw [decide_eq_true_eq]
      have ea := ha.unique p1.way
      have eb := hb.unique p2.way
      by_cases hu : (N2 a).up = 0
      · exfalso
        obtain ⟨⟨T, q⟩, hT, haT⟩ := (p2.en.fo.mem a).1 aS
        rcases (p2.en.fo.ok T q hT).1.up_in a haT with ⟨h1, h2⟩ | h2
        · rw [hu] at h2; subst h2
          obtain ⟨l1, l2, el⟩ := List.append_of_mem (flat_mem.2 haT)
          obtain ⟨c0, c1, c2⟩ := p2.en.fo.way hT el
          have : c0 = [] := c1.unique .zero
          subst this
          have e3 := c2.unique ha
          have hz : ∃ z, ca.head? = some z := by
            rw [ea]
            cases ta.flat with
            | nil => exact ⟨a, rfl⟩
            | cons z l => exact ⟨z, rfl⟩
          obtain ⟨z, hz⟩ := hz
          have z1 : z ∈ T.ids := flat_mem.1 (by
            have : z ∈ ca := List.mem_of_head? hz
            rw [← e3] at this
            rw [el]; simp at this ⊢; rcases this with h | h <;> simp [h])
          have z2 : z ∈ (ST.node b false tb .nil).ids := flat_mem.1 (by
            have : z ∈ cb := List.mem_of_head? (hh ▸ hz)
            rw [hTb, ← eb]; exact this)
          have := p2.en.fo.uq _ _ z hT p2.top z1 z2
          injection this with e1 _
          rw [e1] at h1
          exact hab h1
        · rw [hu] at h2
          exact (p2.en.fo.ok T q hT).1.nz 0 h2 rfl
      · omega
end Go.Proofs.Ytfknppccgojhdaa.Rd
