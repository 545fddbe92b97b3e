/- root and part, walked: the way to a node is turned; a node is parted from its neighbour. Conditions: none. -/
import Derived.Test.YtfknppccgojhdaaLcH
namespace Go.Dn
open Go.RowKit
set_option linter.unusedVariables false
def nxt : List Nat → Nat → Nat
  | [], _ => 0
  | [_], _ => 0
  | a :: b :: l, y => if y = a then b else nxt (b :: l) y
theorem nxt_ne {a : Nat} {l : List Nat} {y : Nat} (h : y ≠ a) : nxt (a :: l) y = nxt l y := by
  cases l with
  | nil => rfl
  | cons b l => simp [nxt, h]
theorem nxt_mem : ∀ {l : List Nat} {y : Nat}, nxt l y ≠ 0 → nxt l y ∈ l
  | [], _, h => absurd rfl h
  | [_], _, h => absurd rfl h
  | a :: b :: l, y, h => by
    by_cases e : y = a
    · simp [nxt, e]
    · rw [nxt_ne e] at h ⊢
      exact List.mem_cons_of_mem _ (nxt_mem h)
theorem nxt_par {par : Nat → Nat} : ∀ {l : List Nat} {q y : Nat}, Chn par q l → l.Nodup → y ∈ l → nxt l y ≠ 0 → par (nxt l y) = y
  | [], _, _, _, _, hy, _ => by simp at hy
  | [_], _, _, _, _, _, h => absurd rfl h
  | a :: b :: l, q, y, hc, nd, hy, h => by
    by_cases e : y = a
    · subst e
      simp only [nxt, if_true]
      exact hc.2.1
    · rw [nxt_ne e] at h ⊢
      exact nxt_par hc.2 (List.nodup_cons.1 nd).2 (by simpa [e] using hy) h
theorem par_nxt {par : Nat → Nat} : ∀ {l : List Nat} {q y z : Nat}, Chn par q l → l.Nodup → z ∈ l → par z = y → y ∈ l → (∀ q', q' = q → q' ∉ l) → nxt l y = z
  | [], _, _, _, _, _, hz, _, _, _ => by simp at hz
  | [a], q, y, z, hc, nd, hz, hp, hy, hq => by
    simp only [List.mem_singleton] at hz hy
    subst hz
    exact absurd (by rw [← hp, hc.1] at hy; exact hy) (by have := hq q rfl; simpa using this)
  | a :: b :: l, q, y, z, hc, nd, hz, hp, hy, hq => by
    rw [List.nodup_cons] at nd
    by_cases ez : z = a
    · subst ez
      have : y = q := by rw [← hp]; exact hc.1
      subst this
      exact absurd hy (hq y rfl)
    · have hz2 : z ∈ b :: l := by simpa [ez] using hz
      by_cases e : y = a
      · subst e
        simp only [nxt, if_true]
        -- whose par is the head: the one behind it
        by_cases eb : z = b
        · exact eb.symm
        · exfalso
          have key : ∀ {l : List Nat} {q : Nat}, Chn par q l → z ∈ l → z = l.head?.getD 0 ∨ par z ∈ l := by
            intro l
            induction l with
            | nil => intro q _ hz; simp at hz
            | cons c l ih =>
              intro q hc hz
              by_cases e : z = c
              · exact .inl (by simp [e])
              · have hz' : z ∈ l := by simpa [e] using hz
                rcases ih hc.2 hz' with h | h
                · cases l with
                  | nil => simp at hz'
                  | cons d l =>
                    simp at h; subst h
                    exact .inr (by rw [hc.2.1]; simp)
                · exact .inr (List.mem_cons_of_mem _ h)
          rcases key hc.2 hz2 with h | h
          · simp at h; exact eb h
          · rw [hp] at h; exact nd.1 h
      · rw [nxt_ne e]
        exact par_nxt hc.2 nd.2 hz2 hp (by simpa [e] using hy) (fun q' hq' => by subst hq'; exact nd.1)
theorem lst_rev (q a : Nat) (l : List Nat) : lst q ((a :: l).reverse) = a := by rw [List.reverse_cons, lst_app]; rfl
theorem chn_rev : ∀ {l : List Nat}, l.Nodup → Chn (nxt l) 0 l.reverse
  | [], _ => trivial
  | [a], _ => ⟨rfl, trivial⟩
  | a :: b :: l, nd => by
    rw [List.nodup_cons] at nd
    rw [List.reverse_cons]
    refine chn_app.2 ⟨(chn_rev nd.2).congr fun y hy => nxt_ne fun e => nd.1 (by rw [← e]; exact List.mem_reverse.1 hy), ?_, trivial⟩
    rw [lst_rev]; simp [nxt]
def turnP (par : Nat → Nat) (c : List Nat) (y : Nat) : Nat := if y ∈ c then nxt c y else par y
def AdjS (S : Nat → Prop) (par : Nat → Nat) (y z : Nat) : Prop := S y ∧ S z ∧ (par y = z ∨ par z = y)
theorem AdjS.symm {S : Nat → Prop} {par : Nat → Nat} {y z : Nat} (h : AdjS S par y z) : AdjS S par z y := ⟨h.2.1, h.1, h.2.2.symm⟩
theorem turn_adj {S : Nat → Prop} {par : Nat → Nat} {c : List Nat} (hc : Chn par 0 c) (nd : c.Nodup) (h0 : ∀ y, S y → y ≠ 0) (c0 : ∀ y ∈ c, y ≠ 0) (y z : Nat) : AdjS S (turnP par c) y z ↔ AdjS S par y z := by
  have fwd : ∀ y z, S y → S z → turnP par c y = z → par y = z ∨ par z = y := by
    intro y z hy hz h
    unfold turnP at h
    by_cases e : y ∈ c
    · rw [if_pos e] at h
      subst h
      exact .inr (nxt_par hc nd e (h0 _ hz))
    · rw [if_neg e] at h; exact .inl h
  have bwd : ∀ y z, S y → S z → par y = z → turnP par c y = z ∨ turnP par c z = y := by
    intro y z hy hz h
    unfold turnP
    by_cases e : y ∈ c
    · have hzc : z ∈ c := by
        obtain ⟨a, b, e2⟩ := List.append_of_mem e
        rw [e2] at hc
        have := (chn_app.1 hc).2.1
        rw [h] at this
        cases a with
        | nil => exact absurd this (h0 _ hz)
        | cons a1 a2 =>
          rw [e2, this]
          exact List.mem_append_left _ (lst_mem (q := 0) (a := a1 :: a2) (by simp))
      right
      rw [if_pos hzc]
      exact par_nxt hc nd e h hzc (fun q' hq' hm => c0 q' hm hq')
    · left; rw [if_neg e]; exact h
  constructor
  · rintro ⟨h1, h2, h3 | h3⟩
    · exact ⟨h1, h2, fwd y z h1 h2 h3⟩
    · exact ⟨h1, h2, (fwd z y h2 h1 h3).symm⟩
  · rintro ⟨h1, h2, h3 | h3⟩
    · exact ⟨h1, h2, bwd y z h1 h2 h3⟩
    · exact ⟨h1, h2, (bwd z y h2 h1 h3).symm⟩
/-- a topmost tree turned -/
theorem FoOk.turn {own : Nat → E} {S : Nat → Prop} {N N' : Nat → Nd} {par : Nat → Nat} {Fo : Fst} (h : FoOk own S N par Fo) {T T' : ST} (hT : Fo (T, 0)) (hfl : T'.flat = T.flat.reverse) (hpm : T'.ids.Perm T.ids) (hok : OkS N' own T' 0) (h0 : T'.root ≠ 0) (hel : ∀ z, z ∉ T.ids → N' z = N z) : FoOk own S N' (turnP par T.flat) (formF Fo T T' 0) := by
  obtain ⟨t1, t2, t3, t4⟩ := h.ok T 0 hT
  have fnd : T.flat.Nodup := (ST.flat_perm T).nodup_iff.2 t4
  have fS : ∀ y ∈ T.flat, S y := fun y hy => h.inS hT y (flat_mem.1 hy)
  have f0 : ∀ y ∈ T.flat, y ≠ 0 := fun y hy => h.nz (fS y hy)
  have old : ∀ p, Fo p → p ≠ (T, 0) → ∀ z ∈ p.1.ids, z ∉ T.ids := fun p hp hne z hz hz2 => hne (h.uq p (T, 0) z hp hT hz hz2)
  have hrev : Chn (turnP par T.flat) 0 T.flat.reverse := (chn_rev fnd).congr fun y hy => by unfold turnP; rw [if_pos (by simpa using hy)]
  have upc : ∀ y ∈ T.flat, ∃ c, Up (turnP par T.flat) y c := by
    intro y hy
    obtain ⟨a, b, e⟩ := List.append_of_mem (List.mem_reverse.2 hy)
    have h1 := hrev
    rw [e, show a ++ y :: b = (a ++ [y]) ++ b by simp] at h1
    have := Up.down (par := turnP par T.flat) (q := 0) (c := []) .zero (chn_app.1 h1).1 (fun z hz => f0 z (List.mem_reverse.1 (by rw [e]; simp at hz ⊢; rcases hz with hz | hz <;> simp [hz])))
    rw [lst_app] at this
    exact ⟨_, this⟩
  refine ⟨?_, ?_, ?_, ?_, ?_⟩
  · rintro T2 q2 (e | ⟨h1, h2⟩)
    · injection e with e1 e2
      subst e1; subst e2
      exact ⟨hok, h0, hfl ▸ hrev, hpm.nodup_iff.2 t4⟩
    · obtain ⟨o1, o2, o3, o4⟩ := h.ok T2 q2 h1
      exact ⟨o1.congr fun z hz => hel z (old _ h1 h2 z hz), o2, o3.congr fun z hz => by unfold turnP; rw [if_neg fun hm => old _ h1 h2 z (flat_mem.1 hz) (flat_mem.1 hm)], o4⟩
  · rintro p p' z (rfl | ⟨h1, h2⟩) (rfl | ⟨k1, k2⟩) hz hz2
    · rfl
    · exact (old p' k1 k2 z hz2 (hpm.mem_iff.1 hz)).elim
    · exact (old p h1 h2 z hz (hpm.mem_iff.1 hz2)).elim
    · exact h.uq p p' z h1 k1 hz hz2
  · intro z
    rw [h.mem z]
    constructor
    · rintro ⟨p, hp, hz⟩
      by_cases e1 : p = (T, 0)
      · subst e1; exact ⟨_, .inl rfl, hpm.mem_iff.2 hz⟩
      · exact ⟨p, .inr ⟨hp, e1⟩, hz⟩
    · rintro ⟨p, rfl | ⟨h1, h2⟩, hz⟩
      · exact ⟨_, hT, hpm.mem_iff.1 hz⟩
      · exact ⟨p, h1, hz⟩
  · intro y hy
    obtain ⟨c, hc⟩ := h.up y hy
    clear hy
    induction hc with
    | zero => exact ⟨[], .zero⟩
    | step k0 k ih =>
      rename_i x c
      by_cases e : x ∈ T.flat
      · exact upc x e
      · obtain ⟨c', hc'⟩ := ih
        exact ⟨_, .step k0 (by unfold turnP at hc' ⊢; rw [if_neg e]; exact hc')⟩
  · intro y hy
    unfold turnP
    by_cases e : y ∈ T.flat
    · rw [if_pos e]
      by_cases e2 : nxt T.flat y = 0
      · exact .inl e2
      · exact .inr (fS _ (nxt_mem e2))
    · rw [if_neg e]; exact h.ps y hy
end Go.Dn
namespace Go.Proofs.Ytfknppccgojhdaa.Rd
open Go.Dn Go.RowKit
set_option linter.unusedVariables false
set_option maxRecDepth 100000
/-- what root leaves -/
structure RootP (own : Nat → E) (S : Nat → Prop) (par par' : Nat → Nat) (r : LC) (w w' : World) (N' : Nat → Nd) (Fo' : Fst) (x : Nat) (a : ST) : Prop where
  en : En own S r w' N' par' Fo'
  kp : Keeps (fun k => k = r.g) w w'
  top : Fo' (.node x false .nil a, 0)
  adj : ∀ y z, AdjS S par' y z ↔ AdjS S par y z
theorem RootP.par0 {own : Nat → E} {S : Nat → Prop} {par par' : Nat → Nat} {r : LC} {w w' : World} {N' : Nat → Nd} {Fo' : Fst} {x : Nat} {a : ST} (h : RootP own S par par' r w w' N' Fo' x a) : par' x = 0 := (h.en.fo.ok _ _ h.top).2.2.1.1
theorem root_ok {own : Nat → E} {S : Nat → Prop} {par : Nat → Nat} {r : LC} {w : World} {N : Nat → Nd} {Fo : Fst} (h : En own S r w N par Fo) {x : Nat} (xS : S x) :
    Calls Try.prog 29 #[.pointer (some ⟨r.R, 0, none⟩), .int .i64 (x : Int)] w fun e w' => e = .returned (.tuple #[]) ∧ ∃ par' N' Fo' a, RootP own S par par' r w w' N' Fo' x a := by
  apply f_linkcut_Forest_root.ok
  unfold f_linkcut_Forest_root.wp
  refine (access_ok h xS).mono ?_
  rintro e w1 ⟨rfl, N1, F1, a, p1⟩
  refine ⟨rfl, drW_intro ?_⟩
  have l1 := p1.en.lp.drew
  have xlt := p1.en.rm.sl x xS
  have ok1 := (p1.en.fo.ok _ _ p1.top).1
  have nd1 := (p1.en.fo.ok _ _ p1.top).2.2.2
  refine ldS_intro l1.sl0 (lc_at (K := fun A => ldB w1.drew ((A.add _).add 3) _) l1 xlt rfl ⟨_, l1.cell xlt rfl (j := 3) (by omega), optB_some rfl (req_intro (by simp; omega) ?_)⟩)
  refine lc_st l1 xlt rfl 3 (by omega) _ (set_tn _ _) fun w2 l2 k2 => ?_
  generalize hM : stN N1 x { N1 x with tn := !(N1 x).tn } = M at l2
  have Mx : M x = { N1 x with tn := !(N1 x).tn } := by rw [← hM, stN_same]
  have Mn : ∀ z, z ≠ x → M z = N1 z := fun z hz => by rw [← hM, stN_ne _ _ hz]
  have okM : OkS M own (.node x true a .nil) 0 := OkS.tog (t := .node x false a .nil) ok1 nd1 (fun _ => Mx) (fun z _ hz => Mn z hz)
  have tre1 := p1.en.tre p1.top
  have rmM : Rm own S r M := ⟨p1.en.rm.oo, p1.en.rm.sm, fun z => by
    by_cases e : z = x
    · subst e; rw [Mx]; exact p1.en.rm.no z
    · rw [Mn z e]; exact p1.en.rm.no z, p1.en.rm.sl⟩
  have treM : Tre own S r M (plug [] (.node x true a .nil)) 0 := ⟨okM, tre1.nd, tre1.inS, tre1.pl, tre1.nk.1, fun y _ h0 => absurd rfl h0⟩
  refine (push_tree l2 rmM treM (show x ≠ 0 from h.fo.nz xS)).mono ?_
  rintro e w3 ⟨rfl, N3, t3⟩
  have e3 : plug [] (ST.push (.node x true a .nil)) = .node x false .nil a.tog := rfl
  rw [e3] at t3
  refine And.intro rfl ⟨rfl, turnP par (ST.node x false a .nil).flat, N3, formF F1 (.node x false a .nil) (.node x false .nil a.tog) 0, a.tog, ⟨t3.aft.1, t3.rm rmM, ?_, h.n0, h.nl⟩, (p1.kp.drew.trans k2).trans t3.aft.2, .inl rfl, ?_⟩
  · exact p1.en.fo.turn (N' := N3) p1.top (by simp [ST.flat, ST.flat_tog]) t3.pm t3.ok (h.fo.nz xS) (fun z hz => (t3.el z hz).trans (Mn z fun e => hz (by simp [ST.ids, e])))
  · have hc := (p1.en.fo.ok _ _ p1.top).2.2.1
    exact turn_adj hc ((ST.flat_perm _).nodup_iff.2 nd1) (fun y hy => h.fo.nz hy) (fun y hy => h.fo.nz (p1.en.fo.inS p1.top y (flat_mem.1 hy)))
end Go.Proofs.Ytfknppccgojhdaa.Rd
