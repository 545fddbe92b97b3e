/- What the treap's laws share: a script's calls, the same over two ropes; the document's example. Conditions: none. -/
import Derived.Test.YtnfgibbkfkaonaaTrM
import Derived.Test.YtnfgibbkfkaonaaRecs
namespace Go.Proofs.Ytnfgibbkfkaonaa.Rd
open Go.Dn Go.RowKit
set_option linter.unusedVariables false
set_option maxRecDepth 100000

/-- one call of a script -/
structure OpV where
  k : Int
  a : Int
  b : Int
  v : Int
  m : Int
def OpOk (o : OpV) : Prop := In64 o.v ∧ 0 ≤ o.m ∧ o.m ≤ 255
/-- what a rope tells: how many nodes (and none), the rows, what the nodes bear -/
structure MS where
  n : Nat
  rows : List (List Nat)
  V : Nat → Int × Int
def stepM (m : MS) (o : OpV) : MS :=
  if o.k = 1 then ⟨makeN m.n, makeS m.n m.rows, makeV m.n m.V o.v o.m⟩
  else if o.k = 2 then ⟨m.n, joinS m.n m.rows o.a o.b, m.V⟩
  else if o.k = 3 then ⟨m.n, cutS m.n m.rows o.a, m.V⟩
  else if o.k = 4 then ⟨m.n, m.rows, setV m.n m.V o.a o.v o.m⟩
  else m
/-- the rope in a law that began in w0 -/
structure LS (w0 w : World) (r : RC) (m : MS) : Prop where
  rope : Rope w r m.rows m.V
  n : r.n = m.n
  B : w0.heap.size ≤ r.B
  marks : MarksOk m.n m.V
  bel : Below w0.heap.size w0 w
theorem LS.below {w0 w w' : World} {r : RC} {m : MS} (h : LS w0 w r m) (hb : Below w.heap.size w w') : LS w0 w' r m := ⟨h.rope.below hb, h.n, h.B, h.marks, h.bel.trans (hb.mono h.bel.size)⟩
theorem Rope.lt {w : World} {r : RC} {rows : List (List Nat)} {V : Nat → Int × Int} (h : Rope w r rows V) : r.R < w.heap.size ∧ r.g < w.heap.size ∧ r.B ≤ r.R ∧ r.B ≤ r.g := by
  obtain ⟨N, ts, hp, hf⟩ := h
  exact ⟨hp.R_lt, hp.g_lt.2, hp.hB, hp.g_lt.1⟩
theorem LS.belK {w0 w w' : World} {r : RC} {m : MS} (h : LS w0 w r m) (k : Keeps (Sr r) w w') : Below w0.heap.size w0 w' :=
  h.bel.trans (k.below h.bel.size fun i hi e => by
    have := h.rope.lt; have := h.B
    rcases e with e | e <;> omega)
theorem LS.keeps {w0 w w' : World} {r : RC} {m : MS} {b : Nat} (h : LS w0 w r m) (k : Keeps (fun k => k = b) w w') (h1 : b ≠ r.R) (h2 : b ≠ r.g) (h3 : ∀ a, r.As = some a → a.block ≠ b) (hb : w0.heap.size ≤ b) : LS w0 w' r m :=
  ⟨h.rope.keeps k (fun e => h1 e.symm) (fun e => h2 e.symm) h3, h.n, h.B, h.marks, h.bel.trans (k.below h.bel.size fun i hi e => by omega)⟩
theorem MarksOk.step {m : MS} (h : MarksOk m.n m.V) {o : OpV} (ho : OpOk o) : MarksOk (stepM m o).n (stepM m o).V := by
  unfold stepM
  split
  · intro i h1 h2
    simp only [makeN, makeV] at h2 ⊢
    split at h2
    · rename_i hn
      rw [if_pos hn]
      by_cases e : i = m.n
      · simp [e]; exact ho.2
      · simp [e]; exact h i h1 (by omega)
    · rename_i hn
      rw [if_neg hn]; exact h i h1 h2
  · split
    · exact h
    · split
      · exact h
      · split
        · intro i h1 h2
          simp only [setV]
          split
          · exact h i h1 h2
          · by_cases e : i = o.a.toNat
            · simp [e]; exact ho.2
            · simp [e]; exact h i h1 h2
        · exact h

/-! ### the document's rope, no row in it -/
theorem ret3 {w : World} {b : Nat} {v0 v1 v2 : Value} {t : TypeId} (h : HB w b #[v0, v1, v2] t) {A0 A1 A2 : Option Addr} {n0 n1 n2 c0 c1 c2 : Nat} {K : Option Addr → Nat → Nat → Option Addr → Nat → Nat → Option Addr → Nat → Nat → World → Prop} (hk : ∀ w', Keeps (fun k => k = b) w w' → K A0 n0 c0 A1 n1 c1 A2 n2 c2 w') :
    stW w (⟨b, 0, none⟩ : Addr) (.slice A0 n0 c0) fun w1 => stW w1 ((⟨b, 0, none⟩ : Addr).add 1) (.slice A1 n1 c1) fun w2 => stW w2 ((⟨b, 0, none⟩ : Addr).add 2) (.slice A2 n2 c2) fun w3 =>
      ldS w3 (⟨b, 0, none⟩ : Addr) fun A0 n0 c0 => ldS w3 ((⟨b, 0, none⟩ : Addr).add 1) fun A1 n1 c1 => ldS w3 ((⟨b, 0, none⟩ : Addr).add 2) fun A2 n2 c2 => K A0 n0 c0 A1 n1 c1 A2 n2 c2 w3 :=
  hb_st0 h (by simp) fun w1 h1 k1 => hb_st (j := 1) h1 (by simp) fun w2 h2 k2 => hb_st (j := 2) h2 (by simp) fun w3 h3 k3 => hb_ldS0 h3 rfl (hb_ldS (j := 1) h3 rfl (hb_ldS (j := 2) h3 rfl (hk w3 ((k1.trans k2).trans k3))))
theorem RMake0_ok (w : World) (v m : Int) :
    Calls Try.prog 29 #[.agg #[.slice none 0 0, .slice none 0 0, .slice none 0 0], .int .i64 v, .int .i64 m] w fun e w' => ∃ (A0 : Option Addr) (n0 c0 : Nat) (A1 : Option Addr) (n1 c1 : Nat) (A2 : Option Addr) (n2 c2 : Nat), e = .returned (.agg #[.slice A0 n0 c0, .slice A1 n1 c1, .slice A2 n2 c2]) ∧ Below w.heap.size w w' := by
  apply f_ref15_Make.ok
  unfold f_ref15_Make.wp
  refine al_new fun wa b1 e1 z1 h1 q1 => al_new fun wb b3 e3 z3 h3 q3 => al_new fun wc b5 e5 z5 hb5 q5 => ?_
  have hb1 := (h1.below q3).below q5
  have hb3 := h3.below q5
  have bl : Below w.heap.size w wc := (q1.trans (q3.mono (by omega))).trans (q5.mono (by omega))
  refine hb_st0 hb5 (by simp) fun w7 h7 k7 => hb_st (j := 1) h7 (by simp) fun w8 h8 k8 => hb_st (j := 2) h8 (by simp) fun w9 h9 k9 => ⟨1, ?_⟩
  have k := (k7.trans k8).trans k9
  have h1 := hb1.keeps k (by omega)
  have h3 := hb3.keeps k (by omega)
  have bl9 : Below w.heap.size w w9 := bl.trans (k.below bl.size fun i hi e => by omega)
  have h5 : HB w9 b5 #[.slice none 0 0, .slice none 0 0, .slice none 0 0] 34 := h9
  clear h7 h8 h9 k7 k8 k9 k hb1 hb3 hb5 bl
  unfold f_ref15_Make.l0
  refine hb_ldS (j := 1) h1 rfl (sel_f (by simp) fun _ => hb_ldS (j := 1) h5 rfl (al_new fun wA bx ex zx hx blA => ?_))
  have h1 := h1.below blA; have h3 := h3.below blA; have h5 := h5.below blA
  have bl := bl9.trans (blA.mono bl9.size)
  refine appW_runs TI64 rfl (OwnW.none wA w.heap.size _) rfl hx rfl bl.size (by simp) (by simp) fun A1 c1 wB ho1 kB _ => ⟨_, _, _, rfl, ?_⟩
  have h1 := h1.keeps kB (by simp [Value.ownBlock]); have h3 := h3.keeps kB (by simp [Value.ownBlock]); have h5 := h5.keeps kB (by simp [Value.ownBlock])
  have bl := bl.trans (kB.below bl.size (by simp [Value.ownBlock]))
  refine hb_st (j := 1) h5 (by simp) fun wC h5 kC => hb_ldS (j := 2) h5 rfl (al_new fun wD bx ex zx hx blA => ?_)
  have h1 := h1.keeps kC (by omega); have h3 := h3.keeps kC (by omega)
  have bl := bl.trans (kC.below bl.size (fun i hi e => by omega))
  have h1 := h1.below blA; have h3 := h3.below blA; have h5 := h5.below blA
  have bl := bl.trans (blA.mono bl.size)
  refine appW_runs TIn' rfl (OwnW.none wD w.heap.size _) rfl hx rfl bl.size (by simp) (by simp) fun A2 c2 wE ho2 kE _ => ⟨_, _, _, rfl, ?_⟩
  have h1 := h1.keeps kE (by simp [Value.ownBlock]); have h3 := h3.keeps kE (by simp [Value.ownBlock]); have h5 := h5.keeps kE (by simp [Value.ownBlock])
  have bl := bl.trans (kE.below bl.size (by simp [Value.ownBlock]))
  refine hb_st (j := 2) h5 (by simp) fun wF h5 kF => ⟨1, ?_⟩
  have h1 := h1.keeps kF (by omega); have h3 := h3.keeps kF (by omega)
  have bl := bl.trans (kF.below bl.size (fun i hi e => by omega))
  unfold f_ref15_Make.l1
  refine hb_ldS0 h1 rfl (sel_f (by simp) fun _ => hb_ldS0 h5 rfl (hb_ldS (j := 1) h5 rfl (al_new fun wX by_ ey zy hy blY => al_new fun wG bx ex zx hx blX => ?_)))
  have blA := blY.trans (blX.mono (by omega))
  have h3 := h3.below blA; have h5 := h5.below blA
  have bl := bl.trans (blA.mono bl.size)
  refine appW_runs TRw rfl (OwnW.none wG w.heap.size _) rfl hx rfl bl.size (by simp) (by simp) fun A0 c0 wH ho0 kH _ => ⟨_, _, _, rfl, ?_⟩
  have h3 := h3.keeps kH (by simp [Value.ownBlock]); have h5 := h5.keeps kH (by simp [Value.ownBlock])
  have bl := bl.trans (kH.below bl.size (by simp [Value.ownBlock]))
  refine hb_st0 h5 (by simp) fun wI h5 kI => hb_ldS0 h5 rfl (hb_ldS (j := 1) h5 rfl (hb_ldS (j := 2) h5 rfl ?_))
  have h3 := h3.keeps kI (by omega)
  have bl := bl.trans (kI.below bl.size (fun i hi e => by omega))
  exact ret3 h3 fun w' k' => ⟨_, _, _, _, _, _, _, _, _, rfl, bl.trans (k'.below bl.size (fun i hi e => by omega))⟩
end Go.Proofs.Ytnfgibbkfkaonaa.Rd
