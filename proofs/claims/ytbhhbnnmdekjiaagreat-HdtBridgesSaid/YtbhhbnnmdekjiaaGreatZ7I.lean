/- The document's graph: edges with one more, without one, used · The document's graph: a write of a vertex or an edge · The document's graph: vertex, edge, Do · The document's graph: a write of an edge · The document's graph: Do, Net; a net behind a write · The document's answer for the graph by levels: AddV, DelV, AddE, DelE, Has, Verts, Trees · The graph by levels in a law: steps; the document's example · The graph by levels in a law: one call of a script · The graph by levels in a law: graph and net alike; what is told; filled · The graph by levels in a law: scripts, filled · What a row tells of a slice of records of whole numbers · What a row tells of a slice of calls (a number and an edge each), and of an edge · How long a slice among the arguments can be · HdtPlays, walked · What a row tells of a graph's script · HdtSizes, walked · HdtBack, walked · plain's sets: roots and joins · plain's questions to a net: a search, is it right, are two vertices joined · HdtBridges, walked -/
import Derived.Test.YtbhhbnnmdekjiaaGreatZ7E
import Derived.Test.YtbhhbnnmdekjiaaGreatZ7C
import Derived.Test.YtbhhbnnmdekjiaaGreatZ7F
import Derived.Test.YtbhhbnnmdekjiaaGreatZ7H
import Derived.Test.YtbhhbnnmdekjiaaGreatZ7D
import Derived.ChangeArms
import Derived.DataReads
import Derived.WalkKit
import Derived.SizedLaws
set_option linter.unusedSimpArgs false
set_option linter.unusedVariables false
namespace Go.Proofs.YtbhhbnnmdekjiaaGreat.Rd
open Go.Dn Go.RowKit
set_option maxRecDepth 100000
theorem OwnEd.empty {w : World} {B b : Nat} (hb : w.heap[b]? = some (Obj.cells #[] TE)) (hB : B ≤ b) : OwnEd w B TE (some ⟨b, 0, none⟩) 0 [] := ⟨rfl, .inr ⟨b, 0, #[], rfl, hB, hb, Nat.le_refl _, Nat.zero_le _, rfl, rfl⟩⟩
theorem OwnEd.lower {w : World} {B B' e : Nat} {A : Option Addr} {c : Nat} {l : List E} (h : OwnEd w B e A c l) (hB : B' ≤ B) : OwnEd w B' e A c l := ⟨h.1, h.2.imp id fun ⟨g, cap, cur, hv, hb, rest⟩ => ⟨g, cap, cur, hv, Nat.le_trans hB hb, rest⟩⟩
theorem withoutEdge_ok {w : World} {A : Option Addr} {n c : Nat} {l : List E} (r : RE w A l) (hn : n = l.length) (hl : l.length ≤ 100000) (x : Int) :
    Calls Tryz.prog 115 #[.slice A n c, .int .i64 x] w fun e w' => ∃ A' c', e = .returned (.slice A' (noE l x).length c') ∧ OwnEd w' w.heap.size TE A' c' (noE l x) ∧ Below w.heap.size w w' := by
  subst hn
  apply f_ref05_withoutEdge.ok
  unfold f_ref05_withoutEdge.wp
  refine al_new fun w1 b1 e1 z1 h1 g1 => ⟨l.length + 1, ?_⟩
  have o1 : OwnEd w1 w.heap.size TE (some ⟨b1, 0, none⟩) 0 [] := OwnEd.empty h1 (by omega)
  have key : ∀ (m i : Nat) (w2 : World) (A2 : Option Addr) (n2 c2 : Nat), l.length - i = m → i ≤ l.length → OwnEd w2 w.heap.size TE A2 c2 (noE (l.take i) x) → n2 = (noE (l.take i) x).length → Below w.heap.size w w2 →
      f_ref05_withoutEdge.l0 (m + 1) A l.length c x A2 n2 c2 (i : Int) w2 (fun (A15 : Option Addr) (n15 : Nat) (c15 : Nat) (w16 : World) => ∀ _ : Go.Dn.Fr,
        (fun e w' => ∃ A' c', e = Ending.returned (.slice A' (noE l x).length c') ∧ OwnEd w' w.heap.size TE A' c' (noE l x) ∧ Below w.heap.size w w') (.returned (.slice A15 n15 c15)) w16) := by
    intro m
    induction m with
    | zero =>
      intro i w2 A2 n2 c2 hm hi ho hn hb
      have : i = l.length := by omega
      subst this
      rw [List.take_length] at ho hn
      unfold f_ref05_withoutEdge.l0
      exact sel_f (by simp) fun _ => ⟨A2, c2, by rw [hn], ho, hb⟩
    | succ m ih =>
      intro i w2 A2 n2 c2 hm hi ho hn hb
      have hlt : i < l.length := by omega
      have hw : IntKind.i64.wrap ((i : Int) + 1) = ((i + 1 : Nat) : Int) := by rw [w64_in (by omega)]; omega
      obtain ⟨a, rfl, q⟩ := (r.below hb) i hlt
      have tk : noE (l.take (i + 1)) x = noE (l.take i) x ++ (if l[i].id = x then [] else [l[i]]) := by
        rw [List.take_succ_eq_append_getElem hlt]
        unfold noE
        rw [List.filter_append]
        congr 1
        by_cases e : l[i].id = x
        · rw [if_pos e, List.filter_cons_of_neg (by simp [e])]; rfl
        · rw [if_neg e, List.filter_cons_of_pos (by simp [e])]; rfl
      have hlen : (noE (l.take i) x).length ≤ 1000000 := by
        have h1 : (noE (l.take i) x).length ≤ (l.take i).length := List.length_filter_le _ _
        rw [List.length_take] at h1; omega
      unfold f_ref05_withoutEdge.l0
      refine sel_t (by simpa using hlt) (optB_some rfl (req_intro (by simp; omega) (ldI_intro (by rw [Int.toNat_natCast]; exact q.c0) ?_)))
      by_cases e : l[i].id = x
      · refine sel_f (by simp [e]) ?_
        rw [hw]
        exact ih (i + 1) w2 A2 n2 c2 (by omega) (by omega) (by rw [tk, if_pos e, List.append_nil]; exact ho) (by rw [tk, if_pos e, List.append_nil]; exact hn) hb
      · refine sel_t (by simp [e]) (optB_some rfl (req_intro (by simp; omega) (rowE q (put_ed ho hn hb.size hlen fun A3 c3 w3 o3 k3 f3 => ?_))))
        rw [hw]
        refine ih (i + 1) w3 _ _ c3 (by omega) (by omega) (by rw [tk, if_neg e]; exact o3) (by rw [tk, if_neg e]) (hb.trans (k3.below hb.size fun k hk ⟨a', ha', hh⟩ => ?_))
        have := (ho.block a' ha').1; omega
  exact key l.length 0 w1 _ _ _ (by omega) (by omega) (by simpa [noE] using o1) (by simp [noE]) g1
theorem withEdge_ok {w : World} {A : Option Addr} {n c : Nat} {l : List E} (r : RE w A l) (hn : n = l.length) (hl : l.length ≤ 100000) (y : E) :
    Calls Tryz.prog 116 #[.slice A n c, .agg (eC y)] w fun e w' => ∃ A' c', e = .returned (.slice A' (insE l y).length c') ∧ OwnEd w' w.heap.size TE A' c' (insE l y) ∧ Below w.heap.size w w' := by
  subst hn
  apply f_ref05_withEdge.ok
  unfold f_ref05_withEdge.wp
  refine al_new fun w1 b1 e1 z1 h1 g1 => al_new fun w2 b2 e2 z2 h2 g2 => ⟨l.length + 1, ?_⟩
  have h1 : HB w1 b1 (eC y) TE := h1
  have hw1 := g1.size
  have o2 : OwnEd w2 w1.heap.size TE (some ⟨b2, 0, none⟩) 0 [] := OwnEd.empty h2 (by omega)
  have hb2 : Below w.heap.size w w2 := g1.trans (g2.mono hw1)
  have hy2 : HB w2 b1 (eC y) TE := h1.below g2
  have r1 := r.below g1
  have b1lt : b1 < w1.heap.size := h1.lt
  have key : ∀ (m i : Nat) (w3 : World) (A2 : Option Addr) (n2 c2 : Nat) (d : Bool) (out : List E), l.length - i = m → i ≤ l.length → OwnEd w3 w1.heap.size TE A2 c2 out → n2 = out.length → out.length ≤ i + (if d = true then 1 else 0) → (if d = true then out ++ l.drop i = insE l y else insE l y = out ++ insE (l.drop i) y) → Below w1.heap.size w1 w3 →
      f_ref05_withEdge.l0 (m + 1) A l.length c (⟨b1, 0, none⟩ : Addr) A2 n2 c2 d (i : Int) w3 (fun (A35 : Option Addr) (n35 : Nat) (c35 : Nat) (b36 : Bool) (w37 : World) => ∀ _ : Go.Dn.Fr,
        sel (!b36) (
        ldI w37 (⟨b1, 0, Option.none⟩ : Addr) .i64 fun x38 =>
        ldI w37 ((⟨b1, 0, Option.none⟩ : Addr).add 1) .i64 fun x39 =>
        ldI w37 ((⟨b1, 0, Option.none⟩ : Addr).add 2) .i64 fun x40 =>
        ldI w37 ((⟨b1, 0, Option.none⟩ : Addr).add 3) .i64 fun x41 =>
        alW w37 (.cells #[.int .i64 x38, .int .i64 x39, .int .i64 x40, .int .i64 x41] TE) fun B42 w43 =>
        Runs Tryz.prog (Builtin.append_ #[27, 27] 27 #[.slice A35 n35 c35, .slice (some (⟨B42, 0, Option.none⟩ : Addr)) 1 1]) w43 fun v45 w44 => ∃ (A46 : Option Addr) (n46 : Nat) (c46 : Nat), v45 = (.slice A46 n46 c46) ∧ (
        (fun e w' => ∃ A' c', e = Ending.returned (.slice A' (insE l y).length c') ∧ OwnEd w' w.heap.size TE A' c' (insE l y) ∧ Below w.heap.size w w') (.returned (.slice A46 n46 c46)) w44)) (
        (fun e w' => ∃ A' c', e = Ending.returned (.slice A' (insE l y).length c') ∧ OwnEd w' w.heap.size TE A' c' (insE l y) ∧ Below w.heap.size w w') (.returned (.slice A35 n35 c35)) w37)) := by
    intro m
    induction m with
    | zero =>
      intro i w3 A2 n2 c2 d out hm hi ho hn hlen hd hb
      have : i = l.length := by omega
      subst this
      rw [List.drop_length] at hd
      unfold f_ref05_withEdge.l0
      refine sel_f (by simp) fun _ => ?_
      have hbb : Below w.heap.size w w3 := g1.trans (hb.mono hw1)
      cases d with
      | true =>
        rw [if_pos rfl, List.append_nil] at hd
        refine sel_f rfl ⟨A2, c2, by rw [hn, hd], by rw [← hd]; exact OwnEd.lower ho hw1, hbb⟩
      | false =>
        rw [if_neg (by decide)] at hd
        have hd : insE l y = out ++ [y] := hd
        rw [if_neg (by decide)] at hlen
        refine sel_t rfl (getE (h1.below hb) (put_ed ho hn (e := y) hb.size (by omega) fun A3 c3 w4 o4 k4 f4 => ?_))
        rw [← hd] at o4 ⊢
        exact ⟨some A3, c3, rfl, OwnEd.lower o4 hw1, hbb.trans (k4.below hbb.size fun k hk ⟨a', ha', hh⟩ => by have := (ho.block a' ha').1; omega)⟩
    | succ m ih =>
      intro i w3 A2 n2 c2 d out hm hi ho hn hlen hd hb
      have hlt : i < l.length := by omega
      have hw : IntKind.i64.wrap ((i : Int) + 1) = ((i + 1 : Nat) : Int) := by rw [w64_in (by omega)]; omega
      have hdr := List.drop_eq_getElem_cons hlt
      have hl2 : out.length ≤ 900000 := by split at hlen <;> omega
      have go : ∀ (w4 : World) (A3 : Option Addr) (c3 : Nat) (out3 : List E) (d3 : Bool), OwnEd w4 w1.heap.size TE A3 c3 out3 → out3.length ≤ i + (if d3 = true then 1 else 0) → (if d3 = true then out3 ++ l.drop i = insE l y else insE l y = (out3 ++ [l[i]]) ++ insE (l.drop (i + 1)) y) → Below w1.heap.size w1 w4 → ∀ K, (∀ A4 c4 w5, OwnEd w5 w1.heap.size TE A4 c4 (out3 ++ [l[i]]) → Below w1.heap.size w1 w5 → K A4 (out3 ++ [l[i]]).length c4 w5) →
          f_ref05_withEdge.j1 A l.length c A3 out3.length c3 (i : Int) w4 K := by
        intro w4 A3 c3 out3 d3 o3 hl3 hd3 hb3 K hK
        obtain ⟨a, ha, q⟩ := (r1.below hb3) i hlt
        have hl4 : out3.length ≤ 1000000 := by split at hl3 <;> omega
        unfold f_ref05_withEdge.j1
        refine optB_some ha (req_intro (by simp; omega) (rowE q (put_ed o3 rfl hb3.size hl4 fun A4 c4 w5 o5 k5 f5 => hK _ _ _ o5 (hb3.trans (k5.below hb3.size fun k hk ⟨a', ha', hh⟩ => ?_)))))
        have := (o3.block a' ha').1; omega
      subst hn
      unfold f_ref05_withEdge.l0
      refine sel_t (by simpa using hlt) (drW_intro ?_)
      have gd := hb.drew
      have od : OwnEd w3.drew w1.heap.size TE A2 c2 out := ho.keeps (S := fun _ => False) (Keeps.refl _ _).drew fun _ _ => id
      obtain ⟨w4, hw4⟩ : ∃ w4, w3.drew = w4 := ⟨_, rfl⟩
      rw [hw4] at gd od ⊢
      cases d with
      | true =>
        refine sel_f rfl (go w4 A2 c2 out true od hlen hd gd _ fun A4 c4 w5 o5 b5 _ => ?_)
        rw [hw]
        rw [if_pos rfl] at hd hlen
        refine ih (i + 1) w5 A4 _ c4 true (out ++ [l[i]]) (by omega) (by omega) o5 rfl (by simp; omega) ?_ b5
        rw [if_pos rfl, List.append_assoc, List.singleton_append, ← hdr]; exact hd
      | false =>
        rw [if_neg (by decide)] at hd hlen
        have hy4 := h1.below gd
        obtain ⟨a, ha, q⟩ := (r1.below gd) i hlt
        refine sel_t rfl (hb_ldI0 hy4 rfl (optB_some ha (req_intro (by simp; omega) (ldI_intro (by rw [Int.toNat_natCast]; exact q.c0) ?_))))
        by_cases hcmp : y.id < l[i].id
        · have e1 : insE (l.drop i) y = y :: l.drop i := by rw [hdr, insE_cons, if_pos hcmp]
          rw [e1] at hd
          refine sel_t (decide_eq_true hcmp) (getE hy4 (put_ed od rfl (e := y) gd.size (by omega) fun A3 c3 w5 o5 k5 f5 => ?_))
          have b5 : Below w1.heap.size w1 w5 := gd.trans (k5.below gd.size fun k hk ⟨a', ha', hh⟩ => by have := (od.block a' ha').1; omega)
          have hd5 : (out ++ [y]) ++ l.drop i = insE l y := by rw [List.append_assoc, List.singleton_append]; exact hd.symm
          refine go w5 (some A3) c3 (out ++ [y]) true o5 (by rw [if_pos rfl, List.length_append]; simp; omega) (by rw [if_pos rfl]; exact hd5) b5 _ fun A4 c4 w6 o6 b6 _ => ?_
          rw [hw]
          refine ih (i + 1) w6 A4 _ c4 true ((out ++ [y]) ++ [l[i]]) (by omega) (by omega) o6 rfl (by simp; omega) ?_ b6
          rw [if_pos rfl, List.append_assoc, List.singleton_append, ← hdr]; exact hd5
        · have e1 : insE (l.drop i) y = l[i] :: insE (l.drop (i + 1)) y := by rw [hdr, insE_cons, if_neg hcmp]
          rw [e1] at hd
          have hd5 : insE l y = (out ++ [l[i]]) ++ insE (l.drop (i + 1)) y := by rw [List.append_assoc, List.singleton_append]; exact hd
          refine sel_f (decide_eq_false hcmp) (go w4 A2 c2 out false od (by rw [if_neg (by decide)]; exact hlen) (by rw [if_neg (by decide)]; exact hd5) gd _ fun A4 c4 w5 o5 b5 _ => ?_)
          rw [hw]
          refine ih (i + 1) w5 A4 _ c4 false (out ++ [l[i]]) (by omega) (by omega) o5 rfl (by simp; omega) ?_ b5
          rw [if_neg (by decide)]; exact hd5
  refine key l.length 0 w2 _ _ _ false [] (by omega) (by omega) o2 rfl (by simp) ?_ (g2.mono (Nat.le_refl _))
  rw [if_neg (by decide)]; rfl
structure NS where
  A0 : Option Addr
  n0 : Nat
  c0 : Nat
  A1 : Option Addr
  n1 : Nat
  c1 : Nat
def nsC (s : NS) : Array Value := #[.slice s.A0 s.n0 s.c0, .slice s.A1 s.n1 s.c1]
def g3C (s : NS) (A : Option Addr) (n c : Nat) : Array Value := #[.slice s.A0 s.n0 s.c0, .slice s.A1 s.n1 s.c1, .slice A n c]
def Nb (s : NS) (k : Nat) : Prop := Ob s.A0 k ∨ Ob s.A1 k
structure NF (w : World) (s : NS) (vr : List Int) (er : List E) : Prop where
  v : RI w s.A0 vr
  nv : s.n0 = vr.length
  e : RE w s.A1 er
  ne : s.n1 = er.length
  lt : ∀ k, Nb s k → k < w.heap.size
  vl : vr.length ≤ 2048
  el : er.length ≤ 2048
theorem NF.keeps {S : Nat → Prop} {w w' : World} {s : NS} {vr : List Int} {er : List E} (h : NF w s vr er) (k : Keeps S w w') (hS : ∀ b, Nb s b → ¬ S b) : NF w' s vr er :=
  ⟨h.v.keeps k fun a ha => hS _ (.inl ⟨a, ha, rfl⟩), h.nv, h.e.keeps k fun a ha => hS _ (.inr ⟨a, ha, rfl⟩), h.ne, fun b hb => Nat.lt_of_lt_of_le (h.lt b hb) k.size, h.vl, h.el⟩
theorem NF.belw {w w' : World} {s : NS} {vr : List Int} {er : List E} (h : NF w s vr er) (k : Below w.heap.size w w') : NF w' s vr er := h.keeps (S := fun _ => False) (.of_below k) fun _ _ => id
def Sn (w : World) (s s' : NS) : Prop := ∀ k, Nb s' k → Nb s k ∨ w.heap.size ≤ k
theorem Sn.refl (w : World) (s : NS) : Sn w s s := fun k h => .inl h
theorem out3 {w : World} {b1 b5 : Nat} {t1 t5 : TypeId} {cs : Array Value} {s : NS} {A : Option Addr} {n c : Nat} (h1 : HB w b1 (g3C s A n c) t1) (h5 : HB w b5 cs t5) (hc : cs.size = 3) {K : Option Addr → Nat → Nat → Option Addr → Nat → Nat → Option Addr → Nat → Nat → World → Prop}
    (hk : ∀ w', Keeps (fun k => k = b5) w w' → K s.A0 s.n0 s.c0 s.A1 s.n1 s.c1 A n c w') :
    ldS w (⟨b1, 0, Option.none⟩ : Addr) fun A11 n11 c11 =>
    ldS w ((⟨b1, 0, Option.none⟩ : Addr).add 1) fun A12 n12 c12 =>
    ldS w ((⟨b1, 0, Option.none⟩ : Addr).add 2) fun A13 n13 c13 =>
    stW w (⟨b5, 0, Option.none⟩ : Addr) (.slice A11 n11 c11) fun w14 =>
    stW w14 ((⟨b5, 0, Option.none⟩ : Addr).add 1) (.slice A12 n12 c12) fun w15 =>
    stW w15 ((⟨b5, 0, Option.none⟩ : Addr).add 2) (.slice A13 n13 c13) fun w16 =>
    ldS w16 (⟨b5, 0, Option.none⟩ : Addr) fun A17 n17 c17 =>
    ldS w16 ((⟨b5, 0, Option.none⟩ : Addr).add 1) fun A18 n18 c18 =>
    ldS w16 ((⟨b5, 0, Option.none⟩ : Addr).add 2) fun A19 n19 c19 => K A17 n17 c17 A18 n18 c18 A19 n19 c19 w16 := by
  refine hb_ldS0 h1 rfl (hb_ldS (j := 1) h1 rfl (hb_ldS (j := 2) h1 rfl ?_))
  refine hb_st0 h5 (by omega) fun w1 h1 k1 => hb_st (j := 1) h1 (by simp; omega) fun w2 h2 k2 => hb_st (j := 2) h2 (by simp; omega) fun w3 h3 k3 => ?_
  have e : ((cs.setIfInBounds 0 (.slice s.A0 s.n0 s.c0)).setIfInBounds 1 (.slice s.A1 s.n1 s.c1)).setIfInBounds 2 (.slice A n c) = g3C s A n c := by
    obtain ⟨l⟩ := cs
    match l, hc with
    | [_, _, _], _ => rfl
  rw [e] at h3
  exact hb_ldS0 h3 rfl (hb_ldS (j := 1) h3 rfl (hb_ldS (j := 2) h3 rfl (hk w3 ((k1.trans k2).trans k3))))
def wC (k id u v wt : Int) : Array Value := #[.int .i64 k, .int .i64 id, .int .i64 u, .int .i64 v, .int .i64 wt, .bool false, .int .i64 0, .string ByteArray.empty, .int .i64 0, .int .i64 0, .complex .f64 0 0, .slice none 0 0]
section
variable {w w' : World} {s : NS} {vr : List Int} {er : List E}
theorem HasV5_ok (h : NF w s vr er) (A : Option Addr) (n c : Nat) (x : Int) : Calls Tryz.prog 110 #[.agg (g3C s A n c), .int .i64 x] w fun e w' => e = .returned (.bool (decide (x ∈ vr))) ∧ Below w.heap.size w w' := by
  apply f_ref05_HasV.ok
  unfold f_ref05_HasV.wp
  refine al_new fun w1 b1 e1 z1 h1 g1 => ?_
  refine hb_ldS0 h1 rfl ((Has_ok (h.belw g1).v h.nv (by have := h.vl; omega) x).mono ?_)
  rintro _ w2 ⟨rfl, rfl⟩
  exact ⟨_, rfl, rfl, g1⟩
theorem used_ok (h : NF w s vr er) (A : Option Addr) (n c : Nat) (x : Int) : Calls Tryz.prog 111 #[.agg (g3C s A n c), .int .i64 x] w fun e w' => (∃ b, e = .returned (.bool b) ∧ (b = true ↔ 0 < deg er x)) ∧ Below w.heap.size w w' := by
  apply f_ref05_used.ok
  unfold f_ref05_used.wp
  refine al_new fun w1 b1 e1 z1 h1 g1 => ⟨er.length + 1, ?_⟩
  have h1' : HB w1 b1 (g3C s A n c) 128 := h1
  have re := (h.belw g1).e
  have pos : (∃ e ∈ er, e.u = x ∨ e.v = x) → 0 < deg er x := fun ⟨e, he, hx⟩ => by
    have h1 := deg_nn er x
    apply Classical.byContradiction
    intro h2
    have h3 : deg er x = 0 := by omega
    have := deg_zero.1 h3 e he
    rcases hx with q | q
    · exact this.1 q
    · exact this.2 q
  have key : ∀ (m i : Nat), er.length - i = m → i ≤ er.length → (∀ e ∈ er.take i, e.u ≠ x ∧ e.v ≠ x) →
      f_ref05_used.l0 (m + 1) x (⟨b1, 0, none⟩ : Addr) (i : Int) w1 (fun w10 => ∀ _ : Go.Dn.Fr, (∃ b, Ending.returned (.bool false) = .returned (.bool b) ∧ (b = true ↔ 0 < deg er x)) ∧ Below w.heap.size w w10) (fun b11 w12 => ∀ _ : Go.Dn.Fr, (∃ b, Ending.returned (.bool b11) = .returned (.bool b) ∧ (b = true ↔ 0 < deg er x)) ∧ Below w.heap.size w w12) := by
    intro m
    induction m with
    | zero =>
      intro i hm hi hno
      have : i = er.length := by omega
      subst this
      rw [List.take_length] at hno
      have h0 := deg_zero.2 hno
      unfold f_ref05_used.l0
      refine hb_ldS h1' (j := 1) rfl (sel_f (by rw [h.ne]; simp) fun _ => ⟨⟨false, rfl, ?_⟩, g1⟩)
      rw [h0]; simp
    | succ m ih =>
      intro i hm hi hno
      have hlt : i < er.length := by omega
      have hl := h.el
      obtain ⟨a, ha, q⟩ := re i hlt
      unfold f_ref05_used.l0
      refine hb_ldS h1' (j := 1) rfl (sel_t (by rw [h.ne]; simpa using hlt) (hb_ldS h1' (j := 1) rfl (optB_some ha (req_intro (by rw [h.ne]; simp; omega) (ldI_intro (by rw [Int.toNat_natCast]; exact q.c1) ?_)))))
      by_cases e1 : er[i].u = x
      · exact sel_t (by simp [e1]) fun _ => ⟨⟨true, rfl, fun _ => pos ⟨_, List.getElem_mem hlt, .inl e1⟩, fun _ => rfl⟩, g1⟩
      refine sel_f (by simp [e1]) (hb_ldS h1' (j := 1) rfl (optB_some ha (req_intro (by rw [h.ne]; simp; omega) (ldI_intro (by rw [Int.toNat_natCast]; exact q.c2) ?_))))
      by_cases e2 : er[i].v = x
      · exact sel_t (by simp [e2]) fun _ => ⟨⟨true, rfl, fun _ => pos ⟨_, List.getElem_mem hlt, .inr e2⟩, fun _ => rfl⟩, g1⟩
      refine sel_f (by simp [e2]) ?_
      rw [w64_in (by omega), show (i : Int) + 1 = ((i + 1 : Nat) : Int) by omega]
      refine ih (i + 1) (by omega) (by omega) fun y hy => ?_
      rw [List.take_succ_eq_append_getElem hlt, List.mem_append, List.mem_singleton] at hy
      rcases hy with hy | rfl
      · exact hno y hy
      · exact ⟨e1, e2⟩
  exact key er.length 0 (by omega) (by omega) (by simp)
theorem strip_ok (w : World) (b : Bool) (x : Int) : Calls Tryz.prog 113 #[.slice none 0 0, .agg #[.bool b, .int .i64 x]] w fun e w' => ∃ A n c, e = .returned (.slice A n c) ∧ Below w.heap.size w w' := by
  apply f_ref05_strip.ok
  unfold f_ref05_strip.wp
  refine al_new fun w1 b1 e1 z1 h1 g1 => al_new fun w2 b2 e2 z2 h2 g2 => ⟨1, ?_⟩
  unfold f_ref05_strip.l0
  exact sel_f (by decide) fun _ => ⟨_, _, _, rfl, g1.trans (g2.mono g1.size)⟩
theorem REdge5g_ok (h : NF w s vr er) (A : Option Addr) (n c : Nat) (x : Int) :
    Calls Tryz.prog 114 #[.agg (g3C s A n c), .int .i64 x] w fun e w' => e = .returned (.tuple #[.agg (eC (edgeE er x)), .bool (edgeB er x)]) ∧ Below w.heap.size w w' := by
  apply f_ref05_Edge.ok
  unfold f_ref05_Edge.wp
  refine al_new fun w1 b1 e1 s1 h1 g1 => al_new fun w2 b2 e2 s2 h2 g2 => ?_
  have h1' := h1.below g2
  have hb := g1.trans (g2.mono (by omega))
  have h2 : HB w2 b2 (eC zE) 31 := h2
  refine ⟨er.length + 1, REdge_l0 (h.belw hb).e h.ne (by have := h.el; omega) h1' h2 (fun h0 => ?_) (fun h0 w3 h3 k3 => ?_) er.length 0 (by omega) (by omega) (by simp)⟩
  · intro _
    refine putE h2 rfl zE fun w3 h3 k3 => getE h3 ?_
    refine ⟨?_, HB.belK hb k3 (by omega)⟩
    rw [edgeE_none h0, h0]; rfl
  · intro _
    refine getE h3 ⟨?_, HB.belK hb k3 (by omega)⟩
    rw [h0]; rfl
end
def vC (k : Int) (vr : List Int) (er : List E) (x : Int) : Int := if k = 1 then addVC vr x else delVC vr er x
def vR (k : Int) (vr : List Int) (er : List E) (x : Int) : List Int := if k = 1 then addVr vr x else delVr vr er x
def eC5 (k : Int) (vr : List Int) (er : List E) (id u v : Int) : Int := if k = 4 then (if badI id then 1 else if id ∉ er.map E.id then 51 else 0) else addEC vr er id u v
def eR5 (k : Int) (vr : List Int) (er : List E) (id u v : Int) : List E := if k = 4 then cutEr er id else if addEC vr er id u v = 0 then insE er ⟨id, u, v, 0⟩ else er
def WR (w0 w : World) (s : NS) (vr : List Int) (er : List E) (code : Int) (e : Ending) : Prop := ∃ s' A n c, e = .returned (.tuple #[.agg (g3C s' A n c), .int .i64 code]) ∧ NF w s' vr er ∧ Sn w0 s s' ∧ Below w0.heap.size w0 w
section
variable {w w' : World} {s : NS} {vr : List Int} {er : List E}
theorem vertex_ok (h : NF w s vr er) (k x u v wt : Int) :
    Calls Tryz.prog 99 #[.agg (g3C s none 0 0), .agg (wC k x u v wt)] w fun e w' => WR w w' s (vR k vr er x) er (vC k vr er x) e := by
  apply f_ref05_vertex.ok
  unfold f_ref05_vertex.wp
  refine al_new fun w1 b1 e1 z1 h1 g1 => al_new fun w2 b3 e3 z3 h3 g2 => al_new fun w3 b5 e5 z5 h5 g3 => ?_
  have s1 := g1.size
  have hb : Below w.heap.size w w3 := (g1.trans (g2.mono s1)).trans (g3.mono (by omega))
  have h1 : HB w3 b1 (g3C s none 0 0) 128 := (h1.below g2).below g3
  have h3 : HB w3 b3 (wC k x u v wt) 94 := h3.below g3
  have hN := h.belw hb
  have same : ∀ {w4 : World} {c : Int}, Below w3.heap.size w3 w4 → vC k vr er x = c → vR k vr er x = vr → WR w w4 s (vR k vr er x) er (vC k vr er x) (.returned (.tuple #[.agg (g3C s none 0 0), .int .i64 c])) := fun {w4 c} g hc hr => by
    rw [hc, hr]
    exact ⟨s, none, 0, 0, rfl, hN.belw g, Sn.refl _ _, hb.trans (g.mono hb.size)⟩
  have st : ∀ {w4 w5 : World}, Below w3.heap.size w3 w4 → Keeps (fun k => k = b5) w4 w5 → ∀ {c : Int}, vC k vr er x = c → vR k vr er x = vr → WR w w5 s (vR k vr er x) er (vC k vr er x) (.returned (.tuple #[.agg (g3C s none 0 0), .int .i64 c])) := fun {w4 w5} g kk {c} hc hr => by
    rw [hc, hr]
    have hb4 := hb.trans (g.mono hb.size)
    exact ⟨s, none, 0, 0, rfl, (hN.belw g).keeps kk fun b hn e => by have := h.lt b hn; have := hb.size; omega, Sn.refl _ _, HB.belK hb4 kk (by omega)⟩
  have g0 : Below w3.heap.size w3 w3 := .refl _ _
  have keepR : ∀ {c : Int}, vC k vr er x = c → c ≠ 0 → vR k vr er x = vr := fun {c} hc h0 => by
    unfold vC at hc
    unfold vR
    by_cases q : k = 1
    · rw [if_pos q] at hc ⊢
      unfold addVr; rw [hc, if_neg h0]
    · rw [if_neg q] at hc ⊢
      unfold delVr; rw [hc, if_neg h0]
  refine hb_ldI (j := 1) h3 rfl ((RBad_ok x w3).mono ?_)
  rintro _ wx ⟨⟨b, rfl, hbd⟩, hx⟩
  obtain rfl : w3 = wx := hx.symm
  refine ⟨b, rfl, ?_⟩
  by_cases q1 : badI x
  · have hc : vC k vr er x = 1 := by
      unfold vC addVC delVC
      rw [if_pos q1, if_pos q1]; split <;> rfl
    exact sel_t (hbd.2 q1) (out3 h1 h5 rfl fun w5 kk => st g0 kk hc (keepR hc (by decide)))
  refine sel_f (Bool.eq_false_iff.2 fun hh => q1 (hbd.1 hh)) ?_
  refine hb_ldS0 h1 rfl (hb_ldS (j := 1) h1 rfl (hb_ldS (j := 2) h1 rfl (hb_ldI (j := 1) h3 rfl ((HasV5_ok hN none 0 0 x).mono ?_))))
  rintro _ w4 ⟨rfl, g4⟩
  have h1' := h1.below g4
  have h3' := h3.below g4
  have h5' := h5.below g4
  have hN4 := hN.belw g4
  refine ⟨_, rfl, hb_ldI0 h3' rfl ?_⟩
  by_cases qk : k = 1
  · refine sel_t (by simp [qk]) ?_
    by_cases q2 : x ∈ vr
    · have hc : vC k vr er x = 50 := by unfold vC addVC; rw [if_pos qk, if_neg q1, if_pos q2]
      exact sel_t (decide_eq_true q2) (out3 h1' h5' rfl fun w5 kk => st g4 kk hc (keepR hc (by decide)))
    refine sel_f (decide_eq_false q2) (hb_ldS0 h1' rfl ?_)
    by_cases q3 : 2048 ≤ vr.length
    · have hc : vC k vr er x = 55 := by unfold vC addVC; rw [if_pos qk, if_neg q1, if_neg q2, if_pos q3]
      exact sel_t (by rw [h.nv]; simp; omega) (out3 h1' h5' rfl fun w5 kk => st g4 kk hc (keepR hc (by decide)))
    have hc : vC k vr er x = 0 := by unfold vC addVC; rw [if_pos qk, if_neg q1, if_neg q2, if_neg q3]
    have hr : vR k vr er x = wiI vr x := by
      unfold vR addVr
      rw [if_pos qk]
      unfold vC at hc
      rw [if_pos qk] at hc
      rw [if_pos hc]
    refine sel_f (by rw [h.nv]; simp; omega) (hb_ldS0 h1' rfl (hb_ldI (j := 1) h3' rfl ((With_ok hN4.v h.nv (by omega) x).mono ?_)))
    rintro _ w5 ⟨A', c', rfl, o5, g5⟩
    refine ⟨_, _, _, rfl, hb_st0 (h1'.below g5) (by show 0 < 3; omega) fun w6 h6 k6 => ?_⟩
    have h6 : HB w6 b1 (g3C { s with A0 := A', n0 := (wiI vr x).length, c0 := c' } none 0 0) 128 := h6
    have ob := o5.block
    have s4 := g4.size
    have s5 := g5.size
    refine out3 h6 ((h5'.below g5).keeps k6 (by omega)) rfl fun w7 k7 => ?_
    rw [hc, hr]
    have hbb : Below w.heap.size w w5 := (hb.trans (g4.mono hb.size)).trans (g5.mono (by have := hb.size; omega))
    have hbs := hb.size
    have ltN := h.lt
    refine ⟨{ s with A0 := A', n0 := (wiI vr x).length, c0 := c' }, none, 0, 0, rfl, ?_, ?_, HB.belK (HB.belK hbb k6 (by omega)) k7 (by omega)⟩
    · have o7 : OwnI w7 w4.heap.size TI A' c' (wiI vr x) := (o5.keeps k6 fun a ha e => by have := ob a ha; omega).keeps k7 fun a ha e => by have := ob a ha; omega
      have hold : NF w7 s vr er := ((hN4.belw g5).keeps k6 fun b hn e => by have := ltN b hn; omega).keeps k7 fun b hn e => by have := ltN b hn; omega
      refine ⟨o7.reads, rfl, hold.e, hold.ne, fun b hn => ?_, by rw [(wiI_perm vr x).length_eq]; simp; omega, hold.el⟩
      rcases hn with ⟨a, ha, rfl⟩ | hn
      · exact (o7.block a ha).2
      · exact hold.lt b (.inr hn)
    · intro b hn
      rcases hn with ⟨a, ha, rfl⟩ | hn
      · have := ob a ha
        exact .inr (by omega)
      · exact .inl (.inr hn)
  · refine sel_f (by simp [qk]) ?_
    by_cases q2 : x ∉ vr
    · have hc : vC k vr er x = 51 := by unfold vC delVC; rw [if_neg qk, if_neg q1, if_pos q2]
      exact sel_t (by rw [decide_eq_false q2]; rfl) (out3 h1' h5' rfl fun w5 kk => st g4 kk hc (keepR hc (by decide)))
    have q2' := Classical.not_not.1 q2
    refine sel_f (by rw [decide_eq_true q2']; rfl) (hb_ldS0 h1' rfl (hb_ldS (j := 1) h1' rfl (hb_ldS (j := 2) h1' rfl (hb_ldI (j := 1) h3' rfl ((used_ok hN4 none 0 0 x).mono ?_)))))
    rintro _ w5 ⟨⟨bu, rfl, hbu⟩, g5⟩
    have g45 := g4.trans (g5.mono g4.size)
    have h15 := h1'.below g5
    have h35 := h3'.below g5
    have h55 := h5'.below g5
    refine ⟨bu, rfl, ?_⟩
    by_cases q3 : 0 < deg er x
    · have hc : vC k vr er x = 52 := by unfold vC delVC; rw [if_neg qk, if_neg q1, if_neg q2, if_pos q3]
      exact sel_t (hbu.2 q3) (out3 h15 h55 rfl fun w6 kk => st g45 kk hc (keepR hc (by decide)))
    have hc : vC k vr er x = 0 := by unfold vC delVC; rw [if_neg qk, if_neg q1, if_neg q2, if_neg q3]
    have hr : vR k vr er x = woI vr x := by
      unfold vR delVr
      rw [if_neg qk]
      unfold vC at hc
      rw [if_neg qk] at hc
      rw [if_pos hc]
    refine sel_f (Bool.eq_false_iff.2 fun hh => q3 (hbu.1 hh)) (hb_ldS0 h15 rfl (hb_ldI (j := 1) h35 rfl ((Without_ok (hN4.belw g5).v h.nv (by have := h.vl; omega) x).mono ?_)))
    rintro _ w6 ⟨A', c', rfl, o6, g6⟩
    refine ⟨_, _, _, rfl, hb_st0 (h15.below g6) (by show 0 < 3; omega) fun w7 h7 k7 => ?_⟩
    have h7 : HB w7 b1 (g3C { s with A0 := A', n0 := (woI vr x).length, c0 := c' } none 0 0) 128 := h7
    have ob := o6.block
    have s4 := g4.size
    have s5 := g5.size
    have s6 := g6.size
    have hbs := hb.size
    have ltN := h.lt
    have h37 := (h35.below g6).keeps k7 (by omega)
    refine hb_ldS (j := 2) h7 rfl (hb_ldI (j := 1) h37 rfl ((strip_ok w7 false x).mono ?_))
    rintro _ w8 ⟨A2, n2, c2, rfl, g8⟩
    refine ⟨_, _, _, rfl, hb_st (j := 2) (h7.below g8) (by show 2 < 3; omega) fun w9 h9 k9 => ?_⟩
    have h9 : HB w9 b1 (g3C { s with A0 := A', n0 := (woI vr x).length, c0 := c' } A2 n2 c2) 128 := h9
    have h59 := (((h55.below g6).keeps k7 (by omega)).below g8).keeps k9 (by omega)
    refine out3 h9 h59 rfl fun w10 k10 => ?_
    rw [hc, hr]
    have hbb : Below w.heap.size w w6 := ((hb.trans (g4.mono hb.size)).trans (g5.mono (by omega))).trans (g6.mono (by omega))
    have hb7 := HB.belK hbb k7 (by omega)
    have hb8 := hb7.trans (g8.mono hb7.size)
    have s7 := k7.size
    have s8 := g8.size
    refine ⟨{ s with A0 := A', n0 := (woI vr x).length, c0 := c' }, A2, n2, c2, rfl, ?_, ?_, HB.belK (HB.belK hb8 k9 (by omega)) k10 (by omega)⟩
    · have o10 : OwnI w10 w5.heap.size TI A' c' (woI vr x) := (((o6.keeps k7 fun a ha e => by have := ob a ha; omega).keeps (S := fun _ => False) (.of_below g8) fun _ _ => id).keeps k9 fun a ha e => by have := ob a ha; omega).keeps k10 fun a ha e => by have := ob a ha; omega
      have hold : NF w10 s vr er := (((((hN4.belw g5).belw g6).keeps k7 fun b hn e => by have := ltN b hn; omega).belw g8).keeps k9 fun b hn e => by have := ltN b hn; omega).keeps k10 fun b hn e => by have := ltN b hn; omega
      refine ⟨o10.reads, rfl, hold.e, hold.ne, fun b hn => ?_, Nat.le_trans (List.length_filter_le _ _) h.vl, hold.el⟩
      rcases hn with ⟨a, ha, rfl⟩ | hn
      · exact (o10.block a ha).2
      · exact hold.lt b (.inr hn)
    · intro b hn
      rcases hn with ⟨a, ha, rfl⟩ | hn
      · have := ob a ha
        exact .inr (by omega)
      · exact .inl (.inr hn)
end
section
variable {w w' : World} {s : NS} {vr : List Int} {er : List E}
theorem edge_ok (h : NF w s vr er) (k x u v : Int) :
    Calls Tryz.prog 100 #[.agg (g3C s none 0 0), .agg (wC k x u v 0)] w fun e w' => WR w w' s vr (eR5 k vr er x u v) (eC5 k vr er x u v) e := by
  apply f_ref05_edge.ok
  unfold f_ref05_edge.wp
  refine al_new fun w1 b1 e1 z1 h1 g1 => al_new fun w2 b3 e3 z3 h3 g2 => al_new fun w3 b5 e5 z5 h5 g3 => ?_
  have s1 := g1.size
  have hb : Below w.heap.size w w3 := (g1.trans (g2.mono s1)).trans (g3.mono (by omega))
  have h1 : HB w3 b1 (g3C s none 0 0) 128 := (h1.below g2).below g3
  have h3 : HB w3 b3 (wC k x u v 0) 94 := h3.below g3
  have hN := h.belw hb
  have ltN := h.lt
  have hbs := hb.size
  refine hb_ldS0 h1 rfl (hb_ldS (j := 1) h1 rfl (hb_ldS (j := 2) h1 rfl (hb_ldI (j := 1) h3 rfl ((REdge5g_ok hN none 0 0 x).mono ?_))))
  rintro _ w4 ⟨rfl, g4⟩
  refine ⟨_, _, _, _, _, rfl, al_new fun w5 b14 e14 z14 h14 g5 => ?_⟩
  refine putE h14 rfl (edgeE er x) fun w6 h14' k6 => ?_
  have s4 := g4.size
  have g36 : Below w3.heap.size w3 w6 := HB.belK (g4.trans (g5.mono s4)) k6 (by omega)
  have h1 := h1.below g36
  have h3 := h3.below g36
  have h5 := h5.below g36
  have hN := hN.belw g36
  have hb6 : Below w.heap.size w w6 := hb.trans (g36.mono hbs)
  have s6 := g36.size
  have st : ∀ {w4 w5 : World}, Below w6.heap.size w6 w4 → Keeps (fun k => k = b5) w4 w5 → ∀ {c : Int}, eC5 k vr er x u v = c → c ≠ 0 → WR w w5 s vr (eR5 k vr er x u v) (eC5 k vr er x u v) (.returned (.tuple #[.agg (g3C s none 0 0), .int .i64 c])) := fun {w4 w5} g kk {c} hc h0 => by
    have hr : eR5 k vr er x u v = er := by
      unfold eC5 at hc
      unfold eR5
      by_cases q : k = 4
      · rw [if_pos q] at hc ⊢
        unfold cutEr cutC
        by_cases q1 : badI x
        · rw [if_pos q1]; rfl
        · rw [if_neg q1] at hc ⊢
          by_cases q2 : x ∉ er.map E.id
          · rw [if_pos q2]; rfl
          · rw [if_neg q2] at hc; exact absurd hc.symm h0
      · rw [if_neg q] at hc ⊢
        rw [hc, if_neg h0]
    rw [hc, hr]
    have hb4 := hb6.trans (g.mono hb6.size)
    exact ⟨s, none, 0, 0, rfl, (hN.belw g).keeps kk fun b hn e => by have := ltN b hn; omega, Sn.refl _ _, HB.belK hb4 kk (by omega)⟩
  have g0 : Below w6.heap.size w6 w6 := .refl _ _
  have hisB := edgeB_iff er x
  refine hb_ldI0 h3 rfl ?_
  by_cases qk : k = 4
  · refine sel_t (by simp [qk]) (hb_ldI (j := 1) h3 rfl ((RBad_ok x w6).mono ?_))
    rintro _ wx ⟨⟨b, rfl, hbd⟩, hx⟩
    obtain rfl : w6 = wx := hx.symm
    refine ⟨b, rfl, ?_⟩
    by_cases q1 : badI x
    · exact sel_t (hbd.2 q1) (out3 h1 h5 rfl fun w5 kk => st g0 kk (by unfold eC5; rw [if_pos qk, if_pos q1]) (by decide))
    refine sel_f (Bool.eq_false_iff.2 fun hh => q1 (hbd.1 hh)) ?_
    by_cases q2 : x ∉ er.map E.id
    · have : edgeB er x = false := Bool.eq_false_iff.2 fun hh => q2 (hisB.1 hh)
      rw [this]
      exact sel_t rfl (out3 h1 h5 rfl fun w5 kk => st g0 kk (by unfold eC5; rw [if_pos qk, if_neg q1, if_pos q2]) (by decide))
    have : edgeB er x = true := hisB.2 (Classical.not_not.1 q2)
    rw [this]
    have hc : eC5 k vr er x u v = 0 := by unfold eC5; rw [if_pos qk, if_neg q1, if_neg q2]
    have hr : eR5 k vr er x u v = noE er x := by
      unfold eR5 cutEr cutC
      rw [if_pos qk, if_neg q1, if_neg q2]; rfl
    refine sel_f rfl (hb_ldS (j := 1) h1 rfl (hb_ldI (j := 1) h3 rfl ((withoutEdge_ok hN.e h.ne (by have := h.el; omega) x).mono ?_)))
    rintro _ w7 ⟨A', c', rfl, o7, g7⟩
    refine ⟨_, _, _, rfl, hb_st (j := 1) (h1.below g7) (by show 1 < 3; omega) fun w8 h8 k8 => ?_⟩
    have h8 : HB w8 b1 (g3C { s with A1 := A', n1 := (noE er x).length, c1 := c' } none 0 0) 128 := h8
    have ob : ∀ a, A' = some a → w6.heap.size ≤ a.block ∧ a.block < w7.heap.size := o7.block
    have s7 := g7.size
    have h38 := (h3.below g7).keeps k8 (by omega)
    refine hb_ldS (j := 2) h8 rfl (hb_ldI (j := 1) h38 rfl ((strip_ok w8 true x).mono ?_))
    rintro _ w9 ⟨A2, n2, c2, rfl, g9⟩
    refine ⟨_, _, _, rfl, hb_st (j := 2) (h8.below g9) (by show 2 < 3; omega) fun w10 h10 k10 => ?_⟩
    have h10 : HB w10 b1 (g3C { s with A1 := A', n1 := (noE er x).length, c1 := c' } A2 n2 c2) 128 := h10
    have h510 := (((h5.below g7).keeps k8 (by omega)).below g9).keeps k10 (by omega)
    refine out3 h10 h510 rfl fun w11 k11 => ?_
    rw [hc, hr]
    have hb7 : Below w.heap.size w w7 := hb6.trans (g7.mono hb6.size)
    have hb8 := HB.belK hb7 k8 (by omega)
    have hb9 := hb8.trans (g9.mono hb8.size)
    have s8 := k8.size
    have s9 := g9.size
    refine ⟨{ s with A1 := A', n1 := (noE er x).length, c1 := c' }, A2, n2, c2, rfl, ?_, ?_, HB.belK (HB.belK hb9 k10 (by omega)) k11 (by omega)⟩
    · have o11 : OwnEd w11 w6.heap.size TE A' c' (noE er x) := (((o7.keeps k8 fun a ha e => by have := ob a ha; omega).keeps (S := fun _ => False) (.of_below g9) fun _ _ => id).keeps k10 fun a ha e => by have := ob a ha; omega).keeps k11 fun a ha e => by have := ob a ha; omega
      have hold : NF w11 s vr er := ((((hN.belw g7).keeps k8 fun b hn e => by have := ltN b hn; omega).belw g9).keeps k10 fun b hn e => by have := ltN b hn; omega).keeps k11 fun b hn e => by have := ltN b hn; omega
      refine ⟨hold.v, hold.nv, o11.reads, rfl, fun b hn => ?_, hold.vl, Nat.le_trans (List.length_filter_le _ _) h.el⟩
      rcases hn with hn | ⟨a, ha, rfl⟩
      · exact hold.lt b (.inl hn)
      · exact (o11.block a ha).2
    · intro b hn
      rcases hn with hn | ⟨a, ha, rfl⟩
      · exact .inl (.inl hn)
      · have := ob a ha
        exact .inr (by omega)
  · refine sel_f (by simp [qk]) (hb_ldI (j := 1) h3 rfl ((RBad_ok x w6).mono ?_))
    rintro _ wx ⟨⟨b, rfl, hbd⟩, hx⟩
    obtain rfl : w6 = wx := hx.symm
    refine ⟨b, rfl, ?_⟩
    have c1 : badI x ∨ badI u ∨ badI v → eC5 k vr er x u v = 1 := fun q => by unfold eC5 addEC; rw [if_neg qk, if_pos q]
    by_cases q1 : badI x
    · exact sel_t (hbd.2 q1) (out3 h1 h5 rfl fun w5 kk => st g0 kk (c1 (.inl q1)) (by decide))
    refine sel_f (Bool.eq_false_iff.2 fun hh => q1 (hbd.1 hh)) (hb_ldI (j := 2) h3 rfl ((RBad_ok u w6).mono ?_))
    rintro _ wx ⟨⟨b, rfl, hbd⟩, hx⟩
    obtain rfl : w6 = wx := hx.symm
    refine ⟨b, rfl, ?_⟩
    by_cases qu : badI u
    · exact sel_t (hbd.2 qu) (out3 h1 h5 rfl fun w5 kk => st g0 kk (c1 (.inr (.inl qu))) (by decide))
    refine sel_f (Bool.eq_false_iff.2 fun hh => qu (hbd.1 hh)) (hb_ldI (j := 3) h3 rfl ((RBad_ok v w6).mono ?_))
    rintro _ wx ⟨⟨b, rfl, hbd⟩, hx⟩
    obtain rfl : w6 = wx := hx.symm
    refine ⟨b, rfl, ?_⟩
    by_cases qv : badI v
    · exact sel_t (hbd.2 qv) (out3 h1 h5 rfl fun w5 kk => st g0 kk (c1 (.inr (.inr qv))) (by decide))
    refine sel_f (Bool.eq_false_iff.2 fun hh => qv (hbd.1 hh)) (hb_ldI (j := 4) h3 rfl (sel_f (by decide) (hb_ldI (j := 4) h3 rfl (sel_f (by decide) ?_))))
    have q0 : ¬ (badI x ∨ badI u ∨ badI v) := fun hh => hh.elim q1 fun hh => hh.elim qu qv
    by_cases q2 : x ∈ er.map E.id
    · rw [hisB.2 q2]
      exact sel_t rfl (out3 h1 h5 rfl fun w5 kk => st g0 kk (by unfold eC5 addEC; rw [if_neg qk, if_neg q0, if_pos q2]) (by decide))
    rw [Bool.eq_false_iff.2 fun hh => q2 (hisB.1 hh)]
    refine sel_f rfl (hb_ldS0 h1 rfl (hb_ldS (j := 1) h1 rfl (hb_ldS (j := 2) h1 rfl (hb_ldI (j := 2) h3 rfl ((HasV5_ok hN none 0 0 u).mono ?_)))))
    rintro _ w7 ⟨rfl, g7⟩
    have h17 := h1.below g7
    have h37 := h3.below g7
    have h57 := h5.below g7
    refine ⟨_, rfl, ?_⟩
    by_cases q3 : u ∉ vr
    · exact sel_t (by rw [decide_eq_false q3]; rfl) (out3 h17 h57 rfl fun w5 kk => st g7 kk (by unfold eC5 addEC; rw [if_neg qk, if_neg q0, if_neg q2, if_pos fun hh => q3 hh.1]) (by decide))
    have q3' := Classical.not_not.1 q3
    refine sel_f (by rw [decide_eq_true q3']; rfl) (hb_ldS0 h17 rfl (hb_ldS (j := 1) h17 rfl (hb_ldS (j := 2) h17 rfl (hb_ldI (j := 3) h37 rfl ((HasV5_ok (hN.belw g7) none 0 0 v).mono ?_)))))
    rintro _ w8 ⟨rfl, g8⟩
    have g68 := g7.trans (g8.mono g7.size)
    have h18 := h17.below g8
    have h38 := h37.below g8
    have h58 := h57.below g8
    refine ⟨_, rfl, ?_⟩
    by_cases q4 : v ∉ vr
    · exact sel_t (by rw [decide_eq_false q4]; rfl) (out3 h18 h58 rfl fun w5 kk => st g68 kk (by unfold eC5 addEC; rw [if_neg qk, if_neg q0, if_neg q2, if_pos fun hh => q4 hh.2]) (by decide))
    have q4' := Classical.not_not.1 q4
    refine sel_f (by rw [decide_eq_true q4']; rfl) (hb_ldS (j := 1) h18 rfl ?_)
    by_cases q5 : 2048 ≤ er.length
    · exact sel_t (by rw [h.ne]; simp; omega) (out3 h18 h58 rfl fun w5 kk => st g68 kk (by unfold eC5 addEC; rw [if_neg qk, if_neg q0, if_neg q2, if_neg (fun hh => hh ⟨q3', q4'⟩), if_pos q5]) (by decide))
    have hc0 : addEC vr er x u v = 0 := by unfold addEC; rw [if_neg q0, if_neg q2, if_neg (fun hh => hh ⟨q3', q4'⟩), if_neg q5]
    have hc : eC5 k vr er x u v = 0 := by unfold eC5; rw [if_neg qk]; exact hc0
    have hr : eR5 k vr er x u v = insE er ⟨x, u, v, 0⟩ := by unfold eR5; rw [if_neg qk, if_pos hc0]
    refine sel_f (by rw [h.ne]; simp; omega) (hb_ldS (j := 1) h18 rfl (hb_ldI (j := 1) h38 rfl (hb_ldI (j := 2) h38 rfl (hb_ldI (j := 3) h38 rfl (hb_ldI (j := 4) h38 rfl ((withEdge_ok (hN.belw g68).e h.ne (by omega) ⟨x, u, v, 0⟩).mono ?_))))))
    rintro _ w9 ⟨A', c', rfl, o9, g9⟩
    refine ⟨_, _, _, rfl, hb_st (j := 1) (h18.below g9) (by show 1 < 3; omega) fun w10 h10 k10 => ?_⟩
    have h10 : HB w10 b1 (g3C { s with A1 := A', n1 := (insE er ⟨x, u, v, 0⟩).length, c1 := c' } none 0 0) 128 := h10
    have ob : ∀ a, A' = some a → w8.heap.size ≤ a.block ∧ a.block < w9.heap.size := o9.block
    have s8 := g68.size
    have s9 := g9.size
    refine out3 h10 ((h58.below g9).keeps k10 (by omega)) rfl fun w11 k11 => ?_
    rw [hc, hr]
    have hb8 : Below w.heap.size w w8 := hb6.trans (g68.mono hb6.size)
    have hb9 := hb8.trans (g9.mono hb8.size)
    refine ⟨{ s with A1 := A', n1 := (insE er ⟨x, u, v, 0⟩).length, c1 := c' }, none, 0, 0, rfl, ?_, ?_, HB.belK (HB.belK hb9 k10 (by omega)) k11 (by omega)⟩
    · have o11 : OwnEd w11 w8.heap.size TE A' c' (insE er ⟨x, u, v, 0⟩) := (o9.keeps k10 fun a ha e => by have := ob a ha; omega).keeps k11 fun a ha e => by have := ob a ha; omega
      have hold : NF w11 s vr er := (((hN.belw g68).belw g9).keeps k10 fun b hn e => by have := ltN b hn; omega).keeps k11 fun b hn e => by have := ltN b hn; omega
      refine ⟨hold.v, hold.nv, o11.reads, rfl, fun b hn => ?_, hold.vl, by rw [(insE_perm er _).length_eq]; simp; omega⟩
      rcases hn with hn | ⟨a, ha, rfl⟩
      · exact hold.lt b (.inl hn)
      · exact (o11.block a ha).2
    · intro b hn
      rcases hn with hn | ⟨a, ha, rfl⟩
      · exact .inl (.inl hn)
      · have := ob a ha
        exact .inr (by omega)
end
def dC (k : Int) (vr : List Int) (er : List E) (x u v : Int) : Int := if k ≤ 2 then vC k vr er x else eC5 k vr er x u v
def dV (k : Int) (vr : List Int) (er : List E) (x : Int) : List Int := if k ≤ 2 then vR k vr er x else vr
def dE (k : Int) (vr : List Int) (er : List E) (x u v : Int) : List E := if k ≤ 2 then er else eR5 k vr er x u v
theorem getW {w : World} {b : Nat} {t : TypeId} {k x u v wt : Int} (h : HB w b (wC k x u v wt) t) {K : Int → Int → Int → Int → Int → Bool → Int → ByteArray → Int → Int → Nat → Nat → Option Addr → Nat → Nat → Prop} (hk : K k x u v wt false 0 ByteArray.empty 0 0 0 0 none 0 0) :
    ldI w (⟨b, 0, none⟩ : Addr) .i64 fun x11 =>
    ldI w ((⟨b, 0, none⟩ : Addr).add 1) .i64 fun x12 =>
    ldI w ((⟨b, 0, none⟩ : Addr).add 2) .i64 fun x13 =>
    ldI w ((⟨b, 0, none⟩ : Addr).add 3) .i64 fun x14 =>
    ldI w ((⟨b, 0, none⟩ : Addr).add 4) .i64 fun x15 =>
    ldB w ((⟨b, 0, none⟩ : Addr).add 5) fun b16 =>
    ldI w ((⟨b, 0, none⟩ : Addr).add 6) .i64 fun x17 =>
    ldT w ((⟨b, 0, none⟩ : Addr).add 7) fun s18 =>
    ldI w ((⟨b, 0, none⟩ : Addr).add 8) .i64 fun x19 =>
    ldI w ((⟨b, 0, none⟩ : Addr).add 9) .i64 fun x20 =>
    ldC w ((⟨b, 0, none⟩ : Addr).add 10) .f64 fun r21 i21 =>
    ldS w ((⟨b, 0, none⟩ : Addr).add 11) fun A22 n22 c22 => K x11 x12 x13 x14 x15 b16 x17 s18 x19 x20 r21 i21 A22 n22 c22 :=
  hb_ldI0 h rfl (hb_ldI (j := 1) h rfl (hb_ldI (j := 2) h rfl (hb_ldI (j := 3) h rfl (hb_ldI (j := 4) h rfl ⟨_, (h.cell 5).trans rfl, hb_ldI (j := 6) h rfl ⟨_, (h.cell 7).trans rfl, hb_ldI (j := 8) h rfl (hb_ldI (j := 9) h rfl ⟨_, _, (h.cell 10).trans rfl, hb_ldS (j := 11) h rfl hk⟩)⟩⟩))))
theorem get3 {w : World} {b1 : Nat} {t1 : TypeId} {s : NS} {A : Option Addr} {n c : Nat} (h1 : HB w b1 (g3C s A n c) t1) {K : Option Addr → Nat → Nat → Option Addr → Nat → Nat → Option Addr → Nat → Nat → Prop} (hk : K s.A0 s.n0 s.c0 s.A1 s.n1 s.c1 A n c) :
    ldS w (⟨b1, 0, Option.none⟩ : Addr) fun A11 n11 c11 =>
    ldS w ((⟨b1, 0, Option.none⟩ : Addr).add 1) fun A12 n12 c12 =>
    ldS w ((⟨b1, 0, Option.none⟩ : Addr).add 2) fun A13 n13 c13 => K A11 n11 c11 A12 n12 c12 A13 n13 c13 :=
  hb_ldS0 h1 rfl (hb_ldS (j := 1) h1 rfl (hb_ldS (j := 2) h1 rfl hk))
theorem put3 {w : World} {b5 : Nat} {t5 : TypeId} {cs : Array Value} (s : NS) (A : Option Addr) (n c : Nat) (h5 : HB w b5 cs t5) (hc : cs.size = 3) {K : World → Prop} (hk : ∀ w', HB w' b5 (g3C s A n c) t5 → Keeps (fun k => k = b5) w w' → K w') :
    stW w (⟨b5, 0, Option.none⟩ : Addr) (.slice s.A0 s.n0 s.c0) fun w14 =>
    stW w14 ((⟨b5, 0, Option.none⟩ : Addr).add 1) (.slice s.A1 s.n1 s.c1) fun w15 =>
    stW w15 ((⟨b5, 0, Option.none⟩ : Addr).add 2) (.slice A n c) K := by
  refine hb_st0 h5 (by omega) fun w1 h1 k1 => hb_st (j := 1) h1 (by simp; omega) fun w2 h2 k2 => hb_st (j := 2) h2 (by simp; omega) fun w3 h3 k3 => ?_
  have e : ((cs.setIfInBounds 0 (.slice s.A0 s.n0 s.c0)).setIfInBounds 1 (.slice s.A1 s.n1 s.c1)).setIfInBounds 2 (.slice A n c) = g3C s A n c := by
    obtain ⟨l⟩ := cs
    match l, hc with
    | [_, _, _], _ => rfl
  rw [e] at h3
  exact hk w3 h3 ((k1.trans k2).trans k3)
theorem get2 {w : World} {b1 : Nat} {t1 : TypeId} {s : NS} (h1 : HB w b1 (nsC s) t1) {K : Option Addr → Nat → Nat → Option Addr → Nat → Nat → Prop} (hk : K s.A0 s.n0 s.c0 s.A1 s.n1 s.c1) :
    ldS w (⟨b1, 0, Option.none⟩ : Addr) fun A11 n11 c11 =>
    ldS w ((⟨b1, 0, Option.none⟩ : Addr).add 1) fun A12 n12 c12 => K A11 n11 c11 A12 n12 c12 :=
  hb_ldS0 h1 rfl (hb_ldS (j := 1) h1 rfl hk)
theorem put2 {w : World} {b5 : Nat} {t5 : TypeId} {cs : Array Value} (s : NS) (h5 : HB w b5 cs t5) (hc : cs.size = 2) {K : World → Prop} (hk : ∀ w', HB w' b5 (nsC s) t5 → Keeps (fun k => k = b5) w w' → K w') :
    stW w (⟨b5, 0, Option.none⟩ : Addr) (.slice s.A0 s.n0 s.c0) fun w14 =>
    stW w14 ((⟨b5, 0, Option.none⟩ : Addr).add 1) (.slice s.A1 s.n1 s.c1) K := by
  refine hb_st0 h5 (by omega) fun w1 h1 k1 => hb_st (j := 1) h1 (by simp; omega) fun w2 h2 k2 => ?_
  have e : (cs.setIfInBounds 0 (.slice s.A0 s.n0 s.c0)).setIfInBounds 1 (.slice s.A1 s.n1 s.c1) = nsC s := by
    obtain ⟨l⟩ := cs
    match l, hc with
    | [_, _], _ => rfl
  rw [e] at h2
  exact hk w2 h2 (k1.trans k2)
section
variable {w w' : World} {s : NS} {vr : List Int} {er : List E}
theorem Do5_ok (h : NF w s vr er) {k : Int} (hk : k = 1 ∨ k = 2 ∨ k = 3 ∨ k = 4) (x u v : Int) :
    Calls Tryz.prog 75 #[.agg (g3C s none 0 0), .agg (wC k x u v 0)] w fun e w' => WR w w' s (dV k vr er x) (dE k vr er x u v) (dC k vr er x u v) e := by
  apply f_ref05_Do.ok
  unfold f_ref05_Do.wp
  refine al_new fun w1 b1 e1 z1 h1 g1 => al_new fun w2 b3 e3 z3 h3 g2 => al_new fun w3 b5 e5 z5 h5 g3 => ?_
  have s1 := g1.size
  have hb : Below w.heap.size w w3 := (g1.trans (g2.mono s1)).trans (g3.mono (by omega))
  have h1 : HB w3 b1 (g3C s none 0 0) 128 := (h1.below g2).below g3
  have h3 : HB w3 b3 (wC k x u v 0) 94 := h3.below g3
  have hN := h.belw hb
  have ltN := h.lt
  have hbs := hb.size
  have fin : ∀ {w4 w5 : World} {vr' : List Int} {er' : List E} {c : Int} {s' : NS} {A : Option Addr} {n cc : Nat}, vr' = dV k vr er x → er' = dE k vr er x u v → c = dC k vr er x u v → NF w4 s' vr' er' → Sn w3 s s' → Below w3.heap.size w3 w4 → Keeps (fun k => k = b5) w4 w5 → WR w w5 s (dV k vr er x) (dE k vr er x u v) (dC k vr er x u v) (.returned (.tuple #[.agg (g3C s' A n cc), .int .i64 c])) := by
    intro w4 w5 vr' er' c s' A n cc e1 e2 e3 hN' hS g kk
    rw [← e1, ← e2, ← e3]
    have hb4 := hb.trans (g.mono hbs)
    refine ⟨s', A, n, cc, rfl, hN'.keeps kk fun b hn e => ?_, fun b hn => ?_, HB.belK hb4 kk (by omega)⟩
    · rcases hS b hn with q | q
      · have := ltN b q; omega
      · omega
    · rcases hS b hn with q | q
      · exact .inl q
      · exact .inr (by omega)
  refine hb_ldI0 h3 rfl ?_
  have vtx : ∀ (Kn : World → Prop) (Kr : Int → World → Prop), k ≤ 2 → (∀ w5 s' A n cc, HB w5 b5 (g3C s' A n cc) 128 → WR w w5 s (dV k vr er x) (dE k vr er x u v) (dC k vr er x u v) (.returned (.tuple #[.agg (g3C s' A n cc), .int .i64 (vC k vr er x)])) → Kr (vC k vr er x) w5) → f_ref05_Do.j0 (⟨b1, 0, none⟩ : Addr) (⟨b3, 0, none⟩ : Addr) (⟨b5, 0, none⟩ : Addr) k true w3 Kn Kr := by
    intro Kn Kr hk2 hR
    unfold f_ref05_Do.j0
    refine sel_t rfl (get3 h1 (getW h3 ((vertex_ok hN k x u v 0).mono ?_)))
    rintro _ w4 ⟨s', A, n, cc, rfl, hN', hS, g⟩
    refine ⟨_, _, _, _, _, _, _, _, _, _, rfl, put3 s' A n cc (h5.below g) rfl fun w5 h5' k5 => ?_⟩
    exact hR w5 s' A n cc h5' (fin (by unfold dV; rw [if_pos hk2]) (by unfold dE; rw [if_pos hk2]) (by unfold dC; rw [if_pos hk2]) hN' hS g k5)
  have edg : ∀ (Kn : World → Prop) (Kr : Int → World → Prop), ¬ k ≤ 2 → (∀ w5 s' A n cc, HB w5 b5 (g3C s' A n cc) 128 → WR w w5 s (dV k vr er x) (dE k vr er x u v) (dC k vr er x u v) (.returned (.tuple #[.agg (g3C s' A n cc), .int .i64 (eC5 k vr er x u v)])) → Kr (eC5 k vr er x u v) w5) → f_ref05_Do.j1 (⟨b1, 0, none⟩ : Addr) (⟨b3, 0, none⟩ : Addr) (⟨b5, 0, none⟩ : Addr) k true w3 Kn Kr := by
    intro Kn Kr hk2 hR
    unfold f_ref05_Do.j1
    refine sel_t rfl (get3 h1 (getW h3 ((edge_ok hN k x u v).mono ?_)))
    rintro _ w4 ⟨s', A, n, cc, rfl, hN', hS, g⟩
    refine ⟨_, _, _, _, _, _, _, _, _, _, rfl, put3 s' A n cc (h5.below g) rfl fun w5 h5' k5 => ?_⟩
    exact hR w5 s' A n cc h5' (fin (by unfold dV; rw [if_neg hk2]) (by unfold dE; rw [if_neg hk2]) (by unfold dC; rw [if_neg hk2]) hN' hS g k5)
  rcases hk with rfl | rfl | rfl | rfl
  · refine sel_t (by decide) (vtx _ _ (by decide) fun w5 s' A n cc h5' hr _ => get3 h5' hr)
  · refine sel_f (by decide) (vtx _ _ (by decide) fun w5 s' A n cc h5' hr _ => get3 h5' hr)
  · refine sel_f (by decide) ?_
    unfold f_ref05_Do.j0
    exact sel_f (by decide) (sel_t (by decide) (edg _ _ (by decide) fun w5 s' A n cc h5' hr _ _ => get3 h5' hr))
  · refine sel_f (by decide) ?_
    unfold f_ref05_Do.j0
    exact sel_f (by decide) (sel_f (by decide) (edg _ _ (by decide) fun w5 s' A n cc h5' hr _ _ => get3 h5' hr))
theorem Net_ok (w : World) (s : NS) (A : Option Addr) (n c : Nat) : Calls Tryz.prog 76 #[.agg (g3C s A n c)] w fun e w' => e = .returned (.agg (nsC s)) ∧ Below w.heap.size w w' := by
  apply f_ref05_Net.ok
  unfold f_ref05_Net.wp
  refine al_new fun w1 b1 e1 z1 h1 g1 => al_new fun w2 b3 e3 z3 h3 g2 => ?_
  have h1 : HB w2 b1 (g3C s A n c) 128 := h1.below g2
  refine hb_ldS0 h1 rfl (hb_ldS (j := 1) h1 rfl (put2 s h3 rfl fun w3 h3' k3 => get2 h3' ⟨rfl, ?_⟩))
  exact HB.belK (g1.trans (g2.mono g1.size)) k3 (by have := g1.size; omega)
def WN (w0 w : World) (s : NS) (vr : List Int) (er : List E) (code : Int) (e : Ending) : Prop := ∃ s', e = .returned (.tuple #[.agg (nsC s'), .int .i64 code]) ∧ NF w s' vr er ∧ Sn w0 s s' ∧ Below w0.heap.size w0 w
theorem write_ok (h : NF w s vr er) {k : Int} (hk : k = 1 ∨ k = 2 ∨ k = 3 ∨ k = 4) (x u v : Int) :
    Calls Tryz.prog 46 #[.agg (nsC s), .agg (wC k x u v 0)] w fun e w' => WN w w' s (dV k vr er x) (dE k vr er x u v) (dC k vr er x u v) e := by
  apply f_ref18_write.ok
  unfold f_ref18_write.wp
  refine al_new fun w1 b1 e1 z1 h1 g1 => al_new fun w2 b3 e3 z3 h3 g2 => al_new fun w3 b5 e5 z5 h5 g3 => ?_
  have s1 := g1.size
  have hb : Below w.heap.size w w3 := (g1.trans (g2.mono s1)).trans (g3.mono (by omega))
  have h1 : HB w3 b1 (nsC s) 29 := (h1.below g2).below g3
  have h3 : HB w3 b3 (wC k x u v 0) 94 := h3.below g3
  have hN := h.belw hb
  have ltN := h.lt
  have hbs := hb.size
  refine get2 h1 (getW h3 ((Do5_ok hN hk x u v).mono ?_))
  rintro _ w4 ⟨s', A, n, cc, rfl, hN', hS, g⟩
  refine ⟨_, _, _, _, _, _, _, _, _, _, rfl, al_new fun w5 b24 e24 z24 h24 g5 => ?_⟩
  have s4 := g.size
  refine put3 s' A n cc h24 rfl fun w6 h6 k6 => get3 h6 ((Net_ok w6 s' A n cc).mono ?_)
  rintro _ w7 ⟨rfl, g7⟩
  have s6 := k6.size
  have h57 := (((h5.below g).below g5).keeps k6 (by omega)).below g7
  have sz7 := g7.size
  refine ⟨_, _, _, _, _, _, rfl, put2 s' h57 rfl fun w8 h8 k8 => get2 h8 ?_⟩
  have hb4 := hb.trans (g.mono hbs)
  have hb5 := hb4.trans (g5.mono hb4.size)
  have hb6 := HB.belK hb5 k6 (by omega)
  have hb7 := hb6.trans (g7.mono hb6.size)
  have old : ∀ {b}, Nb s' b → b < w4.heap.size ∧ b ≠ b5 := fun {b} hn => by
    have h1 := hN'.lt b hn
    refine ⟨h1, fun e => ?_⟩
    rcases hS b hn with q | q
    · have := ltN b q; omega
    · omega
  refine ⟨s', rfl, ?_, fun b hn => ?_, HB.belK hb7 k8 (by omega)⟩
  · refine (((hN'.belw g5).keeps k6 fun b hn e => by have := (old hn).1; omega).belw g7).keeps k8 fun b hn e => (old hn).2 e
  · rcases hS b hn with q | q
    · exact .inl q
    · exact .inr (by omega)
end
def addEr (vr : List Int) (er : List E) (id u v : Int) : List E := if addEC vr er id u v = 0 then insE er ⟨id, u, v, 0⟩ else er
section
variable {w w' : World} {s : NS} {vr : List Int} {er : List E}
theorem WN.thru {w0 w3 w4 w5 : World} {s : NS} {vr : List Int} {er : List E} {c : Int} {s' : NS} {b : Nat} (hb : Below w0.heap.size w0 w3) (hN : NF w4 s' vr er) (hS : Sn w3 s s') (g : Below w3.heap.size w3 w4) (k : Keeps (fun k => k = b) w4 w5) (hb0 : w0.heap.size ≤ b) (hbl : b < w3.heap.size) (ltN : ∀ k, Nb s k → k < w0.heap.size) : WN w0 w5 s vr er c (.returned (.tuple #[.agg (nsC s'), .int .i64 c])) := by
  have hbs := hb.size
  have hb4 := hb.trans (g.mono hbs)
  refine ⟨s', rfl, hN.keeps k fun b' hn e => ?_, fun b' hn => ?_, HB.belK hb4 k hb0⟩
  · rcases hS b' hn with q | q
    · have := ltN b' q; omega
    · omega
  · rcases hS b' hn with q | q
    · exact .inl q
    · exact .inr (by omega)
theorem AddV18_ok (h : NF w s vr er) (x : Int) : Calls Tryz.prog 24 #[.agg (nsC s), .int .i64 x] w fun e w' => WN w w' s (addVr vr x) er (addVC vr x) e := by
  apply f_ref18_AddV.ok
  unfold f_ref18_AddV.wp
  refine al_new fun w1 b1 e1 z1 h1 g1 => al_new fun w2 b3 e3 z3 h3 g2 => ?_
  have h1 : HB w2 b1 (nsC s) 29 := h1.below g2
  have hb := g1.trans (g2.mono g1.size)
  have hbs := g1.size
  refine get2 h1 ((write_ok (h.belw hb) (k := 1) (.inl rfl) x 0 0).mono ?_)
  rintro _ w3 ⟨s', rfl, hN', hS, g⟩
  have s3 := g.size
  refine ⟨_, _, _, _, _, _, _, rfl, put2 s' (h3.below g) rfl fun w4 h4 k4 => get2 h4 ?_⟩
  exact WN.thru hb hN' hS g k4 (by omega) (by omega) h.lt
theorem DelV18_ok (h : NF w s vr er) (x : Int) : Calls Tryz.prog 25 #[.agg (nsC s), .int .i64 x] w fun e w' => WN w w' s (delVr vr er x) er (delVC vr er x) e := by
  apply f_ref18_DelV.ok
  unfold f_ref18_DelV.wp
  refine al_new fun w1 b1 e1 z1 h1 g1 => al_new fun w2 b3 e3 z3 h3 g2 => ?_
  have h1 : HB w2 b1 (nsC s) 29 := h1.below g2
  have hb := g1.trans (g2.mono g1.size)
  have hbs := g1.size
  refine get2 h1 ((write_ok (h.belw hb) (k := 2) (.inr (.inl rfl)) x 0 0).mono ?_)
  rintro _ w3 ⟨s', rfl, hN', hS, g⟩
  have s3 := g.size
  refine ⟨_, _, _, _, _, _, _, rfl, put2 s' (h3.below g) rfl fun w4 h4 k4 => get2 h4 ?_⟩
  exact WN.thru hb hN' hS g k4 (by omega) (by omega) h.lt
theorem AddE18_ok (h : NF w s vr er) (x u v : Int) : Calls Tryz.prog 26 #[.agg (nsC s), .agg (eC ⟨x, u, v, 0⟩)] w fun e w' => WN w w' s vr (addEr vr er x u v) (addEC vr er x u v) e := by
  apply f_ref18_AddE.ok
  unfold f_ref18_AddE.wp
  refine al_new fun w1 b1 e1 z1 h1 g1 => al_new fun w2 b3 e3 z3 h3 g2 => al_new fun w2' b5 e5 z5 h5 g2' => ?_
  have hbs := g1.size
  have h1 : HB w2' b1 (nsC s) 29 := (h1.below g2).below g2'
  have h3 : HB w2' b3 (eC ⟨x, u, v, 0⟩) TE := h3.below g2'
  have hb := (g1.trans (g2.mono hbs)).trans (g2'.mono (by omega))
  refine get2 h1 (getE h3 ((write_ok (h.belw hb) (k := 3) (.inr (.inr (.inl rfl))) x u v).mono ?_))
  rintro _ w3 ⟨s', rfl, hN', hS, g⟩
  have s3 := g.size
  refine ⟨_, _, _, _, _, _, _, rfl, put2 s' (h5.below g) rfl fun w4 h4 k4 => get2 h4 ?_⟩
  exact WN.thru hb hN' hS g k4 (by omega) (by omega) h.lt
theorem DelE18_ok (h : NF w s vr er) (x : Int) : Calls Tryz.prog 27 #[.agg (nsC s), .int .i64 x] w fun e w' => WN w w' s vr (cutEr er x) (cutC er x) e := by
  apply f_ref18_DelE.ok
  unfold f_ref18_DelE.wp
  refine al_new fun w1 b1 e1 z1 h1 g1 => al_new fun w2 b3 e3 z3 h3 g2 => ?_
  have h1 : HB w2 b1 (nsC s) 29 := h1.below g2
  have hb := g1.trans (g2.mono g1.size)
  have hbs := g1.size
  refine get2 h1 ((write_ok (h.belw hb) (k := 4) (.inr (.inr (.inr rfl))) x 0 0).mono ?_)
  rintro _ w3 ⟨s', rfl, hN', hS, g⟩
  have s3 := g.size
  refine ⟨_, _, _, _, _, _, _, rfl, al_new fun w4 b10 e10 z10 h10 g4 => put2 s' h10 rfl fun w5 h5 k5 => ?_⟩
  have g35 : Below w2.heap.size w2 w5 := (g.trans (g4.mono s3)).trans (k5.below (by omega) fun k hk e => by omega)
  have hN5 : NF w5 s' vr (dE 4 vr er x 0 0) := (hN'.belw g4).keeps k5 fun b hn e => by have := hN'.lt b hn; omega
  have h15 := h1.below g35
  have h35 := h3.below g35
  have ed : dC 4 vr er x 0 0 = if badI x then 1 else if x ∉ er.map E.id then 51 else 0 := rfl
  have er' : dE 4 vr er x 0 0 = cutEr er x := rfl
  rw [er'] at hN5
  rw [ed]
  have ltN := h.lt
  by_cases q : x ∉ er.map E.id ∧ ¬ badI x
  · rw [if_neg q.2, if_pos q.1]
    have hc : cutC er x = 152 := by unfold cutC; rw [if_neg q.2, if_pos q.1]
    have hr : cutEr er x = er := by unfold cutEr; rw [hc]; rfl
    refine sel_t (by decide) (get2 h15 (put2 s h35 rfl fun w6 h6 k6 => get2 h6 ?_))
    rw [hc, hr]
    exact WN.thru hb ((h.belw hb).belw g35) (Sn.refl _ _) g35 k6 (by omega) (by omega) h.lt
  · have e1 : (if badI x then (1 : Int) else if x ∉ er.map E.id then 51 else 0) = cutC er x := by
      unfold cutC
      by_cases q1 : badI x
      · rw [if_pos q1, if_pos q1]
      · have q2 : ¬ x ∉ er.map E.id := fun hh => q ⟨hh, q1⟩
        rw [if_neg q1, if_neg q1, if_neg q2, if_neg q2]
    rw [e1]
    have hne : cutC er x ≠ 51 := by
      unfold cutC
      by_cases q1 : badI x
      · rw [if_pos q1]; decide
      · have q2 : ¬ x ∉ er.map E.id := fun hh => q ⟨hh, q1⟩
        rw [if_neg q1, if_neg q2]; decide
    refine sel_f (by simpa using hne) (get2 h5 (put2 s' h35 rfl fun w6 h6 k6 => get2 h6 ?_))
    exact WN.thru hb hN5 hS g35 k6 (by omega) (by omega) h.lt
end
structure PX (w0 w : World) (O : Ow) (s : HS) (N : Nat) : Prop where
  hg : HG w O s N
  lo : ∀ k, O k ≠ none → w0.heap.size ≤ k
  bel : Below w0.heap.size w0 w
theorem UH.non {O O' : Ow} {w w' : World} (u : UH O w O' w') {b : Nat} (h : O b = none) (hl : b < w.heap.size) : O' b = none := by
  apply Classical.byContradiction
  intro hh
  rcases u.fr b hh with q | q
  · exact q h
  · omega
theorem UH.hb {O O' : Ow} {w w' : World} (u : UH O w O' w') {b : Nat} {cs : Array Value} {t : TypeId} (h : HB w b cs t) (hO : O b = none) : HB w' b cs t := h.keeps u.kp fun hk => hk hO
structure PV (w : World) (O : Ow) (ns : NS) (vr : List Int) (er : List E) : Prop where
  nf : NF w ns vr er
  fr : ∀ b, Nb ns b → O b = none
section
variable {w0 w w' : World} {O O' : Ow} {s s' : HS} {N N' : Nat} {ns ns' : NS} {vr vr' : List Int} {er er' : List E}
theorem PX.call (p : PX w0 w O s N) (h : HG w' O' s' N') (u : UH O w O' w') : PX w0 w' O' s' N' :=
  ⟨h, fun k hk => (u.fr k hk).elim (p.lo k) fun q => Nat.le_trans p.bel.size q, p.bel.trans (u.kp.below p.bel.size fun k hk hh => by have := p.lo k hh; omega)⟩
theorem PX.below (p : PX w0 w O s N) (g : Below w.heap.size w w') : PX w0 w' O s N := ⟨p.hg.below g, p.lo, p.bel.trans (g.mono p.bel.size)⟩
theorem PX.fresh (p : PX w0 w O s N) {b : Nat} (h : w.heap.size ≤ b) : O b = none := by
  cases q : O b with
  | none => rfl
  | some t => have := p.hg.hm.dom b t q; omega
theorem PX.other (p : PX w0 w O s N) {S : Nat → Prop} (k : Keeps S w w') (h1 : ∀ b, S b → O b = none) (h2 : ∀ b, S b → w0.heap.size ≤ b) : PX w0 w' O s N :=
  ⟨⟨p.hg.hm.other k fun b t hb hs => (by rw [h1 b hs] at hb; cases hb), p.hg.ws, p.hg.ni, p.hg.core, p.hg.sp, p.hg.dg, p.hg.el, p.hg.L⟩, p.lo, p.bel.trans (k.below p.bel.size fun b hb hs => by have := h2 b hs; omega)⟩
theorem PV.call (v : PV w O ns vr er) (u : UH O w O' w') : PV w' O' ns vr er :=
  ⟨v.nf.keeps u.kp fun b hb hk => hk (v.fr b hb), fun b hb => u.non (v.fr b hb) (v.nf.lt b hb)⟩
theorem PV.below (v : PV w O ns vr er) (g : Below w.heap.size w w') : PV w' O ns vr er := ⟨v.nf.belw g, v.fr⟩
theorem PV.net (v : PV w O ns vr er) (p : PX w0 w O s N) (h : NF w' ns' vr' er') (hS : Sn w ns ns') : PV w' O ns' vr' er' := ⟨h, fun b hb => (hS b hb).elim (v.fr b) fun q => p.fresh q⟩
theorem new_st (hb : Below w0.heap.size w0 w) {A : Option Addr} {sl : List Int} {n c : Nat} (hr : RI w A sl) (hn : n = sl.length) (hc0 : A = none → sl.length = 0 ∧ c = 0) (hlen : sl.length ≤ 17592186044416) {Q : Option Addr → World → Prop} (hQ : ∀ w' O s, PX w0 w' O s 0 → s.vs = [] → s.ab.sk = [] → Below w.heap.size w w' → (∀ k, O k ≠ none → w.heap.size ≤ k) → Q (some ⟨s.G, 0, none⟩) w') :
    Calls Tryz.prog 8 #[.slice A n c] w fun e w' => ∃ p : Option Addr, e = .returned (.pointer p) ∧ Q p w' := by
  refine (New_hg hr hn hc0 hlen).mono ?_
  rintro _ w' ⟨O, s, rfl, h, h1, h2, h3, g⟩
  exact ⟨_, rfl, hQ w' O s ⟨h, fun k hk => Nat.le_trans hb.size (h3 k hk), hb.trans (g.mono hb.size)⟩ h1 h2 g h3⟩
theorem addV_st (p : PX w0 w O s N) (hN : N < LB) {v : Int} (hv : W64 v) {Q : Int → World → Prop} (hQ : ∀ w' O' s', PX w0 w' O' s' N → UH O w O' w' → s'.G = s.G → s'.vs = addVr s.vs v → s'.ab.sk = s.ab.sk → Q (addVC s.vs v) w') :
    Calls Tryz.prog 28 #[.pointer (some ⟨s.G, 0, none⟩), .int .i64 v] w fun e w' => ∃ x : Int, e = .returned (.int .i64 x) ∧ Q x w' := by
  refine (AddV_hg p.hg hN hv).mono ?_
  rintro _ w' ⟨O', s', rfl, h, u, e1, e2, e3⟩
  exact ⟨_, rfl, hQ w' O' s' (p.call h u) u e1 e2 e3⟩
theorem delV_st (p : PX w0 w O s N) (hN : N < LB) {v : Int} (hv : W64 v) {Q : Int → World → Prop} (hQ : ∀ w' O' s', PX w0 w' O' s' N → UH O w O' w' → s'.G = s.G → s'.vs = delVr s.vs s.ab.sk v → s'.ab.sk = s.ab.sk → Q (delVC s.vs s.ab.sk v) w') :
    Calls Tryz.prog 33 #[.pointer (some ⟨s.G, 0, none⟩), .int .i64 v] w fun e w' => ∃ x : Int, e = .returned (.int .i64 x) ∧ Q x w' := by
  refine (DelV_hg p.hg hN hv).mono ?_
  rintro _ w' ⟨O', s', rfl, h, u, e1, e2, e3⟩
  exact ⟨_, rfl, hQ w' O' s' (p.call h u) u e1 e2 e3⟩
theorem addE_st (p : PX w0 w O s N) (hN : N < LB) {id u v : Int} (hid : W64 id) (hu : W64 u) (hv : W64 v) {Q : Int → World → Prop} (hQ : ∀ w' O' s', PX w0 w' O' s' N → UH O w O' w' → s'.G = s.G → s'.vs = s.vs → s'.ab.sk = (if addEC s.vs s.ab.sk id u v = 0 then s.ab.sk ++ [⟨id, u, v, 0⟩] else s.ab.sk) → Q (addEC s.vs s.ab.sk id u v) w') :
    Calls Tryz.prog 18 #[.pointer (some ⟨s.G, 0, none⟩), .int .i64 id, .int .i64 u, .int .i64 v] w fun e w' => ∃ x : Int, e = .returned (.int .i64 x) ∧ Q x w' := by
  refine (AddE_hg p.hg hN hid hu hv).mono ?_
  rintro _ w' ⟨O', s', rfl, h, u, e1, e2, e3⟩
  exact ⟨_, rfl, hQ w' O' s' (p.call h u) u e1 e2 e3⟩
theorem delE_st (p : PX w0 w O s N) (hN : N + 2 < LB) {id : Int} (hid : W64 id) {Q : Int → World → Prop} (hQ : ∀ w' O' s', PX w0 w' O' s' (N + 1) → UH O w O' w' → s'.G = s.G → s'.vs = s.vs → s'.ab.sk = cutEr s.ab.sk id → Q (cutC s.ab.sk id) w') :
    Calls Tryz.prog 23 #[.pointer (some ⟨s.G, 0, none⟩), .int .i64 id] w fun e w' => ∃ x : Int, e = .returned (.int .i64 x) ∧ Q x w' := by
  refine (DelE_hg p.hg hN hid).mono ?_
  rintro _ w' ⟨O', s', rfl, h, u, e1, e2, e3⟩
  exact ⟨_, rfl, hQ w' O' s' (p.call h u) u e1 e2 e3⟩
theorem len_st (p : PX w0 w O s N) {Q : Int → Int → World → Prop} (hQ : ∀ w', PX w0 w' O s N → Below w.heap.size w w' → Q (s.vs.length : Int) (s.ab.sk.length : Int) w') :
    Calls Tryz.prog 11 #[.pointer (some ⟨s.G, 0, none⟩)] w fun e w' => ∃ (x y : Int), e = .returned (.tuple #[.int .i64 x, .int .i64 y]) ∧ Q x y w' := by
  refine (Len_hg p.hg).mono ?_
  rintro _ w' ⟨rfl, h, g⟩
  exact ⟨_, _, rfl, hQ w' (p.below g) g⟩
theorem trees_st (p : PX w0 w O s N) {Q : Int → World → Prop} (hQ : ∀ w', PX w0 w' O s N → Below w.heap.size w w' → Q ((reps s.vs s.ab.sk).length : Int) w') :
    Calls Tryz.prog 12 #[.pointer (some ⟨s.G, 0, none⟩)] w fun e w' => ∃ x : Int, e = .returned (.int .i64 x) ∧ Q x w' := by
  refine (Trees_hg p.hg).mono ?_
  rintro _ w' ⟨rfl, h, g⟩
  exact ⟨_, rfl, hQ w' (p.below g) g⟩
open Classical in
theorem joined_st (p : PX w0 w O s N) (hN : N < LB) {u v : Int} (hu : W64 u) (hv : W64 v) {Q : Bool → Int → World → Prop} (hQ : ∀ w' b, PX w0 w' O s N → Below w.heap.size w w' → (b = true ↔ u ∈ s.vs ∧ v ∈ s.vs ∧ Cn s.ab.sk u v) → Q b (if u ∈ s.vs ∧ v ∈ s.vs then 0 else 51) w') :
    Calls Tryz.prog 16 #[.pointer (some ⟨s.G, 0, none⟩), .int .i64 u, .int .i64 v] w fun e w' => ∃ (b : Bool) (x : Int), e = .returned (.tuple #[.bool b, .int .i64 x]) ∧ Q b x w' := by
  refine (Joined_hg p.hg hN hu hv).mono ?_
  rintro _ w' ⟨rfl, h, g⟩
  exact ⟨_, _, rfl, hQ w' _ (p.below g) g decide_eq_true_iff⟩
theorem size_st (p : PX w0 w O s N) (hN : N < LB) {u : Int} (hu : W64 u) {Q : Int → Int → World → Prop} (hQ : ∀ w', PX w0 w' O s N → Below w.heap.size w w' → Q (if u ∈ s.vs then ((cmpV s.vs s.ab.sk u).length : Int) else 0) (if u ∈ s.vs then 0 else 51) w') :
    Calls Tryz.prog 29 #[.pointer (some ⟨s.G, 0, none⟩), .int .i64 u] w fun e w' => ∃ (x y : Int), e = .returned (.tuple #[.int .i64 x, .int .i64 y]) ∧ Q x y w' := by
  refine (Size_hg p.hg hN hu).mono ?_
  rintro _ w' ⟨rfl, h, g⟩
  exact ⟨_, _, rfl, hQ w' (p.below g) g⟩
noncomputable def vO18 (s : HS) (u : Int) : List Int := if u ∈ s.vs then cmpV s.vs s.ab.sk u else []
structure PL (w : World) (O : Ow) (A : Option Addr) (l : List Int) : Prop where
  ri : RI w A l
  fr : ∀ a, A = some a → O a.block = none ∧ a.block < w.heap.size
theorem PL.call {A : Option Addr} {l : List Int} (v : PL w O A l) (u : UH O w O' w') : PL w' O' A l :=
  ⟨v.ri.keeps u.kp fun a ha hk => hk (v.fr a ha).1, fun a ha => ⟨u.non (v.fr a ha).1 (v.fr a ha).2, Nat.lt_of_lt_of_le (v.fr a ha).2 u.kp.size⟩⟩
theorem PL.below {A : Option Addr} {l : List Int} (v : PL w O A l) (g : Below w.heap.size w w') : PL w' O A l := ⟨v.ri.below g (Nat.le_refl _), fun a ha => ⟨(v.fr a ha).1, Nat.lt_of_lt_of_le (v.fr a ha).2 g.size⟩⟩
theorem verts_st (p : PX w0 w O s N) (hN : N < LB) {u : Int} (hu : W64 u) {Q : Option Addr → Nat → Nat → Int → World → Prop} (hQ : ∀ w' A c, PX w0 w' O s N → PL w' O A (vO18 s u) → Below w.heap.size w w' → (∀ a, A = some a → w.heap.size ≤ a.block) → Q A (vO18 s u).length c (if u ∈ s.vs then 0 else 51) w') :
    Calls Tryz.prog 17 #[.pointer (some ⟨s.G, 0, none⟩), .int .i64 u] w fun e w' => ∃ (A : Option Addr) (n c : Nat) (x : Int), e = .returned (.tuple #[.slice A n c, .int .i64 x]) ∧ Q A n c x w' := by
  refine (Verts_hg p.hg hN hu).mono ?_
  rintro _ w' ⟨A, c, out, rfl, o, ho, h, g⟩
  have ho : out = vO18 s u := ho
  subst ho
  exact ⟨_, _, _, _, rfl, hQ w' A c (p.below g) ⟨o.reads, fun a ha => ⟨p.fresh (o.block a ha).1, (o.block a ha).2⟩⟩ g fun a ha => (o.block a ha).1⟩
end
theorem cn7 {v : Int} : Cn [⟨7, 1, 2, 0⟩] 1 v ↔ v = 1 ∨ v = 2 := by
  constructor
  · rintro ⟨p, h⟩
    exact h.inv (Q := fun y => y = 1 ∨ y = 2) (fun e he => by rw [List.mem_singleton] at he; subst he; simp) (.inl rfl)
  · rintro (rfl | rfl)
    · exact Cn.refl _ _
    · exact Cn.edge (e := ⟨7, 1, 2, 0⟩) (by simp)
theorem alive_ok (w0 w : World) : Calls Tryz.prog 9 #[] w fun e w' => e = .returned (.bool true) ∧ Below w.heap.size w w' := by
  apply f_law18_alive.ok
  unfold f_law18_alive.wp
  refine al_new fun w1 b1 e1 z1 h1 g1 => ?_
  have W : ∀ z : Int, 0 ≤ z → z ≤ 100 → W64 z := fun z h1 h2 => by unfold W64; omega
  refine new_st (w0 := w) g1 (h1.ri [3] rfl) rfl (fun h => by cases h) (by simp) fun w2 O2 s2 p2 v2 k2 _ _ => sel_f rfl ?_
  refine addV_st p2 (by decide) (W 1 (by decide) (by decide)) fun w3 O3 s3 p3 _ G3 v3 k3 => ?_
  rw [v2] at v3 ⊢; rw [k2] at k3; rw [← G3]
  refine sel_f (by decide) (addV_st p3 (by decide) (W 2 (by decide) (by decide)) fun w4 O4 s4 p4 _ G4 v4 k4 => ?_)
  rw [v3] at v4 ⊢; rw [k3] at k4; rw [← G4]
  refine sel_f (by decide) (addV_st p4 (by decide) (W 3 (by decide) (by decide)) fun w5 O5 s5 p5 _ G5 v5 k5 => ?_)
  rw [v4] at v5 ⊢; rw [k4] at k5; rw [← G5]
  have v5 : s5.vs = [1, 2, 3] := v5
  refine sel_f (by decide) (addE_st p5 (by decide) (W 7 (by decide) (by decide)) (W 1 (by decide) (by decide)) (W 2 (by decide) (by decide)) fun w6 O6 s6 p6 _ G6 v6 k6 => ?_)
  rw [v5] at v6 k6 ⊢; rw [k5] at k6 ⊢; rw [← G6]
  have k6 : s6.ab.sk = [⟨7, 1, 2, 0⟩] := k6
  refine addE_st p6 (by decide) (W 8 (by decide) (by decide)) (W 2 (by decide) (by decide)) (W 3 (by decide) (by decide)) fun w7 O7 s7 p7 _ G7 v7 k7 => ?_
  rw [v6] at v7 k7 ⊢; rw [k6] at k7 ⊢; rw [← G7]
  have k7 : s7.ab.sk = [⟨7, 1, 2, 0⟩, ⟨8, 2, 3, 0⟩] := k7
  refine addE_st p7 (by decide) (W 9 (by decide) (by decide)) (W 1 (by decide) (by decide)) (W 3 (by decide) (by decide)) fun w8 O8 s8 p8 _ G8 v8 k8 => ?_
  rw [v7] at v8 k8 ⊢; rw [k7] at k8 ⊢; rw [← G8]
  have k8 : s8.ab.sk = [⟨7, 1, 2, 0⟩, ⟨8, 2, 3, 0⟩, ⟨9, 1, 3, 0⟩] := k8
  refine delE_st p8 (by decide) (W 8 (by decide) (by decide)) fun w9 O9 s9 p9 _ G9 v9 k9 => ?_
  rw [v8] at v9; rw [k8] at k9 ⊢; rw [← G9]
  have k9 : s9.ab.sk = [⟨7, 1, 2, 0⟩, ⟨9, 1, 3, 0⟩] := k9
  refine joined_st p9 (by decide) (W 2 (by decide) (by decide)) (W 3 (by decide) (by decide)) fun w10 y10 p10 _ hy10 => ?_
  refine delE_st p10 (by decide) (W 9 (by decide) (by decide)) fun w11 O11 s11 p11 _ G11 v11 k11 => ?_
  rw [v9] at v11 ⊢; rw [k9] at k11 ⊢; rw [← G11]
  have k11 : s11.ab.sk = [⟨7, 1, 2, 0⟩] := k11
  refine joined_st p11 (by decide) (W 2 (by decide) (by decide)) (W 3 (by decide) (by decide)) fun w12 y12 p12 _ hy12 => ?_
  refine size_st p12 (by decide) (W 1 (by decide) (by decide)) fun w13 p13 _ => ?_
  refine verts_st p13 (by decide) (W 2 (by decide) (by decide)) fun w14 A14 c14 p14 _ _ _ => ?_
  rw [v11, k11]
  have hj1 : Cn [⟨7, 1, 2, 0⟩, ⟨9, 1, 3, 0⟩] 2 3 := (Cn.edge (e := ⟨7, 1, 2, 0⟩) (by simp)).symm.trans (Cn.edge (e := ⟨9, 1, 3, 0⟩) (by simp))
  have c12 : Cn [⟨7, 1, 2, 0⟩] 1 2 := Cn.edge (e := ⟨7, 1, 2, 0⟩) (by simp)
  have hj2 : ¬ Cn [⟨7, 1, 2, 0⟩] 2 3 := fun h => by
    have := cn7.1 (c12.trans h)
    omega
  have cV : ∀ u, u = 1 ∨ u = 2 → cmpV [1, 2, 3] [⟨7, 1, 2, 0⟩] u = [1, 2] := fun u hu => by
    refine sorted_ext (cmpV_sorted (by decide) _ _) (by decide) fun y => ?_
    have e : Cn [⟨7, 1, 2, 0⟩] u y ↔ Cn [⟨7, 1, 2, 0⟩] 1 y := by
      rcases hu with rfl | rfl
      · exact Iff.rfl
      · exact ⟨fun h => c12.trans h, fun h => c12.symm.trans h⟩
    rw [cmpV_mem, e, cn7]
    simp only [List.mem_cons, List.not_mem_nil, or_false]
    omega
  have hv : vO18 s11 2 = [1, 2] := by
    unfold vO18
    rw [v11, k11, if_pos (by decide), cV 2 (.inr rfl)]
  rw [v9, k9] at hy10
  rw [v11, k11] at hy12
  rw [hv, cV 1 (.inl rfl), hy10.2 ⟨by decide, by decide, hj1⟩, Bool.eq_false_iff.2 fun h => hj2 (hy12.1 h).2.2]
  unfold f_law18_alive.j0
  refine len_st p14 fun w15 p15 _ => ?_
  rw [v11, k11]
  refine sel_t (by decide) (sel_t (by decide) (sel_t (by decide) (sel_t (by decide) (sel_t rfl (sel_t (by decide) (sel_t (by decide) (sel_t rfl (sel_t (by decide) (sel_t (by decide) (sel_t (by decide) (sel_t (by decide) (sel_t (by decide) ?_))))))))))))
  refine trees_st p15 fun w16 p16 _ => ?_
  rw [v11, k11]
  have hr : (reps [1, 2, 3] [⟨7, 1, 2, 0⟩]).length = 2 := by
    have hnil : reps [1, 2, 3] [] = [1, 2, 3] := reps_nil
    have hs := reps_snoc (vs := [1, 2, 3]) (by decide) (es := []) (e := ⟨7, 1, 2, 0⟩) ⟨by decide, by decide⟩ (fun ⟨p, h⟩ => by
      generalize hz : (⟨7, 1, 2, 0⟩ : E).u = a at h
      generalize hy : (⟨7, 1, 2, 0⟩ : E).v = b at h
      cases h with
      | nil => rw [← hy] at hz; exact absurd hz (by decide)
      | cons he _ _ => cases he)
    rw [hnil] at hs
    have hs : (reps [1, 2, 3] [⟨7, 1, 2, 0⟩]).length + 1 = 3 := hs
    omega
  rw [hr]
  refine sel_t (by decide) (sel_t (by decide) fun _ => ⟨rfl, p16.bel⟩)
structure HO where
  k : Int
  id : Int
  u : Int
  v : Int
  w : Int
structure OpW (o : HO) : Prop where
  id : W64 o.id
  u : W64 o.u
  v : W64 o.v
def hoC (o : HO) : Array Value := #[.int .i64 o.k, .int .i64 o.id, .int .i64 o.u, .int .i64 o.v, .int .i64 o.w]
def opC (o : HO) (vs : List Int) (sk : List E) : Int := if o.k = 1 then addVC vs o.u else if o.k = 2 then delVC vs sk o.u else if o.k = 3 then addEC vs sk o.id o.u o.v else if o.k = 4 then cutC sk o.id else 0
def opV (o : HO) (vs : List Int) (sk : List E) : List Int := if o.k = 1 then addVr vs o.u else if o.k = 2 then delVr vs sk o.u else vs
def opS (o : HO) (vs : List Int) (sk : List E) : List E := if o.k = 3 then (if addEC vs sk o.id o.u o.v = 0 then sk ++ [⟨o.id, o.u, o.v, 0⟩] else sk) else if o.k = 4 then cutEr sk o.id else sk
def opE (o : HO) (vr : List Int) (er : List E) : List E := if o.k = 3 then addEr vr er o.id o.u o.v else if o.k = 4 then cutEr er o.id else er
theorem tail2 {w : World} {b5 : Nat} {cs : Array Value} {t5 t : TypeId} (ns : NS) (h5 : HB w b5 cs t5) (hc : cs.size = 2) {K : Option Addr → Nat → Nat → Option Addr → Nat → Nat → World → Prop} (hk : ∀ w', Keeps (fun k => k = b5) w w' → K ns.A0 ns.n0 ns.c0 ns.A1 ns.n1 ns.c1 w') :
    alW w (.cells #[.slice none 0 0, .slice none 0 0] t) fun B18 w19 =>
    stW w19 (⟨B18, 0, Option.none⟩ : Addr) (.slice ns.A0 ns.n0 ns.c0) fun w20 =>
    stW w20 ((⟨B18, 0, Option.none⟩ : Addr).add 1) (.slice ns.A1 ns.n1 ns.c1) fun w21 =>
    ldS w21 (⟨B18, 0, Option.none⟩ : Addr) fun A22 n22 c22 =>
    ldS w21 ((⟨B18, 0, Option.none⟩ : Addr).add 1) fun A23 n23 c23 =>
    stW w21 (⟨b5, 0, Option.none⟩ : Addr) (.slice A22 n22 c22) fun w24 =>
    stW w24 ((⟨b5, 0, Option.none⟩ : Addr).add 1) (.slice A23 n23 c23) fun w25 =>
    ldS w25 (⟨b5, 0, Option.none⟩ : Addr) fun A26 n26 c26 =>
    ldS w25 ((⟨b5, 0, Option.none⟩ : Addr).add 1) fun A27 n27 c27 => K A26 n26 c26 A27 n27 c27 w25 := by
  refine al_new fun w1 b e z h1 g1 => put2 ns h1 rfl fun w2 h2 k2 => get2 h2 ?_
  have hb5 := h5.lt
  have h5' := (h5.below g1).keeps k2 (by omega)
  refine put2 ns h5' hc fun w3 h3 k3 => get2 h3 (hk w3 ?_)
  have ka : Keeps (fun k => k = b5) w w1 := Keeps.of_below g1
  exact (ka.trans' k2 fun i hi e => by omega).trans k3
theorem UH.loc {O O' : Ow} {w w1 w2 : World} {b : Nat} (u : UH O w O' w1) (k : Keeps (fun k => k = b) w1 w2) (hb : w.heap.size ≤ b) : UH O w O' w2 := ⟨u.kp.trans' k fun i hi e => by omega, u.fr⟩
section
variable {w0 w w' : World} {O O' : Ow} {s s' : HS} {N N' : Nat} {ns ns' : NS} {vr vr' : List Int} {er er' : List E}
theorem PX.up (p : PX w0 w O s N) : PX w0 w O s (N + 1) := ⟨⟨p.hg.hm, p.hg.ws, p.hg.ni, p.hg.core, p.hg.sp, p.hg.dg, p.hg.el, by have := p.hg.L; omega⟩, p.lo, p.bel⟩
theorem does_ok (p : PX w0 w O s N) (pv : PV w O ns vr er) (hN : N + 2 < LB) {o : HO} (ho : OpW o) :
    Calls Tryz.prog 10 #[.pointer (some ⟨s.G, 0, none⟩), .agg (nsC ns), .agg (hoC o)] w fun e w' => ∃ O' s' ns', e = .returned (.tuple #[.agg (nsC ns'), .bool (opC o s.vs s.ab.sk == opC o vr er)]) ∧ PX w0 w' O' s' (N + 1) ∧ PV w' O' ns' (opV o vr er) (opE o vr er) ∧ UH O w O' w' ∧ s'.G = s.G ∧ s'.vs = opV o s.vs s.ab.sk ∧ s'.ab.sk = opS o s.vs s.ab.sk ∧ Sn w ns ns' := by
  have hN1 : N < LB := by have : N + 2 < 17592186044000 := hN; show N < 17592186044000; omega
  apply f_law18_does.ok
  unfold f_law18_does.wp
  refine al_new fun w1 b1 e1 z1 h1 g1 => al_new fun w2 b3 e3 z3 h3 g2 => al_new fun w3 b5 e5 z5 h5 g3 => ?_
  have s1 := g1.size
  have g : Below w.heap.size w w3 := (g1.trans (g2.mono s1)).trans (g3.mono (by omega))
  have h1 : HB w3 b1 (nsC ns) 29 := (h1.below g2).below g3
  have h3 : HB w3 b3 (hoC o) 33 := h3.below g3
  have p3 := p.below g
  have v3 := pv.below g
  have u3 : UH O w O w3 := .below g
  have o1 := p.fresh (b := b1) (by omega)
  have o3 := p.fresh (b := b3) (by omega)
  have o5 := p.fresh (b := b5) (by omega)
  have ld11 : ∀ {w : World} {K : Int → Prop}, HB w b3 (hoC o) 33 → K o.u → ldI w (((⟨b3, 0, none⟩ : Addr).add 1).add 1) .i64 K := fun {w K} h hk => by rw [add_add]; exact hb_ldI (j := 2) h rfl hk
  have ld12 : ∀ {w : World} {K : Int → Prop}, HB w b3 (hoC o) 33 → K o.v → ldI w (((⟨b3, 0, none⟩ : Addr).add 1).add 2) .i64 K := fun {w K} h hk => by rw [add_add]; exact hb_ldI (j := 3) h rfl hk
  have fin : ∀ {w4 w5 w6 : World} {O4 : Ow} {s4 : HS} {ns' : NS} {vr' : List Int} {er' : List E} {c d : Int}, PX w0 w4 O4 s4 (N + 1) → UH O w3 O4 w4 → s4.G = s.G → PV w4 O4 ns vr er → NF w5 ns' vr' er' → Sn w4 ns ns' → Below w4.heap.size w4 w5 → Keeps (fun k => k = b5) w5 w6 → c = opC o s.vs s.ab.sk → d = opC o vr er → vr' = opV o vr er → er' = opE o vr er → s4.vs = opV o s.vs s.ab.sk → s4.ab.sk = opS o s.vs s.ab.sk →
      ∃ O' s' ns'', Ending.returned (.tuple #[.agg (nsC ns'), .bool (c == d)]) = .returned (.tuple #[.agg (nsC ns''), .bool (opC o s.vs s.ab.sk == opC o vr er)]) ∧ PX w0 w6 O' s' (N + 1) ∧ PV w6 O' ns'' (opV o vr er) (opE o vr er) ∧ UH O w O' w6 ∧ s'.G = s.G ∧ s'.vs = opV o s.vs s.ab.sk ∧ s'.ab.sk = opS o s.vs s.ab.sk ∧ Sn w ns ns'' := by
    intro w4 w5 w6 O4 s4 ns' vr' er' c d p4 u4 G4 v4 hN' hS g5 k6 ec ed ev ee e1 e2
    subst ec; subst ed; subst ev; subst ee
    have o5' : O4 b5 = none := u4.non o5 (by omega)
    have p5 := p4.below g5
    have v5 := v4.net p4 hN' hS
    have sz5 : w3.heap.size ≤ w5.heap.size := Nat.le_trans u4.kp.size g5.size
    have p6 : PX w0 w6 O4 s4 (N + 1) := p5.other k6 (fun b e => by rw [e]; exact o5') fun b e => by have := p.bel.size; omega
    have hnb : ∀ b, Nb ns' b → b ≠ b5 := fun b hb e => by
      rcases hS b hb with q | q
      · have := pv.nf.lt b q; omega
      · have := u4.kp.size; omega
    have v6 : PV w6 O4 ns' (opV o vr er) (opE o vr er) := ⟨v5.nf.keeps k6 fun b hb e => hnb b hb e, v5.fr⟩
    exact ⟨O4, s4, ns', rfl, p6, v6, ((u3.trans u4).trans (.below g5)).loc k6 (by omega), G4, e1, e2, fun b hb => (hS b hb).imp id fun q => by have := u4.kp.size; omega⟩
  refine hb_ldI0 h3 rfl ?_
  by_cases q1 : o.k = 1
  · refine sel_t (by simp [q1]) (ld11 h3 (addV_st p3 hN1 ho.u fun w4 O4 s4 p4 u4 G4 v4 k4 => ?_))
    have h14 := u4.hb h1 o1
    have h34 := u4.hb h3 o3
    have h54 := u4.hb h5 o5
    refine get2 h14 (ld11 h34 ((AddV18_ok (v3.call u4).nf o.u).mono ?_))
    rintro _ w5 ⟨ns', rfl, hN', hS, g5⟩
    refine ⟨_, _, _, _, _, _, _, rfl, tail2 ns' (h54.below g5) rfl fun w6 k6 => ?_⟩
    exact fin p4.up u4 G4 (v3.call u4) hN' hS g5 k6 (by unfold opC; rw [if_pos q1]) (by unfold opC; rw [if_pos q1]) (by unfold opV; rw [if_pos q1]) (by unfold opE; rw [if_neg (by omega), if_neg (by omega)]) (by unfold opV; rw [if_pos q1]; exact v4) (by unfold opS; rw [if_neg (by omega), if_neg (by omega)]; exact k4)
  refine sel_f (by simp [q1]) ?_
  by_cases q2 : o.k = 2
  · refine sel_t (by simp [q2]) (ld11 h3 (delV_st p3 hN1 ho.u fun w4 O4 s4 p4 u4 G4 v4 k4 => ?_))
    have h14 := u4.hb h1 o1
    have h34 := u4.hb h3 o3
    have h54 := u4.hb h5 o5
    refine get2 h14 (ld11 h34 ((DelV18_ok (v3.call u4).nf o.u).mono ?_))
    rintro _ w5 ⟨ns', rfl, hN', hS, g5⟩
    refine ⟨_, _, _, _, _, _, _, rfl, tail2 ns' (h54.below g5) rfl fun w6 k6 => ?_⟩
    exact fin p4.up u4 G4 (v3.call u4) hN' hS g5 k6 (by unfold opC; rw [if_neg q1, if_pos q2]) (by unfold opC; rw [if_neg q1, if_pos q2]) (by unfold opV; rw [if_neg q1, if_pos q2]) (by unfold opE; rw [if_neg (by omega), if_neg (by omega)]) (by unfold opV; rw [if_neg q1, if_pos q2]; exact v4) (by unfold opS; rw [if_neg (by omega), if_neg (by omega)]; exact k4)
  refine sel_f (by simp [q2]) ?_
  by_cases q3 : o.k = 3
  · refine sel_t (by simp [q3]) (hb_ldI (j := 1) h3 rfl (ld11 h3 (ld12 h3 (addE_st p3 hN1 ho.id ho.u ho.v fun w4 O4 s4 p4 u4 G4 v4 k4 => ?_))))
    have h14 := u4.hb h1 o1
    have h34 := u4.hb h3 o3
    have h54 := u4.hb h5 o5
    refine get2 h14 (hb_ldI (j := 1) h34 rfl (ld11 h34 (ld12 h34 ((AddE18_ok (v3.call u4).nf o.id o.u o.v).mono ?_))))
    rintro _ w5 ⟨ns', rfl, hN', hS, g5⟩
    refine ⟨_, _, _, _, _, _, _, rfl, tail2 ns' (h54.below g5) rfl fun w6 k6 => ?_⟩
    exact fin p4.up u4 G4 (v3.call u4) hN' hS g5 k6 (by unfold opC; rw [if_neg q1, if_neg q2, if_pos q3]) (by unfold opC; rw [if_neg q1, if_neg q2, if_pos q3]) (by unfold opV; rw [if_neg q1, if_neg q2]) (by unfold opE; rw [if_pos q3]) (by unfold opV; rw [if_neg q1, if_neg q2]; exact v4) (by unfold opS; rw [if_pos q3]; exact k4)
  refine sel_f (by simp [q3]) ?_
  by_cases q4 : o.k = 4
  · refine sel_t (by simp [q4]) (hb_ldI (j := 1) h3 rfl (delE_st p3 hN ho.id fun w4 O4 s4 p4 u4 G4 v4 k4 => ?_))
    have h14 := u4.hb h1 o1
    have h34 := u4.hb h3 o3
    have h54 := u4.hb h5 o5
    refine get2 h14 (hb_ldI (j := 1) h34 rfl ((DelE18_ok (v3.call u4).nf o.id).mono ?_))
    rintro _ w5 ⟨ns', rfl, hN', hS, g5⟩
    refine ⟨_, _, _, _, _, _, _, rfl, tail2 ns' (h54.below g5) rfl fun w6 k6 => ?_⟩
    exact fin p4 u4 G4 (v3.call u4) hN' hS g5 k6 (by unfold opC; rw [if_neg q1, if_neg q2, if_neg q3, if_pos q4]) (by unfold opC; rw [if_neg q1, if_neg q2, if_neg q3, if_pos q4]) (by unfold opV; rw [if_neg q1, if_neg q2]) (by unfold opE; rw [if_neg q3, if_pos q4]) (by unfold opV; rw [if_neg q1, if_neg q2]; exact v4) (by unfold opS; rw [if_neg q3, if_pos q4]; exact k4)
  refine sel_f (by simp [q4]) (get2 h1 (put2 ns h5 rfl fun w6 h6 k6 => get2 h6 ?_))
  have := fin (c := 0) (d := 0) p3.up (.refl O w3) rfl v3 v3.nf (Sn.refl _ _) (.refl _ _) k6 (by unfold opC; rw [if_neg q1, if_neg q2, if_neg q3, if_neg q4]) (by unfold opC; rw [if_neg q1, if_neg q2, if_neg q3, if_neg q4]) (by unfold opV; rw [if_neg q1, if_neg q2]) (by unfold opE; rw [if_neg q3, if_neg q4]) (by unfold opV; rw [if_neg q1, if_neg q2]) (by unfold opS; rw [if_neg q3, if_neg q4])
  exact this
end
theorem same_perm {a b : List E} (h : SameE a b) (na : (a.map E.id).Nodup) (nb : (b.map E.id).Nodup) : a.Perm b := by
  have nd : ∀ {l : List E}, (l.map E.id).Nodup → l.Nodup := fun {l} h => List.Pairwise.of_map (f := E.id) (fun a b h e => h (by rw [e])) h
  exact (List.perm_ext_iff_of_nodup (nd na) (nd nb)).2 h
theorem same_ids {a b : List E} (h : SameE a b) (i : Int) : i ∈ a.map E.id ↔ i ∈ b.map E.id := by
  rw [List.mem_map, List.mem_map]
  exact ⟨fun ⟨e, he, q⟩ => ⟨e, (h e).1 he, q⟩, fun ⟨e, he, q⟩ => ⟨e, (h e).2 he, q⟩⟩
theorem same_deg {a b : List E} (h : SameE a b) (v : Int) : 0 < deg a v ↔ 0 < deg b v := by
  have key : ∀ {a b : List E}, SameE a b → 0 < deg a v → 0 < deg b v := fun {a b} h hp => by
    have h1 := deg_nn b v
    apply Classical.byContradiction
    intro h2
    have h3 : deg b v = 0 := by omega
    have h4 : deg a v = 0 := deg_zero.2 fun e he => deg_zero.1 h3 e ((h e).1 he)
    omega
  exact ⟨key h, key fun e => (h e).symm⟩
structure Eqv (s : HS) (vr : List Int) (er : List E) : Prop where
  vs : s.vs = vr
  sk : SameE s.ab.sk er
  ids : (er.map E.id).Pairwise (· < ·)
theorem same_del {vs : List Int} {a b : List E} (h : SameE a b) (v : Int) : delVC vs a v = delVC vs b v := by
  unfold delVC
  have e : (0 < deg a v) = (0 < deg b v) := propext (same_deg h v)
  simp only [e]
theorem same_add {vs : List Int} {a b : List E} (h : SameE a b) (hl : a.length = b.length) (id u v : Int) : addEC vs a id u v = addEC vs b id u v := by
  unfold addEC
  have e : (id ∈ a.map E.id) = (id ∈ b.map E.id) := propext (same_ids h id)
  simp only [e, hl]
theorem same_cut {a b : List E} (h : SameE a b) (id : Int) : cutC a id = cutC b id := by
  unfold cutC
  have e : (id ∈ a.map E.id) = (id ∈ b.map E.id) := propext (same_ids h id)
  simp only [e]
theorem op_alike {vs : List Int} {a b : List E} (h : SameE a b) (hl : a.length = b.length) (hs : (b.map E.id).Pairwise (· < ·)) (o : HO) : opC o vs a = opC o vs b ∧ opV o vs a = opV o vs b ∧ SameE (opS o vs a) (opE o vs b) ∧ ((opE o vs b).map E.id).Pairwise (· < ·) := by
  refine ⟨?_, ?_, ?_, ?_⟩
  · unfold opC
    rw [same_del h, same_add h hl, same_cut h]
  · unfold opV delVr
    rw [same_del h]
  · unfold opS opE addEr cutEr
    rw [same_add h hl, same_cut h]
    by_cases q3 : o.k = 3
    · rw [if_pos q3, if_pos q3]
      by_cases q : addEC vs b o.id o.u o.v = 0
      · rw [if_pos q, if_pos q]
        intro e
        rw [List.mem_append, List.mem_singleton, insE_mem, h e, or_comm]
      · rw [if_neg q, if_neg q]; exact h
    · rw [if_neg q3, if_neg q3]
      by_cases q4 : o.k = 4
      · rw [if_pos q4, if_pos q4]
        by_cases q : cutC b o.id = 0
        · rw [if_pos q, if_pos q]
          intro e
          rw [noE_mem, noE_mem, h e]
        · rw [if_neg q, if_neg q]; exact h
      · rw [if_neg q4, if_neg q4]; exact h
  · unfold opE addEr cutEr
    by_cases q3 : o.k = 3
    · rw [if_pos q3]
      by_cases q : addEC vs b o.id o.u o.v = 0
      · rw [if_pos q]
        refine insE_sorted hs fun hh => ?_
        unfold addEC at q
        split at q
        · cases q
        · exact absurd q (by decide)
      · rw [if_neg q]; exact hs
    · rw [if_neg q3]
      by_cases q4 : o.k = 4
      · rw [if_pos q4]
        by_cases q : cutC b o.id = 0
        · rw [if_pos q]; exact hs.sublist (List.filter_sublist.map _)
        · rw [if_neg q]; exact hs
      · rw [if_neg q4]; exact hs
section
variable {w0 w w' : World} {O O' : Ow} {s s' : HS} {N N' : Nat} {ns ns' : NS} {vr vr' : List Int} {er er' : List E}
theorem PX.ids (p : PX w0 w O s N) : (s.ab.sk.map E.id).Nodup := by rw [sk_ids]; exact p.hg.core.ids
theorem Eqv.len (q : Eqv s vr er) (p : PX w0 w O s N) : s.ab.sk.length = er.length := (same_perm q.sk p.ids (sorted_nodup q.ids)).length_eq
theorem Eqv.rg (q : Eqv s vr er) (p : PX w0 w O s N) : RG vr er := by
  refine ⟨by rw [← q.vs]; exact sorted_nodup p.hg.ws.vss, fun e he => ?_, sorted_nodup q.ids⟩
  obtain ⟨d, hd, rfl⟩ := sk_mem.1 ((q.sk e).2 he)
  rw [← q.vs]
  exact p.hg.core.ends d hd
theorem Eqv.cmp (q : Eqv s vr er) (u : Int) : cmpV s.vs s.ab.sk u = cmpV vr er u := by
  unfold cmpV
  rw [q.vs]
  exact List.filter_congr fun y _ => by rw [decide_eq_decide]; exact q.sk.cn
theorem Eqv.reps (q : Eqv s vr er) : reps s.vs s.ab.sk = reps vr er := by
  rw [q.vs]
  exact reps_same fun u v => q.sk.cn
end
structure RO1 (w : World) (a : Addr) (i : Nat) (o : HO) : Prop where
  c0 : w.cell? (a.add (i * 5)) = some (.int .i64 o.k)
  c1 : w.cell? ((a.add (i * 5)).add 1) = some (.int .i64 o.id)
  c2 : w.cell? ((a.add (i * 5)).add 2) = some (.int .i64 o.u)
  c3 : w.cell? ((a.add (i * 5)).add 3) = some (.int .i64 o.v)
  c4 : w.cell? ((a.add (i * 5)).add 4) = some (.int .i64 o.w)
def RO (w : World) (A : Option Addr) (l : List HO) : Prop := ∀ i (hi : i < l.length), ∃ a, A = some a ∧ RO1 w a i l[i]
theorem RO.belw {w w' : World} {A : Option Addr} {l : List HO} (h : RO w A l) (hb : Below w.heap.size w w') : RO w' A l := fun i hi => by
  obtain ⟨a, ha, h0, h1, h2, h3, h4⟩ := h i hi
  have k := Keeps.of_below (S := fun _ => False) hb
  exact ⟨a, ha, k.cell h0 id, k.cell h1 id, k.cell h2 id, k.cell h3 id, k.cell h4 id⟩
theorem rowO {w : World} {a : Addr} {i : Nat} {o : HO} (h : RO1 w a i o) {K : Int → Int → Int → Int → Int → Prop} (hk : K o.k o.id o.u o.v o.w) :
    ldI w (a.add ((i : Int).toNat * 5)) .i64 fun x0 => ldI w ((a.add ((i : Int).toNat * 5)).add 1) .i64 fun x1 => ldI w ((a.add ((i : Int).toNat * 5)).add 2) .i64 fun x2 => ldI w ((a.add ((i : Int).toNat * 5)).add 3) .i64 fun x3 => ldI w ((a.add ((i : Int).toNat * 5)).add 4) .i64 fun x4 => K x0 x1 x2 x3 x4 := by
  rw [Int.toNat_natCast]
  exact ldI_intro h.c0 (ldI_intro h.c1 (ldI_intro h.c2 (ldI_intro h.c3 (ldI_intro h.c4 hk))))
def gstp (g : List Int × List E) (o : HO) : List Int × List E := (opV o g.1 g.2, opS o g.1 g.2)
def nstp (g : List Int × List E) (o : HO) : List Int × List E := (opV o g.1 g.2, opE o g.1 g.2)
def run (l : List HO) : List Int × List E := l.foldl gstp ([], [])
def nrun (l : List HO) : List Int × List E := l.foldl nstp ([], [])
theorem run_snoc (l : List HO) (o : HO) : run (l ++ [o]) = gstp (run l) o := by unfold run; rw [List.foldl_append]; rfl
theorem nrun_snoc (l : List HO) (o : HO) : nrun (l ++ [o]) = nstp (nrun l) o := by unfold nrun; rw [List.foldl_append]; rfl
theorem run_take {l : List HO} {i : Nat} (h : i < l.length) : run (l.take (i + 1)) = gstp (run (l.take i)) l[i] := by rw [List.take_succ_eq_append_getElem h, run_snoc]
theorem nrun_take {l : List HO} {i : Nat} (h : i < l.length) : nrun (l.take (i + 1)) = nstp (nrun (l.take i)) l[i] := by rw [List.take_succ_eq_append_getElem h, nrun_snoc]
structure Scr (w : World) (A : Option Addr) (n : Nat) (l : List HO) : Prop where
  r : RO w A l
  n : n = l.length
  le : l.length ≤ 3518437208784
  ok : ∀ o ∈ l, OpW o
theorem Scr.belw {w w' : World} {A : Option Addr} {n : Nat} {l : List HO} (h : Scr w A n l) (hb : Below w.heap.size w w') : Scr w' A n l := ⟨h.r.belw hb, h.n, h.le, h.ok⟩
structure Sds (w : World) (A : Option Addr) (n c : Nat) (l : List Int) : Prop where
  r : RI w A l
  n : n = l.length
  c0 : A = none → l.length = 0 ∧ c = 0
  le : l.length ≤ 17592186044416
theorem Sds.belw {w w' : World} {A : Option Addr} {n c : Nat} {l : List Int} (h : Sds w A n c l) (hb : Below w.heap.size w w') : Sds w' A n c l := ⟨h.r.below hb (Nat.le_refl _), h.n, h.c0, h.le⟩
def ns0 : NS := ⟨none, 0, 0, none, 0, 0⟩
theorem PV.zero (w : World) (O : Ow) : PV w O ns0 [] [] :=
  ⟨⟨RI.nil _ _, rfl, fun i hi => absurd hi (Nat.not_lt_zero _), rfl, fun k hk => (by rcases hk with ⟨_, q, _⟩ | ⟨_, q, _⟩ <;> cases q), by simp, by simp⟩, fun k hk => (by rcases hk with ⟨_, q, _⟩ | ⟨_, q, _⟩ <;> cases q)⟩
theorem filled_ok {w : World} {As : Option Addr} {ns cs : Nat} {sl : List Int} (hs : Sds w As ns cs sl) {A : Option Addr} {n c : Nat} {l : List HO} (h : Scr w A n l) :
    Calls Tryz.prog 15 #[.slice As ns cs, .slice A n c] w fun e w' => ∃ O s, e = .returned (.pointer (some ⟨s.G, 0, none⟩)) ∧ PX w w' O s l.length ∧ s.vs = (run l).1 ∧ s.ab.sk = (run l).2 := by
  obtain ⟨hr, rfl, hle, hok⟩ := h
  apply f_law18_filled.ok
  unfold f_law18_filled.wp
  refine new_st (w0 := w) (Below.refl _ w) hs.r hs.n hs.c0 hs.le fun w1 O1 s1 p1 v1 k1 _ _ => ?_
  refine ⟨l.length + 1, ?_⟩
  have key : ∀ (m i : Nat) (w2 : World) (O : Ow) (s : HS), l.length - i = m → i ≤ l.length → PX w w2 O s i → s.vs = (run (l.take i)).1 → s.ab.sk = (run (l.take i)).2 →
      f_law18_filled.l0 (m + 1) A l.length c (some ⟨s.G, 0, none⟩) (i : Int) w2 (fun w13 => ∀ _ : Go.Dn.Fr, (fun e w' => ∃ O s, e = Ending.returned (.pointer (some ⟨s.G, 0, none⟩)) ∧ PX w w' O s l.length ∧ s.vs = (run l).1 ∧ s.ab.sk = (run l).2) (.returned (.pointer (some ⟨s.G, 0, none⟩))) w13) := by
    intro m
    induction m with
    | zero =>
      intro i w2 O s hm hi p ev ek
      have : i = l.length := by omega
      subst this
      rw [List.take_length] at ev ek
      unfold f_law18_filled.l0
      exact sel_t rfl (sel_f (by simp) fun _ => ⟨O, s, rfl, p, ev, ek⟩)
    | succ m ih =>
      intro i w2 O s hm hi p ev ek
      have hlt : i < l.length := by omega
      obtain ⟨a, ha, q⟩ := (hr.belw p.bel) i hlt
      have hw : IntKind.i64.wrap ((i : Int) + 1) = ((i + 1 : Nat) : Int) := by rw [w64_in (by omega)]; omega
      unfold f_law18_filled.l0
      refine sel_t rfl (sel_t (by simpa using hlt) (optB_some ha (req_intro (by simp; omega) (rowO q ?_))))
      refine (does_ok p (PV.zero w2 O) (by show i + 2 < 17592186044000; omega) (hok _ (List.getElem_mem hlt))).mono ?_
      rintro _ w3 ⟨O', s', ns', rfl, p', _, _, G', ev', ek', _⟩
      refine ⟨_, _, _, _, _, _, _, rfl, ?_⟩
      rw [hw, ← G']
      refine ih (i + 1) w3 O' s' (by omega) (by omega) p' ?_ ?_
      · rw [ev', ev, ek, run_take hlt]; rfl
      · rw [ek', ev, ek, run_take hlt]; rfl
  exact key l.length 0 w1 O1 s1 (by omega) (by omega) p1 v1 k1
theorem alike_run {l : List HO} (hp : ∀ i, i ≤ l.length → ((run (l.take i)).2.map E.id).Nodup) : ∀ i, i ≤ l.length → (run (l.take i)).1 = (nrun (l.take i)).1 ∧ SameE (run (l.take i)).2 (nrun (l.take i)).2 ∧ ((nrun (l.take i)).2.map E.id).Pairwise (· < ·) := by
  intro i
  induction i with
  | zero => intro _; exact ⟨rfl, fun e => Iff.rfl, List.Pairwise.nil⟩
  | succ i ih =>
    intro hi
    obtain ⟨h1, h2, h3⟩ := ih (by omega)
    have hlt : i < l.length := by omega
    have hl := (same_perm h2 (hp i (by omega)) (sorted_nodup h3)).length_eq
    obtain ⟨q1, q2, q3, q4⟩ := op_alike (vs := (nrun (l.take i)).1) h2 hl h3 l[i]
    rw [run_take hlt, nrun_take hlt]
    unfold gstp nstp
    rw [h1]
    exact ⟨q2, q3, q4⟩
end Go.Proofs.YtbhhbnnmdekjiaaGreat.Rd
namespace Go.Dn
open Go.RowKit
def IsRecs (ks : List IntKind) (w : World) (A : Option Addr) (len cap : Nat) (f : Nat → Nat → Int) : Prop :=
  (A = none ∧ len = 0 ∧ cap = 0) ∨
  ∃ a, A = some a ∧ len ≤ cap ∧ cap ≤ maxLen ∧ ∀ i, i < len → ∀ j (hj : j < ks.length), w.cell? (a.add (i * ks.length + j)) = some (.int ks[j] (f i j)) ∧ (Lit.int ks[j] (f i j)).wf = true
theorem IsRecs.below {ks : List IntKind} {w w' : World} {A : Option Addr} {len cap : Nat} {f : Nat → Nat → Int} (h : IsRecs ks w A len cap f) (hb : Below w.heap.size w w') : IsRecs ks w' A len cap f := by
  rcases h with h | ⟨a, rfl, h1, h2, h3⟩
  · exact .inl h
  · refine .inr ⟨a, rfl, h1, h2, fun i hi j hj => ?_⟩
    obtain ⟨hc, hw⟩ := h3 i hi j hj
    exact ⟨by rw [hb.cell (World.block_lt_of_cell? w _ hc)]; exact hc, hw⟩
theorem wf_i64 {n : Int} (h : (Lit.int .i64 n).wf = true) : -9223372036854775808 ≤ n ∧ n ≤ 9223372036854775807 := by
  simp [Lit.wf, IntKind.min, IntKind.max, IntKind.signed, IntKind.bits] at h
  omega
def ks5 : List IntKind := [.i64, .i64, .i64, .i64, .i64]
theorem one_int {H : Type} {enc : TypeId × Value → H} {P : Program} {w : World} {base : Nat} {spare : Nat → Bool} {held : Bool} {n : Nat} {t : TypeId} {k : IntKind} {cs : List Value} {j : Nat} {x : DataW H × List MemPlace} (hu : P.underlying t = some (.int k)) (hj : j < cs.length) (h : DataW.trod enc P w base spare held n t ((cs.drop j).take 1) = some x) : ∃ z, cs[j] = .int k z ∧ (Lit.int k z).wf = true := by
  obtain ⟨z, e1, _, e2⟩ := DataW.trod_int hu h
  refine ⟨z, ?_, e2⟩
  rw [List.drop_eq_getElem_cons hj, List.take_succ_cons, List.take_zero] at e1
  injection e1 with e1
theorem ints_of {H : Type} {enc : TypeId × Value → H} {P : Program} {w : World} {base : Nat} {spare : Nat → Bool} {held : Bool} {n m : Nat} {t : TypeId} {gs : Array Field} {cs : List Value} {x : DataW H × List MemPlace} (hu : P.underlying t = some (.struct gs)) (hgs : gs.toList.map (fun f => (f.offset, P.cellsOf f.type, P.underlying f.type)) = (List.range m).map fun j => (j, 1, some (.int .i64))) (hl : cs.length = m) (h : DataW.trod enc P w base spare held n t cs = some x) : ∀ j (hj : j < m), ∃ z, cs[j]'(by omega) = .int .i64 z ∧ (Lit.int .i64 z).wf = true := by
  intro j hj
  obtain ⟨xs, k, _, _, _, hxl, hf⟩ := DataW.trod_struct hu h
  have hsz : gs.size = m := by
    have := congrArg List.length hgs
    simpa using this
  have hfj : gs[j]? = some (gs[j]'(by omega)) := Array.getElem?_eq_getElem (by omega)
  have hrow := congrArg (fun l => l[j]?) hgs
  simp only [List.getElem?_map, Array.getElem?_toList, hfj, Option.map_some, List.getElem?_range hj] at hrow
  injection hrow with hrow
  simp only [Prod.mk.injEq] at hrow
  obtain ⟨ho, hco, hu⟩ := hrow
  have h3 := hf j _ hfj
  rw [ho, hco, List.getElem?_eq_getElem (by omega)] at h3
  exact one_int hu (by omega) h3
theorem open_ops {H : Type} {enc : TypeId × Value → H} {P : Program} {w : World} {base : Nat} {spare : Nat → Bool} {held : Bool} {fuel : Nat} {t e : TypeId} {fs gs : Array Field} {f0 f1 : Field} {A : Option Addr} {len cap : Nat} {x : DataW H × List MemPlace}
    (ht : P.underlying t = some (.slice e)) (he : P.underlying e = some (.struct fs)) (hc : P.cellsOf e = 5) (h0 : fs[0]? = some f0) (h1 : fs[1]? = some f1) (hsz : fs.size = 2) (o0 : f0.offset = 0) (o1 : f1.offset = 1) (c0 : P.cellsOf f0.type = 1) (c1 : P.cellsOf f1.type = 4) (u0 : P.underlying f0.type = some (.int .i64)) (u1 : P.underlying f1.type = some (.struct gs)) (hgs : gs.toList.map (fun f => (f.offset, P.cellsOf f.type, P.underlying f.type)) = (List.range 4).map fun j => (j, 1, some (.int .i64)))
    (h : DataW.trod enc P w base spare held fuel t [.slice A len cap] = some x) : ∃ f, IsRecs ks5 w A len cap f := by
  rcases DataW.trod_slice ht h with ⟨h0, _⟩ | ⟨a, len', cap', elems, rest, n, _, h1', rfl, hb, hl, hm, hlen, hel, hsp, hns⟩
  · injection h0 with h0; injection h0 with h0 h1 h2; subst h0; subst h1; subst h2
    exact ⟨fun _ _ => 0, .inl ⟨rfl, rfl, rfl⟩⟩
  · injection h1' with h1'; injection h1' with h0' h1' h2'; subst h0'; subst h1'; subst h2'
    have hk5 : ∀ j (hj : j < ks5.length), ks5[j] = IntKind.i64 := fun j hj => by
      match j, hj with
      | 0, _ => rfl | 1, _ => rfl | 2, _ => rfl | 3, _ => rfl | 4, _ => rfl
    have key : ∀ i, i < len → ∀ j (hj : j < 5), ∃ z, w.cell? (a.add (i * 5 + j)) = some (.int .i64 z) ∧ (Lit.int .i64 z).wf = true := by
      intro i hi j hj
      have h2 := hel i hi
      rw [List.getElem?_eq_getElem (by omega), Option.bind_eq_some_iff] at h2
      obtain ⟨cs', hcs, hy⟩ := h2
      obtain ⟨xs, m, _, _, hl2, hxl, hf⟩ := DataW.trod_struct he hy
      obtain ⟨hb', hl3, hcell⟩ := World.cells?_some hcs
      have hj2 : j < cs'.length := by rw [hl2, hc]; exact hj
      have h4 := hcell j (by rw [hc]; exact hj)
      rw [add_add, hc] at h4
      have hz : ∃ z, cs'[j] = .int .i64 z ∧ (Lit.int .i64 z).wf = true := by
        by_cases hj0 : j = 0
        · subst hj0
          have h3 := hf 0 f0 h0
          rw [o0, c0, List.getElem?_eq_getElem (by omega)] at h3
          exact one_int u0 hj2 h3
        · have h3 := hf 1 f1 h1
          rw [o1, c1, List.getElem?_eq_getElem (by omega)] at h3
          have hlen4 : ((cs'.drop 1).take 4).length = 4 := by rw [List.length_take, List.length_drop, hl2, hc]; rfl
          obtain ⟨z, e1, e2⟩ := ints_of u1 hgs hlen4 h3 (j - 1) (by omega)
          refine ⟨z, ?_, e2⟩
          rw [List.getElem_take, List.getElem_drop] at e1
          rw [← e1]
          congr 1; omega
      obtain ⟨z, e1, e2⟩ := hz
      refine ⟨z, ?_, e2⟩
      rw [h4, List.getElem?_eq_getElem hj2, e1]
    refine ⟨fun i j => if h : i < len ∧ j < 5 then Classical.choose (key i h.1 j h.2) else 0, .inr ⟨a, rfl, hl, hm, fun i hi j hj => ?_⟩⟩
    have hj5 : j < 5 := hj
    have := Classical.choose_spec (key i hi j hj5)
    rw [hk5 j hj]
    simpa [hi, hj5, ks5] using this
theorem ops_len {H : Type} {enc : TypeId × Value → H} {P : Program} {w : World} {base : Nat} {spare : Nat → Bool} {held : Bool} {fuel : Nat} {t e : TypeId} {by_ : Nat} {A : Option Addr} {len cap : Nat} {x : DataW H × List MemPlace}
    (ht : P.underlying t = some (.slice e)) (hby : P.bytesOf e = by_) (h : DataW.trod enc P w base spare held fuel t [.slice A len cap] = some x) (hw : ∀ v ∈ x.1.weights P t, v ≤ reachBytes) : len * by_ ≤ 140737488351232 := by
  rcases DataW.trod_slice ht h with ⟨h0, hx⟩ | ⟨a, len', cap', elems, rest, n, _, h1, hx, hbs, hl, hm, hlen, hel, hsp, hns⟩
  · injection h0 with h0; injection h0 with h0 h1 h2; subst h1; omega
  · injection h1 with h1; injection h1 with h0 h1 h2; subst h1
    rw [hx] at hw
    have := hw ((elems.map (·.1)).length * by_ + (rest.map (·.1)).length * by_) (by
      simp only [DataW.weights, ht, hby]
      rw [← Nat.add_mul]; exact List.mem_cons_self)
    unfold reachBytes at this
    simp only [List.length_map] at this
    rw [hlen] at this
    omega
end Go.Dn
namespace Go.Proofs.YtbhhbnnmdekjiaaGreat.Rd
open Go.Dn Go.RowKit
set_option maxRecDepth 100000
theorem op5 {w : World} {o : HO} {Q : Nat → World → Prop} (hQ : ∀ w' b, w.heap.size ≤ b → HB w' b (hoC o) 33 → Below w.heap.size w w' → Q b w') :
    alW w (.cells #[.int .i64 (0 : Int), .int .i64 (0 : Int), .int .i64 (0 : Int), .int .i64 (0 : Int), .int .i64 (0 : Int)] 33) fun B w1 =>
      stW w1 (⟨B, 0, none⟩ : Addr) (.int .i64 o.k) fun w2 => stW w2 ((⟨B, 0, none⟩ : Addr).add 1) (.int .i64 o.id) fun w3 => stW w3 ((⟨B, 0, none⟩ : Addr).add 2) (.int .i64 o.u) fun w4 => stW w4 ((⟨B, 0, none⟩ : Addr).add 3) (.int .i64 o.v) fun w5 => stW w5 ((⟨B, 0, none⟩ : Addr).add 4) (.int .i64 o.w) fun w6 => Q B w6 := by
  refine al_new fun w1 b1 e1 s1 h1 g1 => ?_
  refine hb_st0 h1 (by simp) fun w2 h2 k2 => hb_st h2 (j := 1) (by simp) fun w3 h3 k3 => hb_st h3 (j := 2) (by simp) fun w4 h4 k4 => hb_st h4 (j := 3) (by simp) fun w5 h5 k5 => hb_st h5 (j := 4) (by simp) fun w6 h6 k6 => ?_
  have k := ((k2.trans k3).trans (k4.trans k5)).trans k6
  exact hQ w6 b1 (by omega) h6 (g1.trans ((k.below (B := w.heap.size) (by omega) fun i hi e => by omega)))
theorem mv2 {w : World} {b5 : Nat} {cs : Array Value} {t5 t : TypeId} (ns : NS) (h5 : HB w b5 cs t5) (hc : cs.size = 2) {K : World → Prop} (hk : ∀ w', HB w' b5 (nsC ns) t5 → Keeps (fun k => k = b5) w w' → K w') :
    alW w (.cells #[.slice none 0 0, .slice none 0 0] t) fun B18 w19 =>
    stW w19 (⟨B18, 0, Option.none⟩ : Addr) (.slice ns.A0 ns.n0 ns.c0) fun w20 =>
    stW w20 ((⟨B18, 0, Option.none⟩ : Addr).add 1) (.slice ns.A1 ns.n1 ns.c1) fun w21 =>
    ldS w21 (⟨B18, 0, Option.none⟩ : Addr) fun A22 n22 c22 =>
    ldS w21 ((⟨B18, 0, Option.none⟩ : Addr).add 1) fun A23 n23 c23 =>
    stW w21 (⟨b5, 0, Option.none⟩ : Addr) (.slice A22 n22 c22) fun w24 =>
    stW w24 ((⟨b5, 0, Option.none⟩ : Addr).add 1) (.slice A23 n23 c23) K := by
  refine al_new fun w1 b e z h1 g1 => put2 ns h1 rfl fun w2 h2 k2 => get2 h2 ?_
  have hb5 := h5.lt
  have h5' := (h5.below g1).keeps k2 (by omega)
  refine put2 ns h5' hc fun w3 h3 k3 => hk w3 h3 ?_
  have ka : Keeps (fun k => k = b5) w w1 := Keeps.of_below g1
  exact (ka.trans' k2 fun i hi e => by omega).trans k3
theorem hd2 {S : World → Prop} {b1 : Nat} {t1 : TypeId} {s : NS} (h1 : ∀ w, S w → HB w b1 (nsC s) t1) {K : Option Addr → Nat → Nat → Option Addr → Nat → Nat → Prop} (hk : K s.A0 s.n0 s.c0 s.A1 s.n1 s.c1) :
    hdS S (⟨b1, 0, Option.none⟩ : Addr) fun A11 n11 c11 =>
    hdS S ((⟨b1, 0, Option.none⟩ : Addr).add 1) fun A12 n12 c12 => K A11 n11 c11 A12 n12 c12 :=
  ⟨_, _, _, fun w hs => ((h1 w hs).cell 0).trans rfl, _, _, _, fun w hs => ((h1 w hs).cell 1).trans rfl, hk⟩
section
variable {w0 w w' : World} {O O' : Ow} {s s' : HS} {N N' : Nat} {ns ns' : NS} {vr vr' : List Int} {er er' : List E}
theorem alive_st {w : World} {Q : Bool → World → Prop} (hQ : ∀ w', Below w.heap.size w w' → Q true w') :
    Calls Tryz.prog 9 #[] w fun e w' => ∃ b : Bool, e = .returned (.bool b) ∧ Q b w' := by
  refine (alive_ok w w).mono ?_
  rintro _ w1 ⟨rfl, g⟩
  exact ⟨_, rfl, hQ w1 g⟩
end
theorem scr_of {w : World} {A : Option Addr} {n c : Nat} {f : Nat → Nat → Int} (h : IsRecs ks5 w A n c f) (s : n * 40 ≤ 140737488351232) : ∃ l : List HO, Scr w A n l := by
  refine ⟨(List.range n).map fun i => ⟨f i 0, f i 1, f i 2, f i 3, f i 4⟩, ?_⟩
  rcases h with ⟨rfl, rfl, rfl⟩ | ⟨a, rfl, h1, h2, h3⟩
  · exact ⟨fun i hi => by simp at hi, by simp, by simp, fun o ho => by simp at ho⟩
  · have k5 : ks5.length = 5 := rfl
    refine ⟨fun i hi => ⟨a, rfl, ?_⟩, by simp, by simp; omega, fun o ho => ?_⟩
    · have hi' : i < n := by simpa using hi
      have key : ∀ j, j < 5 → w.cell? ((a.add (i * 5)).add j) = some (.int .i64 (f i j)) := fun j hj => by
        have := (h3 i hi' j hj).1
        rw [k5] at this
        rw [add_add, this]
        congr 2
        have : ∀ j (hj : j < 5), ks5[j] = IntKind.i64 := fun j hj => by
          match j, hj with
          | 0, _ => rfl | 1, _ => rfl | 2, _ => rfl | 3, _ => rfl | 4, _ => rfl
        exact this j hj
      rw [List.getElem_map, List.getElem_range]
      have k0 := key 0 (by omega)
      rw [add_add, Nat.add_zero] at k0
      exact ⟨k0, key 1 (by omega), key 2 (by omega), key 3 (by omega), key 4 (by omega)⟩
    · obtain ⟨i, hi, rfl⟩ := List.mem_map.1 ho
      have hi' : i < n := by simpa using hi
      exact ⟨wf_i64 (h3 i hi' 1 (by decide)).2, wf_i64 (h3 i hi' 2 (by decide)).2, wf_i64 (h3 i hi' 3 (by decide)).2⟩
theorem sds_of {w : World} {A : Option Addr} {n c : Nat} {zs : List Int} (h : IsRow .i64 w A n c zs) (s : n * 8 ≤ 140737488351232) : ∃ l : List Int, Sds w A n c l := by
  rcases h with ⟨rfl, rfl, rfl, rfl⟩ | ⟨x, rfl, hl, hm, hz, hc, hw⟩
  · exact ⟨[], fun i hi => absurd hi (Nat.not_lt_zero _), rfl, fun _ => ⟨rfl, rfl⟩, by simp⟩
  · refine ⟨zs.take n, fun i hi => ?_, by simp; omega, (fun h => by cases h), by simp; omega⟩
    rw [List.length_take] at hi
    refine ⟨x, rfl, ?_⟩
    rw [hc i (by omega), List.getElem_take]
    congr 2
    simp [List.getD_eq_getElem?_getD, show i < zs.length by omega]
structure Seen (vs : List Int) (sk : List E) (l : List Int) (k : Nat) : Prop where
  sub : ∀ x ∈ l, x ∈ vs
  nd : l.Nodup
  cl : ∀ x ∈ l, ∀ y ∈ vs, Cn sk x y → y ∈ l
  cnt : k = ((reps vs sk).filter fun r => decide (r ∈ l)).length
theorem Seen.nil (vs : List Int) (sk : List E) : Seen vs sk [] 0 := ⟨fun x h => (by cases h), List.nodup_nil, fun x h => (by cases h), by
  have : (reps vs sk).filter (fun r => decide (r ∈ ([] : List Int))) = [] := List.filter_eq_nil_iff.2 (by simp)
  rw [this]; rfl⟩
theorem Seen.len {vs : List Int} {sk : List E} {l : List Int} {k : Nat} (h : Seen vs sk l k) (nd : vs.Nodup) : l.length ≤ vs.length := by
  have p : l.Perm (vs.filter fun x => decide (x ∈ l)) := (List.perm_ext_iff_of_nodup h.nd (nd.sublist List.filter_sublist)).2 fun x => by
    rw [List.mem_filter]
    exact ⟨fun hx => ⟨h.sub x hx, by simpa using hx⟩, fun hx => by simpa using hx.2⟩
  rw [p.length_eq]
  exact List.length_filter_le _ _
theorem filter_one {α : Type} {p q : α → Bool} : ∀ {l : List α}, l.Nodup → ∀ {r : α}, r ∈ l → (∀ x ∈ l, q x = true ↔ p x = true ∨ x = r) → p r = false → (l.filter q).length = (l.filter p).length + 1 := by
  intro l
  induction l with
  | nil => intro _ r h; cases h
  | cons a t ih =>
    intro nd r hr h hp
    rw [List.nodup_cons] at nd
    rcases List.mem_cons.1 hr with rfl | hr
    · have hq : q r = true := (h r List.mem_cons_self).2 (.inr rfl)
      have e : t.filter q = t.filter p := List.filter_congr fun x hx => by
        have := h x (List.mem_cons_of_mem _ hx)
        rw [Bool.eq_iff_iff, this]
        exact ⟨fun hh => hh.resolve_right fun e => nd.1 (e ▸ hx), .inl⟩
      rw [List.filter_cons_of_pos hq, List.filter_cons_of_neg (by rw [hp]; decide), List.length_cons, e]
    · have := ih nd.2 hr (fun x hx => h x (List.mem_cons_of_mem _ hx)) hp
      have hne : a ≠ r := fun e => nd.1 (e ▸ hr)
      have ha := h a List.mem_cons_self
      by_cases q1 : p a = true
      · rw [List.filter_cons_of_pos (ha.2 (.inl q1)), List.filter_cons_of_pos q1, List.length_cons, List.length_cons, this]
      · rw [List.filter_cons_of_neg (fun hh => (ha.1 hh).elim q1 hne), List.filter_cons_of_neg q1, this]
theorem Seen.add {vs : List Int} {sk : List E} {l : List Int} {k : Nat} (hs : vs.Pairwise (· < ·)) (h : Seen vs sk l k) {x : Int} (hx : x ∈ vs) (hn : x ∉ l) : Seen vs sk (l ++ cmpV vs sk x) (k + 1) ∧ ∀ y ∈ cmpV vs sk x, y ∉ l := by
  have dis : ∀ y ∈ cmpV vs sk x, y ∉ l := fun y hy hl => by
    obtain ⟨h1, h2⟩ := cmpV_mem.1 hy
    exact hn (h.cl y hl x hx h2.symm)
  refine ⟨⟨fun y hy => ?_, ?_, fun y hy z hz hc => ?_, ?_⟩, dis⟩
  · rcases List.mem_append.1 hy with q | q
    · exact h.sub y q
    · exact (cmpV_mem.1 q).1
  · rw [List.nodup_append]
    exact ⟨h.nd, sorted_nodup (cmpV_sorted hs sk x), fun a ha b hb e => dis b hb (e ▸ ha)⟩
  · rcases List.mem_append.1 hy with q | q
    · exact List.mem_append_left _ (h.cl y q z hz hc)
    · exact List.mem_append_right _ (cmpV_mem.2 ⟨hz, (cmpV_mem.1 q).2.trans hc⟩)
  · obtain ⟨r, hr, hxr⟩ := rep_ex hs sk hx
    have hrv := (reps_mem.1 hr).1
    have hrc : r ∈ cmpV vs sk x := cmpV_mem.2 ⟨hrv, hxr⟩
    have nd : (reps vs sk).Nodup := (sorted_nodup hs).sublist List.filter_sublist
    have := filter_one (p := fun r => decide (r ∈ l)) (q := fun r => decide (r ∈ l ++ cmpV vs sk x)) nd hr (fun y hy => by
      simp only [decide_eq_true_eq, List.mem_append]
      constructor
      · rintro (q | q)
        · exact .inl q
        · exact .inr (rep_uniq hy hr ((cmpV_mem.1 q).2.symm.trans hxr))
      · rintro (q | rfl)
        · exact .inl q
        · exact .inr hrc) (by simpa using dis r hrc)
    rw [this, ← h.cnt]
theorem Seen.all {vs : List Int} {sk : List E} {l : List Int} {k : Nat} (hs : vs.Pairwise (· < ·)) (h : Seen vs sk l k) (ha : ∀ v ∈ vs, v ∈ l) : l.length = vs.length ∧ k = (reps vs sk).length := by
  constructor
  · exact ((List.perm_ext_iff_of_nodup h.nd (sorted_nodup hs)).2 fun x => ⟨h.sub x, ha x⟩).length_eq
  · rw [h.cnt]
    congr 1
    exact List.filter_eq_self.2 fun r hr => by
      have := ha r (reps_mem.1 hr).1
      simp [this]
section
variable {w0 w w' : World} {O O' : Ow} {s s' : HS} {N N' : Nat}
theorem filled_st {w : World} {As : Option Addr} {ns cs : Nat} {sl : List Int} (hs : Sds w As ns cs sl) {A : Option Addr} {n c : Nat} {l : List HO} (h : Scr w A n l) {Q : Option Addr → World → Prop} (hQ : ∀ w' O s, PX w w' O s l.length → s.vs = (run l).1 → s.ab.sk = (run l).2 → Q (some ⟨s.G, 0, none⟩) w') :
    Calls Tryz.prog 15 #[.slice As ns cs, .slice A n c] w fun e w' => ∃ p : Option Addr, e = .returned (.pointer p) ∧ Q p w' := by
  refine (filled_ok hs h).mono ?_
  rintro _ w1 ⟨O, s, rfl, p, e1, e2⟩
  exact ⟨_, rfl, hQ w1 O s p e1 e2⟩
end
theorem cn_in {sk : List E} {e : E} (h : Cn sk e.u e.v) (x y : Int) : Cn (sk ++ [e]) x y ↔ Cn sk x y := by
  rw [cn_add]
  constructor
  · rintro (q | ⟨q1, q2⟩ | ⟨q1, q2⟩)
    · exact q
    · exact (q1.trans h).trans q2
    · exact (q1.trans h.symm).trans q2
  · exact .inl
section
variable {w0 w w' : World} {O O' : Ow} {s s' : HS} {N N' : Nat}
theorem PL.of {A : Option Addr} {c B : Nat} {l : List Int} {e : TypeId} (p : PX w0 w O s N) (g : Below w.heap.size w w') (o : OwnI w' B e A c l) (hB : w.heap.size ≤ B) : PL w' O A l := ⟨o.reads, fun a ha => ⟨p.fresh (Nat.le_trans hB (o.block a ha).1), (o.block a ha).2⟩⟩
end
structure UF (m : List (Int × Int)) (rt : Int → Int) (rk : Int → Nat) : Prop where
  n : ∀ x, lk m x = none → rt x = x
  s : ∀ x p, lk m x = some p → rt x = rt p ∧ rk p < rk x
  r : ∀ x, lk m (rt x) = none
theorem UF.nil : UF [] id fun _ => 0 := ⟨fun x _ => rfl, fun x p h => (by cases h), fun x => rfl⟩
theorem UF.half {m : List (Int × Int)} {rt : Int → Int} {rk : Int → Nat} (h : UF m rt rk) {v p q : Int} (h1 : lk m v = some p) (h2 : lk m p = some q) : UF (putK m v q) rt rk := by
  obtain ⟨a1, a2⟩ := h.s v p h1
  obtain ⟨b1, b2⟩ := h.s p q h2
  refine ⟨fun x hx => ?_, fun x y hx => ?_, fun x => ?_⟩
  · rw [lk_putK] at hx
    by_cases e : v = x
    · rw [if_pos e] at hx; cases hx
    · rw [if_neg e] at hx; exact h.n x hx
  · rw [lk_putK] at hx
    by_cases e : v = x
    · rw [if_pos e] at hx
      injection hx with hx
      subst hx; subst e
      exact ⟨a1.trans b1, by omega⟩
    · rw [if_neg e] at hx; exact h.s x y hx
  · rw [lk_putK]
    by_cases e : v = rt x
    · have := h.r x
      rw [← e, h1] at this; cases this
    · rw [if_neg e]; exact h.r x
theorem UF.join {m : List (Int × Int)} {rt : Int → Int} {rk : Int → Nat} (h : UF m rt rk) {a b : Int} (ha : lk m a = none) (hb : lk m b = none) (hne : a ≠ b) : UF (putK m a b) (fun x => if rt x = a then b else rt x) (fun x => if rt x = a then rk x + rk b + 1 else rk x) := by
  have ra := h.n a ha
  have rb := h.n b hb
  refine ⟨fun x hx => ?_, fun x y hx => ?_, fun x => ?_⟩
  · rw [lk_putK] at hx
    by_cases e : a = x
    · rw [if_pos e] at hx; cases hx
    · rw [if_neg e] at hx
      have := h.n x hx
      show (if rt x = a then b else rt x) = x
      rw [this, if_neg fun q => e q.symm]
  · rw [lk_putK] at hx
    by_cases e : a = x
    · rw [if_pos e] at hx
      injection hx with hx
      subst hx; subst e
      show (if rt a = a then b else rt a) = (if rt b = a then b else rt b) ∧ (if rt b = a then rk b + rk b + 1 else rk b) < (if rt a = a then rk a + rk b + 1 else rk a)
      rw [ra, rb, if_pos rfl, if_neg fun q => hne q.symm, if_neg fun q => hne q.symm, if_pos rfl]
      exact ⟨rfl, by omega⟩
    · rw [if_neg e] at hx
      obtain ⟨q1, q2⟩ := h.s x y hx
      show (if rt x = a then b else rt x) = (if rt y = a then b else rt y) ∧ (if rt y = a then rk y + rk b + 1 else rk y) < (if rt x = a then rk x + rk b + 1 else rk x)
      rw [q1]
      by_cases q : rt y = a
      · rw [if_pos q, if_pos q, if_pos q]; exact ⟨rfl, by omega⟩
      · rw [if_neg q, if_neg q, if_neg q]; exact ⟨rfl, q2⟩
  · show lk (putK m a b) (if rt x = a then b else rt x) = none
    rw [lk_putK]
    by_cases q : rt x = a
    · rw [if_pos q, if_neg hne]; exact hb
    · rw [if_neg q, if_neg fun e => q e.symm]; exact h.r x
theorem KTs : KT Tryz.prog 96 3 3 eI W64 := ⟨by kernel_rfl, Maps.int_keyed Kint, fun x h => ⟨_, Maps.keyOf_int_mk Kint h.wf⟩, eI_inj⟩
section
variable {w w' : World} {b : Nat} {m : List (Int × Int)} {rt : Int → Int} {rk : Int → Nat}
def PW (m : List (Int × Int)) : Prop := ∀ x p, lk m x = some p → W64 p
theorem PW.put {x p : Int} (h : PW m) (hp : W64 p) : PW (putK m x p) := fun y q hy => by
  rw [lk_putK] at hy
  split at hy
  · injection hy with hy; subst hy; exact hp
  · exact h y q hy
theorem uroot_ok (g : GM w eI eI W64 b m) (h : UF m rt rk) (hw : PW m) {v : Int} (hv : W64 v) :
    Calls Tryz.prog 51 #[.map (some b), .int .i64 v] w fun e w' => ∃ m', e = .returned (.int .i64 (rt v)) ∧ GM w' eI eI W64 b m' ∧ UF m' rt rk ∧ PW m' ∧ Keeps (fun k => k = b) w w' := by
  apply f_plain_sets_root.ok
  unfold f_plain_sets_root.wp
  refine ⟨rk v + 1, ?_⟩
  have key : ∀ (n : Nat) (v : Int) (w1 : World) (m1 : List (Int × Int)), rk v ≤ n → W64 v → GM w1 eI eI W64 b m1 → UF m1 rt rk → PW m1 → Keeps (fun k => k = b) w w1 → ∀ {Kr : Int → World → Prop}, (∀ w' m', GM w' eI eI W64 b m' → UF m' rt rk → PW m' → Keeps (fun k => k = b) w w' → Kr (rt v) w') → f_plain_sets_root.l0 (n + 1) (some b) v w1 Kr := by
    intro n
    induction n with
    | zero =>
      intro v w1 m1 hn hv g h hw k Kr hK
      unfold f_plain_sets_root.l0
      refine g.look2 KTs hv (zI w1) ?_
      cases hq : lk m1 v with
      | none =>
        refine ⟨0, false, rfl, sel_t rfl ?_⟩
        have := hK w1 m1 g h hw k
        rw [h.n v hq] at this
        exact this
      | some p =>
        have := (h.s v p hq).2
        omega
    | succ n ih =>
      intro v w1 m1 hn hv g h hw k Kr hK
      unfold f_plain_sets_root.l0
      refine g.look2 KTs hv (zI w1) ?_
      cases hq : lk m1 v with
      | none =>
        refine ⟨0, false, rfl, sel_t rfl ?_⟩
        have := hK w1 m1 g h hw k
        rw [h.n v hq] at this
        exact this
      | some p =>
        obtain ⟨q1, q2⟩ := h.s v p hq
        have hp := hw v p hq
        refine ⟨p, true, rfl, sel_f rfl (g.look2 KTs hp (zI w1) ?_)⟩
        cases hq2 : lk m1 p with
        | none =>
          exact ⟨0, false, rfl, sel_f rfl (ih p w1 m1 (by omega) hp g h hw k fun w' m' g' h' hw' k' => by rw [← q1]; exact hK w' m' g' h' hw' k')⟩
        | some t =>
          have ht := hw p t hq2
          refine ⟨t, true, rfl, sel_t rfl (g.upd (v := t) KTs hv fun w2 g2 k2 => ?_)⟩
          exact ih p w2 (putK m1 v t) (by omega) hp g2 (h.half hq hq2) (hw.put ht) (k.trans k2) fun w' m' g' h' hw' k' => by rw [← q1]; exact hK w' m' g' h' hw' k'
  exact key (rk v) v w m (Nat.le_refl _) hv g h hw (.refl _ _) fun w' m' g' h' hw' k' _ => ⟨m', rfl, g', h', hw', k'⟩
theorem ujoin_ok (g : GM w eI eI W64 b m) (h : UF m rt rk) (hw : PW m) {u v : Int} (hu : W64 u) (hv : W64 v) (hru : W64 (rt u)) (hrv : W64 (rt v)) :
    Calls Tryz.prog 50 #[.map (some b), .int .i64 u, .int .i64 v] w fun e w' => ∃ m' rt' rk', e = .returned (.bool (decide (rt u ≠ rt v))) ∧ GM w' eI eI W64 b m' ∧ UF m' rt' rk' ∧ PW m' ∧ (∀ x, rt' x = if rt x = rt u then rt v else rt x) ∧ Keeps (fun k => k = b) w w' := by
  apply f_plain_sets_join.ok
  unfold f_plain_sets_join.wp
  refine (uroot_ok g h hw hu).mono ?_
  rintro _ w1 ⟨m1, rfl, g1, h1, hw1, k1⟩
  refine ⟨_, rfl, (uroot_ok g1 h1 hw1 hv).mono ?_⟩
  rintro _ w2 ⟨m2, rfl, g2, h2, hw2, k2⟩
  refine ⟨_, rfl, ?_⟩
  by_cases e : rt u = rt v
  · refine sel_t (by simp [e]) ⟨m2, rt, rk, by simp [e], g2, h2, hw2, fun x => ?_, k1.trans k2⟩
    split
    · rename_i q; rw [q, e]
    · rfl
  · refine sel_f (by simp [e]) (g2.upd (v := rt v) KTs hru fun w3 g3 k3 => ?_)
    exact ⟨putK m2 (rt u) (rt v), _, _, by simp [e], g3, h2.join (h2.r u) (h2.r v) e, hw2.put hrv, fun x => rfl, (k1.trans k2).trans k3⟩
end
theorem nanS (x : Int) (w : World) : Calls Tryz.prog 126 #[.int .i64 x] w fun e w' => e = .returned (.bool false) ∧ w' = w := by
  apply f_slices_isNaN_int.ok
  unfold f_slices_isNaN_int.wp
  exact ⟨by simp, rfl⟩
theorem nanC (x : Int) (w : World) : Calls Tryz.prog 140 #[.int .i64 x] w fun e w' => e = .returned (.bool false) ∧ w' = w := by
  apply f_cmp_isNaN_int.ok
  unfold f_cmp_isNaN_int.wp
  exact ⟨by simp, rfl⟩
theorem less_ok (x y : Int) (w : World) : Calls Tryz.prog 125 #[.int .i64 x, .int .i64 y] w fun e w' => e = .returned (.bool (decide (x < y))) ∧ w' = w := by
  apply f_cmp_Less_int.ok
  unfold f_cmp_Less_int.wp
  refine (nanC x w).mono ?_
  rintro _ w1 ⟨rfl, rfl⟩
  exact ⟨_, rfl, sel_f rfl ⟨rfl, rfl⟩⟩
theorem mid_in {a b : Nat} (ha : a ≤ 2048) (hb : b ≤ 2048) : IntKind.i64.wrap ((IntKind.u64.wrap (IntKind.i64.wrap ((a : Int) + (b : Int)))).fdiv (2 ^ 1)) = (((a + b) / 2 : Nat) : Int) := by
  rw [Int.fdiv_eq_ediv_of_nonneg _ (by decide), IntKind.wrap_i64, IntKind.wrap_u64, IntKind.wrap_i64]
  omega
section
variable {w w' : World}
theorem bins_ok {A : Option Addr} {n c : Nat} {l : List Int} (r : RI w A l) (hn : n = l.length) (hl : l.length ≤ 2048) (hs : l.Pairwise (· < ·)) (x : Int) :
    Calls Tryz.prog 103 #[.slice A n c, .int .i64 x] w fun e w' => (∃ i : Int, e = .returned (.tuple #[.int .i64 i, .bool (decide (x ∈ l))])) ∧ w' = w := by
  subst hn
  apply f_slices_BinarySearch_int_int.ok
  unfold f_slices_BinarySearch_int_int.wp
  have up : ∀ i j (hi : i < l.length) (hj : j < l.length), i < j → l[i] < l[j] := fun i j hi hj h => List.pairwise_iff_getElem.1 hs i j hi hj h
  have key : ∀ (m lo hi : Nat) {K0 : Int → World → Prop}, hi - lo ≤ m → lo ≤ hi → hi ≤ l.length → (∀ j (hj : j < l.length), j < lo → l[j] < x) → (∀ j (hj : j < l.length), hi ≤ j → x ≤ l[j]) →
      (∀ k : Nat, k ≤ l.length → (∀ j (hj : j < l.length), j < k → l[j] < x) → (∀ j (hj : j < l.length), k ≤ j → x ≤ l[j]) → K0 (k : Int) w) → f_slices_BinarySearch_int_int.l0 (m + 1) A l.length c x (lo : Int) (hi : Int) w K0 := by
    intro m
    induction m with
    | zero =>
      intro lo hi K0 hm h1 h2 h3 h4 hK
      have : lo = hi := by omega
      subst this
      unfold f_slices_BinarySearch_int_int.l0
      exact sel_f (by simp) (hK lo h2 h3 h4)
    | succ m ih =>
      intro lo hi K0 hm h1 h2 h3 h4 hK
      unfold f_slices_BinarySearch_int_int.l0
      by_cases hlt : lo < hi
      · have hmid := mid_in (a := lo) (b := hi) (by omega) (by omega)
        have hml : (lo + hi) / 2 < l.length := by omega
        obtain ⟨a, ha, q⟩ := r ((lo + hi) / 2) hml
        rw [hmid]
        refine sel_t (by simpa using hlt) (optB_some ha (req_intro (by simp; omega) (ldI_intro (x := l[(lo + hi) / 2]) (by rw [Int.toNat_natCast, Nat.mul_one]; exact q) ?_)))
        refine (less_ok _ _ w).mono ?_
        rintro _ w1 ⟨rfl, hw⟩
        obtain rfl : w = w1 := hw.symm
        refine ⟨_, rfl, ?_⟩
        by_cases hc : l[(lo + hi) / 2] < x
        · refine sel_t (decide_eq_true hc) ?_
          rw [w64_in (by omega), show ((((lo + hi) / 2 : Nat) : Int) + 1) = (((lo + hi) / 2 + 1 : Nat) : Int) by omega]
          refine ih ((lo + hi) / 2 + 1) hi (by omega) (by omega) h2 (fun j hj hjl => ?_) h4 hK
          by_cases e : j = (lo + hi) / 2
          · subst e; exact hc
          · have := up j ((lo + hi) / 2) hj hml (by omega); omega
        · refine sel_f (decide_eq_false hc) ?_
          refine ih lo ((lo + hi) / 2) (by omega) (by omega) (by omega) h3 (fun j hj hjl => ?_) hK
          by_cases e : j = (lo + hi) / 2
          · subst e; omega
          · have := up ((lo + hi) / 2) j hml hj (by omega); omega
      · have : lo = hi := by omega
        subst this
        exact sel_f (by simp) (hK lo h2 h3 h4)
  refine ⟨l.length + 1, key l.length 0 l.length (by omega) (by omega) (Nat.le_refl _) (fun j _ h => by omega) (fun j hj h => by omega) fun k hk h3 h4 _ => ?_⟩
  by_cases hkl : k < l.length
  · obtain ⟨a, ha, q⟩ := r k hkl
    have ld : ∀ {K : Int → Prop}, K l[k] → ldI w (a.add ((k : Int).toNat * 1)) .i64 K := fun hK => ldI_intro (x := l[k]) (by rw [Int.toNat_natCast, Nat.mul_one]; exact q) hK
    refine sel_t (by simpa using hkl) (optB_some ha (req_intro (by simp; omega) (ld ?_)))
    by_cases e : l[k] = x
    · have hm : x ∈ l := by rw [← e]; exact List.getElem_mem hkl
      exact sel_t (by simpa using e) ⟨⟨k, by rw [decide_eq_true hm]⟩, rfl⟩
    · have hm : x ∉ l := fun hm => by
        obtain ⟨j, hj, hjx⟩ := List.mem_iff_getElem.1 hm
        by_cases h : j < k
        · have := h3 j hj h; omega
        · by_cases h2 : j = k
          · subst h2; exact e hjx
          · have := up k j hkl hj (by omega)
            have := h4 k hkl (Nat.le_refl _); omega
      refine sel_f (by simpa using e) (optB_some ha (req_intro (by simp; omega) (ld ((nanS _ w).mono ?_))))
      rintro _ w1 ⟨rfl, hw⟩
      obtain rfl : w = w1 := hw.symm
      exact ⟨_, rfl, sel_f rfl ⟨⟨k, by rw [decide_eq_false hm]⟩, rfl⟩⟩
  · have hm : x ∉ l := fun hm => by
      obtain ⟨j, hj, hjx⟩ := List.mem_iff_getElem.1 hm
      have := h3 j hj (by omega); omega
    exact sel_f (by simp; omega) ⟨⟨k, by rw [decide_eq_false hm]⟩, rfl⟩
theorem badIdP (i : Int) (w : World) : Calls Tryz.prog 124 #[.int .i64 i] w fun e w' => (∃ b, e = .returned (.bool b) ∧ (b = true ↔ badI i)) ∧ w' = w := by
  apply f_plain_badId.ok
  unfold f_plain_badId.wp
  by_cases h : i < 1
  · exact sel_t (decide_eq_true h) ⟨⟨_, rfl, by simp [badI, h]⟩, rfl⟩
  · exact sel_f (decide_eq_false h) ⟨⟨_, rfl, by simp [badI]; omega⟩, rfl⟩
theorem rises_ok {A : Option Addr} {n c : Nat} {l : List Int} (r : RI w A l) (hn : n = l.length) (hl : l.length ≤ 2048) (hs : l.Pairwise (· < ·)) (hb : ∀ x ∈ l, ¬ badI x) :
    Calls Tryz.prog 102 #[.slice A n c] w fun e w' => e = .returned (.bool true) ∧ w' = w := by
  subst hn
  apply f_plain_rises.ok
  unfold f_plain_rises.wp
  have key : ∀ (m i : Nat) {K0 : World → Prop} {Kr : Bool → World → Prop}, l.length - i = m → i ≤ l.length → K0 w → f_plain_rises.l0 (m + 1) A l.length c A l.length c (l.length : Int) (i : Int) w K0 Kr := by
    intro m
    induction m with
    | zero =>
      intro i K0 Kr hm hi hK
      unfold f_plain_rises.l0
      exact sel_f (by simp; omega) hK
    | succ m ih =>
      intro i K0 Kr hm hi hK
      have hlt : i < l.length := by omega
      obtain ⟨a, ha, q⟩ := r i hlt
      have hw : IntKind.i64.wrap ((i : Int) + 1) = ((i + 1 : Nat) : Int) := by rw [w64_in (by omega)]; omega
      unfold f_plain_rises.l0
      refine sel_t (by simpa using hlt) (optB_some ha (req_intro (by simp; omega) (ldI_intro (x := l[i]) (by rw [Int.toNat_natCast, Nat.mul_one]; exact q) ((badIdP _ w).mono ?_))))
      rintro _ w1 ⟨⟨b, rfl, hbb⟩, hw1⟩
      obtain rfl : w = w1 := hw1.symm
      have hbf : b = false := Bool.eq_false_iff.2 fun h => hb _ (List.getElem_mem hlt) (hbb.1 h)
      subst hbf
      refine ⟨_, rfl, sel_f rfl ?_⟩
      by_cases h0 : i = 0
      · subst h0
        refine sel_f (by simp) ?_
        rw [hw]
        exact ih (0 + 1) (by omega) (by omega) hK
      · obtain ⟨a2, ha2, q2⟩ := r (i - 1) (by omega)
        rw [w64_in (x := (i : Int) - 1) (by omega), show (i : Int) - 1 = ((i - 1 : Nat) : Int) by omega]
        refine sel_t (by simp; omega) (optB_some ha2 (req_intro (by simp; omega) (ldI_intro (x := l[i - 1]) (by rw [Int.toNat_natCast, Nat.mul_one]; exact q2) ?_)))
        have := List.pairwise_iff_getElem.1 hs (i - 1) i (by omega) hlt (by omega)
        refine sel_f (by simp; omega) ?_
        rw [hw]
        exact ih (i + 1) (by omega) (by omega) hK
  exact ⟨l.length + 1, key l.length 0 rfl (Nat.zero_le _) fun _ => ⟨rfl, rfl⟩⟩
structure RNet (vr : List Int) (er : List E) : Prop where
  vs : vr.Pairwise (· < ·)
  vb : ∀ v ∈ vr, ¬ badI v
  es : (er.map E.id).Pairwise (· < ·)
  eb : ∀ e ∈ er, ¬ badI e.id
  ends : ∀ e ∈ er, e.u ∈ vr ∧ e.v ∈ vr
  w : ∀ e ∈ er, 0 ≤ e.w ∧ e.w ≤ 1099511627776
variable {ns : NS} {vr : List Int} {er : List E}
theorem hasP_ok (h : NF w ns vr er) (rn : RNet vr er) (x : Int) : Calls Tryz.prog 79 #[.agg (nsC ns), .int .i64 x] w fun e w' => e = .returned (.bool (decide (x ∈ vr))) ∧ Below w.heap.size w w' := by
  apply f_plain_has.ok
  unfold f_plain_has.wp
  refine al_new fun w1 b1 e1 z1 h1 g1 => ?_
  have h1 : HB w1 b1 (nsC ns) 29 := h1
  have hN := h.belw g1
  refine hb_ldS0 h1 rfl ((bins_ok hN.v hN.nv hN.vl rn.vs x).mono ?_)
  rintro _ w2 ⟨⟨i, rfl⟩, rfl⟩
  exact ⟨_, _, rfl, rfl, g1⟩
theorem mk_ints {w : World} {n : Nat} (hn : n ≤ 2048) {K : Value → World → Prop} (hK : ∀ w', OwnI w' w.heap.size 3 (some ⟨w.heap.size, 0, none⟩) n (List.replicate n 0) → Below w.heap.size w w' → K (.slice (some ⟨w.heap.size, 0, none⟩) n n) w') :
    Runs Tryz.prog (Instr.makeSlice 22 (.int .i64 (n : Int)) (.int .i64 (n : Int))) w K := by
  obtain ⟨i, hi, hz, hs, hby⟩ := TIn.info
  obtain ⟨w1, hrun, ho, hg⟩ := run_makeSlice_full (P := Tryz.prog) w w.heap.size 22 3 i (.int .i64 0) 1 TIn.und hi hz hs .i64 .i64 n (by omega) (by rw [hby]; omega) (by unfold maxLen; omega) (Nat.le_refl _)
  have b1 : Below w.heap.size w w1 := ⟨hg.os, hg.tape, hg.output, hg.size, fun k hk => hg.block k hk (by simp)⟩
  refine runs_of hrun (hK w1 ?_ b1)
  unfold OwnI
  rw [List.length_replicate, List.map_replicate]
  have e : (madeCells (Value.int .i64 0).cells (n * 1)).toList = List.replicate n (.int .i64 0) := by
    apply List.ext_getElem
    · simp [size_madeCells]
    · intro j h1 h2
      simp [madeCells, Value.cells, Nat.mod_one]
  rw [← e]; exact ho
theorem set_pre {l : List Int} {i : Nat} (h : i < l.length) (k : Nat) : (l.take i ++ List.replicate (k + 1) 0).set i l[i] = l.take (i + 1) ++ List.replicate k 0 := by
  rw [List.set_append_right _ _ (by rw [List.length_take]; omega), List.length_take, Nat.min_eq_left (by omega), Nat.sub_self, List.replicate_succ, List.set_cons_zero, List.take_succ_eq_append_getElem h, List.append_assoc]
  rfl
theorem CheckP_ok (h : NF w ns vr er) (rn : RNet vr er) : Calls Tryz.prog 78 #[.agg (nsC ns)] w fun e w' => e = .returned (.int .i64 0) ∧ Below w.heap.size w w' := by
  apply f_plain_Check.ok
  unfold f_plain_Check.wp
  have hvl := h.vl
  have hel := h.el
  have hnv := h.nv
  have hne := h.ne
  refine al_new fun w1 b1 e1 z1 h1 g1 => ?_
  have h1 : HB w1 b1 (nsC ns) 29 := h1
  have hN := h.belw g1
  refine hb_ldS0 h1 rfl (sel_f (by simp; omega) (hb_ldS (j := 1) h1 rfl (sel_f (by simp; omega) (hb_ldS0 h1 rfl ((rises_ok hN.v hN.nv hvl rn.vs rn.vb).mono ?_)))))
  rintro _ w2 ⟨rfl, hw2⟩
  obtain rfl : w1 = w2 := hw2.symm
  refine ⟨_, rfl, sel_f rfl (hb_ldS (j := 1) h1 rfl ?_)⟩
  rw [hne]
  refine mk_ints hel fun w3 o3 g3 => ⟨_, _, _, rfl, ?_⟩
  obtain ⟨q0, hq0⟩ : ∃ q0, w1.heap.size = q0 := ⟨_, rfl⟩
  rw [hq0] at o3 ⊢
  have h13 := h1.below g3
  have hN3 := hN.belw g3
  refine hb_ldS (j := 1) h13 rfl ?_
  rw [hne]
  have b1lt : b1 < q0 := by omega
  have hnlt : ∀ b, Nb ns b → b ≠ q0 := fun b hb e => by have := hN.lt b hb; omega
  have key : ∀ (m i : Nat) (w : World) {K0 : World → Prop} {Kr : Int → World → Prop}, er.length - i = m → i ≤ er.length → NF w ns vr er → HB w b1 (nsC ns) 29 → OwnI w q0 3 (some ⟨q0, 0, none⟩) er.length ((er.map E.id).take i ++ List.replicate (er.length - i) 0) → Below q0 w3 w →
      (∀ w', NF w' ns vr er → OwnI w' q0 3 (some ⟨q0, 0, none⟩) er.length (er.map E.id) → Below q0 w3 w' → K0 w') → f_plain_Check.l0 (m + 1) (⟨b1, 0, none⟩ : Addr) (some ⟨q0, 0, none⟩) er.length er.length ns.A1 er.length ns.c1 (er.length : Int) (i : Int) w K0 Kr := by
    intro m
    induction m with
    | zero =>
      intro i w K0 Kr hm hi hN hb ho hg hK
      have : i = er.length := by omega
      subst this
      rw [Nat.sub_self, List.replicate_zero, List.append_nil, List.take_of_length_le (by simp)] at ho
      unfold f_plain_Check.l0
      exact sel_f (by simp) (hK w hN ho hg)
    | succ m ih =>
      intro i w K0 Kr hm hi hN hb ho hg hK
      have hlt : i < er.length := by omega
      have hqw : q0 < w.heap.size := by have := (ho.block _ rfl).2; have h : (⟨q0, 0, none⟩ : Addr).block = q0 := rfl; omega
      obtain ⟨a, ha, q⟩ := hN.e i hlt
      have hw : IntKind.i64.wrap ((i : Int) + 1) = ((i + 1 : Nat) : Int) := by rw [w64_in (by omega)]; omega
      unfold f_plain_Check.l0
      refine sel_t (by simpa using hlt) (optB_some ha (req_intro (by simp; omega) (rowE q (edge4 fun w4 b4 e4 h4 g4 => ?_))))
      have hN4 := hN.belw g4
      have hb4 := hb.below g4
      have ho4 := ho.keeps (.of_below g4 (S := fun _ => False)) fun _ _ => id
      have hlen : ((er.map E.id).take i ++ List.replicate (er.length - i) 0).length = er.length := by simp; omega
      refine hb_ldI0 h4 rfl (optB_some rfl (req_intro (by simp; omega) ?_))
      rw [Int.toNat_natCast, Nat.mul_one]
      have st : ∀ {K : World → Prop}, (∀ w', OwnI w' q0 3 (some ⟨q0, 0, none⟩) er.length (((er.map E.id).take i ++ List.replicate (er.length - i) 0).set i er[i].id) → Keeps (Ob (some (⟨q0, 0, none⟩ : Addr))) w4 w' → K w') → stW w4 ((⟨q0, 0, none⟩ : Addr).add i) (.int .i64 er[i].id) K := fun hk => OwnI.st ho4 (by rw [hlen]; exact hlt) hk
      refine st fun w5 o5 k5 => ?_
      have hob : ∀ k, Ob (some (⟨q0, 0, none⟩ : Addr)) k → k = q0 := by rintro k ⟨a, ha, e⟩; injection ha with ha; rw [← e, ← ha]
      have g04 : Below q0 w3 w4 := hg.trans (g4.mono (Nat.le_of_lt hqw))
      have hs4 := g4.size
      have eset : ((er.map E.id).take i ++ List.replicate (er.length - i) 0).set i er[i].id = (er.map E.id).take (i + 1) ++ List.replicate (er.length - (i + 1)) 0 := by
        have := set_pre (l := er.map E.id) (i := i) (by simpa using hlt) (er.length - (i + 1))
        rw [List.getElem_map] at this
        rw [show er.length - i = er.length - (i + 1) + 1 by omega]
        exact this
      rw [eset] at o5
      have g05 : Below q0 w3 w5 := g04.trans (k5.below (by omega) fun k hk h => by have := hob k h; omega)
      have hN5 := hN4.keeps k5 fun b hb h => hnlt b hb (hob b h)
      have hb5 := hb4.keeps k5 fun h => by have := hob _ h; omega
      have h45 := h4.keeps k5 fun h => by have := hob _ h; omega
      have hem := List.getElem_mem hlt
      obtain ⟨hw0, hw1⟩ := rn.w _ hem
      obtain ⟨hu, hv⟩ := rn.ends _ hem
      refine hb_ldI (j := 3) h45 rfl (sel_f (by simp; omega) (hb_ldI (j := 3) h45 rfl (sel_f (by simp; omega) (get2 hb5 (hb_ldI (j := 1) h45 rfl ((hasP_ok hN5 rn _).mono ?_))))))
      rintro _ w6 ⟨rfl, g6⟩
      refine ⟨_, rfl, sel_f (by rw [decide_eq_true hu]; rfl) (get2 (hb5.below g6) (hb_ldI (j := 2) (h45.below g6) rfl ((hasP_ok (hN5.belw g6) rn _).mono ?_)))⟩
      rintro _ w7 ⟨rfl, g7⟩
      refine ⟨_, rfl, sel_f (by rw [decide_eq_true hv]; rfl) ?_⟩
      have g67 := g6.trans (g7.mono g6.size)
      have hs5 := k5.size
      rw [hw]
      exact ih (i + 1) w7 (by omega) (by omega) (hN5.belw g67) (hb5.below g67) (o5.keeps (.of_below g67 (S := fun _ => False)) fun _ _ => id) (g05.trans (g67.mono (by omega))) hK
  refine ⟨er.length + 1, key er.length 0 w3 rfl (Nat.zero_le _) hN3 h13 (by rw [List.take_zero, List.nil_append, Nat.sub_zero]; exact o3) (Below.refl _ _) fun w5 hN5 o5 g5 _ => ?_⟩
  refine (rises_ok o5.reads (by simp) (by simpa using hel) rn.es fun x hx => ?_).mono ?_
  · obtain ⟨e, he, rfl⟩ := List.mem_map.1 hx; exact rn.eb e he
  · rintro _ w6 ⟨rfl, rfl⟩
    exact ⟨_, rfl, sel_f rfl ⟨rfl, g1.trans ((g3.trans (g5.mono (by omega))).mono g1.size)⟩⟩
theorem checkP_ok (h : NF w ns vr er) (rn : RNet vr er) {A : Option Addr} {c : Nat} {l : List Int} (r : RI w A l) (hl : l.length ≤ 2048) (hm : ∀ x ∈ l, x ∈ vr) :
    Calls Tryz.prog 49 #[.agg (nsC ns), .slice A l.length c] w fun e w' => e = .returned (.int .i64 0) ∧ Below w.heap.size w w' := by
  apply f_plain_check.ok
  unfold f_plain_check.wp
  refine al_new fun w1 b1 e1 z1 h1 g1 => ?_
  have h1 : HB w1 b1 (nsC ns) 29 := h1
  refine get2 h1 ((CheckP_ok (h.belw g1) rn).mono ?_)
  rintro _ w2 ⟨rfl, g2⟩
  have g02 := g1.trans (g2.mono g1.size)
  refine ⟨_, rfl, sel_f rfl ⟨l.length + 1, ?_⟩⟩
  have key : ∀ (m i : Nat) (w : World) {K0 : World → Prop} {Kr : Int → World → Prop}, l.length - i = m → i ≤ l.length → NF w ns vr er → HB w b1 (nsC ns) 29 → RI w A l → (∀ w', Below w.heap.size w w' → K0 w') → f_plain_check.l0 (m + 1) (⟨b1, 0, none⟩ : Addr) A l.length c (l.length : Int) (i : Int) w K0 Kr := by
    intro m
    induction m with
    | zero =>
      intro i w K0 Kr hm hi hN hb r hK
      unfold f_plain_check.l0
      exact sel_f (by simp; omega) (hK w (Below.refl _ _))
    | succ m ih =>
      intro i w K0 Kr hm' hi hN hb r hK
      have hlt : i < l.length := by omega
      obtain ⟨a, ha, q⟩ := r i hlt
      have hw : IntKind.i64.wrap ((i : Int) + 1) = ((i + 1 : Nat) : Int) := by rw [w64_in (by omega)]; omega
      unfold f_plain_check.l0
      refine sel_t (by simpa using hlt) (optB_some ha (req_intro (by simp; omega) (ldI_intro (x := l[i]) (by rw [Int.toNat_natCast, Nat.mul_one]; exact q) (get2 hb ((hasP_ok hN rn _).mono ?_)))))
      rintro _ w3 ⟨rfl, g3⟩
      refine ⟨_, rfl, sel_f (by rw [decide_eq_true (hm _ (List.getElem_mem hlt))]; rfl) ?_⟩
      rw [hw]
      exact ih (i + 1) w3 (by omega) (by omega) (hN.belw g3) (hb.below g3) (r.belw g3) fun w4 g4 => hK w4 (g3.trans (g4.mono g3.size))
  exact key l.length 0 w2 rfl (Nat.zero_le _) (h.belw g02) (h1.below g2) (r.belw g02) fun w3 g3 _ => ⟨rfl, g02.trans (g3.mono g02.size)⟩
theorem JoinedP_ok (h : NF w ns vr er) (rn : RNet vr er) {u v : Int} (hu : u ∈ vr) (hv : v ∈ vr) :
    Calls Tryz.prog 30 #[.agg (nsC ns), .int .i64 u, .int .i64 v] w fun e w' => (∃ b, e = .returned (.tuple #[.bool b, .int .i64 0]) ∧ (b = true ↔ Cn er u v)) ∧ Below w.heap.size w w' := by
  have W : ∀ x ∈ vr, W64 x := fun x hx => (W64.id (rn.vb x hx)).1
  apply f_plain_Joined.ok
  unfold f_plain_Joined.wp
  refine al_new fun w1 b1 e1 z1 h1 g1 => ?_
  have h1 : HB w1 b1 (nsC ns) 29 := h1
  refine get2 h1 (al_new fun w2 b2 e2 z2 h2 g2 => ?_)
  have g02 := g1.trans (g2.mono g1.size)
  refine (checkP_ok (h.belw g02) rn (h2.ri [u, v] rfl) (by simp) (fun x hx => by simp only [List.mem_cons, List.not_mem_nil, or_false] at hx; rcases hx with rfl | rfl; exact hu; exact hv)).mono ?_
  rintro _ w3 ⟨rfl, g3⟩
  have g03 := g02.trans (g3.mono g02.size)
  refine ⟨_, rfl, sel_f rfl (alW_intro ?_)⟩
  have o1 := GM.new (eK := eI) (eV := eI) (okK := W64) w3
  have g4 : Below w3.heap.size w3 (w3.alloc (.map #[] 0)) := (Below.refl _ _).alloc (Nat.le_refl _) _
  obtain ⟨w4, hw4⟩ : ∃ w4, w3.alloc (.map #[] 0) = w4 := ⟨_, rfl⟩
  obtain ⟨B, hB⟩ : ∃ B, w3.heap.size = B := ⟨_, rfl⟩
  rw [hw4] at o1 g4 ⊢
  rw [hB] at o1 ⊢
  have g04 := g03.trans (g4.mono g03.size)
  have s03 := g03.size
  have h14 := ((h1.below g2).below g3).below g4
  refine hb_ldS (j := 1) h14 rfl ?_
  have hne := h.ne
  have hel := h.el
  rw [hne]
  have hnB : ∀ b, Nb ns b → b ≠ B := fun b hb e => by have := h.lt b hb; omega
  have key : ∀ (m i : Nat) (w : World) (mm : List (Int × Int)) (rt : Int → Int) (rk : Int → Nat) {K0 : World → Prop}, er.length - i = m → i ≤ er.length → NF w ns vr er → GM w eI eI W64 B mm → UF mm rt rk → PW mm → (∀ x, W64 x → W64 (rt x)) → (∀ x y, rt x = rt y ↔ Cn (er.take i) x y) → Below B w4 w →
      (∀ w' mm rt rk, NF w' ns vr er → GM w' eI eI W64 B mm → UF mm rt rk → PW mm → (∀ x y, rt x = rt y ↔ Cn er x y) → Below B w4 w' → K0 w') → f_plain_Joined.l0 (m + 1) (some B) ns.A1 er.length ns.c1 (er.length : Int) (i : Int) w K0 := by
    intro m
    induction m with
    | zero =>
      intro i w mm rt rk K0 hm hi hN hg hu hp hrw hc gb hK
      have : i = er.length := by omega
      subst this
      rw [List.take_length] at hc
      unfold f_plain_Joined.l0
      exact sel_f (by simp) (hK w mm rt rk hN hg hu hp hc gb)
    | succ m ih =>
      intro i w mm rt rk K0 hm hi hN hg hu hp hrw hc gb hK
      have hlt : i < er.length := by omega
      obtain ⟨a, ha, q⟩ := hN.e i hlt
      have hw : IntKind.i64.wrap ((i : Int) + 1) = ((i + 1 : Nat) : Int) := by rw [w64_in (by omega)]; omega
      have hem := List.getElem_mem hlt
      obtain ⟨hu1, hv1⟩ := rn.ends _ hem
      have hBw := hg.lt
      unfold f_plain_Joined.l0
      refine sel_t (by simpa using hlt) (optB_some ha (req_intro (by simp; omega) (rowE q (edge4 fun w5 b5 e5 h5 g5 => ?_))))
      refine hb_ldI (j := 1) h5 rfl (hb_ldI (j := 2) h5 rfl ((ujoin_ok (hg.below g5) hu hp (W _ hu1) (W _ hv1) (hrw _ (W _ hu1)) (hrw _ (W _ hv1))).mono ?_))
      rintro _ w6 ⟨m6, rt6, rk6, rfl, q6, u6, p6, r6, k6⟩
      refine ⟨_, rfl, ?_⟩
      rw [hw]
      have s5 := g5.size
      refine ih (i + 1) w6 m6 rt6 rk6 (by omega) (by omega) ((hN.belw g5).keeps k6 fun b hb e => hnB b hb e) q6 u6 p6 (fun x hx => ?_) (fun x y => ?_) (gb.trans ((g5.mono (by omega)).trans (k6.below (by omega) fun k hk e => by omega))) hK
      · rw [r6]
        split
        · exact hrw _ (W _ hv1)
        · exact hrw x hx
      · rw [List.take_succ_eq_append_getElem hlt, cn_add, ← hc, ← hc, ← hc, ← hc, ← hc, r6, r6]
        by_cases c1 : rt x = rt er[i].u <;> by_cases c2 : rt y = rt er[i].u
        · rw [if_pos c1, if_pos c2]
          exact ⟨fun _ => .inl (c1.trans c2.symm), fun _ => rfl⟩
        · rw [if_pos c1, if_neg c2]
          constructor
          · intro e; exact .inr (.inl ⟨c1, e⟩)
          · rintro (e | ⟨_, e⟩ | ⟨e1, e2⟩)
            · exact absurd (e.symm.trans c1) c2
            · exact e
            · exact absurd e2.symm c2
        · rw [if_neg c1, if_pos c2]
          constructor
          · intro e; exact .inr (.inr ⟨e, c2.symm⟩)
          · rintro (e | ⟨e1, _⟩ | ⟨e1, e2⟩)
            · exact absurd (e.trans c2) c1
            · exact absurd e1 c1
            · exact e1
        · rw [if_neg c1, if_neg c2]
          constructor
          · exact .inl
          · rintro (e | ⟨e1, _⟩ | ⟨e1, e2⟩)
            · exact e
            · exact absurd e1 c1
            · exact absurd e2.symm c2
  have nil_c : ∀ x y : Int, id x = id y ↔ Cn ([] : List E) x y := fun x y => ⟨fun e => by have e : x = y := e; subst e; exact Cn.refl _ _, fun ⟨p, h⟩ => by
    cases h with
    | nil => rfl
    | cons he _ _ => cases he⟩
  refine ⟨er.length + 1, key er.length 0 w4 [] id (fun _ => 0) rfl (Nat.zero_le _) (h.belw g04) o1 UF.nil (fun x p hx => by cases hx) (fun x hx => hx) (fun x y => by rw [List.take_zero]; exact nil_c x y) (Below.refl _ _) fun w5 m5 rt5 rk5 hN5 q5 u5 p5 c5 g5 _ => ?_⟩
  have g05 := g04.trans (g5.mono (by omega))
  have B0 : w.heap.size ≤ B := by omega
  have hBw := q5.lt
  refine (uroot_ok q5 u5 p5 (W _ hu)).mono ?_
  rintro _ w6 ⟨m6, rfl, q6, u6, p6, k6⟩
  refine ⟨_, rfl, (uroot_ok q6 u6 p6 (W _ hv)).mono ?_⟩
  rintro _ w7 ⟨m7, rfl, q7, u7, p7, k7⟩
  refine ⟨_, rfl, ⟨_, rfl, ?_⟩, g05.trans ((k6.trans k7).below (by have := g05.size; omega) fun k hk e => by omega)⟩
  rw [← c5]; simp
end
theorem band1023 (x : Int) : 0 ≤ band .i64 x 1023 ∧ band .i64 x 1023 ≤ 1023 := by
  show 0 ≤ IntKind.i64.wrap (((BitVec.ofInt 64 x &&& BitVec.ofInt 64 1023).toNat : Nat) : Int) ∧ IntKind.i64.wrap (((BitVec.ofInt 64 x &&& BitVec.ofInt 64 1023).toNat : Nat) : Int) ≤ 1023
  have h : (BitVec.ofInt 64 x &&& BitVec.ofInt 64 1023).toNat ≤ 1023 := by
    rw [BitVec.toNat_and]
    exact Nat.and_le_right
  rw [w64_in (by omega)]
  omega
theorem mv3 {w : World} {b5 b18 : Nat} {cs c18 : Array Value} {t5 t : TypeId} (ns : NS) (h5 : HB w b5 cs t5) (h18 : HB w b18 c18 t) (hne : b18 ≠ b5) (hc : cs.size = 2) (hd : c18.size = 2) {K : World → Prop} (hk : ∀ w', HB w' b5 (nsC ns) t5 → Keeps (fun k => k = b5 ∨ k = b18) w w' → K w') :
    stW w (⟨b18, 0, Option.none⟩ : Addr) (.slice ns.A0 ns.n0 ns.c0) fun w20 =>
    stW w20 ((⟨b18, 0, Option.none⟩ : Addr).add 1) (.slice ns.A1 ns.n1 ns.c1) fun w21 =>
    ldS w21 (⟨b18, 0, Option.none⟩ : Addr) fun A22 n22 c22 =>
    ldS w21 ((⟨b18, 0, Option.none⟩ : Addr).add 1) fun A23 n23 c23 =>
    stW w21 (⟨b5, 0, Option.none⟩ : Addr) (.slice A22 n22 c22) fun w24 =>
    stW w24 ((⟨b5, 0, Option.none⟩ : Addr).add 1) (.slice A23 n23 c23) K := by
  refine put2 ns h18 hd fun w2 h2 k2 => get2 h2 ?_
  have h5' := h5.keeps k2 (fun e => hne e.symm)
  refine put2 ns h5' hc fun w3 h3 k3 => hk w3 h3 ?_
  exact (k2.mono fun k _ e => .inr e).trans (k3.mono fun k _ e => .inl e)
theorem noE_lt {er : List E} {e : E} (he : e ∈ er) : (noE er e.id).length < er.length := by
  unfold noE
  rw [List.length_filter_lt_length_iff_exists]
  exact ⟨e, he, by simp⟩
theorem noE_back {er : List E} (hi : (er.map E.id).Nodup) {e : E} (he : e ∈ er) : SameE er (noE er e.id ++ [e]) := fun x => by
  rw [List.mem_append, List.mem_singleton]
  unfold noE
  rw [List.mem_filter]
  constructor
  · intro hx
    by_cases q : x.id = e.id
    · exact .inr (ids_inj hi hx he q)
    · exact .inl ⟨hx, by simp [q]⟩
  · rintro (h | rfl)
    · exact h.1
    · exact he
section
variable {w0 w w' : World} {O O' : Ow} {s s' : HS} {N N' : Nat} {ns ns' : NS} {vr vr' : List Int} {er er' : List E}
theorem Eqv.rnet (q : Eqv s vr er) (p : PX w0 w O s N) : RNet vr er := by
  have evs := q.vs
  have key : ∀ e ∈ er, ∃ d ∈ s.ab.es, d.e = e := fun e he => sk_mem.1 ((q.sk e).2 he)
  refine ⟨by rw [← evs]; exact p.hg.ws.vss, fun v hv => p.hg.ws.ok (by rw [evs]; exact hv), q.ids, fun e he => ?_, (q.rg p).ends, fun e he => ?_⟩
  · obtain ⟨d, hd, rfl⟩ := key e he
    exact p.hg.core.ok d hd
  · obtain ⟨d, hd, rfl⟩ := key e he
    exact ⟨Int.le_refl _, by show (0 : Int) ≤ _; decide⟩
theorem Bridges_l0 {A : Option Addr} {n c : Nat} {l : List HO} (hs : Scr w0 A n l) {B : Nat} (hB : w0.heap.size ≤ B) (oB : O B = none) {K0 : World → Prop}
    (hK : ∀ w' ns, PX w0 w' O s N → HB w' B (nsC ns) 29 → PV w' O ns (nrun l).1 (nrun l).2 → (∀ b, Nb ns b → b ≠ B) → K0 w') :
    ∀ (m i : Nat) (w : World) (ns : NS), l.length - i = m → i ≤ l.length → PX w0 w O s N → HB w B (nsC ns) 29 → PV w O ns (nrun (l.take i)).1 (nrun (l.take i)).2 → (∀ b, Nb ns b → b ≠ B) →
      f_law18_HdtBridges.l0 (m + 1) (⟨B, 0, none⟩ : Addr) A n c (n : Int) (i : Int) w K0 := by
  have hle := hs.le
  have hsn := hs.n
  subst hsn
  intro m
  induction m with
  | zero =>
    intro i w ns hm hi p hb v nb
    have : i = l.length := by omega
    subst this
    rw [List.take_length] at v
    unfold f_law18_HdtBridges.l0
    exact sel_f (by simp) (hK w ns p hb v nb)
  | succ m ih =>
    intro i w ns hm hi p hb v nb
    have hlt : i < l.length := by omega
    have hw : IntKind.i64.wrap ((i : Int) + 1) = ((i + 1 : Nat) : Int) := by rw [w64_in (by omega)]; omega
    obtain ⟨a, ha, hq⟩ := (hs.r.belw p.bel) i hlt
    obtain ⟨vr, hvr⟩ : ∃ vr, (nrun (l.take i)).1 = vr := ⟨_, rfl⟩
    obtain ⟨er, her⟩ : ∃ er, (nrun (l.take i)).2 = er := ⟨_, rfl⟩
    have htk := nrun_take hlt
    unfold nstp at htk
    rw [hvr, her] at v htk
    unfold f_law18_HdtBridges.l0
    refine sel_t (by simpa using hlt) (optB_some ha (req_intro (by simp; omega) (rowO hq (op5 fun w1 B20 hb20 h20 g1 => ?_))))
    have q1 := p.below g1
    have u1 := v.below g1
    have hb1 := hb.below g1
    have blt := hb.lt
    refine get2 hb1 (al_new fun w2 B26 e26 z26 h26 g2 => put2 ns h26 rfl fun w3 h26 k3 => ?_)
    have s1 := g1.size
    have n26 : ∀ b, b < w1.heap.size → b ≠ B26 := fun b hb e => by omega
    have hb20' := h20.lt
    have g13 : Below w1.heap.size w1 w3 := g2.trans (k3.below (by omega) fun k hk e => by omega)
    have q3 := q1.below g13
    have u3 := u1.below g13
    have hb3 := hb1.below g13
    have h20 := h20.below g13
    have o26 : O B26 = none := q1.fresh (by omega)
    have s13 := g13.size
    have h26lt := h26.lt
    have fin : ∀ {w4 : World} {ns' : NS} {vr' : List Int} {er' : List E}, NF w4 ns' vr' er' → Sn w3 ns ns' → Below w3.heap.size w3 w4 → vr' = opV l[i] vr er → er' = opE l[i] vr er → ∀ w5, HB w5 B (nsC ns') 29 → Keeps (fun k => k = B ∨ k = B26) w4 w5 → f_law18_HdtBridges.l0 (m + 1) (⟨B, 0, none⟩ : Addr) A l.length c (l.length : Int) (IntKind.i64.wrap ((i : Int) + 1)) w5 K0 := by
      intro w4 ns' vr' er' hN hS g4 e1 e2 w5 hb5 k5
      have nb' : ∀ b, Nb ns' b → b ≠ B ∧ b ≠ B26 := fun b hb' => by
        rcases hS b hb' with q | q
        · exact ⟨nb b q, n26 b (u1.nf.lt b q)⟩
        · omega
      have x := u3.net q3 hN hS
      rw [hw]
      refine ih (i + 1) w5 ns' (by omega) (by omega) ((q3.below g4).other k5 (fun b e => ?_) fun b e => ?_) hb5 ?_ fun b hb => (nb' b hb).1
      · rcases e with rfl | rfl
        · exact oB
        · exact o26
      · have := p.bel.size
        rcases e with rfl | rfl <;> omega
      · rw [htk, ← e1, ← e2]
        exact ⟨x.nf.keeps k5 fun b hb' e => by have := nb' b hb'; rcases e with e | e; exact this.1 e; exact this.2 e, x.fr⟩
    have ld11 : ∀ {w : World} {K : Int → Prop}, HB w B20 (hoC l[i]) 33 → K l[i].u → ldI w (((⟨B20, 0, none⟩ : Addr).add 1).add 1) .i64 K := fun {w K} h hk => by rw [add_add]; exact hb_ldI (j := 2) h rfl hk
    have ld12 : ∀ {w : World} {K : Int → Prop}, HB w B20 (hoC l[i]) 33 → K l[i].v → ldI w (((⟨B20, 0, none⟩ : Addr).add 1).add 2) .i64 K := fun {w K} h hk => by rw [add_add]; exact hb_ldI (j := 3) h rfl hk
    have hne : B26 ≠ B := by omega
    refine hb_ldI0 h20 rfl ?_
    by_cases c1 : l[i].k = 1
    · refine sel_t (by simp [c1]) (get2 hb3 (ld11 h20 ((AddV18_ok u3.nf l[i].u).mono ?_)))
      rintro _ w4 ⟨ns', rfl, hN, hS, g4⟩
      refine ⟨_, _, _, _, _, _, _, rfl, mv3 ns' (hb3.below g4) (h26.below g4) hne rfl rfl (fin hN hS g4 (by unfold opV; rw [if_pos c1]) (by unfold opE; rw [if_neg (by omega), if_neg (by omega)]))⟩
    refine sel_f (by simp [c1]) ?_
    by_cases c2 : l[i].k = 2
    · refine sel_t (by simp [c2]) (get2 hb3 (ld11 h20 ((DelV18_ok u3.nf l[i].u).mono ?_)))
      rintro _ w4 ⟨ns', rfl, hN, hS, g4⟩
      refine ⟨_, _, _, _, _, _, _, rfl, mv3 ns' (hb3.below g4) (h26.below g4) hne rfl rfl (fin hN hS g4 (by unfold opV; rw [if_neg c1, if_pos c2]) (by unfold opE; rw [if_neg (by omega), if_neg (by omega)]))⟩
    refine sel_f (by simp [c2]) ?_
    by_cases c3 : l[i].k = 3
    · refine sel_t (by simp [c3]) (get2 hb3 (hb_ldI (j := 1) h20 rfl (ld11 h20 (ld12 h20 ((AddE18_ok u3.nf l[i].id l[i].u l[i].v).mono ?_)))))
      rintro _ w4 ⟨ns', rfl, hN, hS, g4⟩
      refine ⟨_, _, _, _, _, _, _, rfl, mv3 ns' (hb3.below g4) (h26.below g4) hne rfl rfl (fin hN hS g4 (by unfold opV; rw [if_neg c1, if_neg c2]) (by unfold opE; rw [if_pos c3]))⟩
    refine sel_f (by simp [c3]) ?_
    by_cases c4 : l[i].k = 4
    · refine sel_t (by simp [c4]) (get2 hb3 (hb_ldI (j := 1) h20 rfl ((DelE18_ok u3.nf l[i].id).mono ?_)))
      rintro _ w4 ⟨ns', rfl, hN, hS, g4⟩
      refine ⟨_, _, _, _, _, _, _, rfl, mv3 ns' (hb3.below g4) (h26.below g4) hne rfl rfl (fin hN hS g4 (by unfold opV; rw [if_neg c1, if_neg c2]) (by unfold opE; rw [if_neg c3, if_pos c4]))⟩
    refine sel_f (by simp [c4]) (get2 h26 (put2 ns hb3 rfl fun w5 h5 k5 => ?_))
    exact fin u3.nf (Sn.refl _ _) (.refl _ _) (by unfold opV; rw [if_neg c1, if_neg c2]) (by unfold opE; rw [if_neg c3, if_neg c4]) w5 h5 (k5.mono fun k _ e => .inl e)
theorem Bridges_l1 {B : Nat} (hB : w0.heap.size ≤ B) {by_ : Int} (h0 : 0 ≤ by_) (h1 : by_ ≤ 1023) {M : Nat} (hM : M + 2 < LB) {G : Nat} {K3 : World → Prop} {Kr : Bool → World → Prop}
    (hK : ∀ w' O s N ns, PX w0 w' O s N → s.G = G → s.vs = vr → s.ab.sk = [] → HB w' B (nsC ns) 29 → PV w' O ns vr [] → K3 w') :
    ∀ (m : Nat) (w : World) (O : Ow) (s : HS) (N : Nat) (ns : NS) (er : List E), er.length ≤ m → er.length ≤ 60 → N + er.length ≤ M → PX w0 w O s N → s.G = G → Eqv s vr er → HB w B (nsC ns) 29 → O B = none → PV w O ns vr er → (∀ b, Nb ns b → b ≠ B) →
      f_law18_HdtBridges.l1 (m + 1) by_ (some ⟨G, 0, none⟩) (⟨B, 0, none⟩ : Addr) w K3 Kr := by
  intro m
  have done : ∀ {w : World} {O : Ow} {s : HS} {N : Nat} {ns : NS} (m : Nat), PX w0 w O s N → s.G = G → Eqv s vr [] → HB w B (nsC ns) 29 → PV w O ns vr [] → f_law18_HdtBridges.l1 (m + 1) by_ (some ⟨G, 0, none⟩) (⟨B, 0, none⟩ : Addr) w K3 Kr := by
    intro w O s N ns m p hG q hb v
    unfold f_law18_HdtBridges.l1
    refine hb_ldS (j := 1) hb rfl (sel_f (by rw [v.nf.ne]; simp) (hK w O s N ns p hG q.vs ?_ hb v))
    exact List.length_eq_zero_iff.1 (q.len p)
  induction m with
  | zero =>
    intro w O s N ns er hm h60 hNM p hG q hb oB v nb
    have : er = [] := List.length_eq_zero_iff.1 (by omega)
    subst this
    exact done 0 p hG q hb v
  | succ m ih =>
    intro w O s N ns er hm h60 hNM p hG q hb oB v nb
    by_cases he0 : er = []
    · subst he0; exact done _ p hG q hb v
    have hpos : 0 < er.length := List.length_pos_iff.2 he0
    have hne := v.nf.ne
    subst hG
    unfold f_law18_HdtBridges.l1
    refine hb_ldS (j := 1) hb rfl (sel_t (by rw [hne]; simpa using hpos) (drW_intro ?_))
    have gd : Below w.heap.size w w.drew := (Below.refl _ _).drew
    have p := p.below gd
    have hb := hb.below gd
    have v := v.below gd
    obtain ⟨w1, hw1⟩ : ∃ w1, w.drew = w1 := ⟨_, rfl⟩
    rw [hw1] at p hb v ⊢
    obtain ⟨j, hj, hjl⟩ : ∃ j : Nat, (IntKind.i64.wrap (IntKind.i64.wrap (by_ * (ns.n1 : Int)) + by_)).tmod (ns.n1 : Int) = (j : Int) ∧ j < er.length := by
      have hprod : 0 ≤ by_ * (ns.n1 : Int) ∧ by_ * (ns.n1 : Int) ≤ 61380 := by
        rw [hne]
        have hl : ((er.length : Nat) : Int) ≤ 60 := by omega
        have hl0 : (0 : Int) ≤ (er.length : Nat) := by omega
        refine ⟨Int.mul_nonneg h0 hl0, ?_⟩
        have := Int.mul_le_mul h1 hl hl0 (by decide)
        omega
      rw [w64_in (x := by_ * (ns.n1 : Int)) (by omega), w64_in (by omega)]
      generalize hx : by_ * (ns.n1 : Int) + by_ = x at *
      have hx0 : 0 ≤ x := by omega
      rw [Int.tmod_eq_emod_of_nonneg hx0, hne]
      have h2 := Int.emod_nonneg x (b := (er.length : Int)) (by omega)
      have h3 := Int.emod_lt_of_pos x (b := (er.length : Int)) (by omega)
      exact ⟨(x % (er.length : Int)).toNat, by omega, by omega⟩
    obtain ⟨a, ha, hq⟩ := v.nf.e j hjl
    have hem := List.getElem_mem hjl
    obtain ⟨e, hee⟩ : ∃ e, er[j] = e := ⟨_, rfl⟩
    rw [hee] at hq hem
    refine ⟨fun a => NF a ns vr er ∧ HB a B (nsC ns) 29, ⟨v.nf, hb⟩, ⟨_, _, _, fun a ha => (ha.2.cell 1).trans rfl, _, _, _, fun a ha => (ha.2.cell 1).trans rfl, _, _, _, fun a ha => (ha.2.cell 1).trans rfl, ?_⟩⟩
    refine req_intro (by rw [hne]; simp; omega) ?_
    dsimp only
    rw [hj]
    refine (optB_some ha (req_intro (by rw [hne]; simp; omega) ?_))
    have rd : ∀ w', NF w' ns vr er → REd w' a j e := fun w' hw => by
      obtain ⟨a', ha', hr⟩ := hw.e j hjl
      rw [ha] at ha'; injection ha' with ha'; subst ha'; rw [← hee]; exact hr
    rw [Int.toNat_natCast]
    refine ⟨_, fun w' hw => (rd w' hw.1).c0, _, fun w' hw => (rd w' hw.1).c1, _, fun w' hw => (rd w' hw.1).c2, _, fun w' hw => (rd w' hw.1).c3, al_new fun w2 b98 e98 z98 h98 g2 => ⟨⟨v.nf.belw g2, hb.below g2⟩, ?_⟩⟩
    refine hb_st0 h98 (by simp) fun w3 h3 k3 => hb_st h3 (j := 1) (by simp) fun w4 h4 k4 => hb_st h4 (j := 2) (by simp) fun w5 h5 k5 => hb_st h5 (j := 3) (by simp) fun w6 h6 k6 => ?_
    have h98 : HB w6 b98 (eC e) 31 := h6
    have g16 : Below w1.heap.size w1 w6 := g2.trans (((k3.trans k4).trans (k5.trans k6)).below (by omega) fun k hk e => by omega)
    have hblt := hb.lt
    have p6 := p.below g16
    have v6 := v.below g16
    have hb6 := hb.below g16
    have o98 : O b98 = none := p.fresh (by omega)
    have ne98 : b98 ≠ B := by omega
    have hr := p.hg.ws.vss
    have rn := q.rnet p
    have rg := q.rg p
    have hN1 : N + 2 < LB := by omega
    obtain ⟨hu, hv⟩ := rn.ends _ hem
    have W : ∀ x ∈ vr, W64 x := fun x hx => (W64.id (rn.vb x hx)).1
    have hidb := rn.eb _ hem
    have hcut : cutC er e.id = 0 := by
      unfold cutC
      rw [if_neg hidb, if_neg (fun h => h (List.mem_map_of_mem hem))]
    have hcutE : cutEr er e.id = noE er e.id := by unfold cutEr; rw [if_pos hcut]
    refine trees_st p6 fun w7 p7 g7 => ?_
    have v7 := v6.below g7
    have hb7 := hb6.below g7
    have h98 := h98.below g7
    refine get2 hb7 (hb_ldI0 h98 rfl ((DelE18_ok v7.nf e.id).mono ?_))
    rintro _ w8 ⟨ns', rfl, hN', hS', g8⟩
    rw [hcutE] at hN'
    refine ⟨_, _, _, _, _, _, _, rfl, mv2 ns' (hb7.below g8) rfl fun w9 hb9 k9 => ?_⟩
    have lt7 := h98.lt
    have nb' : ∀ b, Nb ns' b → b ≠ B := fun b hb' h => by
      have := hb7.lt
      rcases hS' b hb' with x | x
      · exact nb b x h
      · omega
    have v8 := v7.net p7 hN' hS'
    have p8 := p7.below g8
    have p9 : PX w0 w9 O s N := p8.other k9 (fun b h => by rw [h]; exact oB) fun b h => by rw [h]; exact hB
    have v9 : PV w9 O ns' vr (noE er e.id) := ⟨v8.nf.keeps k9 fun b hb h => nb' b hb h, v8.fr⟩
    have h98 : HB w9 b98 (eC e) 31 := (h98.below g8).keeps k9 fun h => ne98 h
    refine hb_ldI0 h98 rfl ?_
    refine delE_st p9 hN1 (W64.id hidb).1 fun w10 O' s' p10 u10 G10 v10 k10 => ?_
    have hskc : cutC s.ab.sk e.id = 0 := by rw [same_cut q.sk]; exact hcut
    rw [hskc]
    have hsk' : s'.ab.sk = noE s.ab.sk e.id := by rw [k10]; unfold cutEr; rw [if_pos hskc]
    have q10 : Eqv s' vr (noE er e.id) := ⟨v10.trans q.vs, fun x => by
      rw [hsk']
      unfold noE
      rw [List.mem_filter, List.mem_filter, q.sk x], q.ids.sublist (List.filter_sublist.map _)⟩
    have v10 := v9.call u10
    have hb10 := u10.hb hb9 oB
    have h98 := u10.hb h98 o98
    have rn10 := q10.rnet p10
    refine sel_f (by decide) (get2 hb10 (hb_ldI (j := 1) h98 rfl (hb_ldI (j := 2) h98 rfl ((JoinedP_ok v10.nf rn10 hu hv).mono ?_))))
    rintro _ w11 ⟨⟨b, rfl, hbc⟩, g11⟩
    have p11 := p10.below g11
    have h98 := h98.below g11
    refine ⟨_, _, rfl, hb_ldI (j := 1) h98 rfl (hb_ldI (j := 2) h98 rfl ?_)⟩
    have evs' := q10.vs
    rw [← G10]
    refine joined_st p11 (show N + 1 < LB by omega) (W _ hu) (W _ hv) fun w12 b2 p12 g12 hb2 => ?_
    have hbb : b2 = b := by
      rw [Bool.eq_iff_iff, hb2, hbc, q10.sk.cn, evs']
      exact ⟨fun h => h.2.2, fun h => ⟨hu, hv, h⟩⟩
    subst hbb
    have g1012 := g11.trans (g12.mono g11.size)
    have hgo : ∀ w13, Below w12.heap.size w12 w13 → f_law18_HdtBridges.l1 (m + 1) by_ (some ⟨s'.G, 0, none⟩) (⟨B, 0, none⟩ : Addr) w13 K3 Kr := by
      intro w13 g13
      have gg := g1012.trans (g13.mono g1012.size)
      have hlt := noE_lt hem
      rw [G10]
      exact ih w13 O' s' (N + 1) ns' (noE er e.id) (by omega) (by omega) (by omega) (p12.below g13) G10 q10 (hb10.below gg) (u10.non oB hb9.lt) (v10.below gg) nb'
    have hback := noE_back rg.ids hem
    have hss : vr.Pairwise (· < ·) := rn.vs
    have r1 : reps s.vs s.ab.sk = reps vr (noE er e.id ++ [e]) := by
      rw [q.reps]; exact reps_same fun x y => hback.cn
    have r2 : reps s'.vs s'.ab.sk = reps vr (noE er e.id) := q10.reps
    unfold f_law18_HdtBridges.j2
    rw [evs', if_pos ⟨hu, hv⟩]
    refine sel_f (by decide) (sel_f (by decide) (sel_f (by simp) ?_))
    by_cases hcn : Cn (noE er e.id) e.u e.v
    · have hbt : b2 = true := hbc.2 hcn
      subst hbt
      refine sel_t rfl (trees_st p12 fun w13 p13 g13 => ?_)
      have : reps vr (noE er e.id ++ [e]) = reps vr (noE er e.id) := reps_same fun x y => cn_in hcn x y
      rw [r1, r2, this]
      exact sel_f (by simp) (sel_f rfl fun _ => hgo w13 g13)
    · have hbf : b2 = false := Bool.eq_false_iff.2 fun h => hcn (hbc.1 h)
      subst hbf
      refine sel_f rfl (sel_t rfl (trees_st p12 fun w13 p13 g13 => ?_))
      have hsn := reps_snoc hss (es := noE er e.id) (e := e) ⟨hu, hv⟩ hcn
      have hle : (reps vr (noE er e.id)).length ≤ 2048 := Nat.le_trans (List.length_filter_le _ _) v.nf.vl
      rw [r1, r2]
      refine sel_f ?_ fun _ => hgo w13 g13
      rw [w64_in (by omega)]
      simp
      omega
theorem run_nd2 (l : List HO) : ∀ i, i ≤ l.length → ((run (l.take i)).2.map E.id).Nodup := by
  intro i
  induction i with
  | zero => intro _; exact List.nodup_nil
  | succ i ih =>
    intro hi
    have hlt : i < l.length := by omega
    have h := ih (by omega)
    rw [run_take hlt]
    show ((opS l[i] (run (l.take i)).1 (run (l.take i)).2).map E.id).Nodup
    unfold opS cutEr
    split
    · by_cases q : addEC (run (l.take i)).1 (run (l.take i)).2 l[i].id l[i].u l[i].v = 0
      · rw [if_pos q, List.map_append, List.nodup_append]
        refine ⟨h, by simp, fun x hx y hy e => ?_⟩
        simp only [List.map_cons, List.map_nil, List.mem_singleton] at hy
        subst hy
        subst e
        unfold addEC at q
        split at q
        · cases q
        · exact absurd q (by decide)
      · rw [if_neg q]; exact h
    · split
      · split
        · exact h.sublist (List.filter_sublist.map _)
        · exact h
      · exact h
theorem HdtBridges_walk {w : World} {As : Option Addr} {ns cs : Nat} {sl : List Int} (hs : Sds w As ns cs sl) {A : Option Addr} {n c : Nat} {l : List HO} (h : Scr w A n l) (x : Int) :
    Calls Tryz.prog 7 #[.slice As ns cs, .slice A n c, .int .i64 x] w fun e w' => e = .returned (.bool true) ∧ Below w.heap.size w w' := by
  apply f_law18_HdtBridges.ok
  unfold f_law18_HdtBridges.wp
  refine filled_st hs h fun w1 O s p1 ev ek => sel_f rfl (alive_st fun w3 g3 => sel_f rfl (al_new fun w4 B e4 z4 h4 g4 => ?_))
  have p3 := p1.below g3
  have oB : O B = none := p3.fresh (by omega)
  have hB : w.heap.size ≤ B := by have := p3.bel.size; omega
  refine put2 ns0 h4 rfl fun w5 h5 k5 => ?_
  have p5 := (p3.below g4).other k5 (fun b e => by rw [e]; exact oB) fun b e => by rw [e]; exact hB
  refine ⟨l.length + 1, Bridges_l0 h hB oB (fun w6 ns q1 hb6 v1 nbB _ => ?_) l.length 0 w5 ns0 (by omega) (by omega) p5 h5 (PV.zero _ _) fun b hb => (by rcases hb with ⟨_, q, _⟩ | ⟨_, q, _⟩ <;> cases q)⟩
  obtain ⟨a1, a2, a3⟩ := alike_run (run_nd2 l) l.length (Nat.le_refl _)
  rw [List.take_length] at a1 a2 a3
  obtain ⟨vr, hvr⟩ : ∃ vr, (nrun l).1 = vr := ⟨_, rfl⟩
  obtain ⟨er, her⟩ : ∃ er, (nrun l).2 = er := ⟨_, rfl⟩
  rw [hvr, her] at v1
  rw [hvr] at a1
  rw [her] at a2 a3
  have q : Eqv s vr er := ⟨ev.trans a1, by rw [ek]; exact a2, a3⟩
  refine hb_ldS (j := 1) hb6 rfl ?_
  rw [v1.nf.ne]
  by_cases h60 : er.length > 60
  · exact sel_t (decide_eq_true (by omega)) ⟨rfl, q1.bel⟩
  obtain ⟨b0, b1⟩ := band1023 x
  refine sel_f (by simp; omega) ⟨er.length + 1, Bridges_l1 (w0 := w) (vr := vr) hB b0 b1 (M := l.length + 60) (by have := h.le; show l.length + 60 + 2 < 17592186044000; omega) (G := s.G) (fun w7 O7 s7 N7 ns7 p7 G7 vs7 sk7 hb7 v7 _ => ?_) er.length w6 O s l.length ns er (Nat.le_refl _) (by omega) (by omega) q1 rfl q hb6 oB v1 nbB⟩
  refine drW_intro ⟨fun a => HB a B (nsC ns7) 29, hb7.below (Below.refl _ _).drew, ⟨_, _, _, fun a ha => (ha.cell 0).trans rfl, ?_⟩⟩
  rw [← G7]
  refine trees_st (p7.below (Below.refl _ _).drew) fun w8 p8 g8 => ⟨(hb7.below (Below.refl _ _).drew).below g8, ?_, p8.bel⟩
  rw [vs7, sk7, reps_nil, v7.nf.nv]
  simp
theorem HdtBridges_row {w : World} {A1 A2 : Option Addr} {n1 c1 n2 c2 : Nat} {zb : List Int} {f : Nat → Nat → Int} {x : Int} (h1 : IsRow .i64 w A1 n1 c1 zb) (s1 : n1 * 8 ≤ 140737488351232) (h2 : IsRecs ks5 w A2 n2 c2 f) (s2 : n2 * 40 ≤ 140737488351232) (wx : (Lit.int .i64 x).wf = true) :
    Calls Tryz.prog 7 #[.slice A1 n1 c1, .slice A2 n2 c2, .int .i64 x] w fun e w' => e = .returned (.bool true) ∧ Below w.heap.size w w' := by
  obtain ⟨sb, hsb⟩ := sds_of h1 s1
  obtain ⟨l, h⟩ := scr_of h2 s2
  exact HdtBridges_walk hsb h x
end
end Go.Proofs.YtbhhbnnmdekjiaaGreat.Rd
