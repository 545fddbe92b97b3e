/- The document's graph: edges with one more, without one, used · The document's graph: a write of a vertex or an edge · The document's graph: vertex, edge, Do · The document's graph: a write of an edge · The document's graph: Do, Net; a net behind a write · The document's answer for the graph by levels: AddV, DelV, AddE, DelE, Has, Verts, Trees · The graph by levels in a law: steps; the document's example · The graph by levels in a law: one call of a script · The graph by levels in a law: graph and net alike; what is told; filled · The graph by levels in a law: scripts, filled · What a row tells of a slice of records of whole numbers · What a row tells of a slice of calls (a number and an edge each), and of an edge · How long a slice among the arguments can be · HdtPlays, walked · What a row tells of a graph's script · HdtSizes, walked · HdtBack, walked -/
import Derived.Test.YtbhhbnnmdekjiaaGreatZ4E
import Derived.Test.YtbhhbnnmdekjiaaGreatZ4C
import Derived.Test.YtbhhbnnmdekjiaaGreatZ4F
import Derived.Test.YtbhhbnnmdekjiaaGreatZ4H
import Derived.Test.YtbhhbnnmdekjiaaGreatZ4D
import Derived.ChangeArms
import Derived.DataReads
import Derived.WalkKit
import Derived.SizedLaws
set_option linter.unusedSimpArgs false
set_option linter.unusedVariables false
namespace Go.Proofs.YtbhhbnnmdekjiaaGreat.Rd
open Go.Dn Go.RowKit
set_option maxRecDepth 100000
theorem OwnEd.empty {w : World} {B b : Nat} (hb : w.heap[b]? = some (Obj.cells #[] TE)) (hB : B ≤ b) : OwnEd w B TE (some ⟨b, 0, none⟩) 0 [] := ⟨rfl, .inr ⟨b, 0, #[], rfl, hB, hb, Nat.le_refl _, Nat.zero_le _, rfl, rfl⟩⟩
theorem OwnEd.lower {w : World} {B B' e : Nat} {A : Option Addr} {c : Nat} {l : List E} (h : OwnEd w B e A c l) (hB : B' ≤ B) : OwnEd w B' e A c l := ⟨h.1, h.2.imp id fun ⟨g, cap, cur, hv, hb, rest⟩ => ⟨g, cap, cur, hv, Nat.le_trans hB hb, rest⟩⟩
theorem withoutEdge_ok {w : World} {A : Option Addr} {n c : Nat} {l : List E} (r : RE w A l) (hn : n = l.length) (hl : l.length ≤ 100000) (x : Int) :
    Calls Tryz.prog 115 #[.slice A n c, .int .i64 x] w fun e w' => ∃ A' c', e = .returned (.slice A' (noE l x).length c') ∧ OwnEd w' w.heap.size TE A' c' (noE l x) ∧ Below w.heap.size w w' := by
  subst hn
  apply f_ref05_withoutEdge.ok
  unfold f_ref05_withoutEdge.wp
  refine al_new fun w1 b1 e1 z1 h1 g1 => ⟨l.length + 1, ?_⟩
  have o1 : OwnEd w1 w.heap.size TE (some ⟨b1, 0, none⟩) 0 [] := OwnEd.empty h1 (by omega)
  have key : ∀ (m i : Nat) (w2 : World) (A2 : Option Addr) (n2 c2 : Nat), l.length - i = m → i ≤ l.length → OwnEd w2 w.heap.size TE A2 c2 (noE (l.take i) x) → n2 = (noE (l.take i) x).length → Below w.heap.size w w2 →
      f_ref05_withoutEdge.l0 (m + 1) A l.length c x A2 n2 c2 (i : Int) w2 (fun (A15 : Option Addr) (n15 : Nat) (c15 : Nat) (w16 : World) => ∀ _ : Go.Dn.Fr,
        (fun e w' => ∃ A' c', e = Ending.returned (.slice A' (noE l x).length c') ∧ OwnEd w' w.heap.size TE A' c' (noE l x) ∧ Below w.heap.size w w') (.returned (.slice A15 n15 c15)) w16) := by
    intro m
    induction m with
    | zero =>
      intro i w2 A2 n2 c2 hm hi ho hn hb
      have : i = l.length := by omega
      subst this
      rw [List.take_length] at ho hn
      unfold f_ref05_withoutEdge.l0
      exact sel_f (by simp) fun _ => ⟨A2, c2, by rw [hn], ho, hb⟩
    | succ m ih =>
      intro i w2 A2 n2 c2 hm hi ho hn hb
      have hlt : i < l.length := by omega
      have hw : IntKind.i64.wrap ((i : Int) + 1) = ((i + 1 : Nat) : Int) := by rw [w64_in (by omega)]; omega
      obtain ⟨a, rfl, q⟩ := (r.below hb) i hlt
      have tk : noE (l.take (i + 1)) x = noE (l.take i) x ++ (if l[i].id = x then [] else [l[i]]) := by
        rw [List.take_succ_eq_append_getElem hlt]
        unfold noE
        rw [List.filter_append]
        congr 1
        by_cases e : l[i].id = x
        · rw [if_pos e, List.filter_cons_of_neg (by simp [e])]; rfl
        · rw [if_neg e, List.filter_cons_of_pos (by simp [e])]; rfl
      have hlen : (noE (l.take i) x).length ≤ 1000000 := by
        have h1 : (noE (l.take i) x).length ≤ (l.take i).length := List.length_filter_le _ _
        rw [List.length_take] at h1; omega
      unfold f_ref05_withoutEdge.l0
      refine sel_t (by simpa using hlt) (optB_some rfl (req_intro (by simp; omega) (ldI_intro (by rw [Int.toNat_natCast]; exact q.c0) ?_)))
      by_cases e : l[i].id = x
      · refine sel_f (by simp [e]) ?_
        rw [hw]
        exact ih (i + 1) w2 A2 n2 c2 (by omega) (by omega) (by rw [tk, if_pos e, List.append_nil]; exact ho) (by rw [tk, if_pos e, List.append_nil]; exact hn) hb
      · refine sel_t (by simp [e]) (optB_some rfl (req_intro (by simp; omega) (rowE q (put_ed ho hn hb.size hlen fun A3 c3 w3 o3 k3 f3 => ?_))))
        rw [hw]
        refine ih (i + 1) w3 _ _ c3 (by omega) (by omega) (by rw [tk, if_neg e]; exact o3) (by rw [tk, if_neg e]) (hb.trans (k3.below hb.size fun k hk ⟨a', ha', hh⟩ => ?_))
        have := (ho.block a' ha').1; omega
  exact key l.length 0 w1 _ _ _ (by omega) (by omega) (by simpa [noE] using o1) (by simp [noE]) g1
theorem withEdge_ok {w : World} {A : Option Addr} {n c : Nat} {l : List E} (r : RE w A l) (hn : n = l.length) (hl : l.length ≤ 100000) (y : E) :
    Calls Tryz.prog 116 #[.slice A n c, .agg (eC y)] w fun e w' => ∃ A' c', e = .returned (.slice A' (insE l y).length c') ∧ OwnEd w' w.heap.size TE A' c' (insE l y) ∧ Below w.heap.size w w' := by
  subst hn
  apply f_ref05_withEdge.ok
  unfold f_ref05_withEdge.wp
  refine al_new fun w1 b1 e1 z1 h1 g1 => al_new fun w2 b2 e2 z2 h2 g2 => ⟨l.length + 1, ?_⟩
  have h1 : HB w1 b1 (eC y) TE := h1
  have hw1 := g1.size
  have o2 : OwnEd w2 w1.heap.size TE (some ⟨b2, 0, none⟩) 0 [] := OwnEd.empty h2 (by omega)
  have hb2 : Below w.heap.size w w2 := g1.trans (g2.mono hw1)
  have hy2 : HB w2 b1 (eC y) TE := h1.below g2
  have r1 := r.below g1
  have b1lt : b1 < w1.heap.size := h1.lt
  have key : ∀ (m i : Nat) (w3 : World) (A2 : Option Addr) (n2 c2 : Nat) (d : Bool) (out : List E), l.length - i = m → i ≤ l.length → OwnEd w3 w1.heap.size TE A2 c2 out → n2 = out.length → out.length ≤ i + (if d = true then 1 else 0) → (if d = true then out ++ l.drop i = insE l y else insE l y = out ++ insE (l.drop i) y) → Below w1.heap.size w1 w3 →
      f_ref05_withEdge.l0 (m + 1) A l.length c (⟨b1, 0, none⟩ : Addr) A2 n2 c2 d (i : Int) w3 (fun (A35 : Option Addr) (n35 : Nat) (c35 : Nat) (b36 : Bool) (w37 : World) => ∀ _ : Go.Dn.Fr,
        sel (!b36) (
        ldI w37 (⟨b1, 0, Option.none⟩ : Addr) .i64 fun x38 =>
        ldI w37 ((⟨b1, 0, Option.none⟩ : Addr).add 1) .i64 fun x39 =>
        ldI w37 ((⟨b1, 0, Option.none⟩ : Addr).add 2) .i64 fun x40 =>
        ldI w37 ((⟨b1, 0, Option.none⟩ : Addr).add 3) .i64 fun x41 =>
        alW w37 (.cells #[.int .i64 x38, .int .i64 x39, .int .i64 x40, .int .i64 x41] TE) fun B42 w43 =>
        Runs Tryz.prog (Builtin.append_ #[27, 27] 27 #[.slice A35 n35 c35, .slice (some (⟨B42, 0, Option.none⟩ : Addr)) 1 1]) w43 fun v45 w44 => ∃ (A46 : Option Addr) (n46 : Nat) (c46 : Nat), v45 = (.slice A46 n46 c46) ∧ (
        (fun e w' => ∃ A' c', e = Ending.returned (.slice A' (insE l y).length c') ∧ OwnEd w' w.heap.size TE A' c' (insE l y) ∧ Below w.heap.size w w') (.returned (.slice A46 n46 c46)) w44)) (
        (fun e w' => ∃ A' c', e = Ending.returned (.slice A' (insE l y).length c') ∧ OwnEd w' w.heap.size TE A' c' (insE l y) ∧ Below w.heap.size w w') (.returned (.slice A35 n35 c35)) w37)) := by
    intro m
    induction m with
    | zero =>
      intro i w3 A2 n2 c2 d out hm hi ho hn hlen hd hb
      have : i = l.length := by omega
      subst this
      rw [List.drop_length] at hd
      unfold f_ref05_withEdge.l0
      refine sel_f (by simp) fun _ => ?_
      have hbb : Below w.heap.size w w3 := g1.trans (hb.mono hw1)
      cases d with
      | true =>
        rw [if_pos rfl, List.append_nil] at hd
        refine sel_f rfl ⟨A2, c2, by rw [hn, hd], by rw [← hd]; exact OwnEd.lower ho hw1, hbb⟩
      | false =>
        rw [if_neg (by decide)] at hd
        have hd : insE l y = out ++ [y] := hd
        rw [if_neg (by decide)] at hlen
        refine sel_t rfl (getE (h1.below hb) (put_ed ho hn (e := y) hb.size (by omega) fun A3 c3 w4 o4 k4 f4 => ?_))
        rw [← hd] at o4 ⊢
        exact ⟨some A3, c3, rfl, OwnEd.lower o4 hw1, hbb.trans (k4.below hbb.size fun k hk ⟨a', ha', hh⟩ => by have := (ho.block a' ha').1; omega)⟩
    | succ m ih =>
      intro i w3 A2 n2 c2 d out hm hi ho hn hlen hd hb
      have hlt : i < l.length := by omega
      have hw : IntKind.i64.wrap ((i : Int) + 1) = ((i + 1 : Nat) : Int) := by rw [w64_in (by omega)]; omega
      have hdr := List.drop_eq_getElem_cons hlt
      have hl2 : out.length ≤ 900000 := by split at hlen <;> omega
      have go : ∀ (w4 : World) (A3 : Option Addr) (c3 : Nat) (out3 : List E) (d3 : Bool), OwnEd w4 w1.heap.size TE A3 c3 out3 → out3.length ≤ i + (if d3 = true then 1 else 0) → (if d3 = true then out3 ++ l.drop i = insE l y else insE l y = (out3 ++ [l[i]]) ++ insE (l.drop (i + 1)) y) → Below w1.heap.size w1 w4 → ∀ K, (∀ A4 c4 w5, OwnEd w5 w1.heap.size TE A4 c4 (out3 ++ [l[i]]) → Below w1.heap.size w1 w5 → K A4 (out3 ++ [l[i]]).length c4 w5) →
          f_ref05_withEdge.j1 A l.length c A3 out3.length c3 (i : Int) w4 K := by
        intro w4 A3 c3 out3 d3 o3 hl3 hd3 hb3 K hK
        obtain ⟨a, ha, q⟩ := (r1.below hb3) i hlt
        have hl4 : out3.length ≤ 1000000 := by split at hl3 <;> omega
        unfold f_ref05_withEdge.j1
        refine optB_some ha (req_intro (by simp; omega) (rowE q (put_ed o3 rfl hb3.size hl4 fun A4 c4 w5 o5 k5 f5 => hK _ _ _ o5 (hb3.trans (k5.below hb3.size fun k hk ⟨a', ha', hh⟩ => ?_)))))
        have := (o3.block a' ha').1; omega
      subst hn
      unfold f_ref05_withEdge.l0
      refine sel_t (by simpa using hlt) (drW_intro ?_)
      have gd := hb.drew
      have od : OwnEd w3.drew w1.heap.size TE A2 c2 out := ho.keeps (S := fun _ => False) (Keeps.refl _ _).drew fun _ _ => id
      obtain ⟨w4, hw4⟩ : ∃ w4, w3.drew = w4 := ⟨_, rfl⟩
      rw [hw4] at gd od ⊢
      cases d with
      | true =>
        refine sel_f rfl (go w4 A2 c2 out true od hlen hd gd _ fun A4 c4 w5 o5 b5 _ => ?_)
        rw [hw]
        rw [if_pos rfl] at hd hlen
        refine ih (i + 1) w5 A4 _ c4 true (out ++ [l[i]]) (by omega) (by omega) o5 rfl (by simp; omega) ?_ b5
        rw [if_pos rfl, List.append_assoc, List.singleton_append, ← hdr]; exact hd
      | false =>
        rw [if_neg (by decide)] at hd hlen
        have hy4 := h1.below gd
        obtain ⟨a, ha, q⟩ := (r1.below gd) i hlt
        refine sel_t rfl (hb_ldI0 hy4 rfl (optB_some ha (req_intro (by simp; omega) (ldI_intro (by rw [Int.toNat_natCast]; exact q.c0) ?_))))
        by_cases hcmp : y.id < l[i].id
        · have e1 : insE (l.drop i) y = y :: l.drop i := by rw [hdr, insE_cons, if_pos hcmp]
          rw [e1] at hd
          refine sel_t (decide_eq_true hcmp) (getE hy4 (put_ed od rfl (e := y) gd.size (by omega) fun A3 c3 w5 o5 k5 f5 => ?_))
          have b5 : Below w1.heap.size w1 w5 := gd.trans (k5.below gd.size fun k hk ⟨a', ha', hh⟩ => by have := (od.block a' ha').1; omega)
          have hd5 : (out ++ [y]) ++ l.drop i = insE l y := by rw [List.append_assoc, List.singleton_append]; exact hd.symm
          refine go w5 (some A3) c3 (out ++ [y]) true o5 (by rw [if_pos rfl, List.length_append]; simp; omega) (by rw [if_pos rfl]; exact hd5) b5 _ fun A4 c4 w6 o6 b6 _ => ?_
          rw [hw]
          refine ih (i + 1) w6 A4 _ c4 true ((out ++ [y]) ++ [l[i]]) (by omega) (by omega) o6 rfl (by simp; omega) ?_ b6
          rw [if_pos rfl, List.append_assoc, List.singleton_append, ← hdr]; exact hd5
        · have e1 : insE (l.drop i) y = l[i] :: insE (l.drop (i + 1)) y := by rw [hdr, insE_cons, if_neg hcmp]
          rw [e1] at hd
          have hd5 : insE l y = (out ++ [l[i]]) ++ insE (l.drop (i + 1)) y := by rw [List.append_assoc, List.singleton_append]; exact hd
          refine sel_f (decide_eq_false hcmp) (go w4 A2 c2 out false od (by rw [if_neg (by decide)]; exact hlen) (by rw [if_neg (by decide)]; exact hd5) gd _ fun A4 c4 w5 o5 b5 _ => ?_)
          rw [hw]
          refine ih (i + 1) w5 A4 _ c4 false (out ++ [l[i]]) (by omega) (by omega) o5 rfl (by simp; omega) ?_ b5
          rw [if_neg (by decide)]; exact hd5
  refine key l.length 0 w2 _ _ _ false [] (by omega) (by omega) o2 rfl (by simp) ?_ (g2.mono (Nat.le_refl _))
  rw [if_neg (by decide)]; rfl
structure NS where
  A0 : Option Addr
  n0 : Nat
  c0 : Nat
  A1 : Option Addr
  n1 : Nat
  c1 : Nat
def nsC (s : NS) : Array Value := #[.slice s.A0 s.n0 s.c0, .slice s.A1 s.n1 s.c1]
def g3C (s : NS) (A : Option Addr) (n c : Nat) : Array Value := #[.slice s.A0 s.n0 s.c0, .slice s.A1 s.n1 s.c1, .slice A n c]
def Nb (s : NS) (k : Nat) : Prop := Ob s.A0 k ∨ Ob s.A1 k
structure NF (w : World) (s : NS) (vr : List Int) (er : List E) : Prop where
  v : RI w s.A0 vr
  nv : s.n0 = vr.length
  e : RE w s.A1 er
  ne : s.n1 = er.length
  lt : ∀ k, Nb s k → k < w.heap.size
  vl : vr.length ≤ 2048
  el : er.length ≤ 2048
theorem NF.keeps {S : Nat → Prop} {w w' : World} {s : NS} {vr : List Int} {er : List E} (h : NF w s vr er) (k : Keeps S w w') (hS : ∀ b, Nb s b → ¬ S b) : NF w' s vr er :=
  ⟨h.v.keeps k fun a ha => hS _ (.inl ⟨a, ha, rfl⟩), h.nv, h.e.keeps k fun a ha => hS _ (.inr ⟨a, ha, rfl⟩), h.ne, fun b hb => Nat.lt_of_lt_of_le (h.lt b hb) k.size, h.vl, h.el⟩
theorem NF.belw {w w' : World} {s : NS} {vr : List Int} {er : List E} (h : NF w s vr er) (k : Below w.heap.size w w') : NF w' s vr er := h.keeps (S := fun _ => False) (.of_below k) fun _ _ => id
def Sn (w : World) (s s' : NS) : Prop := ∀ k, Nb s' k → Nb s k ∨ w.heap.size ≤ k
theorem Sn.refl (w : World) (s : NS) : Sn w s s := fun k h => .inl h
theorem out3 {w : World} {b1 b5 : Nat} {t1 t5 : TypeId} {cs : Array Value} {s : NS} {A : Option Addr} {n c : Nat} (h1 : HB w b1 (g3C s A n c) t1) (h5 : HB w b5 cs t5) (hc : cs.size = 3) {K : Option Addr → Nat → Nat → Option Addr → Nat → Nat → Option Addr → Nat → Nat → World → Prop}
    (hk : ∀ w', Keeps (fun k => k = b5) w w' → K s.A0 s.n0 s.c0 s.A1 s.n1 s.c1 A n c w') :
    ldS w (⟨b1, 0, Option.none⟩ : Addr) fun A11 n11 c11 =>
    ldS w ((⟨b1, 0, Option.none⟩ : Addr).add 1) fun A12 n12 c12 =>
    ldS w ((⟨b1, 0, Option.none⟩ : Addr).add 2) fun A13 n13 c13 =>
    stW w (⟨b5, 0, Option.none⟩ : Addr) (.slice A11 n11 c11) fun w14 =>
    stW w14 ((⟨b5, 0, Option.none⟩ : Addr).add 1) (.slice A12 n12 c12) fun w15 =>
    stW w15 ((⟨b5, 0, Option.none⟩ : Addr).add 2) (.slice A13 n13 c13) fun w16 =>
    ldS w16 (⟨b5, 0, Option.none⟩ : Addr) fun A17 n17 c17 =>
    ldS w16 ((⟨b5, 0, Option.none⟩ : Addr).add 1) fun A18 n18 c18 =>
    ldS w16 ((⟨b5, 0, Option.none⟩ : Addr).add 2) fun A19 n19 c19 => K A17 n17 c17 A18 n18 c18 A19 n19 c19 w16 := by
  refine hb_ldS0 h1 rfl (hb_ldS (j := 1) h1 rfl (hb_ldS (j := 2) h1 rfl ?_))
  refine hb_st0 h5 (by omega) fun w1 h1 k1 => hb_st (j := 1) h1 (by simp; omega) fun w2 h2 k2 => hb_st (j := 2) h2 (by simp; omega) fun w3 h3 k3 => ?_
  have e : ((cs.setIfInBounds 0 (.slice s.A0 s.n0 s.c0)).setIfInBounds 1 (.slice s.A1 s.n1 s.c1)).setIfInBounds 2 (.slice A n c) = g3C s A n c := by
    obtain ⟨l⟩ := cs
    match l, hc with
    | [_, _, _], _ => rfl
  rw [e] at h3
  exact hb_ldS0 h3 rfl (hb_ldS (j := 1) h3 rfl (hb_ldS (j := 2) h3 rfl (hk w3 ((k1.trans k2).trans k3))))
def wC (k id u v wt : Int) : Array Value := #[.int .i64 k, .int .i64 id, .int .i64 u, .int .i64 v, .int .i64 wt, .bool false, .int .i64 0, .string ByteArray.empty, .int .i64 0, .int .i64 0, .complex .f64 0 0, .slice none 0 0]
section
variable {w w' : World} {s : NS} {vr : List Int} {er : List E}
theorem HasV5_ok (h : NF w s vr er) (A : Option Addr) (n c : Nat) (x : Int) : Calls Tryz.prog 110 #[.agg (g3C s A n c), .int .i64 x] w fun e w' => e = .returned (.bool (decide (x ∈ vr))) ∧ Below w.heap.size w w' := by
  apply f_ref05_HasV.ok
  unfold f_ref05_HasV.wp
  refine al_new fun w1 b1 e1 z1 h1 g1 => ?_
  refine hb_ldS0 h1 rfl ((Has_ok (h.belw g1).v h.nv (by have := h.vl; omega) x).mono ?_)
  rintro _ w2 ⟨rfl, rfl⟩
  exact ⟨_, rfl, rfl, g1⟩
theorem used_ok (h : NF w s vr er) (A : Option Addr) (n c : Nat) (x : Int) : Calls Tryz.prog 111 #[.agg (g3C s A n c), .int .i64 x] w fun e w' => (∃ b, e = .returned (.bool b) ∧ (b = true ↔ 0 < deg er x)) ∧ Below w.heap.size w w' := by
  apply f_ref05_used.ok
  unfold f_ref05_used.wp
  refine al_new fun w1 b1 e1 z1 h1 g1 => ⟨er.length + 1, ?_⟩
  have h1' : HB w1 b1 (g3C s A n c) 128 := h1
  have re := (h.belw g1).e
  have pos : (∃ e ∈ er, e.u = x ∨ e.v = x) → 0 < deg er x := fun ⟨e, he, hx⟩ => by
    have h1 := deg_nn er x
    apply Classical.byContradiction
    intro h2
    have h3 : deg er x = 0 := by omega
    have := deg_zero.1 h3 e he
    rcases hx with q | q
    · exact this.1 q
    · exact this.2 q
  have key : ∀ (m i : Nat), er.length - i = m → i ≤ er.length → (∀ e ∈ er.take i, e.u ≠ x ∧ e.v ≠ x) →
      f_ref05_used.l0 (m + 1) x (⟨b1, 0, none⟩ : Addr) (i : Int) w1 (fun w10 => ∀ _ : Go.Dn.Fr, (∃ b, Ending.returned (.bool false) = .returned (.bool b) ∧ (b = true ↔ 0 < deg er x)) ∧ Below w.heap.size w w10) (fun b11 w12 => ∀ _ : Go.Dn.Fr, (∃ b, Ending.returned (.bool b11) = .returned (.bool b) ∧ (b = true ↔ 0 < deg er x)) ∧ Below w.heap.size w w12) := by
    intro m
    induction m with
    | zero =>
      intro i hm hi hno
      have : i = er.length := by omega
      subst this
      rw [List.take_length] at hno
      have h0 := deg_zero.2 hno
      unfold f_ref05_used.l0
      refine hb_ldS h1' (j := 1) rfl (sel_f (by rw [h.ne]; simp) fun _ => ⟨⟨false, rfl, ?_⟩, g1⟩)
      rw [h0]; simp
    | succ m ih =>
      intro i hm hi hno
      have hlt : i < er.length := by omega
      have hl := h.el
      obtain ⟨a, ha, q⟩ := re i hlt
      unfold f_ref05_used.l0
      refine hb_ldS h1' (j := 1) rfl (sel_t (by rw [h.ne]; simpa using hlt) (hb_ldS h1' (j := 1) rfl (optB_some ha (req_intro (by rw [h.ne]; simp; omega) (ldI_intro (by rw [Int.toNat_natCast]; exact q.c1) ?_)))))
      by_cases e1 : er[i].u = x
      · exact sel_t (by simp [e1]) fun _ => ⟨⟨true, rfl, fun _ => pos ⟨_, List.getElem_mem hlt, .inl e1⟩, fun _ => rfl⟩, g1⟩
      refine sel_f (by simp [e1]) (hb_ldS h1' (j := 1) rfl (optB_some ha (req_intro (by rw [h.ne]; simp; omega) (ldI_intro (by rw [Int.toNat_natCast]; exact q.c2) ?_))))
      by_cases e2 : er[i].v = x
      · exact sel_t (by simp [e2]) fun _ => ⟨⟨true, rfl, fun _ => pos ⟨_, List.getElem_mem hlt, .inr e2⟩, fun _ => rfl⟩, g1⟩
      refine sel_f (by simp [e2]) ?_
      rw [w64_in (by omega), show (i : Int) + 1 = ((i + 1 : Nat) : Int) by omega]
      refine ih (i + 1) (by omega) (by omega) fun y hy => ?_
      rw [List.take_succ_eq_append_getElem hlt, List.mem_append, List.mem_singleton] at hy
      rcases hy with hy | rfl
      · exact hno y hy
      · exact ⟨e1, e2⟩
  exact key er.length 0 (by omega) (by omega) (by simp)
theorem strip_ok (w : World) (b : Bool) (x : Int) : Calls Tryz.prog 113 #[.slice none 0 0, .agg #[.bool b, .int .i64 x]] w fun e w' => ∃ A n c, e = .returned (.slice A n c) ∧ Below w.heap.size w w' := by
  apply f_ref05_strip.ok
  unfold f_ref05_strip.wp
  refine al_new fun w1 b1 e1 z1 h1 g1 => al_new fun w2 b2 e2 z2 h2 g2 => ⟨1, ?_⟩
  unfold f_ref05_strip.l0
  exact sel_f (by decide) fun _ => ⟨_, _, _, rfl, g1.trans (g2.mono g1.size)⟩
theorem REdge5g_ok (h : NF w s vr er) (A : Option Addr) (n c : Nat) (x : Int) :
    Calls Tryz.prog 114 #[.agg (g3C s A n c), .int .i64 x] w fun e w' => e = .returned (.tuple #[.agg (eC (edgeE er x)), .bool (edgeB er x)]) ∧ Below w.heap.size w w' := by
  apply f_ref05_Edge.ok
  unfold f_ref05_Edge.wp
  refine al_new fun w1 b1 e1 s1 h1 g1 => al_new fun w2 b2 e2 s2 h2 g2 => ?_
  have h1' := h1.below g2
  have hb := g1.trans (g2.mono (by omega))
  have h2 : HB w2 b2 (eC zE) 31 := h2
  refine ⟨er.length + 1, REdge_l0 (h.belw hb).e h.ne (by have := h.el; omega) h1' h2 (fun h0 => ?_) (fun h0 w3 h3 k3 => ?_) er.length 0 (by omega) (by omega) (by simp)⟩
  · intro _
    refine putE h2 rfl zE fun w3 h3 k3 => getE h3 ?_
    refine ⟨?_, HB.belK hb k3 (by omega)⟩
    rw [edgeE_none h0, h0]; rfl
  · intro _
    refine getE h3 ⟨?_, HB.belK hb k3 (by omega)⟩
    rw [h0]; rfl
end
def vC (k : Int) (vr : List Int) (er : List E) (x : Int) : Int := if k = 1 then addVC vr x else delVC vr er x
def vR (k : Int) (vr : List Int) (er : List E) (x : Int) : List Int := if k = 1 then addVr vr x else delVr vr er x
def eC5 (k : Int) (vr : List Int) (er : List E) (id u v : Int) : Int := if k = 4 then (if badI id then 1 else if id ∉ er.map E.id then 51 else 0) else addEC vr er id u v
def eR5 (k : Int) (vr : List Int) (er : List E) (id u v : Int) : List E := if k = 4 then cutEr er id else if addEC vr er id u v = 0 then insE er ⟨id, u, v, 0⟩ else er
def WR (w0 w : World) (s : NS) (vr : List Int) (er : List E) (code : Int) (e : Ending) : Prop := ∃ s' A n c, e = .returned (.tuple #[.agg (g3C s' A n c), .int .i64 code]) ∧ NF w s' vr er ∧ Sn w0 s s' ∧ Below w0.heap.size w0 w
section
variable {w w' : World} {s : NS} {vr : List Int} {er : List E}
theorem vertex_ok (h : NF w s vr er) (k x u v wt : Int) :
    Calls Tryz.prog 99 #[.agg (g3C s none 0 0), .agg (wC k x u v wt)] w fun e w' => WR w w' s (vR k vr er x) er (vC k vr er x) e := by
  apply f_ref05_vertex.ok
  unfold f_ref05_vertex.wp
  refine al_new fun w1 b1 e1 z1 h1 g1 => al_new fun w2 b3 e3 z3 h3 g2 => al_new fun w3 b5 e5 z5 h5 g3 => ?_
  have s1 := g1.size
  have hb : Below w.heap.size w w3 := (g1.trans (g2.mono s1)).trans (g3.mono (by omega))
  have h1 : HB w3 b1 (g3C s none 0 0) 128 := (h1.below g2).below g3
  have h3 : HB w3 b3 (wC k x u v wt) 94 := h3.below g3
  have hN := h.belw hb
  have same : ∀ {w4 : World} {c : Int}, Below w3.heap.size w3 w4 → vC k vr er x = c → vR k vr er x = vr → WR w w4 s (vR k vr er x) er (vC k vr er x) (.returned (.tuple #[.agg (g3C s none 0 0), .int .i64 c])) := fun {w4 c} g hc hr => by
    rw [hc, hr]
    exact ⟨s, none, 0, 0, rfl, hN.belw g, Sn.refl _ _, hb.trans (g.mono hb.size)⟩
  have st : ∀ {w4 w5 : World}, Below w3.heap.size w3 w4 → Keeps (fun k => k = b5) w4 w5 → ∀ {c : Int}, vC k vr er x = c → vR k vr er x = vr → WR w w5 s (vR k vr er x) er (vC k vr er x) (.returned (.tuple #[.agg (g3C s none 0 0), .int .i64 c])) := fun {w4 w5} g kk {c} hc hr => by
    rw [hc, hr]
    have hb4 := hb.trans (g.mono hb.size)
    exact ⟨s, none, 0, 0, rfl, (hN.belw g).keeps kk fun b hn e => by have := h.lt b hn; have := hb.size; omega, Sn.refl _ _, HB.belK hb4 kk (by omega)⟩
  have g0 : Below w3.heap.size w3 w3 := .refl _ _
  have keepR : ∀ {c : Int}, vC k vr er x = c → c ≠ 0 → vR k vr er x = vr := fun {c} hc h0 => by
    unfold vC at hc
    unfold vR
    by_cases q : k = 1
    · rw [if_pos q] at hc ⊢
      unfold addVr; rw [hc, if_neg h0]
    · rw [if_neg q] at hc ⊢
      unfold delVr; rw [hc, if_neg h0]
  refine hb_ldI (j := 1) h3 rfl ((RBad_ok x w3).mono ?_)
  rintro _ wx ⟨⟨b, rfl, hbd⟩, hx⟩
  obtain rfl : w3 = wx := hx.symm
  refine ⟨b, rfl, ?_⟩
  by_cases q1 : badI x
  · have hc : vC k vr er x = 1 := by
      unfold vC addVC delVC
      rw [if_pos q1, if_pos q1]; split <;> rfl
    exact sel_t (hbd.2 q1) (out3 h1 h5 rfl fun w5 kk => st g0 kk hc (keepR hc (by decide)))
  refine sel_f (Bool.eq_false_iff.2 fun hh => q1 (hbd.1 hh)) ?_
  refine hb_ldS0 h1 rfl (hb_ldS (j := 1) h1 rfl (hb_ldS (j := 2) h1 rfl (hb_ldI (j := 1) h3 rfl ((HasV5_ok hN none 0 0 x).mono ?_))))
  rintro _ w4 ⟨rfl, g4⟩
  have h1' := h1.below g4
  have h3' := h3.below g4
  have h5' := h5.below g4
  have hN4 := hN.belw g4
  refine ⟨_, rfl, hb_ldI0 h3' rfl ?_⟩
  by_cases qk : k = 1
  · refine sel_t (by simp [qk]) ?_
    by_cases q2 : x ∈ vr
    · have hc : vC k vr er x = 50 := by unfold vC addVC; rw [if_pos qk, if_neg q1, if_pos q2]
      exact sel_t (decide_eq_true q2) (out3 h1' h5' rfl fun w5 kk => st g4 kk hc (keepR hc (by decide)))
    refine sel_f (decide_eq_false q2) (hb_ldS0 h1' rfl ?_)
    by_cases q3 : 2048 ≤ vr.length
    · have hc : vC k vr er x = 55 := by unfold vC addVC; rw [if_pos qk, if_neg q1, if_neg q2, if_pos q3]
      exact sel_t (by rw [h.nv]; simp; omega) (out3 h1' h5' rfl fun w5 kk => st g4 kk hc (keepR hc (by decide)))
    have hc : vC k vr er x = 0 := by unfold vC addVC; rw [if_pos qk, if_neg q1, if_neg q2, if_neg q3]
    have hr : vR k vr er x = wiI vr x := by
      unfold vR addVr
      rw [if_pos qk]
      unfold vC at hc
      rw [if_pos qk] at hc
      rw [if_pos hc]
    refine sel_f (by rw [h.nv]; simp; omega) (hb_ldS0 h1' rfl (hb_ldI (j := 1) h3' rfl ((With_ok hN4.v h.nv (by omega) x).mono ?_)))
    rintro _ w5 ⟨A', c', rfl, o5, g5⟩
    refine ⟨_, _, _, rfl, hb_st0 (h1'.below g5) (by show 0 < 3; omega) fun w6 h6 k6 => ?_⟩
    have h6 : HB w6 b1 (g3C { s with A0 := A', n0 := (wiI vr x).length, c0 := c' } none 0 0) 128 := h6
    have ob := o5.block
    have s4 := g4.size
    have s5 := g5.size
    refine out3 h6 ((h5'.below g5).keeps k6 (by omega)) rfl fun w7 k7 => ?_
    rw [hc, hr]
    have hbb : Below w.heap.size w w5 := (hb.trans (g4.mono hb.size)).trans (g5.mono (by have := hb.size; omega))
    have hbs := hb.size
    have ltN := h.lt
    refine ⟨{ s with A0 := A', n0 := (wiI vr x).length, c0 := c' }, none, 0, 0, rfl, ?_, ?_, HB.belK (HB.belK hbb k6 (by omega)) k7 (by omega)⟩
    · have o7 : OwnI w7 w4.heap.size TI A' c' (wiI vr x) := (o5.keeps k6 fun a ha e => by have := ob a ha; omega).keeps k7 fun a ha e => by have := ob a ha; omega
      have hold : NF w7 s vr er := ((hN4.belw g5).keeps k6 fun b hn e => by have := ltN b hn; omega).keeps k7 fun b hn e => by have := ltN b hn; omega
      refine ⟨o7.reads, rfl, hold.e, hold.ne, fun b hn => ?_, by rw [(wiI_perm vr x).length_eq]; simp; omega, hold.el⟩
      rcases hn with ⟨a, ha, rfl⟩ | hn
      · exact (o7.block a ha).2
      · exact hold.lt b (.inr hn)
    · intro b hn
      rcases hn with ⟨a, ha, rfl⟩ | hn
      · have := ob a ha
        exact .inr (by omega)
      · exact .inl (.inr hn)
  · refine sel_f (by simp [qk]) ?_
    by_cases q2 : x ∉ vr
    · have hc : vC k vr er x = 51 := by unfold vC delVC; rw [if_neg qk, if_neg q1, if_pos q2]
      exact sel_t (by rw [decide_eq_false q2]; rfl) (out3 h1' h5' rfl fun w5 kk => st g4 kk hc (keepR hc (by decide)))
    have q2' := Classical.not_not.1 q2
    refine sel_f (by rw [decide_eq_true q2']; rfl) (hb_ldS0 h1' rfl (hb_ldS (j := 1) h1' rfl (hb_ldS (j := 2) h1' rfl (hb_ldI (j := 1) h3' rfl ((used_ok hN4 none 0 0 x).mono ?_)))))
    rintro _ w5 ⟨⟨bu, rfl, hbu⟩, g5⟩
    have g45 := g4.trans (g5.mono g4.size)
    have h15 := h1'.below g5
    have h35 := h3'.below g5
    have h55 := h5'.below g5
    refine ⟨bu, rfl, ?_⟩
    by_cases q3 : 0 < deg er x
    · have hc : vC k vr er x = 52 := by unfold vC delVC; rw [if_neg qk, if_neg q1, if_neg q2, if_pos q3]
      exact sel_t (hbu.2 q3) (out3 h15 h55 rfl fun w6 kk => st g45 kk hc (keepR hc (by decide)))
    have hc : vC k vr er x = 0 := by unfold vC delVC; rw [if_neg qk, if_neg q1, if_neg q2, if_neg q3]
    have hr : vR k vr er x = woI vr x := by
      unfold vR delVr
      rw [if_neg qk]
      unfold vC at hc
      rw [if_neg qk] at hc
      rw [if_pos hc]
    refine sel_f (Bool.eq_false_iff.2 fun hh => q3 (hbu.1 hh)) (hb_ldS0 h15 rfl (hb_ldI (j := 1) h35 rfl ((Without_ok (hN4.belw g5).v h.nv (by have := h.vl; omega) x).mono ?_)))
    rintro _ w6 ⟨A', c', rfl, o6, g6⟩
    refine ⟨_, _, _, rfl, hb_st0 (h15.below g6) (by show 0 < 3; omega) fun w7 h7 k7 => ?_⟩
    have h7 : HB w7 b1 (g3C { s with A0 := A', n0 := (woI vr x).length, c0 := c' } none 0 0) 128 := h7
    have ob := o6.block
    have s4 := g4.size
    have s5 := g5.size
    have s6 := g6.size
    have hbs := hb.size
    have ltN := h.lt
    have h37 := (h35.below g6).keeps k7 (by omega)
    refine hb_ldS (j := 2) h7 rfl (hb_ldI (j := 1) h37 rfl ((strip_ok w7 false x).mono ?_))
    rintro _ w8 ⟨A2, n2, c2, rfl, g8⟩
    refine ⟨_, _, _, rfl, hb_st (j := 2) (h7.below g8) (by show 2 < 3; omega) fun w9 h9 k9 => ?_⟩
    have h9 : HB w9 b1 (g3C { s with A0 := A', n0 := (woI vr x).length, c0 := c' } A2 n2 c2) 128 := h9
    have h59 := (((h55.below g6).keeps k7 (by omega)).below g8).keeps k9 (by omega)
    refine out3 h9 h59 rfl fun w10 k10 => ?_
    rw [hc, hr]
    have hbb : Below w.heap.size w w6 := ((hb.trans (g4.mono hb.size)).trans (g5.mono (by omega))).trans (g6.mono (by omega))
    have hb7 := HB.belK hbb k7 (by omega)
    have hb8 := hb7.trans (g8.mono hb7.size)
    have s7 := k7.size
    have s8 := g8.size
    refine ⟨{ s with A0 := A', n0 := (woI vr x).length, c0 := c' }, A2, n2, c2, rfl, ?_, ?_, HB.belK (HB.belK hb8 k9 (by omega)) k10 (by omega)⟩
    · have o10 : OwnI w10 w5.heap.size TI A' c' (woI vr x) := (((o6.keeps k7 fun a ha e => by have := ob a ha; omega).keeps (S := fun _ => False) (.of_below g8) fun _ _ => id).keeps k9 fun a ha e => by have := ob a ha; omega).keeps k10 fun a ha e => by have := ob a ha; omega
      have hold : NF w10 s vr er := (((((hN4.belw g5).belw g6).keeps k7 fun b hn e => by have := ltN b hn; omega).belw g8).keeps k9 fun b hn e => by have := ltN b hn; omega).keeps k10 fun b hn e => by have := ltN b hn; omega
      refine ⟨o10.reads, rfl, hold.e, hold.ne, fun b hn => ?_, Nat.le_trans (List.length_filter_le _ _) h.vl, hold.el⟩
      rcases hn with ⟨a, ha, rfl⟩ | hn
      · exact (o10.block a ha).2
      · exact hold.lt b (.inr hn)
    · intro b hn
      rcases hn with ⟨a, ha, rfl⟩ | hn
      · have := ob a ha
        exact .inr (by omega)
      · exact .inl (.inr hn)
end
section
variable {w w' : World} {s : NS} {vr : List Int} {er : List E}
theorem edge_ok (h : NF w s vr er) (k x u v : Int) :
    Calls Tryz.prog 100 #[.agg (g3C s none 0 0), .agg (wC k x u v 0)] w fun e w' => WR w w' s vr (eR5 k vr er x u v) (eC5 k vr er x u v) e := by
  apply f_ref05_edge.ok
  unfold f_ref05_edge.wp
  refine al_new fun w1 b1 e1 z1 h1 g1 => al_new fun w2 b3 e3 z3 h3 g2 => al_new fun w3 b5 e5 z5 h5 g3 => ?_
  have s1 := g1.size
  have hb : Below w.heap.size w w3 := (g1.trans (g2.mono s1)).trans (g3.mono (by omega))
  have h1 : HB w3 b1 (g3C s none 0 0) 128 := (h1.below g2).below g3
  have h3 : HB w3 b3 (wC k x u v 0) 94 := h3.below g3
  have hN := h.belw hb
  have ltN := h.lt
  have hbs := hb.size
  refine hb_ldS0 h1 rfl (hb_ldS (j := 1) h1 rfl (hb_ldS (j := 2) h1 rfl (hb_ldI (j := 1) h3 rfl ((REdge5g_ok hN none 0 0 x).mono ?_))))
  rintro _ w4 ⟨rfl, g4⟩
  refine ⟨_, _, _, _, _, rfl, al_new fun w5 b14 e14 z14 h14 g5 => ?_⟩
  refine putE h14 rfl (edgeE er x) fun w6 h14' k6 => ?_
  have s4 := g4.size
  have g36 : Below w3.heap.size w3 w6 := HB.belK (g4.trans (g5.mono s4)) k6 (by omega)
  have h1 := h1.below g36
  have h3 := h3.below g36
  have h5 := h5.below g36
  have hN := hN.belw g36
  have hb6 : Below w.heap.size w w6 := hb.trans (g36.mono hbs)
  have s6 := g36.size
  have st : ∀ {w4 w5 : World}, Below w6.heap.size w6 w4 → Keeps (fun k => k = b5) w4 w5 → ∀ {c : Int}, eC5 k vr er x u v = c → c ≠ 0 → WR w w5 s vr (eR5 k vr er x u v) (eC5 k vr er x u v) (.returned (.tuple #[.agg (g3C s none 0 0), .int .i64 c])) := fun {w4 w5} g kk {c} hc h0 => by
    have hr : eR5 k vr er x u v = er := by
      unfold eC5 at hc
      unfold eR5
      by_cases q : k = 4
      · rw [if_pos q] at hc ⊢
        unfold cutEr cutC
        by_cases q1 : badI x
        · rw [if_pos q1]; rfl
        · rw [if_neg q1] at hc ⊢
          by_cases q2 : x ∉ er.map E.id
          · rw [if_pos q2]; rfl
          · rw [if_neg q2] at hc; exact absurd hc.symm h0
      · rw [if_neg q] at hc ⊢
        rw [hc, if_neg h0]
    rw [hc, hr]
    have hb4 := hb6.trans (g.mono hb6.size)
    exact ⟨s, none, 0, 0, rfl, (hN.belw g).keeps kk fun b hn e => by have := ltN b hn; omega, Sn.refl _ _, HB.belK hb4 kk (by omega)⟩
  have g0 : Below w6.heap.size w6 w6 := .refl _ _
  have hisB := edgeB_iff er x
  refine hb_ldI0 h3 rfl ?_
  by_cases qk : k = 4
  · refine sel_t (by simp [qk]) (hb_ldI (j := 1) h3 rfl ((RBad_ok x w6).mono ?_))
    rintro _ wx ⟨⟨b, rfl, hbd⟩, hx⟩
    obtain rfl : w6 = wx := hx.symm
    refine ⟨b, rfl, ?_⟩
    by_cases q1 : badI x
    · exact sel_t (hbd.2 q1) (out3 h1 h5 rfl fun w5 kk => st g0 kk (by unfold eC5; rw [if_pos qk, if_pos q1]) (by decide))
    refine sel_f (Bool.eq_false_iff.2 fun hh => q1 (hbd.1 hh)) ?_
    by_cases q2 : x ∉ er.map E.id
    · have : edgeB er x = false := Bool.eq_false_iff.2 fun hh => q2 (hisB.1 hh)
      rw [this]
      exact sel_t rfl (out3 h1 h5 rfl fun w5 kk => st g0 kk (by unfold eC5; rw [if_pos qk, if_neg q1, if_pos q2]) (by decide))
    have : edgeB er x = true := hisB.2 (Classical.not_not.1 q2)
    rw [this]
    have hc : eC5 k vr er x u v = 0 := by unfold eC5; rw [if_pos qk, if_neg q1, if_neg q2]
    have hr : eR5 k vr er x u v = noE er x := by
      unfold eR5 cutEr cutC
      rw [if_pos qk, if_neg q1, if_neg q2]; rfl
    refine sel_f rfl (hb_ldS (j := 1) h1 rfl (hb_ldI (j := 1) h3 rfl ((withoutEdge_ok hN.e h.ne (by have := h.el; omega) x).mono ?_)))
    rintro _ w7 ⟨A', c', rfl, o7, g7⟩
    refine ⟨_, _, _, rfl, hb_st (j := 1) (h1.below g7) (by show 1 < 3; omega) fun w8 h8 k8 => ?_⟩
    have h8 : HB w8 b1 (g3C { s with A1 := A', n1 := (noE er x).length, c1 := c' } none 0 0) 128 := h8
    have ob : ∀ a, A' = some a → w6.heap.size ≤ a.block ∧ a.block < w7.heap.size := o7.block
    have s7 := g7.size
    have h38 := (h3.below g7).keeps k8 (by omega)
    refine hb_ldS (j := 2) h8 rfl (hb_ldI (j := 1) h38 rfl ((strip_ok w8 true x).mono ?_))
    rintro _ w9 ⟨A2, n2, c2, rfl, g9⟩
    refine ⟨_, _, _, rfl, hb_st (j := 2) (h8.below g9) (by show 2 < 3; omega) fun w10 h10 k10 => ?_⟩
    have h10 : HB w10 b1 (g3C { s with A1 := A', n1 := (noE er x).length, c1 := c' } A2 n2 c2) 128 := h10
    have h510 := (((h5.below g7).keeps k8 (by omega)).below g9).keeps k10 (by omega)
    refine out3 h10 h510 rfl fun w11 k11 => ?_
    rw [hc, hr]
    have hb7 : Below w.heap.size w w7 := hb6.trans (g7.mono hb6.size)
    have hb8 := HB.belK hb7 k8 (by omega)
    have hb9 := hb8.trans (g9.mono hb8.size)
    have s8 := k8.size
    have s9 := g9.size
    refine ⟨{ s with A1 := A', n1 := (noE er x).length, c1 := c' }, A2, n2, c2, rfl, ?_, ?_, HB.belK (HB.belK hb9 k10 (by omega)) k11 (by omega)⟩
    · have o11 : OwnEd w11 w6.heap.size TE A' c' (noE er x) := (((o7.keeps k8 fun a ha e => by have := ob a ha; omega).keeps (S := fun _ => False) (.of_below g9) fun _ _ => id).keeps k10 fun a ha e => by have := ob a ha; omega).keeps k11 fun a ha e => by have := ob a ha; omega
      have hold : NF w11 s vr er := ((((hN.belw g7).keeps k8 fun b hn e => by have := ltN b hn; omega).belw g9).keeps k10 fun b hn e => by have := ltN b hn; omega).keeps k11 fun b hn e => by have := ltN b hn; omega
      refine ⟨hold.v, hold.nv, o11.reads, rfl, fun b hn => ?_, hold.vl, Nat.le_trans (List.length_filter_le _ _) h.el⟩
      rcases hn with hn | ⟨a, ha, rfl⟩
      · exact hold.lt b (.inl hn)
      · exact (o11.block a ha).2
    · intro b hn
      rcases hn with hn | ⟨a, ha, rfl⟩
      · exact .inl (.inl hn)
      · have := ob a ha
        exact .inr (by omega)
  · refine sel_f (by simp [qk]) (hb_ldI (j := 1) h3 rfl ((RBad_ok x w6).mono ?_))
    rintro _ wx ⟨⟨b, rfl, hbd⟩, hx⟩
    obtain rfl : w6 = wx := hx.symm
    refine ⟨b, rfl, ?_⟩
    have c1 : badI x ∨ badI u ∨ badI v → eC5 k vr er x u v = 1 := fun q => by unfold eC5 addEC; rw [if_neg qk, if_pos q]
    by_cases q1 : badI x
    · exact sel_t (hbd.2 q1) (out3 h1 h5 rfl fun w5 kk => st g0 kk (c1 (.inl q1)) (by decide))
    refine sel_f (Bool.eq_false_iff.2 fun hh => q1 (hbd.1 hh)) (hb_ldI (j := 2) h3 rfl ((RBad_ok u w6).mono ?_))
    rintro _ wx ⟨⟨b, rfl, hbd⟩, hx⟩
    obtain rfl : w6 = wx := hx.symm
    refine ⟨b, rfl, ?_⟩
    by_cases qu : badI u
    · exact sel_t (hbd.2 qu) (out3 h1 h5 rfl fun w5 kk => st g0 kk (c1 (.inr (.inl qu))) (by decide))
    refine sel_f (Bool.eq_false_iff.2 fun hh => qu (hbd.1 hh)) (hb_ldI (j := 3) h3 rfl ((RBad_ok v w6).mono ?_))
    rintro _ wx ⟨⟨b, rfl, hbd⟩, hx⟩
    obtain rfl : w6 = wx := hx.symm
    refine ⟨b, rfl, ?_⟩
    by_cases qv : badI v
    · exact sel_t (hbd.2 qv) (out3 h1 h5 rfl fun w5 kk => st g0 kk (c1 (.inr (.inr qv))) (by decide))
    refine sel_f (Bool.eq_false_iff.2 fun hh => qv (hbd.1 hh)) (hb_ldI (j := 4) h3 rfl (sel_f (by decide) (hb_ldI (j := 4) h3 rfl (sel_f (by decide) ?_))))
    have q0 : ¬ (badI x ∨ badI u ∨ badI v) := fun hh => hh.elim q1 fun hh => hh.elim qu qv
    by_cases q2 : x ∈ er.map E.id
    · rw [hisB.2 q2]
      exact sel_t rfl (out3 h1 h5 rfl fun w5 kk => st g0 kk (by unfold eC5 addEC; rw [if_neg qk, if_neg q0, if_pos q2]) (by decide))
    rw [Bool.eq_false_iff.2 fun hh => q2 (hisB.1 hh)]
    refine sel_f rfl (hb_ldS0 h1 rfl (hb_ldS (j := 1) h1 rfl (hb_ldS (j := 2) h1 rfl (hb_ldI (j := 2) h3 rfl ((HasV5_ok hN none 0 0 u).mono ?_)))))
    rintro _ w7 ⟨rfl, g7⟩
    have h17 := h1.below g7
    have h37 := h3.below g7
    have h57 := h5.below g7
    refine ⟨_, rfl, ?_⟩
    by_cases q3 : u ∉ vr
    · exact sel_t (by rw [decide_eq_false q3]; rfl) (out3 h17 h57 rfl fun w5 kk => st g7 kk (by unfold eC5 addEC; rw [if_neg qk, if_neg q0, if_neg q2, if_pos fun hh => q3 hh.1]) (by decide))
    have q3' := Classical.not_not.1 q3
    refine sel_f (by rw [decide_eq_true q3']; rfl) (hb_ldS0 h17 rfl (hb_ldS (j := 1) h17 rfl (hb_ldS (j := 2) h17 rfl (hb_ldI (j := 3) h37 rfl ((HasV5_ok (hN.belw g7) none 0 0 v).mono ?_)))))
    rintro _ w8 ⟨rfl, g8⟩
    have g68 := g7.trans (g8.mono g7.size)
    have h18 := h17.below g8
    have h38 := h37.below g8
    have h58 := h57.below g8
    refine ⟨_, rfl, ?_⟩
    by_cases q4 : v ∉ vr
    · exact sel_t (by rw [decide_eq_false q4]; rfl) (out3 h18 h58 rfl fun w5 kk => st g68 kk (by unfold eC5 addEC; rw [if_neg qk, if_neg q0, if_neg q2, if_pos fun hh => q4 hh.2]) (by decide))
    have q4' := Classical.not_not.1 q4
    refine sel_f (by rw [decide_eq_true q4']; rfl) (hb_ldS (j := 1) h18 rfl ?_)
    by_cases q5 : 2048 ≤ er.length
    · exact sel_t (by rw [h.ne]; simp; omega) (out3 h18 h58 rfl fun w5 kk => st g68 kk (by unfold eC5 addEC; rw [if_neg qk, if_neg q0, if_neg q2, if_neg (fun hh => hh ⟨q3', q4'⟩), if_pos q5]) (by decide))
    have hc0 : addEC vr er x u v = 0 := by unfold addEC; rw [if_neg q0, if_neg q2, if_neg (fun hh => hh ⟨q3', q4'⟩), if_neg q5]
    have hc : eC5 k vr er x u v = 0 := by unfold eC5; rw [if_neg qk]; exact hc0
    have hr : eR5 k vr er x u v = insE er ⟨x, u, v, 0⟩ := by unfold eR5; rw [if_neg qk, if_pos hc0]
    refine sel_f (by rw [h.ne]; simp; omega) (hb_ldS (j := 1) h18 rfl (hb_ldI (j := 1) h38 rfl (hb_ldI (j := 2) h38 rfl (hb_ldI (j := 3) h38 rfl (hb_ldI (j := 4) h38 rfl ((withEdge_ok (hN.belw g68).e h.ne (by omega) ⟨x, u, v, 0⟩).mono ?_))))))
    rintro _ w9 ⟨A', c', rfl, o9, g9⟩
    refine ⟨_, _, _, rfl, hb_st (j := 1) (h18.below g9) (by show 1 < 3; omega) fun w10 h10 k10 => ?_⟩
    have h10 : HB w10 b1 (g3C { s with A1 := A', n1 := (insE er ⟨x, u, v, 0⟩).length, c1 := c' } none 0 0) 128 := h10
    have ob : ∀ a, A' = some a → w8.heap.size ≤ a.block ∧ a.block < w9.heap.size := o9.block
    have s8 := g68.size
    have s9 := g9.size
    refine out3 h10 ((h58.below g9).keeps k10 (by omega)) rfl fun w11 k11 => ?_
    rw [hc, hr]
    have hb8 : Below w.heap.size w w8 := hb6.trans (g68.mono hb6.size)
    have hb9 := hb8.trans (g9.mono hb8.size)
    refine ⟨{ s with A1 := A', n1 := (insE er ⟨x, u, v, 0⟩).length, c1 := c' }, none, 0, 0, rfl, ?_, ?_, HB.belK (HB.belK hb9 k10 (by omega)) k11 (by omega)⟩
    · have o11 : OwnEd w11 w8.heap.size TE A' c' (insE er ⟨x, u, v, 0⟩) := (o9.keeps k10 fun a ha e => by have := ob a ha; omega).keeps k11 fun a ha e => by have := ob a ha; omega
      have hold : NF w11 s vr er := (((hN.belw g68).belw g9).keeps k10 fun b hn e => by have := ltN b hn; omega).keeps k11 fun b hn e => by have := ltN b hn; omega
      refine ⟨hold.v, hold.nv, o11.reads, rfl, fun b hn => ?_, hold.vl, by rw [(insE_perm er _).length_eq]; simp; omega⟩
      rcases hn with hn | ⟨a, ha, rfl⟩
      · exact hold.lt b (.inl hn)
      · exact (o11.block a ha).2
    · intro b hn
      rcases hn with hn | ⟨a, ha, rfl⟩
      · exact .inl (.inl hn)
      · have := ob a ha
        exact .inr (by omega)
end
def dC (k : Int) (vr : List Int) (er : List E) (x u v : Int) : Int := if k ≤ 2 then vC k vr er x else eC5 k vr er x u v
def dV (k : Int) (vr : List Int) (er : List E) (x : Int) : List Int := if k ≤ 2 then vR k vr er x else vr
def dE (k : Int) (vr : List Int) (er : List E) (x u v : Int) : List E := if k ≤ 2 then er else eR5 k vr er x u v
theorem getW {w : World} {b : Nat} {t : TypeId} {k x u v wt : Int} (h : HB w b (wC k x u v wt) t) {K : Int → Int → Int → Int → Int → Bool → Int → ByteArray → Int → Int → Nat → Nat → Option Addr → Nat → Nat → Prop} (hk : K k x u v wt false 0 ByteArray.empty 0 0 0 0 none 0 0) :
    ldI w (⟨b, 0, none⟩ : Addr) .i64 fun x11 =>
    ldI w ((⟨b, 0, none⟩ : Addr).add 1) .i64 fun x12 =>
    ldI w ((⟨b, 0, none⟩ : Addr).add 2) .i64 fun x13 =>
    ldI w ((⟨b, 0, none⟩ : Addr).add 3) .i64 fun x14 =>
    ldI w ((⟨b, 0, none⟩ : Addr).add 4) .i64 fun x15 =>
    ldB w ((⟨b, 0, none⟩ : Addr).add 5) fun b16 =>
    ldI w ((⟨b, 0, none⟩ : Addr).add 6) .i64 fun x17 =>
    ldT w ((⟨b, 0, none⟩ : Addr).add 7) fun s18 =>
    ldI w ((⟨b, 0, none⟩ : Addr).add 8) .i64 fun x19 =>
    ldI w ((⟨b, 0, none⟩ : Addr).add 9) .i64 fun x20 =>
    ldC w ((⟨b, 0, none⟩ : Addr).add 10) .f64 fun r21 i21 =>
    ldS w ((⟨b, 0, none⟩ : Addr).add 11) fun A22 n22 c22 => K x11 x12 x13 x14 x15 b16 x17 s18 x19 x20 r21 i21 A22 n22 c22 :=
  hb_ldI0 h rfl (hb_ldI (j := 1) h rfl (hb_ldI (j := 2) h rfl (hb_ldI (j := 3) h rfl (hb_ldI (j := 4) h rfl ⟨_, (h.cell 5).trans rfl, hb_ldI (j := 6) h rfl ⟨_, (h.cell 7).trans rfl, hb_ldI (j := 8) h rfl (hb_ldI (j := 9) h rfl ⟨_, _, (h.cell 10).trans rfl, hb_ldS (j := 11) h rfl hk⟩)⟩⟩))))
theorem get3 {w : World} {b1 : Nat} {t1 : TypeId} {s : NS} {A : Option Addr} {n c : Nat} (h1 : HB w b1 (g3C s A n c) t1) {K : Option Addr → Nat → Nat → Option Addr → Nat → Nat → Option Addr → Nat → Nat → Prop} (hk : K s.A0 s.n0 s.c0 s.A1 s.n1 s.c1 A n c) :
    ldS w (⟨b1, 0, Option.none⟩ : Addr) fun A11 n11 c11 =>
    ldS w ((⟨b1, 0, Option.none⟩ : Addr).add 1) fun A12 n12 c12 =>
    ldS w ((⟨b1, 0, Option.none⟩ : Addr).add 2) fun A13 n13 c13 => K A11 n11 c11 A12 n12 c12 A13 n13 c13 :=
  hb_ldS0 h1 rfl (hb_ldS (j := 1) h1 rfl (hb_ldS (j := 2) h1 rfl hk))
theorem put3 {w : World} {b5 : Nat} {t5 : TypeId} {cs : Array Value} (s : NS) (A : Option Addr) (n c : Nat) (h5 : HB w b5 cs t5) (hc : cs.size = 3) {K : World → Prop} (hk : ∀ w', HB w' b5 (g3C s A n c) t5 → Keeps (fun k => k = b5) w w' → K w') :
    stW w (⟨b5, 0, Option.none⟩ : Addr) (.slice s.A0 s.n0 s.c0) fun w14 =>
    stW w14 ((⟨b5, 0, Option.none⟩ : Addr).add 1) (.slice s.A1 s.n1 s.c1) fun w15 =>
    stW w15 ((⟨b5, 0, Option.none⟩ : Addr).add 2) (.slice A n c) K := by
  refine hb_st0 h5 (by omega) fun w1 h1 k1 => hb_st (j := 1) h1 (by simp; omega) fun w2 h2 k2 => hb_st (j := 2) h2 (by simp; omega) fun w3 h3 k3 => ?_
  have e : ((cs.setIfInBounds 0 (.slice s.A0 s.n0 s.c0)).setIfInBounds 1 (.slice s.A1 s.n1 s.c1)).setIfInBounds 2 (.slice A n c) = g3C s A n c := by
    obtain ⟨l⟩ := cs
    match l, hc with
    | [_, _, _], _ => rfl
  rw [e] at h3
  exact hk w3 h3 ((k1.trans k2).trans k3)
theorem get2 {w : World} {b1 : Nat} {t1 : TypeId} {s : NS} (h1 : HB w b1 (nsC s) t1) {K : Option Addr → Nat → Nat → Option Addr → Nat → Nat → Prop} (hk : K s.A0 s.n0 s.c0 s.A1 s.n1 s.c1) :
    ldS w (⟨b1, 0, Option.none⟩ : Addr) fun A11 n11 c11 =>
    ldS w ((⟨b1, 0, Option.none⟩ : Addr).add 1) fun A12 n12 c12 => K A11 n11 c11 A12 n12 c12 :=
  hb_ldS0 h1 rfl (hb_ldS (j := 1) h1 rfl hk)
theorem put2 {w : World} {b5 : Nat} {t5 : TypeId} {cs : Array Value} (s : NS) (h5 : HB w b5 cs t5) (hc : cs.size = 2) {K : World → Prop} (hk : ∀ w', HB w' b5 (nsC s) t5 → Keeps (fun k => k = b5) w w' → K w') :
    stW w (⟨b5, 0, Option.none⟩ : Addr) (.slice s.A0 s.n0 s.c0) fun w14 =>
    stW w14 ((⟨b5, 0, Option.none⟩ : Addr).add 1) (.slice s.A1 s.n1 s.c1) K := by
  refine hb_st0 h5 (by omega) fun w1 h1 k1 => hb_st (j := 1) h1 (by simp; omega) fun w2 h2 k2 => ?_
  have e : (cs.setIfInBounds 0 (.slice s.A0 s.n0 s.c0)).setIfInBounds 1 (.slice s.A1 s.n1 s.c1) = nsC s := by
    obtain ⟨l⟩ := cs
    match l, hc with
    | [_, _], _ => rfl
  rw [e] at h2
  exact hk w2 h2 (k1.trans k2)
section
variable {w w' : World} {s : NS} {vr : List Int} {er : List E}
theorem Do5_ok (h : NF w s vr er) {k : Int} (hk : k = 1 ∨ k = 2 ∨ k = 3 ∨ k = 4) (x u v : Int) :
    Calls Tryz.prog 75 #[.agg (g3C s none 0 0), .agg (wC k x u v 0)] w fun e w' => WR w w' s (dV k vr er x) (dE k vr er x u v) (dC k vr er x u v) e := by
  apply f_ref05_Do.ok
  unfold f_ref05_Do.wp
  refine al_new fun w1 b1 e1 z1 h1 g1 => al_new fun w2 b3 e3 z3 h3 g2 => al_new fun w3 b5 e5 z5 h5 g3 => ?_
  have s1 := g1.size
  have hb : Below w.heap.size w w3 := (g1.trans (g2.mono s1)).trans (g3.mono (by omega))
  have h1 : HB w3 b1 (g3C s none 0 0) 128 := (h1.below g2).below g3
  have h3 : HB w3 b3 (wC k x u v 0) 94 := h3.below g3
  have hN := h.belw hb
  have ltN := h.lt
  have hbs := hb.size
  have fin : ∀ {w4 w5 : World} {vr' : List Int} {er' : List E} {c : Int} {s' : NS} {A : Option Addr} {n cc : Nat}, vr' = dV k vr er x → er' = dE k vr er x u v → c = dC k vr er x u v → NF w4 s' vr' er' → Sn w3 s s' → Below w3.heap.size w3 w4 → Keeps (fun k => k = b5) w4 w5 → WR w w5 s (dV k vr er x) (dE k vr er x u v) (dC k vr er x u v) (.returned (.tuple #[.agg (g3C s' A n cc), .int .i64 c])) := by
    intro w4 w5 vr' er' c s' A n cc e1 e2 e3 hN' hS g kk
    rw [← e1, ← e2, ← e3]
    have hb4 := hb.trans (g.mono hbs)
    refine ⟨s', A, n, cc, rfl, hN'.keeps kk fun b hn e => ?_, fun b hn => ?_, HB.belK hb4 kk (by omega)⟩
    · rcases hS b hn with q | q
      · have := ltN b q; omega
      · omega
    · rcases hS b hn with q | q
      · exact .inl q
      · exact .inr (by omega)
  refine hb_ldI0 h3 rfl ?_
  have vtx : ∀ (Kn : World → Prop) (Kr : Int → World → Prop), k ≤ 2 → (∀ w5 s' A n cc, HB w5 b5 (g3C s' A n cc) 128 → WR w w5 s (dV k vr er x) (dE k vr er x u v) (dC k vr er x u v) (.returned (.tuple #[.agg (g3C s' A n cc), .int .i64 (vC k vr er x)])) → Kr (vC k vr er x) w5) → f_ref05_Do.j0 (⟨b1, 0, none⟩ : Addr) (⟨b3, 0, none⟩ : Addr) (⟨b5, 0, none⟩ : Addr) k true w3 Kn Kr := by
    intro Kn Kr hk2 hR
    unfold f_ref05_Do.j0
    refine sel_t rfl (get3 h1 (getW h3 ((vertex_ok hN k x u v 0).mono ?_)))
    rintro _ w4 ⟨s', A, n, cc, rfl, hN', hS, g⟩
    refine ⟨_, _, _, _, _, _, _, _, _, _, rfl, put3 s' A n cc (h5.below g) rfl fun w5 h5' k5 => ?_⟩
    exact hR w5 s' A n cc h5' (fin (by unfold dV; rw [if_pos hk2]) (by unfold dE; rw [if_pos hk2]) (by unfold dC; rw [if_pos hk2]) hN' hS g k5)
  have edg : ∀ (Kn : World → Prop) (Kr : Int → World → Prop), ¬ k ≤ 2 → (∀ w5 s' A n cc, HB w5 b5 (g3C s' A n cc) 128 → WR w w5 s (dV k vr er x) (dE k vr er x u v) (dC k vr er x u v) (.returned (.tuple #[.agg (g3C s' A n cc), .int .i64 (eC5 k vr er x u v)])) → Kr (eC5 k vr er x u v) w5) → f_ref05_Do.j1 (⟨b1, 0, none⟩ : Addr) (⟨b3, 0, none⟩ : Addr) (⟨b5, 0, none⟩ : Addr) k true w3 Kn Kr := by
    intro Kn Kr hk2 hR
    unfold f_ref05_Do.j1
    refine sel_t rfl (get3 h1 (getW h3 ((edge_ok hN k x u v).mono ?_)))
    rintro _ w4 ⟨s', A, n, cc, rfl, hN', hS, g⟩
    refine ⟨_, _, _, _, _, _, _, _, _, _, rfl, put3 s' A n cc (h5.below g) rfl fun w5 h5' k5 => ?_⟩
    exact hR w5 s' A n cc h5' (fin (by unfold dV; rw [if_neg hk2]) (by unfold dE; rw [if_neg hk2]) (by unfold dC; rw [if_neg hk2]) hN' hS g k5)
  rcases hk with rfl | rfl | rfl | rfl
  · refine sel_t (by decide) (vtx _ _ (by decide) fun w5 s' A n cc h5' hr _ => get3 h5' hr)
  · refine sel_f (by decide) (vtx _ _ (by decide) fun w5 s' A n cc h5' hr _ => get3 h5' hr)
  · refine sel_f (by decide) ?_
    unfold f_ref05_Do.j0
    exact sel_f (by decide) (sel_t (by decide) (edg _ _ (by decide) fun w5 s' A n cc h5' hr _ _ => get3 h5' hr))
  · refine sel_f (by decide) ?_
    unfold f_ref05_Do.j0
    exact sel_f (by decide) (sel_f (by decide) (edg _ _ (by decide) fun w5 s' A n cc h5' hr _ _ => get3 h5' hr))
theorem Net_ok (w : World) (s : NS) (A : Option Addr) (n c : Nat) : Calls Tryz.prog 76 #[.agg (g3C s A n c)] w fun e w' => e = .returned (.agg (nsC s)) ∧ Below w.heap.size w w' := by
  apply f_ref05_Net.ok
  unfold f_ref05_Net.wp
  refine al_new fun w1 b1 e1 z1 h1 g1 => al_new fun w2 b3 e3 z3 h3 g2 => ?_
  have h1 : HB w2 b1 (g3C s A n c) 128 := h1.below g2
  refine hb_ldS0 h1 rfl (hb_ldS (j := 1) h1 rfl (put2 s h3 rfl fun w3 h3' k3 => get2 h3' ⟨rfl, ?_⟩))
  exact HB.belK (g1.trans (g2.mono g1.size)) k3 (by have := g1.size; omega)
def WN (w0 w : World) (s : NS) (vr : List Int) (er : List E) (code : Int) (e : Ending) : Prop := ∃ s', e = .returned (.tuple #[.agg (nsC s'), .int .i64 code]) ∧ NF w s' vr er ∧ Sn w0 s s' ∧ Below w0.heap.size w0 w
theorem write_ok (h : NF w s vr er) {k : Int} (hk : k = 1 ∨ k = 2 ∨ k = 3 ∨ k = 4) (x u v : Int) :
    Calls Tryz.prog 46 #[.agg (nsC s), .agg (wC k x u v 0)] w fun e w' => WN w w' s (dV k vr er x) (dE k vr er x u v) (dC k vr er x u v) e := by
  apply f_ref18_write.ok
  unfold f_ref18_write.wp
  refine al_new fun w1 b1 e1 z1 h1 g1 => al_new fun w2 b3 e3 z3 h3 g2 => al_new fun w3 b5 e5 z5 h5 g3 => ?_
  have s1 := g1.size
  have hb : Below w.heap.size w w3 := (g1.trans (g2.mono s1)).trans (g3.mono (by omega))
  have h1 : HB w3 b1 (nsC s) 29 := (h1.below g2).below g3
  have h3 : HB w3 b3 (wC k x u v 0) 94 := h3.below g3
  have hN := h.belw hb
  have ltN := h.lt
  have hbs := hb.size
  refine get2 h1 (getW h3 ((Do5_ok hN hk x u v).mono ?_))
  rintro _ w4 ⟨s', A, n, cc, rfl, hN', hS, g⟩
  refine ⟨_, _, _, _, _, _, _, _, _, _, rfl, al_new fun w5 b24 e24 z24 h24 g5 => ?_⟩
  have s4 := g.size
  refine put3 s' A n cc h24 rfl fun w6 h6 k6 => get3 h6 ((Net_ok w6 s' A n cc).mono ?_)
  rintro _ w7 ⟨rfl, g7⟩
  have s6 := k6.size
  have h57 := (((h5.below g).below g5).keeps k6 (by omega)).below g7
  have sz7 := g7.size
  refine ⟨_, _, _, _, _, _, rfl, put2 s' h57 rfl fun w8 h8 k8 => get2 h8 ?_⟩
  have hb4 := hb.trans (g.mono hbs)
  have hb5 := hb4.trans (g5.mono hb4.size)
  have hb6 := HB.belK hb5 k6 (by omega)
  have hb7 := hb6.trans (g7.mono hb6.size)
  have old : ∀ {b}, Nb s' b → b < w4.heap.size ∧ b ≠ b5 := fun {b} hn => by
    have h1 := hN'.lt b hn
    refine ⟨h1, fun e => ?_⟩
    rcases hS b hn with q | q
    · have := ltN b q; omega
    · omega
  refine ⟨s', rfl, ?_, fun b hn => ?_, HB.belK hb7 k8 (by omega)⟩
  · refine (((hN'.belw g5).keeps k6 fun b hn e => by have := (old hn).1; omega).belw g7).keeps k8 fun b hn e => (old hn).2 e
  · rcases hS b hn with q | q
    · exact .inl q
    · exact .inr (by omega)
end
def addEr (vr : List Int) (er : List E) (id u v : Int) : List E := if addEC vr er id u v = 0 then insE er ⟨id, u, v, 0⟩ else er
section
variable {w w' : World} {s : NS} {vr : List Int} {er : List E}
theorem WN.thru {w0 w3 w4 w5 : World} {s : NS} {vr : List Int} {er : List E} {c : Int} {s' : NS} {b : Nat} (hb : Below w0.heap.size w0 w3) (hN : NF w4 s' vr er) (hS : Sn w3 s s') (g : Below w3.heap.size w3 w4) (k : Keeps (fun k => k = b) w4 w5) (hb0 : w0.heap.size ≤ b) (hbl : b < w3.heap.size) (ltN : ∀ k, Nb s k → k < w0.heap.size) : WN w0 w5 s vr er c (.returned (.tuple #[.agg (nsC s'), .int .i64 c])) := by
  have hbs := hb.size
  have hb4 := hb.trans (g.mono hbs)
  refine ⟨s', rfl, hN.keeps k fun b' hn e => ?_, fun b' hn => ?_, HB.belK hb4 k hb0⟩
  · rcases hS b' hn with q | q
    · have := ltN b' q; omega
    · omega
  · rcases hS b' hn with q | q
    · exact .inl q
    · exact .inr (by omega)
theorem AddV18_ok (h : NF w s vr er) (x : Int) : Calls Tryz.prog 24 #[.agg (nsC s), .int .i64 x] w fun e w' => WN w w' s (addVr vr x) er (addVC vr x) e := by
  apply f_ref18_AddV.ok
  unfold f_ref18_AddV.wp
  refine al_new fun w1 b1 e1 z1 h1 g1 => al_new fun w2 b3 e3 z3 h3 g2 => ?_
  have h1 : HB w2 b1 (nsC s) 29 := h1.below g2
  have hb := g1.trans (g2.mono g1.size)
  have hbs := g1.size
  refine get2 h1 ((write_ok (h.belw hb) (k := 1) (.inl rfl) x 0 0).mono ?_)
  rintro _ w3 ⟨s', rfl, hN', hS, g⟩
  have s3 := g.size
  refine ⟨_, _, _, _, _, _, _, rfl, put2 s' (h3.below g) rfl fun w4 h4 k4 => get2 h4 ?_⟩
  exact WN.thru hb hN' hS g k4 (by omega) (by omega) h.lt
theorem DelV18_ok (h : NF w s vr er) (x : Int) : Calls Tryz.prog 25 #[.agg (nsC s), .int .i64 x] w fun e w' => WN w w' s (delVr vr er x) er (delVC vr er x) e := by
  apply f_ref18_DelV.ok
  unfold f_ref18_DelV.wp
  refine al_new fun w1 b1 e1 z1 h1 g1 => al_new fun w2 b3 e3 z3 h3 g2 => ?_
  have h1 : HB w2 b1 (nsC s) 29 := h1.below g2
  have hb := g1.trans (g2.mono g1.size)
  have hbs := g1.size
  refine get2 h1 ((write_ok (h.belw hb) (k := 2) (.inr (.inl rfl)) x 0 0).mono ?_)
  rintro _ w3 ⟨s', rfl, hN', hS, g⟩
  have s3 := g.size
  refine ⟨_, _, _, _, _, _, _, rfl, put2 s' (h3.below g) rfl fun w4 h4 k4 => get2 h4 ?_⟩
  exact WN.thru hb hN' hS g k4 (by omega) (by omega) h.lt
theorem AddE18_ok (h : NF w s vr er) (x u v : Int) : Calls Tryz.prog 26 #[.agg (nsC s), .agg (eC ⟨x, u, v, 0⟩)] w fun e w' => WN w w' s vr (addEr vr er x u v) (addEC vr er x u v) e := by
  apply f_ref18_AddE.ok
  unfold f_ref18_AddE.wp
  refine al_new fun w1 b1 e1 z1 h1 g1 => al_new fun w2 b3 e3 z3 h3 g2 => al_new fun w2' b5 e5 z5 h5 g2' => ?_
  have hbs := g1.size
  have h1 : HB w2' b1 (nsC s) 29 := (h1.below g2).below g2'
  have h3 : HB w2' b3 (eC ⟨x, u, v, 0⟩) TE := h3.below g2'
  have hb := (g1.trans (g2.mono hbs)).trans (g2'.mono (by omega))
  refine get2 h1 (getE h3 ((write_ok (h.belw hb) (k := 3) (.inr (.inr (.inl rfl))) x u v).mono ?_))
  rintro _ w3 ⟨s', rfl, hN', hS, g⟩
  have s3 := g.size
  refine ⟨_, _, _, _, _, _, _, rfl, put2 s' (h5.below g) rfl fun w4 h4 k4 => get2 h4 ?_⟩
  exact WN.thru hb hN' hS g k4 (by omega) (by omega) h.lt
theorem DelE18_ok (h : NF w s vr er) (x : Int) : Calls Tryz.prog 27 #[.agg (nsC s), .int .i64 x] w fun e w' => WN w w' s vr (cutEr er x) (cutC er x) e := by
  apply f_ref18_DelE.ok
  unfold f_ref18_DelE.wp
  refine al_new fun w1 b1 e1 z1 h1 g1 => al_new fun w2 b3 e3 z3 h3 g2 => ?_
  have h1 : HB w2 b1 (nsC s) 29 := h1.below g2
  have hb := g1.trans (g2.mono g1.size)
  have hbs := g1.size
  refine get2 h1 ((write_ok (h.belw hb) (k := 4) (.inr (.inr (.inr rfl))) x 0 0).mono ?_)
  rintro _ w3 ⟨s', rfl, hN', hS, g⟩
  have s3 := g.size
  refine ⟨_, _, _, _, _, _, _, rfl, al_new fun w4 b10 e10 z10 h10 g4 => put2 s' h10 rfl fun w5 h5 k5 => ?_⟩
  have g35 : Below w2.heap.size w2 w5 := (g.trans (g4.mono s3)).trans (k5.below (by omega) fun k hk e => by omega)
  have hN5 : NF w5 s' vr (dE 4 vr er x 0 0) := (hN'.belw g4).keeps k5 fun b hn e => by have := hN'.lt b hn; omega
  have h15 := h1.below g35
  have h35 := h3.below g35
  have ed : dC 4 vr er x 0 0 = if badI x then 1 else if x ∉ er.map E.id then 51 else 0 := rfl
  have er' : dE 4 vr er x 0 0 = cutEr er x := rfl
  rw [er'] at hN5
  rw [ed]
  have ltN := h.lt
  by_cases q : x ∉ er.map E.id ∧ ¬ badI x
  · rw [if_neg q.2, if_pos q.1]
    have hc : cutC er x = 152 := by unfold cutC; rw [if_neg q.2, if_pos q.1]
    have hr : cutEr er x = er := by unfold cutEr; rw [hc]; rfl
    refine sel_t (by decide) (get2 h15 (put2 s h35 rfl fun w6 h6 k6 => get2 h6 ?_))
    rw [hc, hr]
    exact WN.thru hb ((h.belw hb).belw g35) (Sn.refl _ _) g35 k6 (by omega) (by omega) h.lt
  · have e1 : (if badI x then (1 : Int) else if x ∉ er.map E.id then 51 else 0) = cutC er x := by
      unfold cutC
      by_cases q1 : badI x
      · rw [if_pos q1, if_pos q1]
      · have q2 : ¬ x ∉ er.map E.id := fun hh => q ⟨hh, q1⟩
        rw [if_neg q1, if_neg q1, if_neg q2, if_neg q2]
    rw [e1]
    have hne : cutC er x ≠ 51 := by
      unfold cutC
      by_cases q1 : badI x
      · rw [if_pos q1]; decide
      · have q2 : ¬ x ∉ er.map E.id := fun hh => q ⟨hh, q1⟩
        rw [if_neg q1, if_neg q2]; decide
    refine sel_f (by simpa using hne) (get2 h5 (put2 s' h35 rfl fun w6 h6 k6 => get2 h6 ?_))
    exact WN.thru hb hN5 hS g35 k6 (by omega) (by omega) h.lt
end
structure PX (w0 w : World) (O : Ow) (s : HS) (N : Nat) : Prop where
  hg : HG w O s N
  lo : ∀ k, O k ≠ none → w0.heap.size ≤ k
  bel : Below w0.heap.size w0 w
theorem UH.non {O O' : Ow} {w w' : World} (u : UH O w O' w') {b : Nat} (h : O b = none) (hl : b < w.heap.size) : O' b = none := by
  apply Classical.byContradiction
  intro hh
  rcases u.fr b hh with q | q
  · exact q h
  · omega
theorem UH.hb {O O' : Ow} {w w' : World} (u : UH O w O' w') {b : Nat} {cs : Array Value} {t : TypeId} (h : HB w b cs t) (hO : O b = none) : HB w' b cs t := h.keeps u.kp fun hk => hk hO
structure PV (w : World) (O : Ow) (ns : NS) (vr : List Int) (er : List E) : Prop where
  nf : NF w ns vr er
  fr : ∀ b, Nb ns b → O b = none
section
variable {w0 w w' : World} {O O' : Ow} {s s' : HS} {N N' : Nat} {ns ns' : NS} {vr vr' : List Int} {er er' : List E}
theorem PX.call (p : PX w0 w O s N) (h : HG w' O' s' N') (u : UH O w O' w') : PX w0 w' O' s' N' :=
  ⟨h, fun k hk => (u.fr k hk).elim (p.lo k) fun q => Nat.le_trans p.bel.size q, p.bel.trans (u.kp.below p.bel.size fun k hk hh => by have := p.lo k hh; omega)⟩
theorem PX.below (p : PX w0 w O s N) (g : Below w.heap.size w w') : PX w0 w' O s N := ⟨p.hg.below g, p.lo, p.bel.trans (g.mono p.bel.size)⟩
theorem PX.fresh (p : PX w0 w O s N) {b : Nat} (h : w.heap.size ≤ b) : O b = none := by
  cases q : O b with
  | none => rfl
  | some t => have := p.hg.hm.dom b t q; omega
theorem PX.other (p : PX w0 w O s N) {S : Nat → Prop} (k : Keeps S w w') (h1 : ∀ b, S b → O b = none) (h2 : ∀ b, S b → w0.heap.size ≤ b) : PX w0 w' O s N :=
  ⟨⟨p.hg.hm.other k fun b t hb hs => (by rw [h1 b hs] at hb; cases hb), p.hg.ws, p.hg.ni, p.hg.core, p.hg.sp, p.hg.dg, p.hg.el, p.hg.L⟩, p.lo, p.bel.trans (k.below p.bel.size fun b hb hs => by have := h2 b hs; omega)⟩
theorem PV.call (v : PV w O ns vr er) (u : UH O w O' w') : PV w' O' ns vr er :=
  ⟨v.nf.keeps u.kp fun b hb hk => hk (v.fr b hb), fun b hb => u.non (v.fr b hb) (v.nf.lt b hb)⟩
theorem PV.below (v : PV w O ns vr er) (g : Below w.heap.size w w') : PV w' O ns vr er := ⟨v.nf.belw g, v.fr⟩
theorem PV.net (v : PV w O ns vr er) (p : PX w0 w O s N) (h : NF w' ns' vr' er') (hS : Sn w ns ns') : PV w' O ns' vr' er' := ⟨h, fun b hb => (hS b hb).elim (v.fr b) fun q => p.fresh q⟩
theorem new_st (hb : Below w0.heap.size w0 w) {A : Option Addr} {sl : List Int} {n c : Nat} (hr : RI w A sl) (hn : n = sl.length) (hc0 : A = none → sl.length = 0 ∧ c = 0) (hlen : sl.length ≤ 17592186044416) {Q : Option Addr → World → Prop} (hQ : ∀ w' O s, PX w0 w' O s 0 → s.vs = [] → s.ab.sk = [] → Below w.heap.size w w' → (∀ k, O k ≠ none → w.heap.size ≤ k) → Q (some ⟨s.G, 0, none⟩) w') :
    Calls Tryz.prog 8 #[.slice A n c] w fun e w' => ∃ p : Option Addr, e = .returned (.pointer p) ∧ Q p w' := by
  refine (New_hg hr hn hc0 hlen).mono ?_
  rintro _ w' ⟨O, s, rfl, h, h1, h2, h3, g⟩
  exact ⟨_, rfl, hQ w' O s ⟨h, fun k hk => Nat.le_trans hb.size (h3 k hk), hb.trans (g.mono hb.size)⟩ h1 h2 g h3⟩
theorem addV_st (p : PX w0 w O s N) (hN : N < LB) {v : Int} (hv : W64 v) {Q : Int → World → Prop} (hQ : ∀ w' O' s', PX w0 w' O' s' N → UH O w O' w' → s'.G = s.G → s'.vs = addVr s.vs v → s'.ab.sk = s.ab.sk → Q (addVC s.vs v) w') :
    Calls Tryz.prog 28 #[.pointer (some ⟨s.G, 0, none⟩), .int .i64 v] w fun e w' => ∃ x : Int, e = .returned (.int .i64 x) ∧ Q x w' := by
  refine (AddV_hg p.hg hN hv).mono ?_
  rintro _ w' ⟨O', s', rfl, h, u, e1, e2, e3⟩
  exact ⟨_, rfl, hQ w' O' s' (p.call h u) u e1 e2 e3⟩
theorem delV_st (p : PX w0 w O s N) (hN : N < LB) {v : Int} (hv : W64 v) {Q : Int → World → Prop} (hQ : ∀ w' O' s', PX w0 w' O' s' N → UH O w O' w' → s'.G = s.G → s'.vs = delVr s.vs s.ab.sk v → s'.ab.sk = s.ab.sk → Q (delVC s.vs s.ab.sk v) w') :
    Calls Tryz.prog 33 #[.pointer (some ⟨s.G, 0, none⟩), .int .i64 v] w fun e w' => ∃ x : Int, e = .returned (.int .i64 x) ∧ Q x w' := by
  refine (DelV_hg p.hg hN hv).mono ?_
  rintro _ w' ⟨O', s', rfl, h, u, e1, e2, e3⟩
  exact ⟨_, rfl, hQ w' O' s' (p.call h u) u e1 e2 e3⟩
theorem addE_st (p : PX w0 w O s N) (hN : N < LB) {id u v : Int} (hid : W64 id) (hu : W64 u) (hv : W64 v) {Q : Int → World → Prop} (hQ : ∀ w' O' s', PX w0 w' O' s' N → UH O w O' w' → s'.G = s.G → s'.vs = s.vs → s'.ab.sk = (if addEC s.vs s.ab.sk id u v = 0 then s.ab.sk ++ [⟨id, u, v, 0⟩] else s.ab.sk) → Q (addEC s.vs s.ab.sk id u v) w') :
    Calls Tryz.prog 18 #[.pointer (some ⟨s.G, 0, none⟩), .int .i64 id, .int .i64 u, .int .i64 v] w fun e w' => ∃ x : Int, e = .returned (.int .i64 x) ∧ Q x w' := by
  refine (AddE_hg p.hg hN hid hu hv).mono ?_
  rintro _ w' ⟨O', s', rfl, h, u, e1, e2, e3⟩
  exact ⟨_, rfl, hQ w' O' s' (p.call h u) u e1 e2 e3⟩
theorem delE_st (p : PX w0 w O s N) (hN : N + 2 < LB) {id : Int} (hid : W64 id) {Q : Int → World → Prop} (hQ : ∀ w' O' s', PX w0 w' O' s' (N + 1) → UH O w O' w' → s'.G = s.G → s'.vs = s.vs → s'.ab.sk = cutEr s.ab.sk id → Q (cutC s.ab.sk id) w') :
    Calls Tryz.prog 23 #[.pointer (some ⟨s.G, 0, none⟩), .int .i64 id] w fun e w' => ∃ x : Int, e = .returned (.int .i64 x) ∧ Q x w' := by
  refine (DelE_hg p.hg hN hid).mono ?_
  rintro _ w' ⟨O', s', rfl, h, u, e1, e2, e3⟩
  exact ⟨_, rfl, hQ w' O' s' (p.call h u) u e1 e2 e3⟩
theorem len_st (p : PX w0 w O s N) {Q : Int → Int → World → Prop} (hQ : ∀ w', PX w0 w' O s N → Below w.heap.size w w' → Q (s.vs.length : Int) (s.ab.sk.length : Int) w') :
    Calls Tryz.prog 11 #[.pointer (some ⟨s.G, 0, none⟩)] w fun e w' => ∃ (x y : Int), e = .returned (.tuple #[.int .i64 x, .int .i64 y]) ∧ Q x y w' := by
  refine (Len_hg p.hg).mono ?_
  rintro _ w' ⟨rfl, h, g⟩
  exact ⟨_, _, rfl, hQ w' (p.below g) g⟩
theorem trees_st (p : PX w0 w O s N) {Q : Int → World → Prop} (hQ : ∀ w', PX w0 w' O s N → Below w.heap.size w w' → Q ((reps s.vs s.ab.sk).length : Int) w') :
    Calls Tryz.prog 12 #[.pointer (some ⟨s.G, 0, none⟩)] w fun e w' => ∃ x : Int, e = .returned (.int .i64 x) ∧ Q x w' := by
  refine (Trees_hg p.hg).mono ?_
  rintro _ w' ⟨rfl, h, g⟩
  exact ⟨_, rfl, hQ w' (p.below g) g⟩
open Classical in
theorem joined_st (p : PX w0 w O s N) (hN : N < LB) {u v : Int} (hu : W64 u) (hv : W64 v) {Q : Bool → Int → World → Prop} (hQ : ∀ w' b, PX w0 w' O s N → Below w.heap.size w w' → (b = true ↔ u ∈ s.vs ∧ v ∈ s.vs ∧ Cn s.ab.sk u v) → Q b (if u ∈ s.vs ∧ v ∈ s.vs then 0 else 51) w') :
    Calls Tryz.prog 16 #[.pointer (some ⟨s.G, 0, none⟩), .int .i64 u, .int .i64 v] w fun e w' => ∃ (b : Bool) (x : Int), e = .returned (.tuple #[.bool b, .int .i64 x]) ∧ Q b x w' := by
  refine (Joined_hg p.hg hN hu hv).mono ?_
  rintro _ w' ⟨rfl, h, g⟩
  exact ⟨_, _, rfl, hQ w' _ (p.below g) g decide_eq_true_iff⟩
theorem size_st (p : PX w0 w O s N) (hN : N < LB) {u : Int} (hu : W64 u) {Q : Int → Int → World → Prop} (hQ : ∀ w', PX w0 w' O s N → Below w.heap.size w w' → Q (if u ∈ s.vs then ((cmpV s.vs s.ab.sk u).length : Int) else 0) (if u ∈ s.vs then 0 else 51) w') :
    Calls Tryz.prog 29 #[.pointer (some ⟨s.G, 0, none⟩), .int .i64 u] w fun e w' => ∃ (x y : Int), e = .returned (.tuple #[.int .i64 x, .int .i64 y]) ∧ Q x y w' := by
  refine (Size_hg p.hg hN hu).mono ?_
  rintro _ w' ⟨rfl, h, g⟩
  exact ⟨_, _, rfl, hQ w' (p.below g) g⟩
noncomputable def vO18 (s : HS) (u : Int) : List Int := if u ∈ s.vs then cmpV s.vs s.ab.sk u else []
structure PL (w : World) (O : Ow) (A : Option Addr) (l : List Int) : Prop where
  ri : RI w A l
  fr : ∀ a, A = some a → O a.block = none ∧ a.block < w.heap.size
theorem PL.call {A : Option Addr} {l : List Int} (v : PL w O A l) (u : UH O w O' w') : PL w' O' A l :=
  ⟨v.ri.keeps u.kp fun a ha hk => hk (v.fr a ha).1, fun a ha => ⟨u.non (v.fr a ha).1 (v.fr a ha).2, Nat.lt_of_lt_of_le (v.fr a ha).2 u.kp.size⟩⟩
theorem PL.below {A : Option Addr} {l : List Int} (v : PL w O A l) (g : Below w.heap.size w w') : PL w' O A l := ⟨v.ri.below g (Nat.le_refl _), fun a ha => ⟨(v.fr a ha).1, Nat.lt_of_lt_of_le (v.fr a ha).2 g.size⟩⟩
theorem verts_st (p : PX w0 w O s N) (hN : N < LB) {u : Int} (hu : W64 u) {Q : Option Addr → Nat → Nat → Int → World → Prop} (hQ : ∀ w' A c, PX w0 w' O s N → PL w' O A (vO18 s u) → Below w.heap.size w w' → (∀ a, A = some a → w.heap.size ≤ a.block) → Q A (vO18 s u).length c (if u ∈ s.vs then 0 else 51) w') :
    Calls Tryz.prog 17 #[.pointer (some ⟨s.G, 0, none⟩), .int .i64 u] w fun e w' => ∃ (A : Option Addr) (n c : Nat) (x : Int), e = .returned (.tuple #[.slice A n c, .int .i64 x]) ∧ Q A n c x w' := by
  refine (Verts_hg p.hg hN hu).mono ?_
  rintro _ w' ⟨A, c, out, rfl, o, ho, h, g⟩
  have ho : out = vO18 s u := ho
  subst ho
  exact ⟨_, _, _, _, rfl, hQ w' A c (p.below g) ⟨o.reads, fun a ha => ⟨p.fresh (o.block a ha).1, (o.block a ha).2⟩⟩ g fun a ha => (o.block a ha).1⟩
end
theorem cn7 {v : Int} : Cn [⟨7, 1, 2, 0⟩] 1 v ↔ v = 1 ∨ v = 2 := by
  constructor
  · rintro ⟨p, h⟩
    exact h.inv (Q := fun y => y = 1 ∨ y = 2) (fun e he => by rw [List.mem_singleton] at he; subst he; simp) (.inl rfl)
  · rintro (rfl | rfl)
    · exact Cn.refl _ _
    · exact Cn.edge (e := ⟨7, 1, 2, 0⟩) (by simp)
theorem alive_ok (w0 w : World) : Calls Tryz.prog 9 #[] w fun e w' => e = .returned (.bool true) ∧ Below w.heap.size w w' := by
  apply f_law18_alive.ok
  unfold f_law18_alive.wp
  refine al_new fun w1 b1 e1 z1 h1 g1 => ?_
  have W : ∀ z : Int, 0 ≤ z → z ≤ 100 → W64 z := fun z h1 h2 => by unfold W64; omega
  refine new_st (w0 := w) g1 (h1.ri [3] rfl) rfl (fun h => by cases h) (by simp) fun w2 O2 s2 p2 v2 k2 _ _ => sel_f rfl ?_
  refine addV_st p2 (by decide) (W 1 (by decide) (by decide)) fun w3 O3 s3 p3 _ G3 v3 k3 => ?_
  rw [v2] at v3 ⊢; rw [k2] at k3; rw [← G3]
  refine sel_f (by decide) (addV_st p3 (by decide) (W 2 (by decide) (by decide)) fun w4 O4 s4 p4 _ G4 v4 k4 => ?_)
  rw [v3] at v4 ⊢; rw [k3] at k4; rw [← G4]
  refine sel_f (by decide) (addV_st p4 (by decide) (W 3 (by decide) (by decide)) fun w5 O5 s5 p5 _ G5 v5 k5 => ?_)
  rw [v4] at v5 ⊢; rw [k4] at k5; rw [← G5]
  have v5 : s5.vs = [1, 2, 3] := v5
  refine sel_f (by decide) (addE_st p5 (by decide) (W 7 (by decide) (by decide)) (W 1 (by decide) (by decide)) (W 2 (by decide) (by decide)) fun w6 O6 s6 p6 _ G6 v6 k6 => ?_)
  rw [v5] at v6 k6 ⊢; rw [k5] at k6 ⊢; rw [← G6]
  have k6 : s6.ab.sk = [⟨7, 1, 2, 0⟩] := k6
  refine addE_st p6 (by decide) (W 8 (by decide) (by decide)) (W 2 (by decide) (by decide)) (W 3 (by decide) (by decide)) fun w7 O7 s7 p7 _ G7 v7 k7 => ?_
  rw [v6] at v7 k7 ⊢; rw [k6] at k7 ⊢; rw [← G7]
  have k7 : s7.ab.sk = [⟨7, 1, 2, 0⟩, ⟨8, 2, 3, 0⟩] := k7
  refine addE_st p7 (by decide) (W 9 (by decide) (by decide)) (W 1 (by decide) (by decide)) (W 3 (by decide) (by decide)) fun w8 O8 s8 p8 _ G8 v8 k8 => ?_
  rw [v7] at v8 k8 ⊢; rw [k7] at k8 ⊢; rw [← G8]
  have k8 : s8.ab.sk = [⟨7, 1, 2, 0⟩, ⟨8, 2, 3, 0⟩, ⟨9, 1, 3, 0⟩] := k8
  refine delE_st p8 (by decide) (W 8 (by decide) (by decide)) fun w9 O9 s9 p9 _ G9 v9 k9 => ?_
  rw [v8] at v9; rw [k8] at k9 ⊢; rw [← G9]
  have k9 : s9.ab.sk = [⟨7, 1, 2, 0⟩, ⟨9, 1, 3, 0⟩] := k9
  refine joined_st p9 (by decide) (W 2 (by decide) (by decide)) (W 3 (by decide) (by decide)) fun w10 y10 p10 _ hy10 => ?_
  refine delE_st p10 (by decide) (W 9 (by decide) (by decide)) fun w11 O11 s11 p11 _ G11 v11 k11 => ?_
  rw [v9] at v11 ⊢; rw [k9] at k11 ⊢; rw [← G11]
  have k11 : s11.ab.sk = [⟨7, 1, 2, 0⟩] := k11
  refine joined_st p11 (by decide) (W 2 (by decide) (by decide)) (W 3 (by decide) (by decide)) fun w12 y12 p12 _ hy12 => ?_
  refine size_st p12 (by decide) (W 1 (by decide) (by decide)) fun w13 p13 _ => ?_
  refine verts_st p13 (by decide) (W 2 (by decide) (by decide)) fun w14 A14 c14 p14 _ _ _ => ?_
  rw [v11, k11]
  have hj1 : Cn [⟨7, 1, 2, 0⟩, ⟨9, 1, 3, 0⟩] 2 3 := (Cn.edge (e := ⟨7, 1, 2, 0⟩) (by simp)).symm.trans (Cn.edge (e := ⟨9, 1, 3, 0⟩) (by simp))
  have c12 : Cn [⟨7, 1, 2, 0⟩] 1 2 := Cn.edge (e := ⟨7, 1, 2, 0⟩) (by simp)
  have hj2 : ¬ Cn [⟨7, 1, 2, 0⟩] 2 3 := fun h => by
    have := cn7.1 (c12.trans h)
    omega
  have cV : ∀ u, u = 1 ∨ u = 2 → cmpV [1, 2, 3] [⟨7, 1, 2, 0⟩] u = [1, 2] := fun u hu => by
    refine sorted_ext (cmpV_sorted (by decide) _ _) (by decide) fun y => ?_
    have e : Cn [⟨7, 1, 2, 0⟩] u y ↔ Cn [⟨7, 1, 2, 0⟩] 1 y := by
      rcases hu with rfl | rfl
      · exact Iff.rfl
      · exact ⟨fun h => c12.trans h, fun h => c12.symm.trans h⟩
    rw [cmpV_mem, e, cn7]
    simp only [List.mem_cons, List.not_mem_nil, or_false]
    omega
  have hv : vO18 s11 2 = [1, 2] := by
    unfold vO18
    rw [v11, k11, if_pos (by decide), cV 2 (.inr rfl)]
  rw [v9, k9] at hy10
  rw [v11, k11] at hy12
  rw [hv, cV 1 (.inl rfl), hy10.2 ⟨by decide, by decide, hj1⟩, Bool.eq_false_iff.2 fun h => hj2 (hy12.1 h).2.2]
  unfold f_law18_alive.j0
  refine len_st p14 fun w15 p15 _ => ?_
  rw [v11, k11]
  refine sel_t (by decide) (sel_t (by decide) (sel_t (by decide) (sel_t (by decide) (sel_t rfl (sel_t (by decide) (sel_t (by decide) (sel_t rfl (sel_t (by decide) (sel_t (by decide) (sel_t (by decide) (sel_t (by decide) (sel_t (by decide) ?_))))))))))))
  refine trees_st p15 fun w16 p16 _ => ?_
  rw [v11, k11]
  have hr : (reps [1, 2, 3] [⟨7, 1, 2, 0⟩]).length = 2 := by
    have hnil : reps [1, 2, 3] [] = [1, 2, 3] := reps_nil
    have hs := reps_snoc (vs := [1, 2, 3]) (by decide) (es := []) (e := ⟨7, 1, 2, 0⟩) ⟨by decide, by decide⟩ (fun ⟨p, h⟩ => by
      generalize hz : (⟨7, 1, 2, 0⟩ : E).u = a at h
      generalize hy : (⟨7, 1, 2, 0⟩ : E).v = b at h
      cases h with
      | nil => rw [← hy] at hz; exact absurd hz (by decide)
      | cons he _ _ => cases he)
    rw [hnil] at hs
    have hs : (reps [1, 2, 3] [⟨7, 1, 2, 0⟩]).length + 1 = 3 := hs
    omega
  rw [hr]
  refine sel_t (by decide) (sel_t (by decide) fun _ => ⟨rfl, p16.bel⟩)
structure HO where
  k : Int
  id : Int
  u : Int
  v : Int
  w : Int
structure OpW (o : HO) : Prop where
  id : W64 o.id
  u : W64 o.u
  v : W64 o.v
def hoC (o : HO) : Array Value := #[.int .i64 o.k, .int .i64 o.id, .int .i64 o.u, .int .i64 o.v, .int .i64 o.w]
def opC (o : HO) (vs : List Int) (sk : List E) : Int := if o.k = 1 then addVC vs o.u else if o.k = 2 then delVC vs sk o.u else if o.k = 3 then addEC vs sk o.id o.u o.v else if o.k = 4 then cutC sk o.id else 0
def opV (o : HO) (vs : List Int) (sk : List E) : List Int := if o.k = 1 then addVr vs o.u else if o.k = 2 then delVr vs sk o.u else vs
def opS (o : HO) (vs : List Int) (sk : List E) : List E := if o.k = 3 then (if addEC vs sk o.id o.u o.v = 0 then sk ++ [⟨o.id, o.u, o.v, 0⟩] else sk) else if o.k = 4 then cutEr sk o.id else sk
def opE (o : HO) (vr : List Int) (er : List E) : List E := if o.k = 3 then addEr vr er o.id o.u o.v else if o.k = 4 then cutEr er o.id else er
theorem tail2 {w : World} {b5 : Nat} {cs : Array Value} {t5 t : TypeId} (ns : NS) (h5 : HB w b5 cs t5) (hc : cs.size = 2) {K : Option Addr → Nat → Nat → Option Addr → Nat → Nat → World → Prop} (hk : ∀ w', Keeps (fun k => k = b5) w w' → K ns.A0 ns.n0 ns.c0 ns.A1 ns.n1 ns.c1 w') :
    alW w (.cells #[.slice none 0 0, .slice none 0 0] t) fun B18 w19 =>
    stW w19 (⟨B18, 0, Option.none⟩ : Addr) (.slice ns.A0 ns.n0 ns.c0) fun w20 =>
    stW w20 ((⟨B18, 0, Option.none⟩ : Addr).add 1) (.slice ns.A1 ns.n1 ns.c1) fun w21 =>
    ldS w21 (⟨B18, 0, Option.none⟩ : Addr) fun A22 n22 c22 =>
    ldS w21 ((⟨B18, 0, Option.none⟩ : Addr).add 1) fun A23 n23 c23 =>
    stW w21 (⟨b5, 0, Option.none⟩ : Addr) (.slice A22 n22 c22) fun w24 =>
    stW w24 ((⟨b5, 0, Option.none⟩ : Addr).add 1) (.slice A23 n23 c23) fun w25 =>
    ldS w25 (⟨b5, 0, Option.none⟩ : Addr) fun A26 n26 c26 =>
    ldS w25 ((⟨b5, 0, Option.none⟩ : Addr).add 1) fun A27 n27 c27 => K A26 n26 c26 A27 n27 c27 w25 := by
  refine al_new fun w1 b e z h1 g1 => put2 ns h1 rfl fun w2 h2 k2 => get2 h2 ?_
  have hb5 := h5.lt
  have h5' := (h5.below g1).keeps k2 (by omega)
  refine put2 ns h5' hc fun w3 h3 k3 => get2 h3 (hk w3 ?_)
  have ka : Keeps (fun k => k = b5) w w1 := Keeps.of_below g1
  exact (ka.trans' k2 fun i hi e => by omega).trans k3
theorem UH.loc {O O' : Ow} {w w1 w2 : World} {b : Nat} (u : UH O w O' w1) (k : Keeps (fun k => k = b) w1 w2) (hb : w.heap.size ≤ b) : UH O w O' w2 := ⟨u.kp.trans' k fun i hi e => by omega, u.fr⟩
section
variable {w0 w w' : World} {O O' : Ow} {s s' : HS} {N N' : Nat} {ns ns' : NS} {vr vr' : List Int} {er er' : List E}
theorem PX.up (p : PX w0 w O s N) : PX w0 w O s (N + 1) := ⟨⟨p.hg.hm, p.hg.ws, p.hg.ni, p.hg.core, p.hg.sp, p.hg.dg, p.hg.el, by have := p.hg.L; omega⟩, p.lo, p.bel⟩
theorem does_ok (p : PX w0 w O s N) (pv : PV w O ns vr er) (hN : N + 2 < LB) {o : HO} (ho : OpW o) :
    Calls Tryz.prog 10 #[.pointer (some ⟨s.G, 0, none⟩), .agg (nsC ns), .agg (hoC o)] w fun e w' => ∃ O' s' ns', e = .returned (.tuple #[.agg (nsC ns'), .bool (opC o s.vs s.ab.sk == opC o vr er)]) ∧ PX w0 w' O' s' (N + 1) ∧ PV w' O' ns' (opV o vr er) (opE o vr er) ∧ UH O w O' w' ∧ s'.G = s.G ∧ s'.vs = opV o s.vs s.ab.sk ∧ s'.ab.sk = opS o s.vs s.ab.sk ∧ Sn w ns ns' := by
  have hN1 : N < LB := by have : N + 2 < 17592186044000 := hN; show N < 17592186044000; omega
  apply f_law18_does.ok
  unfold f_law18_does.wp
  refine al_new fun w1 b1 e1 z1 h1 g1 => al_new fun w2 b3 e3 z3 h3 g2 => al_new fun w3 b5 e5 z5 h5 g3 => ?_
  have s1 := g1.size
  have g : Below w.heap.size w w3 := (g1.trans (g2.mono s1)).trans (g3.mono (by omega))
  have h1 : HB w3 b1 (nsC ns) 29 := (h1.below g2).below g3
  have h3 : HB w3 b3 (hoC o) 33 := h3.below g3
  have p3 := p.below g
  have v3 := pv.below g
  have u3 : UH O w O w3 := .below g
  have o1 := p.fresh (b := b1) (by omega)
  have o3 := p.fresh (b := b3) (by omega)
  have o5 := p.fresh (b := b5) (by omega)
  have ld11 : ∀ {w : World} {K : Int → Prop}, HB w b3 (hoC o) 33 → K o.u → ldI w (((⟨b3, 0, none⟩ : Addr).add 1).add 1) .i64 K := fun {w K} h hk => by rw [add_add]; exact hb_ldI (j := 2) h rfl hk
  have ld12 : ∀ {w : World} {K : Int → Prop}, HB w b3 (hoC o) 33 → K o.v → ldI w (((⟨b3, 0, none⟩ : Addr).add 1).add 2) .i64 K := fun {w K} h hk => by rw [add_add]; exact hb_ldI (j := 3) h rfl hk
  have fin : ∀ {w4 w5 w6 : World} {O4 : Ow} {s4 : HS} {ns' : NS} {vr' : List Int} {er' : List E} {c d : Int}, PX w0 w4 O4 s4 (N + 1) → UH O w3 O4 w4 → s4.G = s.G → PV w4 O4 ns vr er → NF w5 ns' vr' er' → Sn w4 ns ns' → Below w4.heap.size w4 w5 → Keeps (fun k => k = b5) w5 w6 → c = opC o s.vs s.ab.sk → d = opC o vr er → vr' = opV o vr er → er' = opE o vr er → s4.vs = opV o s.vs s.ab.sk → s4.ab.sk = opS o s.vs s.ab.sk →
      ∃ O' s' ns'', Ending.returned (.tuple #[.agg (nsC ns'), .bool (c == d)]) = .returned (.tuple #[.agg (nsC ns''), .bool (opC o s.vs s.ab.sk == opC o vr er)]) ∧ PX w0 w6 O' s' (N + 1) ∧ PV w6 O' ns'' (opV o vr er) (opE o vr er) ∧ UH O w O' w6 ∧ s'.G = s.G ∧ s'.vs = opV o s.vs s.ab.sk ∧ s'.ab.sk = opS o s.vs s.ab.sk ∧ Sn w ns ns'' := by
    intro w4 w5 w6 O4 s4 ns' vr' er' c d p4 u4 G4 v4 hN' hS g5 k6 ec ed ev ee e1 e2
    subst ec; subst ed; subst ev; subst ee
    have o5' : O4 b5 = none := u4.non o5 (by omega)
    have p5 := p4.below g5
    have v5 := v4.net p4 hN' hS
    have sz5 : w3.heap.size ≤ w5.heap.size := Nat.le_trans u4.kp.size g5.size
    have p6 : PX w0 w6 O4 s4 (N + 1) := p5.other k6 (fun b e => by rw [e]; exact o5') fun b e => by have := p.bel.size; omega
    have hnb : ∀ b, Nb ns' b → b ≠ b5 := fun b hb e => by
      rcases hS b hb with q | q
      · have := pv.nf.lt b q; omega
      · have := u4.kp.size; omega
    have v6 : PV w6 O4 ns' (opV o vr er) (opE o vr er) := ⟨v5.nf.keeps k6 fun b hb e => hnb b hb e, v5.fr⟩
    exact ⟨O4, s4, ns', rfl, p6, v6, ((u3.trans u4).trans (.below g5)).loc k6 (by omega), G4, e1, e2, fun b hb => (hS b hb).imp id fun q => by have := u4.kp.size; omega⟩
  refine hb_ldI0 h3 rfl ?_
  by_cases q1 : o.k = 1
  · refine sel_t (by simp [q1]) (ld11 h3 (addV_st p3 hN1 ho.u fun w4 O4 s4 p4 u4 G4 v4 k4 => ?_))
    have h14 := u4.hb h1 o1
    have h34 := u4.hb h3 o3
    have h54 := u4.hb h5 o5
    refine get2 h14 (ld11 h34 ((AddV18_ok (v3.call u4).nf o.u).mono ?_))
    rintro _ w5 ⟨ns', rfl, hN', hS, g5⟩
    refine ⟨_, _, _, _, _, _, _, rfl, tail2 ns' (h54.below g5) rfl fun w6 k6 => ?_⟩
    exact fin p4.up u4 G4 (v3.call u4) hN' hS g5 k6 (by unfold opC; rw [if_pos q1]) (by unfold opC; rw [if_pos q1]) (by unfold opV; rw [if_pos q1]) (by unfold opE; rw [if_neg (by omega), if_neg (by omega)]) (by unfold opV; rw [if_pos q1]; exact v4) (by unfold opS; rw [if_neg (by omega), if_neg (by omega)]; exact k4)
  refine sel_f (by simp [q1]) ?_
  by_cases q2 : o.k = 2
  · refine sel_t (by simp [q2]) (ld11 h3 (delV_st p3 hN1 ho.u fun w4 O4 s4 p4 u4 G4 v4 k4 => ?_))
    have h14 := u4.hb h1 o1
    have h34 := u4.hb h3 o3
    have h54 := u4.hb h5 o5
    refine get2 h14 (ld11 h34 ((DelV18_ok (v3.call u4).nf o.u).mono ?_))
    rintro _ w5 ⟨ns', rfl, hN', hS, g5⟩
    refine ⟨_, _, _, _, _, _, _, rfl, tail2 ns' (h54.below g5) rfl fun w6 k6 => ?_⟩
    exact fin p4.up u4 G4 (v3.call u4) hN' hS g5 k6 (by unfold opC; rw [if_neg q1, if_pos q2]) (by unfold opC; rw [if_neg q1, if_pos q2]) (by unfold opV; rw [if_neg q1, if_pos q2]) (by unfold opE; rw [if_neg (by omega), if_neg (by omega)]) (by unfold opV; rw [if_neg q1, if_pos q2]; exact v4) (by unfold opS; rw [if_neg (by omega), if_neg (by omega)]; exact k4)
  refine sel_f (by simp [q2]) ?_
  by_cases q3 : o.k = 3
  · refine sel_t (by simp [q3]) (hb_ldI (j := 1) h3 rfl (ld11 h3 (ld12 h3 (addE_st p3 hN1 ho.id ho.u ho.v fun w4 O4 s4 p4 u4 G4 v4 k4 => ?_))))
    have h14 := u4.hb h1 o1
    have h34 := u4.hb h3 o3
    have h54 := u4.hb h5 o5
    refine get2 h14 (hb_ldI (j := 1) h34 rfl (ld11 h34 (ld12 h34 ((AddE18_ok (v3.call u4).nf o.id o.u o.v).mono ?_))))
    rintro _ w5 ⟨ns', rfl, hN', hS, g5⟩
    refine ⟨_, _, _, _, _, _, _, rfl, tail2 ns' (h54.below g5) rfl fun w6 k6 => ?_⟩
    exact fin p4.up u4 G4 (v3.call u4) hN' hS g5 k6 (by unfold opC; rw [if_neg q1, if_neg q2, if_pos q3]) (by unfold opC; rw [if_neg q1, if_neg q2, if_pos q3]) (by unfold opV; rw [if_neg q1, if_neg q2]) (by unfold opE; rw [if_pos q3]) (by unfold opV; rw [if_neg q1, if_neg q2]; exact v4) (by unfold opS; rw [if_pos q3]; exact k4)
  refine sel_f (by simp [q3]) ?_
  by_cases q4 : o.k = 4
  · refine sel_t (by simp [q4]) (hb_ldI (j := 1) h3 rfl (delE_st p3 hN ho.id fun w4 O4 s4 p4 u4 G4 v4 k4 => ?_))
    have h14 := u4.hb h1 o1
    have h34 := u4.hb h3 o3
    have h54 := u4.hb h5 o5
    refine get2 h14 (hb_ldI (j := 1) h34 rfl ((DelE18_ok (v3.call u4).nf o.id).mono ?_))
    rintro _ w5 ⟨ns', rfl, hN', hS, g5⟩
    refine ⟨_, _, _, _, _, _, _, rfl, tail2 ns' (h54.below g5) rfl fun w6 k6 => ?_⟩
    exact fin p4 u4 G4 (v3.call u4) hN' hS g5 k6 (by unfold opC; rw [if_neg q1, if_neg q2, if_neg q3, if_pos q4]) (by unfold opC; rw [if_neg q1, if_neg q2, if_neg q3, if_pos q4]) (by unfold opV; rw [if_neg q1, if_neg q2]) (by unfold opE; rw [if_neg q3, if_pos q4]) (by unfold opV; rw [if_neg q1, if_neg q2]; exact v4) (by unfold opS; rw [if_neg q3, if_pos q4]; exact k4)
  refine sel_f (by simp [q4]) (get2 h1 (put2 ns h5 rfl fun w6 h6 k6 => get2 h6 ?_))
  have := fin (c := 0) (d := 0) p3.up (.refl O w3) rfl v3 v3.nf (Sn.refl _ _) (.refl _ _) k6 (by unfold opC; rw [if_neg q1, if_neg q2, if_neg q3, if_neg q4]) (by unfold opC; rw [if_neg q1, if_neg q2, if_neg q3, if_neg q4]) (by unfold opV; rw [if_neg q1, if_neg q2]) (by unfold opE; rw [if_neg q3, if_neg q4]) (by unfold opV; rw [if_neg q1, if_neg q2]) (by unfold opS; rw [if_neg q3, if_neg q4])
  exact this
end
theorem same_perm {a b : List E} (h : SameE a b) (na : (a.map E.id).Nodup) (nb : (b.map E.id).Nodup) : a.Perm b := by
  have nd : ∀ {l : List E}, (l.map E.id).Nodup → l.Nodup := fun {l} h => List.Pairwise.of_map (f := E.id) (fun a b h e => h (by rw [e])) h
  exact (List.perm_ext_iff_of_nodup (nd na) (nd nb)).2 h
structure Eqv (s : HS) (vr : List Int) (er : List E) : Prop where
  vs : s.vs = vr
  sk : SameE s.ab.sk er
  ids : (er.map E.id).Pairwise (· < ·)
section
variable {w0 w w' : World} {O O' : Ow} {s s' : HS} {N N' : Nat} {ns ns' : NS} {vr vr' : List Int} {er er' : List E}
theorem PX.ids (p : PX w0 w O s N) : (s.ab.sk.map E.id).Nodup := by rw [sk_ids]; exact p.hg.core.ids
theorem Eqv.len (q : Eqv s vr er) (p : PX w0 w O s N) : s.ab.sk.length = er.length := (same_perm q.sk p.ids (sorted_nodup q.ids)).length_eq
theorem Eqv.cmp (q : Eqv s vr er) (u : Int) : cmpV s.vs s.ab.sk u = cmpV vr er u := by
  unfold cmpV
  rw [q.vs]
  exact List.filter_congr fun y _ => by rw [decide_eq_decide]; exact q.sk.cn
theorem Eqv.reps (q : Eqv s vr er) : reps s.vs s.ab.sk = reps vr er := by
  rw [q.vs]
  exact reps_same fun u v => q.sk.cn
end
structure RO1 (w : World) (a : Addr) (i : Nat) (o : HO) : Prop where
  c0 : w.cell? (a.add (i * 5)) = some (.int .i64 o.k)
  c1 : w.cell? ((a.add (i * 5)).add 1) = some (.int .i64 o.id)
  c2 : w.cell? ((a.add (i * 5)).add 2) = some (.int .i64 o.u)
  c3 : w.cell? ((a.add (i * 5)).add 3) = some (.int .i64 o.v)
  c4 : w.cell? ((a.add (i * 5)).add 4) = some (.int .i64 o.w)
def RO (w : World) (A : Option Addr) (l : List HO) : Prop := ∀ i (hi : i < l.length), ∃ a, A = some a ∧ RO1 w a i l[i]
theorem RO.belw {w w' : World} {A : Option Addr} {l : List HO} (h : RO w A l) (hb : Below w.heap.size w w') : RO w' A l := fun i hi => by
  obtain ⟨a, ha, h0, h1, h2, h3, h4⟩ := h i hi
  have k := Keeps.of_below (S := fun _ => False) hb
  exact ⟨a, ha, k.cell h0 id, k.cell h1 id, k.cell h2 id, k.cell h3 id, k.cell h4 id⟩
theorem rowO {w : World} {a : Addr} {i : Nat} {o : HO} (h : RO1 w a i o) {K : Int → Int → Int → Int → Int → Prop} (hk : K o.k o.id o.u o.v o.w) :
    ldI w (a.add ((i : Int).toNat * 5)) .i64 fun x0 => ldI w ((a.add ((i : Int).toNat * 5)).add 1) .i64 fun x1 => ldI w ((a.add ((i : Int).toNat * 5)).add 2) .i64 fun x2 => ldI w ((a.add ((i : Int).toNat * 5)).add 3) .i64 fun x3 => ldI w ((a.add ((i : Int).toNat * 5)).add 4) .i64 fun x4 => K x0 x1 x2 x3 x4 := by
  rw [Int.toNat_natCast]
  exact ldI_intro h.c0 (ldI_intro h.c1 (ldI_intro h.c2 (ldI_intro h.c3 (ldI_intro h.c4 hk))))
def gstp (g : List Int × List E) (o : HO) : List Int × List E := (opV o g.1 g.2, opS o g.1 g.2)
def run (l : List HO) : List Int × List E := l.foldl gstp ([], [])
theorem run_snoc (l : List HO) (o : HO) : run (l ++ [o]) = gstp (run l) o := by unfold run; rw [List.foldl_append]; rfl
theorem run_take {l : List HO} {i : Nat} (h : i < l.length) : run (l.take (i + 1)) = gstp (run (l.take i)) l[i] := by rw [List.take_succ_eq_append_getElem h, run_snoc]
structure Scr (w : World) (A : Option Addr) (n : Nat) (l : List HO) : Prop where
  r : RO w A l
  n : n = l.length
  le : l.length ≤ 3518437208784
  ok : ∀ o ∈ l, OpW o
theorem Scr.belw {w w' : World} {A : Option Addr} {n : Nat} {l : List HO} (h : Scr w A n l) (hb : Below w.heap.size w w') : Scr w' A n l := ⟨h.r.belw hb, h.n, h.le, h.ok⟩
structure Sds (w : World) (A : Option Addr) (n c : Nat) (l : List Int) : Prop where
  r : RI w A l
  n : n = l.length
  c0 : A = none → l.length = 0 ∧ c = 0
  le : l.length ≤ 17592186044416
theorem Sds.belw {w w' : World} {A : Option Addr} {n c : Nat} {l : List Int} (h : Sds w A n c l) (hb : Below w.heap.size w w') : Sds w' A n c l := ⟨h.r.below hb (Nat.le_refl _), h.n, h.c0, h.le⟩
def ns0 : NS := ⟨none, 0, 0, none, 0, 0⟩
theorem PV.zero (w : World) (O : Ow) : PV w O ns0 [] [] :=
  ⟨⟨RI.nil _ _, rfl, fun i hi => absurd hi (Nat.not_lt_zero _), rfl, fun k hk => (by rcases hk with ⟨_, q, _⟩ | ⟨_, q, _⟩ <;> cases q), by simp, by simp⟩, fun k hk => (by rcases hk with ⟨_, q, _⟩ | ⟨_, q, _⟩ <;> cases q)⟩
theorem filled_ok {w : World} {As : Option Addr} {ns cs : Nat} {sl : List Int} (hs : Sds w As ns cs sl) {A : Option Addr} {n c : Nat} {l : List HO} (h : Scr w A n l) :
    Calls Tryz.prog 15 #[.slice As ns cs, .slice A n c] w fun e w' => ∃ O s, e = .returned (.pointer (some ⟨s.G, 0, none⟩)) ∧ PX w w' O s l.length ∧ s.vs = (run l).1 ∧ s.ab.sk = (run l).2 := by
  obtain ⟨hr, rfl, hle, hok⟩ := h
  apply f_law18_filled.ok
  unfold f_law18_filled.wp
  refine new_st (w0 := w) (Below.refl _ w) hs.r hs.n hs.c0 hs.le fun w1 O1 s1 p1 v1 k1 _ _ => ?_
  refine ⟨l.length + 1, ?_⟩
  have key : ∀ (m i : Nat) (w2 : World) (O : Ow) (s : HS), l.length - i = m → i ≤ l.length → PX w w2 O s i → s.vs = (run (l.take i)).1 → s.ab.sk = (run (l.take i)).2 →
      f_law18_filled.l0 (m + 1) A l.length c (some ⟨s.G, 0, none⟩) (i : Int) w2 (fun w13 => ∀ _ : Go.Dn.Fr, (fun e w' => ∃ O s, e = Ending.returned (.pointer (some ⟨s.G, 0, none⟩)) ∧ PX w w' O s l.length ∧ s.vs = (run l).1 ∧ s.ab.sk = (run l).2) (.returned (.pointer (some ⟨s.G, 0, none⟩))) w13) := by
    intro m
    induction m with
    | zero =>
      intro i w2 O s hm hi p ev ek
      have : i = l.length := by omega
      subst this
      rw [List.take_length] at ev ek
      unfold f_law18_filled.l0
      exact sel_t rfl (sel_f (by simp) fun _ => ⟨O, s, rfl, p, ev, ek⟩)
    | succ m ih =>
      intro i w2 O s hm hi p ev ek
      have hlt : i < l.length := by omega
      obtain ⟨a, ha, q⟩ := (hr.belw p.bel) i hlt
      have hw : IntKind.i64.wrap ((i : Int) + 1) = ((i + 1 : Nat) : Int) := by rw [w64_in (by omega)]; omega
      unfold f_law18_filled.l0
      refine sel_t rfl (sel_t (by simpa using hlt) (optB_some ha (req_intro (by simp; omega) (rowO q ?_))))
      refine (does_ok p (PV.zero w2 O) (by show i + 2 < 17592186044000; omega) (hok _ (List.getElem_mem hlt))).mono ?_
      rintro _ w3 ⟨O', s', ns', rfl, p', _, _, G', ev', ek', _⟩
      refine ⟨_, _, _, _, _, _, _, rfl, ?_⟩
      rw [hw, ← G']
      refine ih (i + 1) w3 O' s' (by omega) (by omega) p' ?_ ?_
      · rw [ev', ev, ek, run_take hlt]; rfl
      · rw [ek', ev, ek, run_take hlt]; rfl
  exact key l.length 0 w1 O1 s1 (by omega) (by omega) p1 v1 k1
end Go.Proofs.YtbhhbnnmdekjiaaGreat.Rd
namespace Go.Dn
open Go.RowKit
def IsRecs (ks : List IntKind) (w : World) (A : Option Addr) (len cap : Nat) (f : Nat → Nat → Int) : Prop :=
  (A = none ∧ len = 0 ∧ cap = 0) ∨
  ∃ a, A = some a ∧ len ≤ cap ∧ cap ≤ maxLen ∧ ∀ i, i < len → ∀ j (hj : j < ks.length), w.cell? (a.add (i * ks.length + j)) = some (.int ks[j] (f i j)) ∧ (Lit.int ks[j] (f i j)).wf = true
theorem IsRecs.below {ks : List IntKind} {w w' : World} {A : Option Addr} {len cap : Nat} {f : Nat → Nat → Int} (h : IsRecs ks w A len cap f) (hb : Below w.heap.size w w') : IsRecs ks w' A len cap f := by
  rcases h with h | ⟨a, rfl, h1, h2, h3⟩
  · exact .inl h
  · refine .inr ⟨a, rfl, h1, h2, fun i hi j hj => ?_⟩
    obtain ⟨hc, hw⟩ := h3 i hi j hj
    exact ⟨by rw [hb.cell (World.block_lt_of_cell? w _ hc)]; exact hc, hw⟩
theorem wf_i64 {n : Int} (h : (Lit.int .i64 n).wf = true) : -9223372036854775808 ≤ n ∧ n ≤ 9223372036854775807 := by
  simp [Lit.wf, IntKind.min, IntKind.max, IntKind.signed, IntKind.bits] at h
  omega
def ks5 : List IntKind := [.i64, .i64, .i64, .i64, .i64]
theorem one_int {H : Type} {enc : TypeId × Value → H} {P : Program} {w : World} {base : Nat} {spare : Nat → Bool} {held : Bool} {n : Nat} {t : TypeId} {k : IntKind} {cs : List Value} {j : Nat} {x : DataW H × List MemPlace} (hu : P.underlying t = some (.int k)) (hj : j < cs.length) (h : DataW.trod enc P w base spare held n t ((cs.drop j).take 1) = some x) : ∃ z, cs[j] = .int k z ∧ (Lit.int k z).wf = true := by
  obtain ⟨z, e1, _, e2⟩ := DataW.trod_int hu h
  refine ⟨z, ?_, e2⟩
  rw [List.drop_eq_getElem_cons hj, List.take_succ_cons, List.take_zero] at e1
  injection e1 with e1
theorem ints_of {H : Type} {enc : TypeId × Value → H} {P : Program} {w : World} {base : Nat} {spare : Nat → Bool} {held : Bool} {n m : Nat} {t : TypeId} {gs : Array Field} {cs : List Value} {x : DataW H × List MemPlace} (hu : P.underlying t = some (.struct gs)) (hgs : gs.toList.map (fun f => (f.offset, P.cellsOf f.type, P.underlying f.type)) = (List.range m).map fun j => (j, 1, some (.int .i64))) (hl : cs.length = m) (h : DataW.trod enc P w base spare held n t cs = some x) : ∀ j (hj : j < m), ∃ z, cs[j]'(by omega) = .int .i64 z ∧ (Lit.int .i64 z).wf = true := by
  intro j hj
  obtain ⟨xs, k, _, _, _, hxl, hf⟩ := DataW.trod_struct hu h
  have hsz : gs.size = m := by
    have := congrArg List.length hgs
    simpa using this
  have hfj : gs[j]? = some (gs[j]'(by omega)) := Array.getElem?_eq_getElem (by omega)
  have hrow := congrArg (fun l => l[j]?) hgs
  simp only [List.getElem?_map, Array.getElem?_toList, hfj, Option.map_some, List.getElem?_range hj] at hrow
  injection hrow with hrow
  simp only [Prod.mk.injEq] at hrow
  obtain ⟨ho, hco, hu⟩ := hrow
  have h3 := hf j _ hfj
  rw [ho, hco, List.getElem?_eq_getElem (by omega)] at h3
  exact one_int hu (by omega) h3
theorem open_ops {H : Type} {enc : TypeId × Value → H} {P : Program} {w : World} {base : Nat} {spare : Nat → Bool} {held : Bool} {fuel : Nat} {t e : TypeId} {fs gs : Array Field} {f0 f1 : Field} {A : Option Addr} {len cap : Nat} {x : DataW H × List MemPlace}
    (ht : P.underlying t = some (.slice e)) (he : P.underlying e = some (.struct fs)) (hc : P.cellsOf e = 5) (h0 : fs[0]? = some f0) (h1 : fs[1]? = some f1) (hsz : fs.size = 2) (o0 : f0.offset = 0) (o1 : f1.offset = 1) (c0 : P.cellsOf f0.type = 1) (c1 : P.cellsOf f1.type = 4) (u0 : P.underlying f0.type = some (.int .i64)) (u1 : P.underlying f1.type = some (.struct gs)) (hgs : gs.toList.map (fun f => (f.offset, P.cellsOf f.type, P.underlying f.type)) = (List.range 4).map fun j => (j, 1, some (.int .i64)))
    (h : DataW.trod enc P w base spare held fuel t [.slice A len cap] = some x) : ∃ f, IsRecs ks5 w A len cap f := by
  rcases DataW.trod_slice ht h with ⟨h0, _⟩ | ⟨a, len', cap', elems, rest, n, _, h1', rfl, hb, hl, hm, hlen, hel, hsp, hns⟩
  · injection h0 with h0; injection h0 with h0 h1 h2; subst h0; subst h1; subst h2
    exact ⟨fun _ _ => 0, .inl ⟨rfl, rfl, rfl⟩⟩
  · injection h1' with h1'; injection h1' with h0' h1' h2'; subst h0'; subst h1'; subst h2'
    have hk5 : ∀ j (hj : j < ks5.length), ks5[j] = IntKind.i64 := fun j hj => by
      match j, hj with
      | 0, _ => rfl | 1, _ => rfl | 2, _ => rfl | 3, _ => rfl | 4, _ => rfl
    have key : ∀ i, i < len → ∀ j (hj : j < 5), ∃ z, w.cell? (a.add (i * 5 + j)) = some (.int .i64 z) ∧ (Lit.int .i64 z).wf = true := by
      intro i hi j hj
      have h2 := hel i hi
      rw [List.getElem?_eq_getElem (by omega), Option.bind_eq_some_iff] at h2
      obtain ⟨cs', hcs, hy⟩ := h2
      obtain ⟨xs, m, _, _, hl2, hxl, hf⟩ := DataW.trod_struct he hy
      obtain ⟨hb', hl3, hcell⟩ := World.cells?_some hcs
      have hj2 : j < cs'.length := by rw [hl2, hc]; exact hj
      have h4 := hcell j (by rw [hc]; exact hj)
      rw [add_add, hc] at h4
      have hz : ∃ z, cs'[j] = .int .i64 z ∧ (Lit.int .i64 z).wf = true := by
        by_cases hj0 : j = 0
        · subst hj0
          have h3 := hf 0 f0 h0
          rw [o0, c0, List.getElem?_eq_getElem (by omega)] at h3
          exact one_int u0 hj2 h3
        · have h3 := hf 1 f1 h1
          rw [o1, c1, List.getElem?_eq_getElem (by omega)] at h3
          have hlen4 : ((cs'.drop 1).take 4).length = 4 := by rw [List.length_take, List.length_drop, hl2, hc]; rfl
          obtain ⟨z, e1, e2⟩ := ints_of u1 hgs hlen4 h3 (j - 1) (by omega)
          refine ⟨z, ?_, e2⟩
          rw [List.getElem_take, List.getElem_drop] at e1
          rw [← e1]
          congr 1; omega
      obtain ⟨z, e1, e2⟩ := hz
      refine ⟨z, ?_, e2⟩
      rw [h4, List.getElem?_eq_getElem hj2, e1]
    refine ⟨fun i j => if h : i < len ∧ j < 5 then Classical.choose (key i h.1 j h.2) else 0, .inr ⟨a, rfl, hl, hm, fun i hi j hj => ?_⟩⟩
    have hj5 : j < 5 := hj
    have := Classical.choose_spec (key i hi j hj5)
    rw [hk5 j hj]
    simpa [hi, hj5, ks5] using this
theorem ops_len {H : Type} {enc : TypeId × Value → H} {P : Program} {w : World} {base : Nat} {spare : Nat → Bool} {held : Bool} {fuel : Nat} {t e : TypeId} {by_ : Nat} {A : Option Addr} {len cap : Nat} {x : DataW H × List MemPlace}
    (ht : P.underlying t = some (.slice e)) (hby : P.bytesOf e = by_) (h : DataW.trod enc P w base spare held fuel t [.slice A len cap] = some x) (hw : ∀ v ∈ x.1.weights P t, v ≤ reachBytes) : len * by_ ≤ 140737488351232 := by
  rcases DataW.trod_slice ht h with ⟨h0, hx⟩ | ⟨a, len', cap', elems, rest, n, _, h1, hx, hbs, hl, hm, hlen, hel, hsp, hns⟩
  · injection h0 with h0; injection h0 with h0 h1 h2; subst h1; omega
  · injection h1 with h1; injection h1 with h0 h1 h2; subst h1
    rw [hx] at hw
    have := hw ((elems.map (·.1)).length * by_ + (rest.map (·.1)).length * by_) (by
      simp only [DataW.weights, ht, hby]
      rw [← Nat.add_mul]; exact List.mem_cons_self)
    unfold reachBytes at this
    simp only [List.length_map] at this
    rw [hlen] at this
    omega
end Go.Dn
namespace Go.Proofs.YtbhhbnnmdekjiaaGreat.Rd
open Go.Dn Go.RowKit
set_option maxRecDepth 100000
theorem hd2 {S : World → Prop} {b1 : Nat} {t1 : TypeId} {s : NS} (h1 : ∀ w, S w → HB w b1 (nsC s) t1) {K : Option Addr → Nat → Nat → Option Addr → Nat → Nat → Prop} (hk : K s.A0 s.n0 s.c0 s.A1 s.n1 s.c1) :
    hdS S (⟨b1, 0, Option.none⟩ : Addr) fun A11 n11 c11 =>
    hdS S ((⟨b1, 0, Option.none⟩ : Addr).add 1) fun A12 n12 c12 => K A11 n11 c11 A12 n12 c12 :=
  ⟨_, _, _, fun w hs => ((h1 w hs).cell 0).trans rfl, _, _, _, fun w hs => ((h1 w hs).cell 1).trans rfl, hk⟩
section
variable {w0 w w' : World} {O O' : Ow} {s s' : HS} {N N' : Nat} {ns ns' : NS} {vr vr' : List Int} {er er' : List E}
theorem alive_st {w : World} {Q : Bool → World → Prop} (hQ : ∀ w', Below w.heap.size w w' → Q true w') :
    Calls Tryz.prog 9 #[] w fun e w' => ∃ b : Bool, e = .returned (.bool b) ∧ Q b w' := by
  refine (alive_ok w w).mono ?_
  rintro _ w1 ⟨rfl, g⟩
  exact ⟨_, rfl, hQ w1 g⟩
end
theorem scr_of {w : World} {A : Option Addr} {n c : Nat} {f : Nat → Nat → Int} (h : IsRecs ks5 w A n c f) (s : n * 40 ≤ 140737488351232) : ∃ l : List HO, Scr w A n l := by
  refine ⟨(List.range n).map fun i => ⟨f i 0, f i 1, f i 2, f i 3, f i 4⟩, ?_⟩
  rcases h with ⟨rfl, rfl, rfl⟩ | ⟨a, rfl, h1, h2, h3⟩
  · exact ⟨fun i hi => by simp at hi, by simp, by simp, fun o ho => by simp at ho⟩
  · have k5 : ks5.length = 5 := rfl
    refine ⟨fun i hi => ⟨a, rfl, ?_⟩, by simp, by simp; omega, fun o ho => ?_⟩
    · have hi' : i < n := by simpa using hi
      have key : ∀ j, j < 5 → w.cell? ((a.add (i * 5)).add j) = some (.int .i64 (f i j)) := fun j hj => by
        have := (h3 i hi' j hj).1
        rw [k5] at this
        rw [add_add, this]
        congr 2
        have : ∀ j (hj : j < 5), ks5[j] = IntKind.i64 := fun j hj => by
          match j, hj with
          | 0, _ => rfl | 1, _ => rfl | 2, _ => rfl | 3, _ => rfl | 4, _ => rfl
        exact this j hj
      rw [List.getElem_map, List.getElem_range]
      have k0 := key 0 (by omega)
      rw [add_add, Nat.add_zero] at k0
      exact ⟨k0, key 1 (by omega), key 2 (by omega), key 3 (by omega), key 4 (by omega)⟩
    · obtain ⟨i, hi, rfl⟩ := List.mem_map.1 ho
      have hi' : i < n := by simpa using hi
      exact ⟨wf_i64 (h3 i hi' 1 (by decide)).2, wf_i64 (h3 i hi' 2 (by decide)).2, wf_i64 (h3 i hi' 3 (by decide)).2⟩
theorem sds_of {w : World} {A : Option Addr} {n c : Nat} {zs : List Int} (h : IsRow .i64 w A n c zs) (s : n * 8 ≤ 140737488351232) : ∃ l : List Int, Sds w A n c l := by
  rcases h with ⟨rfl, rfl, rfl, rfl⟩ | ⟨x, rfl, hl, hm, hz, hc, hw⟩
  · exact ⟨[], fun i hi => absurd hi (Nat.not_lt_zero _), rfl, fun _ => ⟨rfl, rfl⟩, by simp⟩
  · refine ⟨zs.take n, fun i hi => ?_, by simp; omega, (fun h => by cases h), by simp; omega⟩
    rw [List.length_take] at hi
    refine ⟨x, rfl, ?_⟩
    rw [hc i (by omega), List.getElem_take]
    congr 2
    simp [List.getD_eq_getElem?_getD, show i < zs.length by omega]
structure Seen (vs : List Int) (sk : List E) (l : List Int) (k : Nat) : Prop where
  sub : ∀ x ∈ l, x ∈ vs
  nd : l.Nodup
  cl : ∀ x ∈ l, ∀ y ∈ vs, Cn sk x y → y ∈ l
  cnt : k = ((reps vs sk).filter fun r => decide (r ∈ l)).length
theorem Seen.nil (vs : List Int) (sk : List E) : Seen vs sk [] 0 := ⟨fun x h => (by cases h), List.nodup_nil, fun x h => (by cases h), by
  have : (reps vs sk).filter (fun r => decide (r ∈ ([] : List Int))) = [] := List.filter_eq_nil_iff.2 (by simp)
  rw [this]; rfl⟩
theorem Seen.len {vs : List Int} {sk : List E} {l : List Int} {k : Nat} (h : Seen vs sk l k) (nd : vs.Nodup) : l.length ≤ vs.length := by
  have p : l.Perm (vs.filter fun x => decide (x ∈ l)) := (List.perm_ext_iff_of_nodup h.nd (nd.sublist List.filter_sublist)).2 fun x => by
    rw [List.mem_filter]
    exact ⟨fun hx => ⟨h.sub x hx, by simpa using hx⟩, fun hx => by simpa using hx.2⟩
  rw [p.length_eq]
  exact List.length_filter_le _ _
theorem filter_one {α : Type} {p q : α → Bool} : ∀ {l : List α}, l.Nodup → ∀ {r : α}, r ∈ l → (∀ x ∈ l, q x = true ↔ p x = true ∨ x = r) → p r = false → (l.filter q).length = (l.filter p).length + 1 := by
  intro l
  induction l with
  | nil => intro _ r h; cases h
  | cons a t ih =>
    intro nd r hr h hp
    rw [List.nodup_cons] at nd
    rcases List.mem_cons.1 hr with rfl | hr
    · have hq : q r = true := (h r List.mem_cons_self).2 (.inr rfl)
      have e : t.filter q = t.filter p := List.filter_congr fun x hx => by
        have := h x (List.mem_cons_of_mem _ hx)
        rw [Bool.eq_iff_iff, this]
        exact ⟨fun hh => hh.resolve_right fun e => nd.1 (e ▸ hx), .inl⟩
      rw [List.filter_cons_of_pos hq, List.filter_cons_of_neg (by rw [hp]; decide), List.length_cons, e]
    · have := ih nd.2 hr (fun x hx => h x (List.mem_cons_of_mem _ hx)) hp
      have hne : a ≠ r := fun e => nd.1 (e ▸ hr)
      have ha := h a List.mem_cons_self
      by_cases q1 : p a = true
      · rw [List.filter_cons_of_pos (ha.2 (.inl q1)), List.filter_cons_of_pos q1, List.length_cons, List.length_cons, this]
      · rw [List.filter_cons_of_neg (fun hh => (ha.1 hh).elim q1 hne), List.filter_cons_of_neg q1, this]
theorem Seen.add {vs : List Int} {sk : List E} {l : List Int} {k : Nat} (hs : vs.Pairwise (· < ·)) (h : Seen vs sk l k) {x : Int} (hx : x ∈ vs) (hn : x ∉ l) : Seen vs sk (l ++ cmpV vs sk x) (k + 1) ∧ ∀ y ∈ cmpV vs sk x, y ∉ l := by
  have dis : ∀ y ∈ cmpV vs sk x, y ∉ l := fun y hy hl => by
    obtain ⟨h1, h2⟩ := cmpV_mem.1 hy
    exact hn (h.cl y hl x hx h2.symm)
  refine ⟨⟨fun y hy => ?_, ?_, fun y hy z hz hc => ?_, ?_⟩, dis⟩
  · rcases List.mem_append.1 hy with q | q
    · exact h.sub y q
    · exact (cmpV_mem.1 q).1
  · rw [List.nodup_append]
    exact ⟨h.nd, sorted_nodup (cmpV_sorted hs sk x), fun a ha b hb e => dis b hb (e ▸ ha)⟩
  · rcases List.mem_append.1 hy with q | q
    · exact List.mem_append_left _ (h.cl y q z hz hc)
    · exact List.mem_append_right _ (cmpV_mem.2 ⟨hz, (cmpV_mem.1 q).2.trans hc⟩)
  · obtain ⟨r, hr, hxr⟩ := rep_ex hs sk hx
    have hrv := (reps_mem.1 hr).1
    have hrc : r ∈ cmpV vs sk x := cmpV_mem.2 ⟨hrv, hxr⟩
    have nd : (reps vs sk).Nodup := (sorted_nodup hs).sublist List.filter_sublist
    have := filter_one (p := fun r => decide (r ∈ l)) (q := fun r => decide (r ∈ l ++ cmpV vs sk x)) nd hr (fun y hy => by
      simp only [decide_eq_true_eq, List.mem_append]
      constructor
      · rintro (q | q)
        · exact .inl q
        · exact .inr (rep_uniq hy hr ((cmpV_mem.1 q).2.symm.trans hxr))
      · rintro (q | rfl)
        · exact .inl q
        · exact .inr hrc) (by simpa using dis r hrc)
    rw [this, ← h.cnt]
theorem Seen.all {vs : List Int} {sk : List E} {l : List Int} {k : Nat} (hs : vs.Pairwise (· < ·)) (h : Seen vs sk l k) (ha : ∀ v ∈ vs, v ∈ l) : l.length = vs.length ∧ k = (reps vs sk).length := by
  constructor
  · exact ((List.perm_ext_iff_of_nodup h.nd (sorted_nodup hs)).2 fun x => ⟨h.sub x, ha x⟩).length_eq
  · rw [h.cnt]
    congr 1
    exact List.filter_eq_self.2 fun r hr => by
      have := ha r (reps_mem.1 hr).1
      simp [this]
section
variable {w0 w w' : World} {O O' : Ow} {s s' : HS} {N N' : Nat}
theorem filled_st {w : World} {As : Option Addr} {ns cs : Nat} {sl : List Int} (hs : Sds w As ns cs sl) {A : Option Addr} {n c : Nat} {l : List HO} (h : Scr w A n l) {Q : Option Addr → World → Prop} (hQ : ∀ w' O s, PX w w' O s l.length → s.vs = (run l).1 → s.ab.sk = (run l).2 → Q (some ⟨s.G, 0, none⟩) w') :
    Calls Tryz.prog 15 #[.slice As ns cs, .slice A n c] w fun e w' => ∃ p : Option Addr, e = .returned (.pointer p) ∧ Q p w' := by
  refine (filled_ok hs h).mono ?_
  rintro _ w1 ⟨O, s, rfl, p, e1, e2⟩
  exact ⟨_, rfl, hQ w1 O s p e1 e2⟩
end
theorem cn_in {sk : List E} {e : E} (h : Cn sk e.u e.v) (x y : Int) : Cn (sk ++ [e]) x y ↔ Cn sk x y := by
  rw [cn_add]
  constructor
  · rintro (q | ⟨q1, q2⟩ | ⟨q1, q2⟩)
    · exact q
    · exact (q1.trans h).trans q2
    · exact (q1.trans h.symm).trans q2
  · exact .inl
theorem noE_snoc {sk : List E} {e : E} (h : e.id ∉ sk.map E.id) : noE (sk ++ [e]) e.id = sk := by
  unfold noE
  rw [List.filter_append, List.filter_cons_of_neg (by simp), List.filter_nil, List.append_nil]
  exact List.filter_eq_self.2 fun x hx => by
    have : x.id ≠ e.id := fun q => h (by rw [← q]; exact List.mem_map_of_mem hx)
    simp [this]
section
variable {w0 w w' : World} {O O' : Ow} {s s' : HS} {N N' : Nat}
theorem PL.of {A : Option Addr} {c B : Nat} {l : List Int} {e : TypeId} (p : PX w0 w O s N) (g : Below w.heap.size w w') (o : OwnI w' B e A c l) (hB : w.heap.size ≤ B) : PL w' O A l := ⟨o.reads, fun a ha => ⟨p.fresh (Nat.le_trans hB (o.block a ha).1), (o.block a ha).2⟩⟩
theorem Back_l2 {A2 : Option Addr} {c2 : Nat} {l0 lb : List Int} (hl : lb.length ≤ 2048) (hl0 : l0.length ≤ 2048) {K0 : Option Addr → Nat → Nat → World → Prop} {wS : World}
    (hK : ∀ w' A c cur, PX w0 w' O s N → PL w' O A cur → cur.Pairwise (· < ·) → (∀ y, y ∈ cur ↔ y ∈ l0 ∨ y ∈ lb) → cur.length ≤ 4096 → Below wS.heap.size wS w' → K0 A cur.length c w') :
    ∀ (m i : Nat) (w : World) (A : Option Addr) (c : Nat) (cur : List Int), lb.length - i = m → i ≤ lb.length → PX w0 w O s N → PL w O A cur → PL w O A2 lb → cur.Pairwise (· < ·) → (∀ y, y ∈ cur ↔ y ∈ l0 ∨ y ∈ lb.take i) → cur.length ≤ l0.length + i → Below wS.heap.size wS w →
      f_law18_HdtBack.l2 (m + 1) A cur.length c A2 lb.length c2 (lb.length : Int) (i : Int) w K0 := by
  intro m
  induction m with
  | zero =>
    intro i w A c cur hm hi p pl pb hs hmem hlen g
    have : i = lb.length := by omega
    subst this
    rw [List.take_length] at hmem
    unfold f_law18_HdtBack.l2
    exact sel_f (by simp) (hK w A c cur p pl hs hmem (by omega) g)
  | succ m ih =>
    intro i w A c cur hm hi p pl pb hs hmem hlen g
    have hlt : i < lb.length := by omega
    have hw : IntKind.i64.wrap ((i : Int) + 1) = ((i + 1 : Nat) : Int) := by rw [w64_in (by omega)]; omega
    obtain ⟨a, ha, q⟩ := pb.ri i hlt
    have tk : ∀ y, y ∈ lb.take (i + 1) ↔ y ∈ lb.take i ∨ y = lb[i] := fun y => by rw [List.take_succ_eq_append_getElem hlt, List.mem_append, List.mem_singleton]
    unfold f_law18_HdtBack.l2
    refine sel_t (by simpa using hlt) (optB_some ha (req_intro (by simp; omega) (ldI_intro (x := lb[i]) (by rw [Int.toNat_natCast, Nat.mul_one]; exact q) ?_)))
    refine (Has_ok pl.ri rfl (by omega) lb[i]).mono ?_
    rintro _ wx ⟨rfl, hx⟩
    obtain rfl : w = wx := hx.symm
    refine ⟨_, rfl, ?_⟩
    by_cases hin : lb[i] ∈ cur
    · refine sel_f (by rw [decide_eq_true hin]; rfl) ?_
      rw [hw]
      refine ih (i + 1) w A c cur (by omega) (by omega) p pl pb hs (fun y => ?_) (by omega) g
      rw [tk, hmem y]
      exact ⟨fun h => h.imp id .inl, fun h => h.elim .inl fun h => h.elim .inr fun e => e ▸ (hmem _).1 hin⟩
    · refine sel_t (by rw [decide_eq_false hin]; rfl) ((With_ok pl.ri rfl (by omega) lb[i]).mono ?_)
      rintro _ w2 ⟨A', c', rfl, o2, g2⟩
      refine ⟨_, _, _, rfl, ?_⟩
      rw [hw]
      refine ih (i + 1) w2 A' c' (wiI cur lb[i]) (by omega) (by omega) (p.below g2) (PL.of p g2 o2 (Nat.le_refl _)) (pb.below g2) (wiI_sorted hs hin) (fun y => ?_) ?_ (g.trans (g2.mono g.size))
      · rw [wiI_mem, tk, hmem y]
        exact ⟨fun h => h.elim (fun e => .inr (.inr e)) fun h => h.imp id .inl, fun h => h.elim (fun h => .inr (.inl h)) fun h => h.elim (fun h => .inr (.inr h)) .inl⟩
      · rw [(wiI_perm cur lb[i]).length_eq, List.length_cons]; omega
theorem vO18_le (p : PX w0 w O s N) (u : Int) : (vO18 s u).length ≤ 2048 := by
  have h1 := p.hg.vlen
  have h2 := p.hg.ws.vlen
  unfold vO18
  split
  · exact Nat.le_trans (List.length_filter_le _ _) (by omega)
  · simp
theorem same_st {A1 A2 : Option Addr} {l1 l2 : List Int} {c1 c2 : Nat} (p : PX w0 w O s N) (r1 : PL w O A1 l1) (r2 : PL w O A2 l2) (hmax : l1.length ≤ 100000) {Q : Bool → World → Prop} (hQ : ∀ w', PX w0 w' O s N → Below w.heap.size w w' → Q (decide (l1 = l2)) w') :
    Calls Tryz.prog 19 #[.slice A1 l1.length c1, .slice A2 l2.length c2] w fun e w' => ∃ b : Bool, e = .returned (.bool b) ∧ Q b w' := by
  refine (SameInts_ok r1.ri rfl r2.ri rfl (by omega)).mono ?_
  rintro _ w' ⟨rfl, g⟩
  exact ⟨_, rfl, hQ w' (p.below g) g⟩
theorem has_st {A1 : Option Addr} {l1 : List Int} {c1 : Nat} (r1 : PL w O A1 l1) (hmax : l1.length ≤ 100000) {x : Int} {Q : Bool → World → Prop} (hQ : Q (decide (x ∈ l1)) w) :
    Calls Tryz.prog 21 #[.slice A1 l1.length c1, .int .i64 x] w fun e w' => ∃ b : Bool, e = .returned (.bool b) ∧ Q b w' := by
  refine (Has_ok r1.ri rfl (by omega) x).mono ?_
  rintro _ w' ⟨rfl, rfl⟩
  exact ⟨_, rfl, hQ⟩
theorem selYN {y a b : Bool} {F X F' R Y : Prop} (h1 : y = true → a = false) (h2 : y = false → b = false) (hr : R) : sel y (sel a F (sel (!y) X R)) (sel (!y) (sel b F' R) Y) := by
  cases y with
  | true => exact sel_t rfl (sel_f (h1 rfl) (sel_f rfl hr))
  | false => exact sel_f rfl (sel_t rfl (sel_f (h2 rfl) hr))
theorem vO18_same (h1 : s'.vs = s.vs) (h2 : ∀ a b, Cn s'.ab.sk a b ↔ Cn s.ab.sk a b) (u : Int) : vO18 s' u = vO18 s u := by
  unfold vO18
  rw [h1]
  split
  · unfold cmpV
    exact List.filter_congr fun y _ => by rw [decide_eq_decide]; exact h2 u y
  · rfl
theorem HdtBack_walk {w : World} {As : Option Addr} {ns cs : Nat} {sl : List Int} (hs : Sds w As ns cs sl) {A : Option Addr} {n c : Nat} {l : List HO} (h : Scr w A n l) {id u v x : Int} (hid : W64 id) (hu : W64 u) (hv : W64 v) (hx : W64 x) :
    Calls Tryz.prog 4 #[.slice As ns cs, .slice A n c, .int .i64 id, .int .i64 u, .int .i64 v, .int .i64 x] w fun e w' => e = .returned (.bool true) ∧ Below w.heap.size w w' := by
  have hN : l.length < LB := by have := h.le; show l.length < 17592186044000; omega
  have hN2 : l.length + 2 < LB := by have := h.le; show l.length + 2 < 17592186044000; omega
  have hN1 : l.length + 1 < LB := by have := h.le; show l.length + 1 < 17592186044000; omega
  apply f_law18_HdtBack.ok
  unfold f_law18_HdtBack.wp
  refine filled_st hs h fun w1 O s p1 ev ek => sel_f rfl (alive_st fun w2 g2 => sel_f rfl ?_)
  have p2 := p1.below g2
  refine joined_st p2 hN hu hv fun w3 y p3 g3 hy => verts_st p3 hN hu fun w4 Aa ca p4 la g4 _ => verts_st p4 hN hv fun w5 Ab cb p5 lb g5 _ => verts_st p5 hN hx fun w6 Ac cc p6 lc g6 _ => trees_st p6 fun w7 p7 g7 => addE_st p7 hN hid hu hv fun w8 O' s' p8 u8 G8 v8 k8 => ?_
  have la8 := (((la.below g5).below g6).below g7).call u8
  have lb8 := ((lb.below g6).below g7).call u8
  have lc8 := (lc.below g7).call u8
  have na := vO18_le p7 u
  have nb := vO18_le p7 v
  have nc := vO18_le p7 x
  rw [← G8]
  by_cases hc : ¬ addEC s.vs s.ab.sk id u v = 0
  · rw [if_neg hc] at k8
    have hsame : ∀ z, vO18 s' z = vO18 s z := vO18_same v8 fun a b => by rw [k8]
    refine sel_t (by simpa using hc) (verts_st p8 hN hx fun w9 Ad cd p9 ld g9 _ => ?_)
    unfold f_law18_HdtBack.j0
    refine same_st p9 (lc8.below g9) ld (by omega) fun w10 p10 g10 => sel_t (by rw [hsame]; simp) (trees_st p10 fun w11 p11 g11 _ => ⟨?_, p11.bel⟩)
    rw [v8, k8]; simp
  have hc := Classical.not_not.1 hc
  rw [if_pos hc] at k8
  rw [hc]
  obtain ⟨hno, hus, hvs⟩ : id ∉ s.ab.sk.map E.id ∧ u ∈ s.vs ∧ v ∈ s.vs := by
    unfold addEC at hc
    split at hc
    · cases hc
    split at hc
    · cases hc
    split at hc
    · cases hc
    rename_i h1 h2 h3
    have h3 := Classical.not_not.1 h3
    exact ⟨h2, h3.1, h3.2⟩
  have hok : ¬ badI id := fun hb => by
    unfold addEC at hc
    rw [if_pos (.inl hb)] at hc; cases hc
  obtain ⟨e0, he0⟩ : ∃ e0 : E, (⟨id, u, v, 0⟩ : E) = e0 := ⟨_, rfl⟩
  have eu : e0.u = u := by rw [← he0]
  have ev' : e0.v = v := by rw [← he0]
  have ei : e0.id = id := by rw [← he0]
  rw [he0] at k8
  have hcn : ∀ a b, Cn s'.ab.sk a b ↔ Cn s.ab.sk a b ∨ (Cn s.ab.sk a u ∧ Cn s.ab.sk v b) ∨ (Cn s.ab.sk a v ∧ Cn s.ab.sk u b) := fun a b => by rw [k8, cn_add, eu, ev']
  have hss := p7.hg.ws.vss
  have hvou : vO18 s u = cmpV s.vs s.ab.sk u := if_pos hus
  have hvov : vO18 s v = cmpV s.vs s.ab.sk v := if_pos hvs
  refine sel_f (by decide) ((CopyInts_ok la8.ri rfl (by omega)).mono ?_)
  rintro _ w9 ⟨A9, c9, rfl, o9, g9⟩
  refine ⟨_, _, _, rfl, ?_⟩
  unfold f_law18_HdtBack.j1
  have p9 := p8.below g9
  refine ⟨(vO18 s v).length + 1, Back_l2 (w0 := w) (O := O') (s := s') (N := l.length) (l0 := vO18 s u) (lb := vO18 s v) (wS := w9) nb na (fun w10 A10 c10 cur p10 l10 hsc hmc hlc g10 _ => ?_) (vO18 s v).length 0 w9 (some A9) c9 (vO18 s u) (by omega) (by omega) p9 (PL.of p8 g9 o9 (Nat.le_refl _)) (lb8.below g9) (by rw [hvou]; exact cmpV_sorted hss _ _) (fun z => by simp) (by omega) (.refl _ _)⟩
  intro _
  have la10 := (la8.below g9).below g10
  have lb10 := (lb8.below g9).below g10
  have lc10 := (lc8.below g9).below g10
  have hmem : ∀ z, z ∈ cur ↔ z ∈ s.vs ∧ (Cn s.ab.sk u z ∨ Cn s.ab.sk v z) := fun z => by
    rw [hmc, hvou, hvov, cmpV_mem, cmpV_mem]
    exact ⟨fun h => h.elim (fun h => ⟨h.1, .inl h.2⟩) fun h => ⟨h.1, .inr h.2⟩, fun h => h.2.elim (fun q => .inl ⟨h.1, q⟩) fun q => .inr ⟨h.1, q⟩⟩
  have hin : ∀ z, z ∈ s.vs → (Cn s.ab.sk u z ∨ Cn s.ab.sk v z) → vO18 s' z = cur := fun z hz hzc => by
    have e1 : vO18 s' z = cmpV s.vs s'.ab.sk z := by unfold vO18; rw [v8, if_pos hz]
    rw [e1]
    refine sorted_ext (cmpV_sorted hss _ _) hsc fun t => ?_
    rw [cmpV_mem, hmem, hcn]
    constructor
    · rintro ⟨h1, h2⟩
      refine ⟨h1, ?_⟩
      rcases h2 with q | ⟨q1, q2⟩ | ⟨q1, q2⟩
      · exact hzc.imp (fun h => h.trans q) fun h => h.trans q
      · exact .inr q2
      · exact .inl q2
    · rintro ⟨h1, h2⟩
      refine ⟨h1, ?_⟩
      rcases hzc with hz1 | hz1 <;> rcases h2 with q | q
      · exact .inl (hz1.symm.trans q)
      · exact .inr (.inl ⟨hz1.symm, q⟩)
      · exact .inr (.inr ⟨hz1.symm, q⟩)
      · exact .inl (hz1.symm.trans q)
  have hout : ∀ z, ¬ (Cn s.ab.sk u z ∨ Cn s.ab.sk v z) → vO18 s' z = vO18 s z := fun z hz => by
    unfold vO18
    rw [v8]
    split
    · unfold cmpV
      refine List.filter_congr fun t _ => ?_
      rw [decide_eq_decide, hcn]
      constructor
      · rintro (q | ⟨q1, q2⟩ | ⟨q1, q2⟩)
        · exact q
        · exact absurd (.inl q1.symm) hz
        · exact absurd (.inr q1.symm) hz
      · exact .inl
    · rfl
  have hcur : vO18 s' v = cur := hin v hvs (.inr (Cn.refl _ _))
  have hNL : (vO18 s' v).length ≤ 2048 := vO18_le p10 v
  have hNX : (vO18 s' x).length ≤ 2048 := vO18_le p10 x
  refine verts_st p10 hN hv fun w11 Ap cp p11 lp g11 _ => verts_st p11 hN hx fun w12 Aq cq p12 lq g12 _ => trees_st p12 fun w13 p13 g13 => ?_
  rw [if_pos ⟨hus, hvs⟩]
  have l13 := ((l10.below g11).below g12).below g13
  refine sel_f (by decide) (same_st p13 ((lp.below g12).below g13) l13 (by omega) fun w14 p14 g14 => sel_f (by rw [hcur]; simp) ?_)
  have l14 := l13.below g14
  have lq14 := (lq.below g13).below g14
  have la14 := (((la10.below g11).below g12).below g13).below g14
  have lb14 := (((lb10.below g11).below g12).below g13).below g14
  have lc14 := (((lc10.below g11).below g12).below g13).below g14
  have hcut : cutC s'.ab.sk id = 0 := by
    unfold cutC
    rw [if_neg hok, if_neg fun hh => hh (by rw [k8, List.map_append, List.mem_append]; exact .inr (by simp [ei]))]
  have hback : cutEr s'.ab.sk id = s.ab.sk := by
    unfold cutEr
    rw [if_pos hcut, k8, ← ei]
    exact noE_snoc (by rw [ei]; exact hno)
  have j3 : ∀ {w15 : World} {Kr : Bool → World → Prop}, PX w w15 O' s' l.length → Below w14.heap.size w14 w15 → (∀ w', Below w.heap.size w w' → Kr true w') → f_law18_HdtBack.j3 id u v x (some ⟨s'.G, 0, none⟩) Aa (vO18 s u).length ca Ab (vO18 s v).length cb Ac (vO18 s x).length cc ((reps s.vs s.ab.sk).length : Int) w15 Kr := by
    intro w15 Kr p15 g15 hK
    unfold f_law18_HdtBack.j3
    refine delE_st p15 hN2 hid fun w16 O3 s3 p16 u16 G16 v16 k16 => ?_
    rw [hcut]
    rw [hback] at k16
    rw [← G16]
    have vv : s3.vs = s.vs := v16.trans v8
    have hsame : ∀ z, vO18 s3 z = vO18 s z := vO18_same vv fun a b => by rw [k16]
    refine sel_f (by decide) (verts_st p16 hN1 hu fun w17 Ax cx p17 lx g17 _ => verts_st p17 hN1 hv fun w18 Ay cy p18 ly g18 _ => verts_st p18 hN1 hx fun w19 Az cz p19 lz g19 _ => trees_st p19 fun w20 p20 g20 => ?_)
    have up : ∀ {A : Option Addr} {l : List Int}, PL w14 O' A l → PL w20 O3 A l := fun h => (((((h.below g15).call u16).below g17).below g18).below g19).below g20
    refine sel_t (by rw [vv, k16]; simp) (same_st p20 (((lx.below g18).below g19).below g20) (up la14) (by rw [hsame]; omega) fun w21 p21 g21 => sel_t (by rw [hsame]; simp) (same_st p21 (((ly.below g19).below g20).below g21) ((up lb14).below g21) (by rw [hsame]; omega) fun w22 p22 g22 => sel_t (by rw [hsame]; simp) (same_st p22 (((lz.below g20).below g21).below g22) (((up lc14).below g21).below g22) (by rw [hsame]; omega) fun w23 p23 g23 => ?_)))
    rw [hsame, decide_eq_true rfl]
    exact hK w23 p23.bel
  have fin : ∀ {w15 : World}, PX w w15 O' s' l.length → Below w14.heap.size w14 w15 → f_law18_HdtBack.j3 id u v x (some ⟨s'.G, 0, none⟩) Aa (vO18 s u).length ca Ab (vO18 s v).length cb Ac (vO18 s x).length cc ((reps s.vs s.ab.sk).length : Int) w15 (fun b w' => ∀ _ : Go.Dn.Fr, Ending.returned (.bool b) = .returned (.bool true) ∧ Below w.heap.size w w') := fun p15 g15 => j3 p15 g15 fun w' hb _ => ⟨rfl, hb⟩
  refine selYN (fun hyt => ?_) (fun hyf => ?_) ?_
  · have hc2 := (hy.1 hyt).2.2
    have : reps s'.vs s'.ab.sk = reps s.vs s.ab.sk := by
      rw [v8, k8]
      exact reps_same fun a b => cn_in (by rw [eu, ev']; exact hc2) a b
    rw [this]; simp
  · have hc2 : ¬ Cn s.ab.sk u v := fun hh => by
      have := hy.2 ⟨hus, hvs, hh⟩
      rw [hyf] at this; cases this
    have hr := reps_snoc hss (es := s.ab.sk) (e := e0) (by rw [eu, ev']; exact ⟨hus, hvs⟩) (by rw [eu, ev']; exact hc2)
    have e2 : (reps s'.vs s'.ab.sk).length + 1 = (reps s.vs s.ab.sk).length := by rw [v8, k8]; exact hr
    rw [w64_in (by have := List.length_filter_le (fun v => decide (v ∈ reps s.vs s.ab.sk)) s.vs; have h2 := p7.hg.vlen; have h3 := p7.hg.ws.vlen; have h4 : (reps s.vs s.ab.sk).length ≤ s.vs.length := List.length_filter_le _ _; omega)]
    simp; omega
  rw [v8]
  refine sel_f (by simp) ?_
  by_cases hxs : x ∈ s.vs
  · rw [if_pos hxs]
    refine sel_t (by decide) (has_st l14 (by omega) ?_)
    by_cases hxc : x ∈ cur
    · have hq : vO18 s' x = cur := hin x hxs ((hmem x).1 hxc).2
      refine sel_t (decide_eq_true hxc) (same_st p14 lq14 l14 (by omega) fun w15 p15 g15 => sel_f (by rw [hq]; simp) (sel_t (by decide) (has_st (l14.below g15) (by omega) (sel_f (by rw [decide_eq_true hxc]; rfl) (fin p15 g15)))))
    · have hq : vO18 s' x = vO18 s x := hout x fun hh => hxc ((hmem x).2 ⟨hxs, hh⟩)
      refine sel_f (decide_eq_false hxc) (sel_t (by decide) (has_st l14 (by omega) (sel_t (by rw [decide_eq_false hxc]; rfl) (same_st p14 lq14 lc14 (by omega) fun w15 p15 g15 => sel_f (by rw [hq]; simp) (fin p15 g15)))))
  · rw [if_neg hxs]
    exact sel_f (by decide) (sel_f (by decide) (fin p14 (.refl _ _)))
theorem HdtBack_row {w : World} {A0 A1 : Option Addr} {n0 c0 n1 c1 : Nat} {zs : List Int} {f : Nat → Nat → Int} {id u v x : Int} (h0 : IsRow .i64 w A0 n0 c0 zs) (s0 : n0 * 8 ≤ 140737488351232) (h1 : IsRecs ks5 w A1 n1 c1 f) (s1 : n1 * 40 ≤ 140737488351232) (wi : (Lit.int .i64 id).wf = true) (wu : (Lit.int .i64 u).wf = true) (wv : (Lit.int .i64 v).wf = true) (wx : (Lit.int .i64 x).wf = true) :
    Calls Tryz.prog 4 #[.slice A0 n0 c0, .slice A1 n1 c1, .int .i64 id, .int .i64 u, .int .i64 v, .int .i64 x] w fun e w' => e = .returned (.bool true) ∧ Below w.heap.size w w' := by
  obtain ⟨sl, hs⟩ := sds_of h0 s0
  obtain ⟨l, h⟩ := scr_of h1 s1
  exact HdtBack_walk hs h (wf_i64 wi) (wf_i64 wu) (wf_i64 wv) (wf_i64 wx)
end
end Go.Proofs.YtbhhbnnmdekjiaaGreat.Rd
