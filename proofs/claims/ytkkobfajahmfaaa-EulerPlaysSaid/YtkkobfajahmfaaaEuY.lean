/- The document's marks and edges of a tree. Conditions: none. -/
import Derived.Test.YtkkobfajahmfaaaEuX
namespace Go.Proofs.Ytkkobfajahmfaaa.Rd
open Go.Dn Go.RowKit
set_option linter.unusedVariables false
set_option maxRecDepth 100000
def mkI (l : List Int) (x : Int) (on : Bool) : List Int := if on = true then wiI (woI l x) x else woI l x
theorem woI_le (l : List Int) (x : Int) : (woI l x).length ≤ l.length := List.length_filter_le _ _
theorem Mark_ok {w : World} {A : Option Addr} {n c : Nat} {l : List Int} (r : RI w A l) (hn : n = l.length) (hl : l.length ≤ 4096) (x : Int) (on : Bool) :
    Calls Try.prog 49 #[.slice A n c, .int .i64 x, .bool on] w fun e w' => ∃ A' c', e = .returned (.slice A' (mkI l x on).length c') ∧ OwnI w' w.heap.size TI A' c' (mkI l x on) ∧ Below w.heap.size w w' := by
  apply f_ref16_Mark.ok
  unfold f_ref16_Mark.wp
  have wl := woI_le l x
  refine (Without_ok r hn (by omega) x).mono ?_
  rintro _ w1 ⟨A1, c1, rfl, o1, g1⟩
  refine ⟨_, _, _, rfl, ?_⟩
  cases on with
  | true =>
    refine sel_t rfl ((With_ok o1.reads rfl (by omega) x).mono ?_)
    rintro _ w2 ⟨A2, c2, rfl, o2, g2⟩
    exact ⟨_, _, _, rfl, A2, c2, rfl, o2.mono g1.size, g1.trans (g2.mono g1.size)⟩
  | false => exact sel_f rfl ⟨A1, c1, rfl, o1, g1⟩
theorem mkI_mem {l : List Int} {x y : Int} {on : Bool} : y ∈ mkI l x on ↔ if y = x then on = true else y ∈ l := by
  unfold mkI
  cases on with
  | true =>
    rw [if_pos rfl, (wiI_perm _ _).mem_iff]
    by_cases e : y = x <;> simp [woI, e]
  | false => by_cases e : y = x <;> simp [woI, e]
theorem mkI_nd {l : List Int} (h : l.Nodup) (x : Int) (on : Bool) : (mkI l x on).Nodup := by
  have h1 : (woI l x).Nodup := h.filter _
  unfold mkI
  split
  · rw [(wiI_perm _ _).nodup_iff, List.nodup_cons]
    exact ⟨by simp [woI], h1⟩
  · exact h1
/-- a sorted list and one of its own with the same members -/
theorem sub_ext {l m : List Int} (h : l.Pairwise (· < ·)) (s : m.Sublist l) {f : Int → Bool} (hm : ∀ v, v ∈ m ↔ v ∈ l ∧ f v = true) : m = l.filter f :=
  sorted_ext (h.sublist s) (h.filter _) fun v => by rw [hm, List.mem_filter]
open Classical in
theorem RVerts_ok {w : World} {s : RS} {vr : List Int} {er : List E} {mv me : List Int} (h : RF w s vr er mv me) (g : GE vr er) {u : Int} (hu : u ∈ vr) :
    Calls Try.prog 51 #[.agg (rsC s), .int .i64 u] w fun e w' => ∃ A c, e = .returned (.slice A (cmpV vr er u).length c) ∧ RI w' A (cmpV vr er u) ∧ Below w.heap.size w w' := by
  refine (Verts_ok h g.rg hu).mono ?_
  rintro _ w1 ⟨A, c, out, rfl, r, hl, sub, hm, g1⟩
  have : out = cmpV vr er u := sub_ext g.vss sub fun v => by rw [hm]; simp
  subst this
  exact ⟨A, c, rfl, r, g1⟩
theorem edges_l0 {w0 : World} {s : RS} {vr : List Int} {er : List E} {mv me : List Int} (h : RF w0 s vr er mv me) {b1 : Nat} (h1 : HB w0 b1 (rsC s) 43) {Av : Option Addr} {cv : Nat} {lv : List Int} (rv : RI w0 Av lv) (hlv : lv.length ≤ 2048) {K0 : Option Addr → Nat → Nat → World → Prop}
    (k0 : ∀ A c w, OwnI w w0.heap.size TI A c ((er.filter fun e => decide (e.u ∈ lv)).map E.id) → Below w0.heap.size w0 w → K0 A ((er.filter fun e => decide (e.u ∈ lv)).map E.id).length c w) :
    ∀ (m i : Nat) (w : World) (A : Option Addr) (n c : Nat), er.length - i = m → i ≤ er.length → OwnI w w0.heap.size TI A c (((er.take i).filter fun e => decide (e.u ∈ lv)).map E.id) → n = (((er.take i).filter fun e => decide (e.u ∈ lv)).map E.id).length → Below w0.heap.size w0 w →
      f_ref16_Edges.l0 (m + 1) (⟨b1, 0, none⟩ : Addr) Av lv.length cv A n c (i : Int) w K0 := by
  have hel := h.el
  intro m
  induction m with
  | zero =>
    intro i w A n c hm hi o en hb
    have : i = er.length := by omega
    subst this
    rw [List.take_length] at o en
    subst en
    unfold f_ref16_Edges.l0
    exact hb_ldS (h1.below hb) (j := 1) rfl (sel_f (by rw [h.ne]; simp) (k0 A c w o hb))
  | succ m ih =>
    intro i w A n c hm hi o en hb
    have hlt : i < er.length := by omega
    have hw : IntKind.i64.wrap ((i : Int) + 1) = ((i + 1 : Nat) : Int) := by rw [w64_in (by omega)]; omega
    have htk : er.take (i + 1) = er.take i ++ [er[i]] := by rw [List.take_succ_eq_append_getElem hlt]
    obtain ⟨a, ha, q⟩ := (h.belw hb).e i hlt
    unfold f_ref16_Edges.l0
    refine hb_ldS (h1.below hb) (j := 1) rfl (sel_t (by rw [h.ne]; simpa using hlt) (hb_ldS (h1.below hb) (j := 1) rfl (optB_some ha (req_intro (by rw [h.ne]; simp; omega) ?_))))
    rw [Int.toNat_natCast]
    refine ldI_intro q.c1 (hasI_step (rv.belw hb) rfl (by omega) ?_)
    by_cases hin : er[i].u ∈ lv
    · refine sel_t (by simpa using hin) (hb_ldS (h1.below hb) (j := 1) rfl (optB_some ha (req_intro (by rw [h.ne]; simp; omega) (ldI_intro q.c0 ?_))))
      have hle : (((er.take i).filter fun e => decide (e.u ∈ lv)).map E.id).length ≤ 4096 := by
        rw [List.length_map]
        exact Nat.le_trans (List.length_filter_le _ _) (by rw [List.length_take]; omega)
      have e1 : (((er.take (i + 1)).filter fun e => decide (e.u ∈ lv)).map E.id) = (((er.take i).filter fun e => decide (e.u ∈ lv)).map E.id) ++ [er[i].id] := by
        rw [htk, List.filter_append, List.map_append]
        simp [hin]
      refine put_in o en hb.size (by omega) fun A' c' w3 o3 k3 f3 => ?_
      rw [hw]
      exact ih (i + 1) w3 _ _ c' (by omega) (by omega) (by rw [e1]; exact o3) (by rw [e1]) (hb.trans (k3.below hb.size fun k hk ⟨a, ha, e⟩ => by have := (o.block a ha).1; omega))
    · refine sel_f (by simpa using hin) ?_
      have e1 : (((er.take (i + 1)).filter fun e => decide (e.u ∈ lv)).map E.id) = (((er.take i).filter fun e => decide (e.u ∈ lv)).map E.id) := by
        rw [htk, List.filter_append, List.map_append]
        simp [hin]
      rw [hw]
      exact ih (i + 1) w A n c (by omega) (by omega) (by rw [e1]; exact o) (by rw [e1]; exact en) hb
theorem REdges_ok {w : World} {s : RS} {vr : List Int} {er : List E} {mv me : List Int} (h : RF w s vr er mv me) (g : GE vr er) {u : Int} (hu : u ∈ vr) :
    Calls Try.prog 52 #[.agg (rsC s), .int .i64 u] w fun e w' => ∃ A c, e = .returned (.slice A (cmpE er u).length c) ∧ RI w' A (cmpE er u) ∧ Below w.heap.size w w' := by
  apply f_ref16_Edges.ok
  unfold f_ref16_Edges.wp
  refine al_new fun w1 b1 e1 s1 h1 g1 => ?_
  have h1 : HB w1 b1 (rsC s) 43 := h1
  refine get4 h1 ((RVerts_ok (h.belw g1) g hu).mono ?_)
  rintro _ w2 ⟨A2, c2, rfl, r2, g2⟩
  have hb2 := g1.trans (g2.mono g1.size)
  refine ⟨_, _, _, rfl, alW_intro ?_⟩
  have o3 := OwnI.lit (w := w2) (B := w2.heap.size) (e := TI) [] (cs := #[]) rfl (Nat.le_refl _) (by simp)
  have b3 : Below w2.heap.size w2 (w2.alloc (.cells #[] TI)) := (Below.refl _ _).alloc (Nat.le_refl _) _
  have ef : ((er.filter fun e => decide (e.u ∈ cmpV vr er u)).map E.id) = cmpE er u := by
    unfold cmpE
    congr 1
    refine List.filter_congr fun e he => ?_
    simp [cmpV_mem, (g.ends e he).1]
  have hle := Nat.le_trans (cmpV_le (es := er) (vs := vr) u) h.vl
  generalize w2.alloc (.cells #[] TI) = w3 at o3 b3
  refine ⟨er.length + 1, edges_l0 (h.belw hb2) (h1.below g2) r2 hle (fun A c w4 o4 g4 => ?_) er.length 0 w3 _ _ _ (by omega) (by omega) o3 rfl b3⟩
  rw [ef] at o4 ⊢
  exact fun _ => ⟨A, c, rfl, o4.reads, hb2.trans (g4.mono hb2.size)⟩
theorem any_l0 {w : World} {x : Int} {A1 A2 : Option Addr} {c1 c2 : Nat} {l1 l2 : List Int} (r1 : RI w A1 l1) (r2 : RI w A2 l2) (h1 : l1.length ≤ 4096) (h2 : l2.length ≤ 4096) {K0 Kr : Bool → World → Prop}
    (k0 : ∀ b, (b = true ↔ ∀ y ∈ l1, y ∉ l2) → ¬ (x ∈ l1 ∧ x ∈ l2) → K0 b w) (kr : x ∈ l1 ∧ x ∈ l2 → Kr true w) :
    ∀ (m i : Nat) (b : Bool), l1.length - i = m → i ≤ l1.length → (b = true ↔ ∀ y ∈ l1.take i, y ∉ l2) → (∀ y ∈ l1.take i, y ∈ l2 → y ≠ x) → f_ref16_Any.l0 (m + 1) x A1 l1.length c1 A2 l2.length c2 b (i : Int) w K0 Kr := by
  intro m
  induction m with
  | zero =>
    intro i b hm hi hb hx
    have : i = l1.length := by omega
    subst this
    rw [List.take_length] at hb hx
    unfold f_ref16_Any.l0
    exact sel_f (by simp) (k0 b hb fun h => hx x h.1 h.2 rfl)
  | succ m ih =>
    intro i b hm hi hb hx
    have hlt : i < l1.length := by omega
    have hw : IntKind.i64.wrap ((i : Int) + 1) = ((i + 1 : Nat) : Int) := by rw [w64_in (by omega)]; omega
    obtain ⟨a, rfl, q⟩ := r1 i hlt
    have hm' : ∀ y, y ∈ l1.take (i + 1) ↔ y ∈ l1.take i ∨ y = l1[i] := fun y => by rw [List.take_succ_eq_append_getElem hlt, List.mem_append, List.mem_singleton]
    unfold f_ref16_Any.l0
    refine sel_t (by simpa using hlt) (optB_some rfl (req_intro (by simp; omega) ?_))
    rw [Int.toNat_natCast, Nat.mul_one]
    refine ldI_intro q (hasI_step r2 rfl (by omega) ?_)
    rw [hw]
    by_cases hin : l1[i] ∈ l2
    · refine sel_t (by simpa using hin) (optB_some rfl (req_intro (by simp; omega) (ldI_intro q ?_)))
      by_cases e : l1[i] = x
      · exact sel_t (by simpa using e) (kr ⟨by rw [← e]; exact List.getElem_mem hlt, by rw [← e]; exact hin⟩)
      · refine sel_f (by simpa using e) (ih (i + 1) false (by omega) (by omega) ⟨fun h => by (cases h), fun h => absurd hin (h _ ((hm' _).2 (.inr rfl)))⟩ fun y hy hy2 => ?_)
        rcases (hm' y).1 hy with h | h
        · exact hx y h hy2
        · rw [h]; exact e
    · refine sel_f (by simpa using hin) (ih (i + 1) b (by omega) (by omega) ?_ fun y hy hy2 => ?_)
      · rw [hb]
        constructor
        · intro h y hy
          rcases (hm' y).1 hy with h1 | h1
          · exact h y h1
          · rw [h1]; exact hin
        · exact fun h y hy => h y ((hm' y).2 (.inl hy))
      · rcases (hm' y).1 hy with h | h
        · exact hx y h hy2
        · rw [h] at hy2; exact absurd hy2 hin
theorem Any_ok {w : World} {x : Int} {A1 A2 : Option Addr} {n1 n2 c1 c2 : Nat} {l1 l2 : List Int} (r1 : RI w A1 l1) (e1 : n1 = l1.length) (r2 : RI w A2 l2) (e2 : n2 = l2.length) (h1 : l1.length ≤ 4096) (h2 : l2.length ≤ 4096) (hs : (x ∈ l1 ∧ x ∈ l2) ∨ (x = 0 ∧ ∀ y ∈ l1, y ∉ l2)) :
    Calls Try.prog 53 #[.int .i64 x, .slice A1 n1 c1, .slice A2 n2 c2] w fun e w' => e = .returned (.bool true) ∧ w' = w := by
  subst e1; subst e2
  apply f_ref16_Any.ok
  unfold f_ref16_Any.wp
  refine ⟨l1.length + 1, any_l0 r1 r2 h1 h2 (fun b hb hn => fun _ => ?_) (fun _ _ => ⟨rfl, rfl⟩) l1.length 0 true (by omega) (by omega) (by simp) (by simp)⟩
  rcases hs with h | ⟨h0, h⟩
  · exact absurd h hn
  · rw [hb.2 h]; exact sel_t rfl ⟨by subst h0; rfl, rfl⟩
end Go.Proofs.Ytkkobfajahmfaaa.Rd
