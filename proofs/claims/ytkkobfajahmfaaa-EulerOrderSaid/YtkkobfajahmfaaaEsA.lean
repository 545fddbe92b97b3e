/- The document's plain forest: Joined and Link. Conditions: none. -/
import Derived.Test.YtkkobfajahmfaaaErZ
namespace Go.Proofs.Ytkkobfajahmfaaa.Rd
open Go.Dn Go.RowKit
set_option linter.unusedVariables false
set_option maxRecDepth 100000
/-- what the document's forests hold of their lists -/
structure RG (vr : List Int) (er : List E) : Prop where
  nd : vr.Nodup
  ends : ∀ e ∈ er, e.u ∈ vr ∧ e.v ∈ vr
  ids : (er.map E.id).Nodup
theorem Verts_l0 {w : World} {s : RS} {vr : List Int} {b1 : Nat} (h1 : HB w b1 (rsC s) 43) (rv : RI w s.A0 vr) (hn : s.n0 = vr.length) (hl : vr.length ≤ 100000) {u : Int} (hu : u ∈ vr) {K0 : Int → World → Prop} (k0 : ∀ (j : Nat) (hj : j < vr.length), vr[j] = u → K0 (j : Int) w) : ∀ (m i : Nat) (x : Int), vr.length - i = m → i ≤ vr.length →
      ((∃ (j : Nat) (hj : j < vr.length), vr[j] = u ∧ x = (j : Int)) ∨ u ∈ vr.drop i) → f_ref16_Verts.l0 (m + 1) u (⟨b1, 0, none⟩ : Addr) x (i : Int) w K0 := by
  intro m
  induction m with
  | zero =>
    intro i x hm hi hx
    have : i = vr.length := by omega
    subst this
    unfold f_ref16_Verts.l0
    refine hb_ldS0 h1 rfl (sel_f (by simp [hn]) ?_)
    rcases hx with ⟨j, hj, h2, rfl⟩ | hx
    · exact k0 j hj h2
    · simp at hx
  | succ m ih =>
    intro i x hm hi hx
    have hlt : i < vr.length := by omega
    obtain ⟨a, hA, q⟩ := rv i hlt
    have hw : IntKind.i64.wrap ((i : Int) + 1) = ((i + 1 : Nat) : Int) := by rw [w64_in (by omega)]; omega
    unfold f_ref16_Verts.l0
    refine hb_ldS0 h1 rfl (sel_t (by simp; omega) (hb_ldS0 h1 rfl (optB_some hA (req_intro (by simp; omega) (ldI_intro (x := vr[i]) (by rw [Int.toNat_natCast, Nat.mul_one]; exact q) ?_)))))
    rw [hw]
    have hm2 : vr.length - (i + 1) = m := by clear hx; omega
    by_cases e : vr[i] = u
    · exact sel_t (by simp [e]) (ih (i + 1) _ hm2 hlt (.inl ⟨i, hlt, e, rfl⟩))
    · refine sel_f (by simp [e]) (ih (i + 1) _ hm2 hlt (hx.imp id fun hx => ?_))
      rw [List.drop_eq_getElem_cons hlt, List.mem_cons] at hx
      exact hx.resolve_left fun h => e h.symm
theorem Verts_l1 {w0 : World} {s : RS} {vr : List Int} {b1 : Nat} {st : List Int} {As : Option Addr} {ns cs : Nat} {wS : World} (hS : Below w0.heap.size w0 wS) (h1 : HB wS b1 (rsC s) 43) (rv : RI w0 s.A0 vr) (hn : s.n0 = vr.length) (hl : vr.length ≤ 100000) (rs : RI wS As st) (hst : st.length = vr.length) (hns : ns = st.length) {at_ : Nat} (hat : at_ < vr.length) {K2 : Option Addr → Nat → Nat → World → Prop}
    (k2 : ∀ w A c (out : List Int), OwnI w wS.heap.size TI A c out → out.Sublist vr → (∀ v, v ∈ out ↔ ∃ (j : Nat) (hj : j < vr.length), vr[j] = v ∧ st[j]'(by omega) = st[at_]'(by omega)) → Below wS.heap.size wS w → K2 A out.length c w) : ∀ (m i : Nat) (w : World) (A : Option Addr) (n c : Nat) (out : List Int), vr.length - i = m → i ≤ vr.length → OwnI w wS.heap.size TI A c out → n = out.length → out.Sublist (vr.take i) →
      (∀ v, v ∈ out ↔ ∃ (j : Nat) (hj : j < vr.length), j < i ∧ vr[j] = v ∧ st[j]'(by omega) = st[at_]'(by omega)) → Below wS.heap.size wS w → f_ref16_Verts.l1 (m + 1) (⟨b1, 0, none⟩ : Addr) As ns cs (at_ : Int) A n c (i : Int) w K2 := by
  intro m
  induction m with
  | zero =>
    intro i w A n c out hm hi ho hn2 hlo hv hb
    have : i = vr.length := by omega
    subst this
    subst hn2
    unfold f_ref16_Verts.l1
    refine hb_ldS0 (h1.below hb) rfl (sel_f (by simp [hn]) (k2 w A c out ho (by rw [List.take_length] at hlo; exact hlo) (fun v => ?_) hb))
    rw [hv]
    exact ⟨fun ⟨j, hj, _, h⟩ => ⟨j, hj, h⟩, fun ⟨j, hj, h⟩ => ⟨j, hj, hj, h⟩⟩
  | succ m ih =>
    intro i w A n c out hm hi ho hn2 hlo hv hb
    have hlt : i < vr.length := by omega
    have hlo2 := hlo.length_le
    rw [List.length_take] at hlo2
    have hbd : Below wS.heap.size wS w.drew := hb.drew
    have h1d := h1.below hbd
    obtain ⟨a, hA, q⟩ := (rv.belw (hS.trans (hbd.mono hS.size))) i hlt
    obtain ⟨a2, rfl, q2⟩ := (rs.belw hbd) i (by omega)
    obtain ⟨a3, e3, q3⟩ := (rs.belw hbd) at_ (by omega)
    injection e3 with e3; subst e3
    have hw : IntKind.i64.wrap ((i : Int) + 1) = ((i + 1 : Nat) : Int) := by rw [w64_in (by omega)]; omega
    unfold f_ref16_Verts.l1
    refine hb_ldS0 (h1.below hb) rfl (sel_t (by simp; omega) (drW_intro (sel_t (by simp) (optB_some rfl (req_intro (by simp; omega) (ldI_intro (by rw [Int.toNat_natCast, Nat.mul_one]; exact q2) (optB_some rfl (req_intro (by simp; omega) (ldI_intro (by rw [Int.toNat_natCast, Nat.mul_one]; exact q3) ?_)))))))))
    have od : OwnI w.drew wS.heap.size TI A c out := ho.keeps (S := fun _ => False) (Keeps.refl _ _).drew fun _ _ => id
    by_cases e : st[i]'(by omega) = st[at_]'(by omega)
    · refine sel_t (by simpa using e) (hb_ldS0 h1d rfl (optB_some hA (req_intro (by simp; omega) (ldI_intro (x := vr[i]) (by rw [Int.toNat_natCast, Nat.mul_one]; exact q) ?_))))
      refine put_in od hn2 (x := vr[i]) hbd.size (by omega) fun A3 c3 w3 o3 k3 f3 => ?_
      rw [hw]
      refine ih (i + 1) w3 _ _ c3 (out ++ [vr[i]]) (by omega) (by omega) o3 rfl (by rw [List.take_succ_eq_append_getElem hlt]; exact hlo.append (List.Sublist.refl _)) (fun v => ?_) (hbd.trans (k3.below hbd.size fun k hk ⟨a', ha', hh⟩ => by have := (ho.block a' ha').1; omega))
      rw [List.mem_append, hv, List.mem_singleton]
      constructor
      · rintro (⟨j, hj, hji, h⟩ | rfl)
        · exact ⟨j, hj, by omega, h⟩
        · exact ⟨i, hlt, by omega, rfl, e⟩
      · rintro ⟨j, hj, hji, h, h'⟩
        by_cases hj2 : j < i
        · exact .inl ⟨j, hj, hj2, h, h'⟩
        · have : j = i := by omega
          subst this; exact .inr h.symm
    · refine sel_f (by simpa using e) ?_
      rw [hw]
      refine ih (i + 1) _ A n c out (by omega) (by omega) od hn2 (by rw [List.take_succ_eq_append_getElem hlt]; exact hlo.trans (List.sublist_append_left _ _)) (fun v => ?_) hbd
      rw [hv]
      constructor
      · rintro ⟨j, hj, hji, h⟩; exact ⟨j, hj, by omega, h⟩
      · rintro ⟨j, hj, hji, h, h'⟩
        refine ⟨j, hj, ?_, h, h'⟩
        have : j ≠ i := fun e2 => by subst e2; exact e h'
        omega
theorem Verts_ok {w : World} {s : RS} {vr : List Int} {er : List E} {mv me : List Int} (h : RF w s vr er mv me) (g : RG vr er) {u : Int} (hu : u ∈ vr) :
    Calls Try.prog 51 #[.agg (rsC s), .int .i64 u] w fun e w' => ∃ A c out, e = .returned (.slice A out.length c) ∧ RI w' A out ∧ out.length ≤ 2048 ∧ out.Sublist vr ∧ (∀ v, v ∈ out ↔ v ∈ vr ∧ Cn er u v) ∧ Below w.heap.size w w' := by
  apply f_ref16_Verts.ok
  unfold f_ref16_Verts.wp
  refine al_new fun w1 b1 e1 s1 h1 g1 => ?_
  have h1 : HB w1 b1 (rsC s) 43 := h1
  have hf := h.belw g1
  refine hb_ldS0 h1 rfl (hb_ldS h1 (j := 1) rfl ((Sets_ok hf.v h.nv hf.e h.ne h.vl h.el g.nd g.ends).mono ?_))
  rintro _ w2 ⟨As, cs, st, rfl, o2, hst, g2⟩
  have hb2 := g1.trans (g2.mono (by omega))
  have h12 := h1.below g2
  have hf2 := h.belw hb2
  have hvl := h.vl
  refine ⟨_, _, _, rfl, vr.length + 1, Verts_l0 h12 hf2.v h.nv (by omega) hu (fun j hj ej => ?_) vr.length 0 _ (by omega) (by omega) (.inr (by simpa using hu))⟩
  intro _
  refine alW_intro ?_
  have o3 := OwnI.lit (w := w2) (B := w2.heap.size) (e := TI) [] (cs := #[]) rfl (Nat.le_refl _) (by simp)
  have b3 : Below w2.heap.size w2 (w2.alloc (.cells #[] TI)) := (Below.refl _ _).alloc (Nat.le_refl _) _
  generalize w2.alloc (.cells #[] TI) = w3 at o3 b3
  refine ⟨vr.length + 1, Verts_l1 (w0 := w) (wS := w2) hb2 h12 h.v h.nv (by omega) o2.reads hst.len rfl hj (fun w4 A c out o4 l4 hv b4 => ?_) vr.length 0 w3 _ _ _ [] (by omega) (by omega) o3 rfl (by simp) (fun v => by simp) b3⟩
  intro _
  refine ⟨A, c, out, rfl, o4.reads, by have := l4.length_le; omega, l4, fun v => ?_, hb2.trans (b4.mono hb2.size)⟩
  rw [hv]
  constructor
  · rintro ⟨k, hk, rfl, e⟩
    have := (hst.ok k j hk hj).1 e
    rw [ej] at this
    exact ⟨List.getElem_mem hk, this.symm⟩
  · rintro ⟨hm, hc⟩
    obtain ⟨k, hk, rfl⟩ := List.getElem_of_mem hm
    exact ⟨k, hk, rfl, (hst.ok k j hk hj).2 (by rw [ej]; exact hc.symm)⟩
theorem RJoined_ok {w : World} {s : RS} {vr : List Int} {er : List E} {mv me : List Int} (h : RF w s vr er mv me) (g : RG vr er) {u v : Int} (hu : u ∈ vr) (hv : v ∈ vr) :
    Calls Try.prog 47 #[.agg (rsC s), .int .i64 u, .int .i64 v] w fun e w' => (∃ b, e = .returned (.bool b) ∧ (b = true ↔ Jn er u v)) ∧ Below w.heap.size w w' := by
  apply f_ref16_Joined.ok
  unfold f_ref16_Joined.wp
  refine al_new fun w1 b1 e1 s1 h1 g1 => ?_
  have h1 : HB w1 b1 (rsC s) 43 := h1
  have hf := h.belw g1
  refine get4 h1 ((Verts_ok hf g hu).mono ?_)
  rintro _ w2 ⟨A, c, out, rfl, r2, l2, _, hm, g2⟩
  refine ⟨_, _, _, rfl, (Has_ok r2 rfl (by omega) v).mono ?_⟩
  rintro _ w3 ⟨rfl, rfl⟩
  refine ⟨_, rfl, ⟨_, rfl, ?_⟩, g1.trans (g2.mono (by omega))⟩
  rw [decide_eq_true_iff, hm]
  constructor
  · rintro ⟨_, p, hp⟩
    exact hp.red fun e he e' he' hid => by
      have key : ∀ {p : List E}, (p.map E.id).Nodup → e ∈ p → e' ∈ p → e = e' := by
        intro p
        induction p with
        | nil => intro _ h; cases h
        | cons c p ih =>
          intro nd h1 h2
          rw [List.map_cons, List.nodup_cons] at nd
          rcases List.mem_cons.1 h1 with e1 | h1 <;> rcases List.mem_cons.1 h2 with e2 | h2
          · rw [e1, e2]
          · exact absurd (by rw [← e1, hid]; exact List.mem_map_of_mem h2) nd.1
          · exact absurd (by rw [← e2, ← hid]; exact List.mem_map_of_mem h1) nd.1
          · exact ih nd.2 h1 h2
      exact key g.ids he he'
  · rintro ⟨p, hp, _⟩; exact ⟨hv, p, hp⟩
/-! ### Link -/
def insE : List E → E → List E
  | [], e => [e]
  | y :: l, e => if e.id < y.id then e :: y :: l else y :: insE l e
theorem insE_cons (y : E) (l : List E) (e : E) : insE (y :: l) e = if e.id < y.id then e :: y :: l else y :: insE l e := rfl
theorem insE_perm (l : List E) (e : E) : (insE l e).Perm (e :: l) := by
  induction l with
  | nil => exact .refl _
  | cons y l ih =>
    rw [insE_cons]
    split
    · exact .refl _
    · exact (ih.cons y).trans (.swap e y l)
section
variable {w0 wS : World} {s : RS} {vr : List Int} {er : List E} {mv me : List Int} {e : E} {b1 b3 b8 : Nat} {Av : Option Addr} {nv cv : Nat}
theorem RLink_j1 (h : RF w0 s vr er mv me) (hb8 : w0.heap.size ≤ b8) (l8 : b8 < wS.heap.size) (hS : Below w0.heap.size w0 wS) (h1S : HB wS b1 (rsC s) 43) (n1 : b1 ≠ b8) {i : Nat} (hlt : i < er.length) {w : World} {A : Option Addr} {c : Nat} {out : List E} (h8 : HB w b8 (nC Av nv cv A out.length c) 41) (ho : OwnEd w wS.heap.size TE A c out) (hlo : out.length ≤ 100000) (hk : Keeps (fun k => k = b8) wS w) {Kn : World → Prop}
    (kn : ∀ w' A' c', HB w' b8 (nC Av nv cv (some A') (out ++ [er[i]]).length c') 41 → OwnEd w' wS.heap.size TE (some A') c' (out ++ [er[i]]) → Keeps (fun k => k = b8) wS w' → Kn w') : f_ref16_Link.j1 (⟨b1, 0, none⟩ : Addr) (⟨b8, 0, none⟩ : Addr) (i : Int) w Kn := by
  have hn := h.ne
  have hel := h.el
  have hsz := hS.size
  have hd8 : HB w.drew b8 (nC Av nv cv A out.length c) 41 := h8
  have hkd := hk.drew
  obtain ⟨a, hA, _⟩ := (h.belw (HB.belK hS hk hb8)).e i hlt
  have qq : ∀ w', Keeps (fun k => k = b8) wS w' → REd w' a i er[i] := fun w' hk => by
    obtain ⟨a', hA', q'⟩ := (h.belw (HB.belK hS hk hb8)).e i hlt
    rw [hA] at hA'; injection hA' with hA'; subst hA'; exact q'
  unfold f_ref16_Link.j1
  refine drW_intro ⟨fun w' => HB w' b8 (nC Av nv cv A out.length c) 41 ∧ Keeps (fun k => k = b8) wS w', ⟨hd8, hkd⟩, A, _, c, fun w' h => (h.1.cell 1).trans rfl, s.A1, s.n1, s.c1, fun w' h => ((h1S.keeps h.2 n1).cell 1).trans rfl, optB_some hA (req_intro (by simp; omega) ?_)⟩
  refine ⟨_, fun w' h => by rw [Int.toNat_natCast]; exact (qq w' h.2).c0, _, fun w' h => by rw [Int.toNat_natCast]; exact (qq w' h.2).c1, _, fun w' h => by rw [Int.toNat_natCast]; exact (qq w' h.2).c2, _, fun w' h => by rw [Int.toNat_natCast]; exact (qq w' h.2).c3, ?_⟩
  refine al_new fun w2 b e2 s2 h2 g2 => ?_
  have o2 : OwnEd w2 wS.heap.size TE A c out := (ho.keeps (S := fun _ => False) (w' := w.drew) (Keeps.refl _ _).drew fun _ _ => id).keeps (S := fun _ => False) (.of_below g2) fun _ _ => id
  have hk2 := hkd.trans (.of_below g2)
  refine ⟨⟨hd8.below g2, hk2⟩, app_ed o2 rfl (e := er[i]) h2 hk2.size (by omega) fun A' c' w3 o3 k3 f3 => ⟨_, _, _, rfl, ?_⟩⟩
  have nA : ∀ k, k < wS.heap.size → ¬ Ob A k := fun k hk ⟨a', ha', hh⟩ => by have := (ho.block a' ha').1; omega
  have h83 := (hd8.below g2).keeps k3 (nA b8 l8)
  refine hb_st h83 (j := 1) (by simp [nC]) fun w4 h84 k4 => ?_
  refine kn w4 A' c' h84 (o3.keeps k4 fun a' ha' e => by have := (o3.block a' ha').1; omega) ?_
  exact (hk2.trans' k3 fun k hk hh => absurd hh (nA k hk)).trans k4
theorem RLink_l0 (h : RF w0 s vr er mv me) (hb8 : w0.heap.size ≤ b8) (l8 : b8 < wS.heap.size) (hS : Below w0.heap.size w0 wS) (h1S : HB wS b1 (rsC s) 43) (n1 : b1 ≠ b8) (h3S : HB wS b3 (eC e) 50) (n3 : b3 ≠ b8) {K0 : Bool → World → Prop}
    (k0 : ∀ w A c d out, HB w b8 (nC Av nv cv A out.length c) 41 → OwnEd w wS.heap.size TE A c out → Keeps (fun k => k = b8) wS w → out.length ≤ er.length + 1 → (if d = true then out = insE er e else insE er e = out ++ [e]) → K0 d w) : ∀ (m i : Nat) (w : World) (A : Option Addr) (c : Nat) (d : Bool) (out : List E), er.length - i = m → i ≤ er.length →
      HB w b8 (nC Av nv cv A out.length c) 41 → OwnEd w wS.heap.size TE A c out → Keeps (fun k => k = b8) wS w → out.length ≤ i + (if d = true then 1 else 0) → (if d = true then out ++ er.drop i = insE er e else insE er e = out ++ insE (er.drop i) e) → f_ref16_Link.l0 (m + 1) (⟨b1, 0, none⟩ : Addr) (⟨b3, 0, none⟩ : Addr) (⟨b8, 0, none⟩ : Addr) d (i : Int) w K0 := by
  have hn := h.ne
  have hel := h.el
  have hsz := hS.size
  intro m
  induction m with
  | zero =>
    intro i w A c d out hm hi h8 ho hk hlo hd
    have : i = er.length := by omega
    subst this
    rw [List.drop_length] at hd
    unfold f_ref16_Link.l0
    refine hb_ldS (h1S.keeps hk n1) (j := 1) rfl (sel_f (by simp [hn]) (k0 w A c d out h8 ho hk (by cases d <;> simp at hlo <;> omega) ?_))
    cases d with
    | true => simpa using hd
    | false => exact hd
  | succ m ih =>
    intro i w A c d out hm hi h8 ho hk hlo hd
    have hlt : i < er.length := by omega
    have hw : IntKind.i64.wrap ((i : Int) + 1) = ((i + 1 : Nat) : Int) := by rw [w64_in (by omega)]; omega
    have hdr := List.drop_eq_getElem_cons hlt
    have hkd := hk.drew
    have od : OwnEd w.drew wS.heap.size TE A c out := ho.keeps (S := fun _ => False) (Keeps.refl _ _).drew fun _ _ => id
    have hd8 : HB w.drew b8 (nC Av nv cv A out.length c) 41 := h8
    have go : ∀ (w3 : World) (A3 : Option Addr) (c3 : Nat) (out3 : List E) (d3 : Bool), HB w3 b8 (nC Av nv cv A3 out3.length c3) 41 → OwnEd w3 wS.heap.size TE A3 c3 out3 → Keeps (fun k => k = b8) wS w3 → out3.length ≤ i + (if d3 = true then 1 else 0) → (if d3 = true then out3 ++ er.drop i = insE er e else insE er e = (out3 ++ [er[i]]) ++ insE (er.drop (i + 1)) e) →
        f_ref16_Link.j1 (⟨b1, 0, none⟩ : Addr) (⟨b8, 0, none⟩ : Addr) (i : Int) w3 (fun w174 => ∀ _ : Fr, f_ref16_Link.l0 (m + 1) (⟨b1, 0, none⟩ : Addr) (⟨b3, 0, none⟩ : Addr) (⟨b8, 0, none⟩ : Addr) d3 (IntKind.i64.wrap ((i : Int) + 1)) w174 K0) := by
      intro w3 A3 c3 out3 d3 h83 o3 k3 hl3 hd3
      refine RLink_j1 h hb8 l8 hS h1S n1 hlt h83 o3 (by cases d3 <;> simp at hl3 <;> omega) k3 fun w4 A4 c4 h84 o4 k4 => ?_
      intro _
      rw [hw]
      refine ih (i + 1) w4 _ c4 d3 (out3 ++ [er[i]]) (by omega) (by omega) h84 o4 k4 (by rw [List.length_append]; simp only [List.length_singleton]; omega) ?_
      cases d3 with
      | true =>
        rw [if_pos rfl] at hd3 ⊢
        rw [hdr] at hd3
        rw [List.append_assoc]; exact hd3
      | false => rw [if_neg (by decide)] at hd3 ⊢; exact hd3
    have h1d := h1S.keeps hkd n1
    have h3d := h3S.keeps hkd n3
    obtain ⟨a, hA, q⟩ := (h.belw (HB.belK hS hkd hb8)).e i hlt
    unfold f_ref16_Link.l0
    refine hb_ldS (h1S.keeps hk n1) (j := 1) rfl (sel_t (by simp; omega) (drW_intro ?_))
    cases d with
    | true => exact sel_f rfl (go w.drew A c out true hd8 od hkd hlo hd)
    | false =>
      rw [if_neg (by decide), hdr, insE_cons] at hd
      have hlo' : out.length ≤ i := by simpa using hlo
      refine sel_t rfl (hb_ldI0 h3d rfl (hb_ldS h1d (j := 1) rfl (optB_some hA (req_intro (by simp; omega) (ldI_intro (by rw [Int.toNat_natCast]; exact q.c0) ?_)))))
      by_cases hlt2 : e.id < er[i].id
      · rw [if_pos hlt2] at hd
        refine sel_t (by simpa using hlt2) (hb_ldS hd8 (j := 1) rfl (getE h3d (put_ed od rfl (e := e) hkd.size (by omega) fun A3 c3 w3 o3 k3 f3 => ?_)))
        have nA : ∀ k, k < wS.heap.size → ¬ Ob A k := fun k hk ⟨a', ha', hh⟩ => by have := (ho.block a' ha').1; omega
        have h83 := hd8.keeps k3 (nA b8 l8)
        refine hb_st h83 (j := 1) (by simp [nC]) fun w4 h84 k4 => ?_
        refine go w4 (some A3) c3 (out ++ [e]) true h84 (o3.keeps k4 fun a' ha' e => by have := (o3.block a' ha').1; omega) ((hkd.trans' k3 fun k hk hh => absurd hh (nA k hk)).trans k4) (by simp; omega) ?_
        rw [if_pos rfl, hd, hdr]; simp
      · rw [if_neg hlt2] at hd
        refine sel_f (by simpa using hlt2) (go w.drew A c out false hd8 od hkd hlo ?_)
        rw [if_neg (by decide), List.append_assoc]; exact hd
end
end Go.Proofs.Ytkkobfajahmfaaa.Rd
