/- Who is joined to whom, in plain words and as the document's sets tell it. Conditions: none. -/
import Derived.Test.YtkkobfajahmfaaaErY
namespace Go.Dn
open Go.RowKit
set_option linter.unusedVariables false
theorem oth_oth {e : E} {m : Int} (h : e.u = m ∨ e.v = m) : oth e (oth e m) = m := by
  unfold oth
  by_cases h1 : e.u = m
  · rw [if_pos h1]
    split
    · rename_i h2; rw [← h2]; exact h1
    · exact h1
  · rw [if_neg h1, if_pos rfl]; exact h.resolve_left h1
theorem Wk.app {es : List E} {u m v : Int} {p q : List E} (h : Wk es u p m) (k : Wk es m q v) : Wk es u (p ++ q) v := by
  induction h with
  | nil => exact k
  | cons he hm h ih => exact .cons he hm (ih k)
theorem Wk.rev {es : List E} {u v : Int} {p : List E} (h : Wk es u p v) : Wk es v p.reverse u := by
  induction h with
  | nil => exact .nil _
  | cons he hm h ih =>
    rename_i e m v p
    rw [List.reverse_cons]
    refine ih.app (.cons he (oth_end e m) ?_)
    rw [oth_oth hm]; exact .nil _
theorem Wk.mono {es es' : List E} (hs : ∀ e ∈ es, e ∈ es') {u v : Int} {p : List E} (h : Wk es u p v) : Wk es' u p v := by
  induction h with
  | nil => exact .nil _
  | cons he hm h ih => exact .cons (hs _ he) hm ih
theorem Wk.of_mem {es es' : List E} {u v : Int} {p : List E} (h : Wk es u p v) (hs : ∀ e ∈ p, e ∈ es') : Wk es' u p v := by
  induction h with
  | nil => exact .nil _
  | cons he hm h ih => exact .cons (hs _ (by simp)) hm (ih fun e he => hs e (by simp [he]))
theorem Wk.red {es : List E} (hi : ∀ e ∈ es, ∀ e' ∈ es, e.id = e'.id → e = e') {u v : Int} {p : List E} (h : Wk es u p v) : ∃ q, Wk es u q v ∧ NB q := by
  induction h with
  | nil => exact ⟨[], .nil _, trivial⟩
  | cons he hm h ih =>
    rename_i e m v p
    obtain ⟨q, hq, nq⟩ := ih
    cases q with
    | nil => exact ⟨[e], .cons he hm hq, trivial⟩
    | cons e' q =>
      by_cases hid : e.id = e'.id
      · have hq0 := hq
        cases hq with
        | cons he' hm' hq' =>
          have := hi e he e' he' hid
          subst this
          rw [oth_oth hm] at hq'
          exact ⟨q, hq', nq.tail⟩
      · exact ⟨e :: e' :: q, .cons he hm hq, hid, nq⟩
def Cn (es : List E) (u v : Int) : Prop := ∃ p, Wk es u p v
theorem Cn.refl (es : List E) (u : Int) : Cn es u u := ⟨[], .nil _⟩
theorem Cn.trans {es : List E} {u v w : Int} (h : Cn es u v) (k : Cn es v w) : Cn es u w := by
  obtain ⟨p, hp⟩ := h; obtain ⟨q, hq⟩ := k; exact ⟨_, hp.app hq⟩
theorem Cn.symm {es : List E} {u v : Int} (h : Cn es u v) : Cn es v u := by
  obtain ⟨p, hp⟩ := h; exact ⟨_, hp.rev⟩
theorem Cn.mono {es es' : List E} (hs : ∀ e ∈ es, e ∈ es') {u v : Int} (h : Cn es u v) : Cn es' u v := by
  obtain ⟨p, hp⟩ := h; exact ⟨_, hp.mono hs⟩
theorem Cn.edge {es : List E} {e : E} (he : e ∈ es) : Cn es e.u e.v := ⟨[e], .cons he (.inl rfl) (by unfold oth; rw [if_pos rfl]; exact .nil _)⟩
theorem cn_add {es : List E} {e : E} {x y : Int} : Cn (es ++ [e]) x y ↔ Cn es x y ∨ (Cn es x e.u ∧ Cn es e.v y) ∨ (Cn es x e.v ∧ Cn es e.u y) := by
  have sub : ∀ a ∈ es, a ∈ es ++ [e] := fun a ha => by simp [ha]
  have ee : Cn (es ++ [e]) e.u e.v := Cn.edge (by simp)
  constructor
  · rintro ⟨p, hp⟩
    refine hp.inv (Q := fun y => Cn es x y ∨ (Cn es x e.u ∧ Cn es e.v y) ∨ (Cn es x e.v ∧ Cn es e.u y)) (fun a ha => ?_) (.inl (Cn.refl _ _))
    rcases List.mem_append.1 ha with ha | ha
    · have h := Cn.edge ha
      constructor
      · rintro (h1 | ⟨h1, h2⟩ | ⟨h1, h2⟩)
        · exact .inl (h1.trans h)
        · exact .inr (.inl ⟨h1, h2.trans h⟩)
        · exact .inr (.inr ⟨h1, h2.trans h⟩)
      · rintro (h1 | ⟨h1, h2⟩ | ⟨h1, h2⟩)
        · exact .inl (h1.trans h.symm)
        · exact .inr (.inl ⟨h1, h2.trans h.symm⟩)
        · exact .inr (.inr ⟨h1, h2.trans h.symm⟩)
    · rw [List.mem_singleton] at ha
      subst ha
      constructor
      · rintro (h1 | ⟨h1, h2⟩ | ⟨h1, h2⟩)
        · exact .inr (.inl ⟨h1, Cn.refl _ _⟩)
        · exact .inr (.inl ⟨h1, Cn.refl _ _⟩)
        · exact .inl h1
      · rintro (h1 | ⟨h1, h2⟩ | ⟨h1, h2⟩)
        · exact .inr (.inr ⟨h1, Cn.refl _ _⟩)
        · exact .inl h1
        · exact .inr (.inr ⟨h1, Cn.refl _ _⟩)
  · rintro (h | ⟨h1, h2⟩ | ⟨h1, h2⟩)
    · exact h.mono sub
    · exact ((h1.mono sub).trans ee).trans (h2.mono sub)
    · exact ((h1.mono sub).trans ee.symm).trans (h2.mono sub)
theorem nodup_ix {l : List Int} (hn : l.Nodup) {j k : Nat} (hj : j < l.length) (hk : k < l.length) (h : l[j] = l[k]) : j = k := by
  rw [List.nodup_iff_pairwise_ne, List.pairwise_iff_getElem] at hn
  rcases Nat.lt_trichotomy j k with h1 | h1 | h1
  · exact absurd h (hn j k hj hk h1)
  · exact h1
  · exact absurd h.symm (hn k j hk hj h1)
/-- numbers of sets -/
structure SetsOk (vr : List Int) (es : List E) (out : List Int) : Prop where
  len : out.length = vr.length
  ok : ∀ j k (hj : j < vr.length) (hk : k < vr.length), out[j]'(by omega) = out[k]'(by omega) ↔ Cn es vr[j] vr[k]
def mrg (a b : Int) (out : List Int) : List Int := out.map fun y => if y = b then a else y
theorem SetsOk.step {vr : List Int} {es : List E} {out : List Int} (h : SetsOk vr es out) {e : E} {p q : Nat} (hp : p < vr.length) (hq : q < vr.length) (ep : vr[p] = e.u) (eq : vr[q] = e.v) {a b : Int} (hab : (a = out[p]'(by have := h.len; omega) ∧ b = out[q]'(by have := h.len; omega)) ∨ (a = out[q]'(by have := h.len; omega) ∧ b = out[p]'(by have := h.len; omega))) : SetsOk vr (es ++ [e]) (mrg a b out) := by
  have hlen := h.len
  refine ⟨by simp [mrg, hlen], fun j k hj hk => ?_⟩
  have e1 : ∀ j (hj : j < vr.length), (mrg a b out)[j]'(by simp [mrg]; omega) = if out[j]'(by omega) = b then a else out[j]'(by omega) := fun j hj => by simp [mrg]
  rw [e1 j hj, e1 k hk, cn_add, ← ep, ← eq]
  have o1 := h.ok j k hj hk
  have o2 := h.ok j p hj hp
  have o3 := h.ok q k hq hk
  have o4 := h.ok j q hj hq
  have o5 := h.ok p k hp hk
  rw [← o1, ← o2, ← o3, ← o4, ← o5]
  generalize out[j]'(by omega) = oj at *
  generalize out[k]'(by omega) = ok at *
  generalize out[p]'(by omega) = op at *
  generalize out[q]'(by omega) = oq at *
  clear o1 o2 o3 o4 o5 e1
  rcases hab with ⟨rfl, rfl⟩ | ⟨rfl, rfl⟩
  · split <;> split <;> omega
  · split <;> split <;> omega
end Go.Dn
namespace Go.Proofs.Ytkkobfajahmfaaa.Rd
open Go.Dn Go.RowKit
set_option linter.unusedVariables false
set_option maxRecDepth 100000
theorem _root_.Go.Dn.OwnI.st {w : World} {B e : Nat} {A : Option Addr} {c : Nat} {l : List Int} (h : OwnI w B e A c l) {j : Nat} (hj : j < l.length) {v : Int} {K : World → Prop} (hk : ∀ w', OwnI w' B e A c (l.set j v) → Keeps (Ob A) w w' → K w') : optB A fun a => stW w (a.add j) (.int .i64 v) K := by
  have h0 := h
  rcases h.2 with ⟨_, h1⟩ | ⟨g, cap, cur, hv, hg, hh, hn, hm, hs, ht⟩
  · omega
  · injection hv with hA hn' hc
    subst hA; subst hc
    obtain ⟨ho, hgr⟩ := World.ownsRow.stored h j (.int .i64 v)
    refine optB_some rfl ?_
    rw [add_mk, Nat.zero_add]
    have hjc : j < cur.size := by omega
    refine stW_intro ⟨⟨_, by rw [cell_of_row w _ _ _ _ _ hh]; exact Array.getElem?_eq_getElem hjc⟩, frozen_of_row _ _ _ _ _ hh⟩ (hk _ ?_ ⟨hgr.os, hgr.tape, hgr.output, hgr.size, fun k hk hn => hgr.block k hk fun e => hn ⟨_, rfl, by injection e with e; exact e.symm⟩⟩)
    unfold OwnI
    rw [List.length_set, List.map_set]; exact ho
theorem Sets_l3 {w0 : World} {B : Nat} (hB : B ≤ w0.heap.size) {A : Option Addr} {n c : Nat} {out : List Int} (hn : n = out.length) (hl : out.length ≤ 100000) {a b : Int} {K0 : World → Prop} (k0 : ∀ w, OwnI w B TI A c (mrg a b out) → Keeps (Ob A) w0 w → K0 w) : ∀ (m i : Nat) (w : World), out.length - i = m → i ≤ out.length → OwnI w B TI A c (mrg a b (out.take i) ++ out.drop i) → Keeps (Ob A) w0 w →
    f_ref06_Sets.l3 (m + 1) A n c a b (i : Int) w K0 := by
  subst hn
  intro m
  induction m with
  | zero =>
    intro i w hm hi ho hk
    have : i = out.length := by omega
    subst this
    rw [List.take_length, List.drop_length, List.append_nil] at ho
    unfold f_ref06_Sets.l3
    exact sel_f (by simp) (k0 w ho hk)
  | succ m ih =>
    intro i w hm hi ho hk
    have hlt : i < out.length := by omega
    have hw : IntKind.i64.wrap ((i : Int) + 1) = ((i + 1 : Nat) : Int) := by rw [w64_in (by omega)]; omega
    have hml : (mrg a b (out.take i)).length = i := by simp [mrg]; omega
    have hdr := List.drop_eq_getElem_cons hlt
    have hlen : (mrg a b (out.take i) ++ out.drop i).length = out.length := by rw [List.length_append, hml, List.length_drop]; omega
    have hget : (mrg a b (out.take i) ++ out.drop i)[i]'(by omega) = out[i] := by
      rw [List.getElem_append_right (by omega)]; simp [hml]
    have hnext : ∀ y, (mrg a b (out.take i) ++ out.drop i).set i y = (mrg a b (out.take i) ++ [y]) ++ out.drop (i + 1) := fun y => by
      rw [List.set_append_right _ _ (by omega), hml, Nat.sub_self, hdr, List.set_cons_zero, List.append_assoc]; rfl
    have hmt : mrg a b (out.take (i + 1)) = mrg a b (out.take i) ++ [if out[i] = b then a else out[i]] := by
      unfold mrg; rw [List.take_succ_eq_append_getElem hlt, List.map_append]; rfl
    unfold f_ref06_Sets.l3
    refine sel_t (by simpa using hlt) ?_
    by_cases hab : a = b
    · refine sel_f (by simp [hab]) (k0 w ?_ hk)
      have : ∀ l, mrg a b l = l := fun l => by
        unfold mrg
        rw [hab]
        conv => rhs; rw [← List.map_id l]
        apply List.map_congr_left
        intro y _
        split
        · rename_i h; exact h.symm
        · rfl
      rw [this] at ho ⊢
      rw [List.take_append_drop] at ho; exact ho
    · obtain ⟨a', rfl, q⟩ := ho.reads i (by omega)
      rw [hget] at q
      refine sel_t (by simp [hab]) (optB_some rfl (req_intro (by simp; omega) (ldI_intro (x := out[i]) (by rw [Int.toNat_natCast, Nat.mul_one]; exact q) ?_)))
      by_cases e : out[i] = b
      · have := ho.st (j := i) (by omega) (v := a) (K := fun w' => f_ref06_Sets.l3 (m + 1) (some a') out.length c a b (IntKind.i64.wrap ((i : Int) + 1)) w' K0) (fun w' o' k' => by
          rw [hw]
          refine ih (i + 1) w' (by omega) (by omega) ?_ (hk.trans k')
          rw [hmt, if_pos e]; rw [hnext] at o'; exact o')
        refine sel_t (by simp [e]) (optB_some rfl (req_intro (by simp; omega) ?_))
        rw [Int.toNat_natCast, Nat.mul_one]
        exact this
      · refine sel_f (by simp [e]) ?_
        rw [hw]
        refine ih (i + 1) w (by omega) (by omega) ?_ hk
        rw [hmt, if_neg e, List.append_assoc, List.singleton_append, ← hdr]; exact ho
theorem Sets_l1 {w0 wS : World} {Av Ae : Option Addr} {nv cv ne ce : Nat} {vr : List Int} {er : List E} (hS : Below w0.heap.size w0 wS) (rv : RI w0 Av vr) (hnv : nv = vr.length) (re : RE w0 Ae er) (hne : ne = er.length) (hvl : vr.length ≤ 2048) (hel : er.length ≤ 4096) (hends : ∀ e ∈ er, e.u ∈ vr ∧ e.v ∈ vr) {A : Option Addr} {n c : Nat} {K0 : World → Prop}
    (k0 : ∀ w out, OwnI w w0.heap.size TI A c out → SetsOk vr er out → Below w0.heap.size w0 w → K0 w) : ∀ (m i : Nat) (w : World) (out : List Int), er.length - i = m → i ≤ er.length → n = out.length → OwnI w w0.heap.size TI A c out → SetsOk vr (er.take i) out → Below w0.heap.size w0 w →
      f_ref06_Sets.l1 (m + 1) Av nv cv Ae ne ce A n c (i : Int) w K0 := by
  subst hnv; subst hne
  intro m
  induction m with
  | zero =>
    intro i w out hm hi hn ho hs hb
    have : i = er.length := by omega
    subst this
    rw [List.take_length] at hs
    unfold f_ref06_Sets.l1
    exact sel_f (by simp) (k0 w out ho hs hb)
  | succ m ih =>
    intro i w out hm hi hn ho hs hb
    have hlt : i < er.length := by omega
    have hw : IntKind.i64.wrap ((i : Int) + 1) = ((i + 1 : Nat) : Int) := by rw [w64_in (by omega)]; omega
    have hbd := hb.drew
    obtain ⟨a, rfl, q⟩ := (re.below hbd) i hlt
    obtain ⟨m1, m2⟩ := hends er[i] (List.getElem_mem hlt)
    have od : OwnI w.drew w0.heap.size TI A c out := ho.keeps (S := fun _ => False) (Keeps.refl _ _).drew fun _ _ => id
    have hlen := hs.len
    have tk : er.take (i + 1) = er.take i ++ [er[i]] := List.take_succ_eq_append_getElem hlt
    unfold f_ref06_Sets.l1
    refine sel_t (by simpa using hlt) (drW_intro ⟨fun w' => w' = w.drew, rfl, optB_some rfl (req_intro (by simp; omega) ⟨_, fun w' e => by rw [e, Int.toNat_natCast]; exact q.c1, optB_some rfl (req_intro (by simp; omega) ⟨_, fun w' e => by rw [e, Int.toNat_natCast]; exact q.c2, ?_⟩)⟩)⟩)
    refine (place_ok (rv.belw hbd) rfl (by omega) m1).mono ?_
    rintro _ w2 ⟨⟨p, hp, ep, rfl⟩, rfl⟩
    obtain ⟨a5, rfl, q5⟩ := od.reads p (by omega)
    refine ⟨_, rfl, rfl, optB_some rfl (req_intro (by simp; omega) ⟨_, fun w' e => by rw [e, Int.toNat_natCast, Nat.mul_one]; exact q5, ?_⟩)⟩
    refine (place_ok (rv.belw hbd) rfl (by omega) m2).mono ?_
    rintro _ w2 ⟨⟨p2, hp2, ep2, rfl⟩, rfl⟩
    obtain ⟨a6, e6, q6⟩ := od.reads p2 (by omega)
    injection e6 with e6; subst e6
    refine ⟨_, rfl, rfl, optB_some rfl (req_intro (by simp; omega) ⟨_, fun w' e => by rw [e, Int.toNat_natCast, Nat.mul_one]; exact q6, ?_⟩)⟩
    have go : ∀ x y, SetsOk vr (er.take (i + 1)) (mrg x y out) → f_ref06_Sets.j2 (some a5) n c x y w.drew (fun w32 => ∀ _ : Fr, f_ref06_Sets.l1 (m + 1) Av vr.length cv (some a) er.length ce (some a5) n c (IntKind.i64.wrap ((i : Int) + 1)) w32 K0) := by
      intro x y hxy
      unfold f_ref06_Sets.j2
      refine ⟨out.length + 1, Sets_l3 (B := w0.heap.size) hbd.size hn (by omega) (fun w3 o3 k3 => ?_) out.length 0 w.drew (by omega) (by omega) (by simpa [mrg] using od) (Keeps.refl _ _)⟩
      intro _ _
      rw [hw]
      refine ih (i + 1) w3 _ (by omega) (by omega) (by simp [mrg, hn]) o3 hxy (hbd.trans (k3.below hbd.size fun k hk ⟨a', ha', hh⟩ => by have := (od.block a' ha').1; omega))
    by_cases hgt : out[p]'(by omega) > out[p2]'(by omega)
    · refine sel_t (by simpa using hgt) (go _ _ ?_)
      rw [tk]
      exact hs.step hp hp2 ep ep2 (.inr ⟨rfl, rfl⟩)
    · refine sel_f (by simpa using hgt) (go _ _ ?_)
      rw [tk]
      exact hs.step hp hp2 ep ep2 (.inl ⟨rfl, rfl⟩)
theorem Sets_ok {w : World} {Av Ae : Option Addr} {nv cv ne ce : Nat} {vr : List Int} {er : List E} (rv : RI w Av vr) (hnv : nv = vr.length) (re : RE w Ae er) (hne : ne = er.length) (hvl : vr.length ≤ 2048) (hel : er.length ≤ 4096) (hnd : vr.Nodup) (hends : ∀ e ∈ er, e.u ∈ vr ∧ e.v ∈ vr) :
    Calls Try.prog 74 #[.slice Av nv cv, .slice Ae ne ce] w fun e w' => ∃ A c out, e = .returned (.slice A out.length c) ∧ OwnI w' w.heap.size TI A c out ∧ SetsOk vr er out ∧ Below w.heap.size w w' := by
  apply f_ref06_Sets.ok
  unfold f_ref06_Sets.wp
  refine alW_intro ?_
  have o1 := OwnI.lit (w := w) (B := w.heap.size) (e := TI) [] (cs := #[]) rfl (Nat.le_refl _) (by simp)
  have b1 : Below w.heap.size w (w.alloc (.cells #[] TI)) := (Below.refl _ _).alloc (Nat.le_refl _) _
  generalize w.alloc (.cells #[] TI) = w1 at o1 b1
  let rg : Nat → List Int := fun i => (List.range i).map fun (j : Nat) => (j : Int)
  have rgl : ∀ i, (rg i).length = i := fun i => by simp [rg]
  have rgs : ∀ i, rg (i + 1) = rg i ++ [(i : Int)] := fun i => by simp [rg, List.range_succ]
  refine ⟨vr.length + 1, ?_⟩
  suffices key : ∀ (m i : Nat) (w2 : World) (A2 : Option Addr) (n2 c2 : Nat), vr.length - i = m → i ≤ vr.length → OwnI w2 w.heap.size TI A2 c2 (rg i) → n2 = i → Below w.heap.size w w2 →
      f_ref06_Sets.l0 (m + 1) Av nv cv A2 n2 c2 (i : Int) w2 (fun (A8 : Option Addr) (n8 : Nat) (c8 : Nat) (w9 : World) => ∀ _ : Fr, ∃ k35 : Nat, f_ref06_Sets.l1 k35 Av nv cv Ae ne ce A8 n8 c8 (0 : Int) w9 (fun (w34 : World) => ∀ _ : Fr,
        (fun e w' => ∃ A c out, e = Ending.returned (.slice A out.length c) ∧ OwnI w' w.heap.size TI A c out ∧ SetsOk vr er out ∧ Below w.heap.size w w') (.returned (.slice A8 n8 c8)) w34)) by
    exact key vr.length 0 w1 _ _ _ (by omega) (by omega) (by simpa [rg] using o1) rfl b1
  subst hnv
  intro m
  induction m with
  | zero =>
    intro i w2 A2 n2 c2 hm hi ho hn hb
    have : i = vr.length := by omega
    subst this
    unfold f_ref06_Sets.l0
    refine sel_f (by simp) fun _ => ⟨er.length + 1, Sets_l1 hb rv rfl re hne hvl hel hends (fun w3 out o3 h3 b3 => ?_) er.length 0 w2 (rg vr.length) (by omega) (by omega) (by rw [rgl]; exact hn) ho ?_ hb⟩
    · intro _
      exact ⟨A2, c2, out, by rw [hn, h3.len], o3, h3, b3⟩
    · refine ⟨rgl _, fun j k hj hk => ?_⟩
      have ej : (rg vr.length)[j]'(by rw [rgl]; exact hj) = (j : Int) := by simp [rg]
      have ek : (rg vr.length)[k]'(by rw [rgl]; exact hk) = (k : Int) := by simp [rg]
      rw [ej, ek]
      constructor
      · intro h
        have : j = k := by omega
        subst this; exact Cn.refl _ _
      · rintro ⟨p, hp⟩
        have hv : vr[j] = vr[k] := by
          generalize vr[j] = x at hp
          generalize vr[k] = y at hp
          cases hp with
          | nil => rfl
          | cons he _ _ => simp at he
        have := nodup_ix hnd hj hk hv
        omega
  | succ m ih =>
    intro i w2 A2 n2 c2 hm hi ho hn hb
    have hw : IntKind.i64.wrap ((i : Int) + 1) = ((i + 1 : Nat) : Int) := by rw [w64_in (by omega)]; omega
    unfold f_ref06_Sets.l0
    refine sel_t (by simp; omega) (put_in ho (by rw [rgl]; exact hn) (x := (i : Int)) hb.size (by rw [rgl]; omega) fun A3 c3 w3 o3 k3 f3 => ?_)
    rw [hw]
    rw [← rgs] at o3
    refine ih (i + 1) w3 _ _ c3 (by omega) (by omega) o3 (by rw [← rgs, rgl]) (hb.trans (k3.below hb.size fun k hk ⟨a', ha', hh⟩ => by have := (ho.block a' ha').1; omega))
end Go.Proofs.Ytkkobfajahmfaaa.Rd
