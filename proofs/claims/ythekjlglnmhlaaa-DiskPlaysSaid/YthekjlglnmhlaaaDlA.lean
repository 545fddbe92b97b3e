/- Byte helpers of the document: a copy with room behind, spoiling, memory apart. Conditions: none. -/
import Derived.Test.YthekjlglnmhlaaaDkZ
import Derived.Test.YthekjlglnmhlaaaAppN
namespace Go.Proofs.Ythekjlglnmhlaaa.Rd
open Go.Dn Go.RowKit Go.Shelf
set_option linter.unusedVariables false
set_option linter.unusedSimpArgs false
set_option maxRecDepth 100000
/-! ### Wide, Intact -/
def padV (i : Nat) : Int := IntKind.u8.wrap (IntKind.i64.wrap ((208 : Int) + ((i : Int).tmod (9 : Int))))
def padL (n : Nat) : List Int := (List.range n).map padV
theorem padL_len (n : Nat) : (padL n).length = n := by simp [padL]
theorem padL_snoc (n : Nat) : padL (n + 1) = padL n ++ [padV n] := by simp [padL, List.range_succ]
theorem wr64 {i : Nat} (h : i < 64) : IntKind.i64.wrap ((i : Int) + 1) = ((i + 1 : Nat) : Int) := by rw [w64_in (by omega)]; omega
theorem Wide_l0 {w0 : World} {l : List Int} (hlen : l.length + 64 ≤ 140737488355328)
    {K0 : Option Addr → Nat → Nat → World → Prop} (k0 : ∀ A c w, OwnE eB 1 w w0.heap.size 5 A c (l ++ padL 64) → Below w0.heap.size w0 w → K0 A (l ++ padL 64).length c w) :
    ∀ (m i : Nat) (A : Option Addr) (n c : Nat) (w : World), 64 - i = m → i ≤ 64 → n = (l ++ padL i).length → OwnE eB 1 w w0.heap.size 5 A c (l ++ padL i) → Below w0.heap.size w0 w →
      f_ref01_Wide.l0 (m + 1) A n c (i : Int) w K0 := by
  intro m
  induction m with
  | zero =>
    intro i A n c w hm hi en o hb
    have : i = 64 := by omega
    subst this
    subst en
    unfold f_ref01_Wide.l0
    exact sel_f (by simp) (k0 _ _ _ o hb)
  | succ m ih =>
    intro i A n c w hm hi en o hb
    have hlt : i < 64 := by omega
    unfold f_ref01_Wide.l0
    refine sel_t (by simp; omega) ?_
    refine put_e RTb EB (by decide) o en (padV i) rfl hb.size (by rw [List.length_append, padL_len]; omega) fun A' c' w1 o1 k1 _ => ?_
    rw [wr64 hlt]
    have e : l ++ padL i ++ [padV i] = l ++ padL (i + 1) := by rw [padL_snoc, List.append_assoc]
    rw [e] at o1 ⊢
    exact ih (i + 1) _ _ c' w1 (by omega) (by omega) rfl o1 (hb.trans (k1.below hb.size fun k hk ⟨a, ha, e⟩ => by have := (o.block a ha).1; omega))
theorem Wide_ok {w : World} {A : Option Addr} {n c : Nat} {l : List Int} (hr : RB w A l) (hn : n = l.length) (hlen : l.length + 64 ≤ 140737488355328) :
    Calls Try.prog 29 #[.slice A n c] w fun e w' => ∃ A' c', e = .returned (.slice A' (l ++ padL 64).length c') ∧ OwnE eB 1 w' w.heap.size 5 A' c' (l ++ padL 64) ∧ Below w.heap.size w w' := by
  apply f_ref01_Wide.ok
  unfold f_ref01_Wide.wp
  refine (BCopy_ok hr hn (by omega)).mono ?_
  rintro _ w1 ⟨A1, c1, rfl, o1, g1⟩
  refine ⟨_, _, _, rfl, _, Wide_l0 (w0 := w) hlen (fun A' c' w' o hb => ?_) 64 0 A1 _ c1 w1 rfl (by omega) (by simp [padL]) (by simpa [padL] using o1) g1⟩
  exact fun _ => ⟨A', c', rfl, o, hb⟩
theorem Intact_l0 {w0 : World} {A1 A2 : Option Addr} {c1 c2 : Nat} {l : List Int} (r1 : RB w0 A1 (l ++ padL 64)) (r2 : RB w0 A2 l) (hlen : l.length + 64 ≤ 140737488355328)
    {K0 : World → Prop} {Kr : Bool → World → Prop} (k0 : ∀ w, Below w0.heap.size w0 w → K0 w) :
    ∀ (m i : Nat) (w : World), l.length - i = m → i ≤ l.length → Below w0.heap.size w0 w →
      f_ref01_Intact.l0 (m + 1) A1 (l ++ padL 64).length c1 A2 l.length c2 (i : Int) w K0 Kr := by
  intro m
  induction m with
  | zero =>
    intro i w hm hi hb
    have : i = l.length := by omega
    subst this
    unfold f_ref01_Intact.l0
    exact sel_f (by simp) (k0 _ hb)
  | succ m ih =>
    intro i w hm hi hb
    have hlt : i < l.length := by omega
    have hlt1 : i < (l ++ padL 64).length := by rw [List.length_append]; omega
    have hbd := hb.drew
    unfold f_ref01_Intact.l0
    refine sel_t (by simpa using hlt) (drW_intro (rb_ld (r1.belw hbd) hlt1 (rb_ld (r2.belw hbd) hlt ?_)))
    have e : (l ++ padL 64)[i] = l[i] := List.getElem_append_left hlt
    rw [e, wrs hlt (by omega)]
    exact sel_f (by simp) (ih (i + 1) _ (by omega) (by omega) hbd)
theorem Intact_l1 {A1 A2 : Option Addr} {c1 c2 : Nat} {l : List Int} {w : World} (r1 : RB w A1 (l ++ padL 64)) (hlen : l.length + 64 ≤ 140737488355328)
    {K0 : World → Prop} {Kr : Bool → World → Prop} (k0 : K0 w) :
    ∀ (m i : Nat), 64 - i = m → i ≤ 64 →
      f_ref01_Intact.l1 (m + 1) A1 (l ++ padL 64).length c1 A2 l.length c2 (i : Int) w K0 Kr := by
  intro m
  induction m with
  | zero =>
    intro i hm hi
    have : i = 64 := by omega
    subst this
    unfold f_ref01_Intact.l1
    exact sel_f (by simp) k0
  | succ m ih =>
    intro i hm hi
    have hlt : i < 64 := by omega
    have hll : (l ++ padL 64).length = l.length + 64 := by rw [List.length_append, padL_len]
    have hlt1 : l.length + i < (l ++ padL 64).length := by omega
    have ew : IntKind.i64.wrap ((l.length : Int) + (i : Int)) = ((l.length + i : Nat) : Int) := by rw [w64_in (by omega)]; omega
    unfold f_ref01_Intact.l1
    rw [ew]
    refine sel_t (by simp; omega) (rb_ld r1 hlt1 ?_)
    have e : (l ++ padL 64)[l.length + i] = padV i := by
      rw [List.getElem_append_right (by omega)]
      simp [padL]
    rw [e, wr64 hlt]
    exact sel_f (by simp [padV]) (ih (i + 1) (by omega) (by omega))
theorem Intact_ok {w : World} {A1 A2 : Option Addr} {n1 n2 c1 c2 : Nat} {l : List Int} (r1 : RB w A1 (l ++ padL 64)) (e1 : n1 = (l ++ padL 64).length) (r2 : RB w A2 l) (e2 : n2 = l.length) (hlen : l.length + 64 ≤ 140737488355328) :
    Calls Try.prog 30 #[.slice A1 n1 c1, .slice A2 n2 c2] w fun e w' => e = .returned (.bool true) ∧ Below w.heap.size w w' := by
  subst e1 e2
  apply f_ref01_Intact.ok
  unfold f_ref01_Intact.wp
  have hll : (l ++ padL 64).length = l.length + 64 := by rw [List.length_append, padL_len]
  refine sel_f (by rw [hll, w64_in (by omega)]; simp) ⟨_, Intact_l0 (w0 := w) r1 r2 hlen (fun w1 g1 => ?_) l.length 0 w rfl (by omega) (Below.refl _ _)⟩
  intro _
  exact ⟨_, Intact_l1 (w := w1) (r1.belw g1) hlen (fun _ => ⟨rfl, g1⟩) 64 0 rfl (by omega)⟩
/-! ### Spoil -/
/-- bytes that may be written -/
def WB (w : World) (A : Option Addr) (l : List Int) : Prop := l = [] ∨ ∃ b cs t, A = some ⟨b, 0, none⟩ ∧ HB w b cs t ∧ ∀ i (hi : i < l.length), cs[i]? = some (bV l[i])
theorem WB.rb {w : World} {A : Option Addr} {l : List Int} (h : WB w A l) : RB w A l := by
  rcases h with rfl | ⟨b, cs, t, rfl, h, hc⟩
  · exact RB.nil _ _
  · intro i hi
    exact ⟨_, rfl, by rw [h.cell]; exact hc i hi⟩
theorem WB.of_own {w : World} {B e c : Nat} {A : Option Addr} {l : List Int} (h : OwnE eB 1 w B e A c l) : WB w A l := by
  by_cases h0 : l = []
  · exact .inl h0
  have hl : 0 < l.length := List.length_pos_iff.2 h0
  have hr := OwnE.rb h
  obtain ⟨_, h1⟩ := h
  rcases h1 with ⟨_, h2⟩ | ⟨g, cap, cur, hv, hg, hh, hn, hm, hs, ht⟩
  · omega
  injection hv with hv
  subst hv
  refine .inr ⟨g, cur, e, rfl, hh, fun i hi => ?_⟩
  obtain ⟨a, ha, hc⟩ := hr i hi
  injection ha with ha; subst ha
  have := HB.cell (cs := cur) (t := e) hh i
  rw [← this]; exact hc
theorem WB.keeps {S : Nat → Prop} {w w' : World} {A : Option Addr} {l : List Int} (h : WB w A l) (k : Keeps S w w') (hA : ∀ a, A = some a → ¬ S a.block) : WB w' A l := by
  rcases h with rfl | ⟨b, cs, t, rfl, h, hc⟩
  · exact .inl rfl
  · exact .inr ⟨b, cs, t, rfl, h.keeps k (hA _ rfl), hc⟩
theorem WB.of_sec {w : World} {b : Nat} {s : Sec} (h : HB w b (secV s) TS) : WB w (some ⟨b, 0, none⟩) s.1 := .inr ⟨b, _, _, rfl, h, fun i hi => by simp [secV, secL, hi]⟩
def xorL (l : List Int) : List Int := l.map fun x => bxor .u8 x 90
theorem xorL_len (l : List Int) : (xorL l).length = l.length := by simp [xorL]
theorem Spoil_l0 {b : Nat} {t : TypeId} {c : Nat} {l : List Int} {w0 : World} (hlen : l.length ≤ 140737488355328) {K0 : World → Prop}
    (k0 : ∀ w cs, HB w b cs t → (∀ j (hj : j < l.length), cs[j]? = some (bV (bxor .u8 l[j] 90))) → Keeps (fun k => k = b) w0 w → K0 w) :
    ∀ (m i : Nat) (w : World) (cs : Array Value), l.length - i = m → i ≤ l.length → HB w b cs t → (∀ j (hj : j < l.length), cs[j]? = some (bV (if j < i then bxor .u8 l[j] 90 else l[j]))) → Keeps (fun k => k = b) w0 w →
      f_ref01_Spoil.l0 (m + 1) (some ⟨b, 0, none⟩) l.length c (i : Int) w K0 := by
  intro m
  induction m with
  | zero =>
    intro i w cs hm hi h hc k
    have : i = l.length := by omega
    subst this
    unfold f_ref01_Spoil.l0
    refine sel_f (by simp) (k0 w cs h (fun j hj => ?_) k)
    rw [hc j hj, if_pos hj]
  | succ m ih =>
    intro i w cs hm hi h hc k
    have hlt : i < l.length := by omega
    have ci := hc i hlt
    rw [if_neg (Nat.lt_irrefl i)] at ci
    have hsz : i < cs.size := (Array.getElem?_eq_some_iff.1 ci).1
    unfold f_ref01_Spoil.l0
    rw [show ((i : Int).toNat) * 1 = i by omega]
    refine sel_t (by simpa using hlt) (optB_some rfl (req_intro (by simp; omega) (ldI_intro (x := l[i]) ((h.cell i).trans ci) (optB_some rfl (req_intro (by simp; omega) (hb_st h hsz fun w1 h1 k1 => ?_))))))
    rw [wrs hlt hlen]
    refine ih (i + 1) w1 _ (by omega) (by omega) h1 (fun j hj => ?_) (k.trans k1)
    rw [Array.getElem?_setIfInBounds]
    by_cases e : i = j
    · subst e
      rw [if_pos rfl, if_pos hsz, if_pos (by omega)]
      rfl
    · rw [if_neg e, hc j hj]
      by_cases e2 : j < i
      · rw [if_pos e2, if_pos (by omega)]
      · rw [if_neg e2, if_neg (by omega)]
theorem Spoil_ok {w : World} {A : Option Addr} {n c : Nat} {l : List Int} (h : WB w A l) (hn : n = l.length) (hlen : l.length ≤ 140737488355328) :
    Calls Try.prog 31 #[.slice A n c] w fun e w' => e = .returned (.tuple #[]) ∧ WB w' A (xorL l) ∧ Keeps (Ob A) w w' := by
  subst hn
  apply f_ref01_Spoil.ok
  unfold f_ref01_Spoil.wp
  rcases h with rfl | ⟨b, cs, t, rfl, h, hc⟩
  · refine ⟨1, ?_⟩
    unfold f_ref01_Spoil.l0
    refine sel_f (by simp) ?_
    intro _
    exact ⟨rfl, .inl rfl, .refl _ _⟩
  · refine ⟨_, Spoil_l0 (w0 := w) hlen (fun w1 cs1 h1 hc1 k1 => ?_) l.length 0 w cs rfl (by omega) h (fun j hj => by rw [if_neg (by omega)]; exact hc j hj) (.refl _ _)⟩
    intro _
    refine ⟨rfl, .inr ⟨b, cs1, t, rfl, h1, fun j hj => ?_⟩, k1.mono fun k _ e => ⟨_, rfl, e.symm⟩⟩
    rw [xorL_len] at hj
    rw [hc1 j hj]
    simp [xorL]
/-! ### Turned, Apart -/
theorem Turned_l0 {w0 : World} {A1 A2 : Option Addr} {c1 c2 : Nat} {l : List Int} (r1 : RB w0 A1 (xorL l)) (r2 : RB w0 A2 l) (hlen : l.length ≤ 140737488355328)
    {K0 : World → Prop} {Kr : Bool → World → Prop} (k0 : ∀ w, Below w0.heap.size w0 w → K0 w) :
    ∀ (m i : Nat) (w : World), l.length - i = m → i ≤ l.length → Below w0.heap.size w0 w →
      f_ref01_Turned.l0 (m + 1) A1 l.length c1 A2 l.length c2 (i : Int) w K0 Kr := by
  intro m
  induction m with
  | zero =>
    intro i w hm hi hb
    have : i = l.length := by omega
    subst this
    unfold f_ref01_Turned.l0
    exact sel_f (by simp) (k0 _ hb)
  | succ m ih =>
    intro i w hm hi hb
    have hlt : i < l.length := by omega
    have hlt1 : i < (xorL l).length := by rw [xorL_len]; exact hlt
    have hbd := hb.drew
    unfold f_ref01_Turned.l0
    refine sel_t (by simpa using hlt) (drW_intro ?_)
    have r1' := rb_ld (r1.belw hbd) hlt1 (K := fun x4 => optB A2 fun a5 => req (decide (0 ≤ (i : Int) ∧ (i : Int) < (l.length : Int))) <| ldI w.drew (a5.add ((i : Int).toNat * 1)) .u8 fun x6 => sel (x4 != (bxor .u8 x6 (90 : Int))) (Kr false w.drew) (f_ref01_Turned.l0 (m + 1) A1 l.length c1 A2 l.length c2 (IntKind.i64.wrap ((i : Int) + (1 : Int))) w.drew K0 Kr)) (rb_ld (r2.belw hbd) hlt (sel_f (by simp [xorL]) (by rw [wrs hlt hlen]; exact ih (i + 1) _ (by omega) (by omega) hbd)))
    rw [xorL_len] at r1'
    exact r1'
theorem Turned_ok {w : World} {A1 A2 : Option Addr} {n1 n2 c1 c2 : Nat} {l : List Int} (r1 : RB w A1 (xorL l)) (e1 : n1 = l.length) (r2 : RB w A2 l) (e2 : n2 = l.length) (hlen : l.length ≤ 140737488355328) :
    Calls Try.prog 58 #[.slice A1 n1 c1, .slice A2 n2 c2] w fun e w' => e = .returned (.bool true) ∧ Below w.heap.size w w' := by
  subst e1 e2
  apply f_ref01_Turned.ok
  unfold f_ref01_Turned.wp
  exact sel_f (by simp) ⟨_, Turned_l0 (w0 := w) r1 r2 hlen (fun w1 g1 _ => ⟨rfl, g1⟩) l.length 0 w rfl (by omega) (Below.refl _ _)⟩
theorem wr70 {i : Nat} (h : i < 70) : IntKind.i64.wrap ((i : Int) + 1) = ((i + 1 : Nat) : Int) := by rw [w64_in (by omega)]; omega
/-- seventy bytes behind a row of one's own -/
theorem Apart_l0 {w0 : World} {N : Nat} (hN : N ≤ 140737488355000) {K0 : Option Addr → Nat → Nat → World → Prop} (k0 : ∀ A c w, Below w0.heap.size w0 w → K0 A (N + 70) c w) :
    ∀ (m i : Nat) (A : Option Addr) (n c : Nat) (w : World) (l : List Int), 70 - i = m → i ≤ 70 → l.length = N + i → n = l.length → OwnE eB 1 w w0.heap.size 5 A c l → Below w0.heap.size w0 w →
      f_ref01_Apart.l0 (m + 1) A n c (i : Int) w K0 := by
  intro m
  induction m with
  | zero =>
    intro i A n c w l hm hi hl en o hb
    have : i = 70 := by omega
    subst this
    subst en
    unfold f_ref01_Apart.l0
    rw [hl]
    exact sel_f (by simp) (k0 _ _ _ hb)
  | succ m ih =>
    intro i A n c w l hm hi hl en o hb
    have hlt : i < 70 := by omega
    unfold f_ref01_Apart.l0
    refine sel_t (by simp; omega) ?_
    refine put_e RTb EB (by decide) o en (IntKind.u8.wrap (i : Int)) rfl hb.size (by omega) fun A' c' w1 o1 k1 _ => ?_
    rw [wr70 hlt]
    exact ih (i + 1) _ _ c' w1 _ (by omega) (by omega) (by simp; omega) rfl o1 (hb.trans (k1.below hb.size fun k hk ⟨a, ha, e⟩ => by have := (o.block a ha).1; omega))
/-- what Read gives: nothing, or a whole sector in a block of its own -/
def RdSl (w : World) (A : Option Addr) (n c : Nat) (l : List Int) : Prop := (A = none ∧ n = 0 ∧ c = 0 ∧ l = []) ∨ ∃ b s, A = some ⟨b, 0, none⟩ ∧ n = 512 ∧ c = 512 ∧ HB w b (secV s) TS ∧ l = s.1
theorem RdSl.len {w : World} {A : Option Addr} {n c : Nat} {l : List Int} (h : RdSl w A n c l) : n = l.length ∧ l.length ≤ 512 := by
  rcases h with ⟨_, h1, _, h2⟩ | ⟨b, s, _, h1, _, _, h2⟩
  · subst h2; exact ⟨h1, by decide⟩
  · subst h2; rw [s.2]; exact ⟨h1, Nat.le_refl _⟩
theorem RdSl.wb {w : World} {A : Option Addr} {n c : Nat} {l : List Int} (h : RdSl w A n c l) : WB w A l := by
  rcases h with ⟨_, h1, _, h2⟩ | ⟨b, s, rfl, h1, _, h3, h2⟩
  · exact .inl h2
  · subst h2; exact .of_sec h3
theorem RdSl.keeps {S : Nat → Prop} {w w' : World} {A : Option Addr} {n c : Nat} {l : List Int} (h : RdSl w A n c l) (k : Keeps S w w') (hA : ∀ a, A = some a → ¬ S a.block) : RdSl w' A n c l := by
  rcases h with h | ⟨b, s, rfl, h1, h4, h3, h2⟩
  · exact .inl h
  · exact .inr ⟨b, s, rfl, h1, h4, h3.keeps k (hA _ rfl), h2⟩
theorem Apart_loop {w : World} {A : Option Addr} {n c : Nat} {l : List Int} (h : (A = none ∧ n = 0 ∧ c = 0 ∧ l = []) ∨ (RB w A l ∧ n = l.length ∧ c = l.length ∧ 0 < l.length)) (hl : l.length ≤ 512)
    {K0 : Option Addr → Nat → Nat → World → Prop} (k0 : ∀ A c w', Below w.heap.size w w' → K0 A (l.length + 70) c w') : ∃ k, f_ref01_Apart.l0 k A n c (0 : Int) w K0 := by
  rcases h with ⟨rfl, rfl, rfl, rfl⟩ | ⟨hr, rfl, rfl, h0⟩
  · exact ⟨_, Apart_l0 (w0 := w) (N := 0) (by omega) k0 70 0 none 0 0 w [] rfl (by omega) rfl rfl (OwnE.none _ _ _ _ _) (Below.refl _ _)⟩
  · obtain ⟨a, rfl, _⟩ := hr 0 h0
    refine ⟨70 + 1, ?_⟩
    unfold f_ref01_Apart.l0
    refine sel_t (by decide) (al_new fun w1 b e1 s1 hb g1 => ?_)
    refine app_new RTb EB (by decide) (RB.rowE (hr.belw g1)) rfl (Nat.le_refl _) (x := IntKind.u8.wrap 0) hb rfl (by omega) fun A' c' w2 o2 g2 => ⟨_, _, _, rfl, ?_⟩
    have G := g1.trans (g2.mono g1.size)
    have o2' : OwnE eB 1 w2 w.heap.size 5 A' c' (l ++ [IntKind.u8.wrap 0]) := ⟨o2.1, o2.2.imp id fun ⟨g, cap, cur, h1, h2, h3⟩ => ⟨g, cap, cur, h1, Nat.le_trans g1.size h2, h3⟩⟩
    have e : IntKind.i64.wrap ((0 : Int) + 1) = ((1 : Nat) : Int) := wr70 (i := 0) (by decide)
    rw [e]
    exact Apart_l0 (w0 := w) (N := l.length) (by omega) k0 69 1 A' _ c' w2 _ rfl (by omega) (by simp) rfl o2' G
theorem Apart_ok {w : World} {A1 A2 A3 : Option Addr} {n1 n2 n3 c1 c2 c3 : Nat} {l : List Int} (h1 : RdSl w A1 n1 c1 l) (r2 : RB w A2 l) (e2 : n2 = l.length) (r3 : RB w A3 l) (e3 : n3 = l.length) (d2 : ∀ a, A2 = some a → ¬ Ob A1 a.block) (d3 : ∀ a, A3 = some a → ¬ Ob A1 a.block) :
    Calls Try.prog 46 #[.slice A1 n1 c1, .slice A2 n2 c2, .slice A3 n3 c3] w fun e w' => e = .returned (.bool true) ∧ Keeps (Ob A1) w w' := by
  obtain ⟨e1, hl⟩ := h1.len
  subst e2 e3
  apply f_ref01_Apart.ok
  unfold f_ref01_Apart.wp
  refine (BSame_ok h1.wb.rb e1 r3 rfl (by omega)).mono ?_
  rintro _ w1 ⟨rfl, g1⟩
  have kg : ∀ {W W' : World}, Below W.heap.size W W' → Keeps (Ob A1) W W' := fun g => .of_below g
  refine ⟨_, rfl, sel_f (by simp) ((BSame_ok (r2.belw g1) rfl (r3.belw g1) rfl (by omega)).mono ?_)⟩
  rintro _ w2 ⟨rfl, g2⟩
  have k2 := (kg g1).trans (kg g2)
  have hs := h1.wb.keeps ((Keeps.of_below (S := fun _ => False) g1).trans (.of_below g2)) fun _ _ => id
  refine ⟨_, rfl, sel_f (by simp) ((Spoil_ok hs e1 (by omega)).mono ?_)⟩
  rintro _ w3 ⟨rfl, h3, k3⟩
  have K3 := k2.trans k3
  have r23 := ((r2.belw g1).belw g2).keeps k3 d2
  have r33 := ((r3.belw g1).belw g2).keeps k3 d3
  have hlp : (A1 = none ∧ n1 = 0 ∧ c1 = 0 ∧ xorL l = []) ∨ (RB w3 A1 (xorL l) ∧ n1 = (xorL l).length ∧ c1 = (xorL l).length ∧ 0 < (xorL l).length) := by
    rcases h1 with ⟨h5, h6, h7, h8⟩ | ⟨b, s, _, h5, h6, _, h7⟩
    · subst h8; exact .inl ⟨h5, h6, h7, rfl⟩
    · have : l.length = 512 := by rw [h7]; exact s.2
      exact .inr ⟨h3.rb, by rw [xorL_len]; omega, by rw [xorL_len]; omega, by rw [xorL_len]; omega⟩
  refine ⟨rfl, Apart_loop hlp (by rw [xorL_len]; exact hl) fun A c w4 g4 => ?_⟩
  rw [xorL_len]
  intro _
  refine sel_t (by rw [w64_in (by omega)]; simp) ((Turned_ok (h3.rb.belw g4) e1 (r33.belw g4) rfl (by omega)).mono ?_)
  rintro _ w5 ⟨rfl, g5⟩
  refine ⟨_, rfl, sel_t rfl ((BSame_ok ((r23.belw g4).belw g5) rfl ((r33.belw g4).belw g5) rfl (by omega)).mono ?_)⟩
  rintro _ w6 ⟨rfl, g6⟩
  exact ⟨_, rfl, by simp, ((K3.trans (kg g4)).trans (kg g5)).trans (kg g6)⟩
end Go.Proofs.Ythekjlglnmhlaaa.Rd
