/- The document's disk in memory: Load, Loose, All, Safe. Conditions: none. -/
import Derived.Test.YthekjlglnmhlaaaDlE
namespace Go.Proofs.Ythekjlglnmhlaaa.Rd
open Go.Dn Go.RowKit Go.Shelf
set_option linter.unusedVariables false
set_option linter.unusedSimpArgs false
set_option maxRecDepth 100000
section
variable {w w' : World} {N S : Nat → Prop} {d : Dk} {v : RV} {m : SpM}
theorem Acc.keeps {w0 : World} {A : Option Addr} {c i : Nat} {f : Nat → Sec} {g : Nat → Option Sec} (h : Acc w w0 N A c f g i) (k : Keeps S w w') (hS : ∀ k, S k → N k) (hS2 : ∀ k, S k → k < w0.heap.size) : Acc w' w0 N A c f g i := by
  obtain ⟨ms, h1, h2, h3⟩ := h
  exact ⟨ms, h1.keeps k fun a ha hs => by have := hS2 _ hs; have := (h1.block a ha).1; omega, h2, fun j hj => (h3 j hj).keeps k fun k hk => .inl (hS k hk)⟩
theorem Acc.app {w0 : World} {A : Option Addr} {n c i : Nat} {f : Nat → Sec} {g : Nat → Option Sec} (h : Acc w w0 N A c f g i) (en : n = i) (hm : SpR w (fun k => N k ∨ Ob A k) m (f i) (g i)) {b : Nat} {cs : Array Value} {tb : TypeId} (hb : HB w b cs tb) (hcs : cs.toList = eSp m) (hB : w0.heap.size ≤ w.heap.size) (hi : i < 4096)
    {ty : TypeId} {K : Value → World → Prop} (k : ∀ A' c' w', Acc w' w0 N (some A') c' f g (i + 1) → Keeps (Ob A) w w' → (A = some A' ∨ w.heap.size ≤ A'.block) → K (.slice (some A') (i + 1) c') w') :
    Runs Try.prog (Builtin.append_ #[25, 25] ty #[.slice A n c, .slice (some (⟨b, 0, Option.none⟩ : Addr)) 1 1]) w K := by
  obtain ⟨ms, h1, h2, h3⟩ := h
  refine app_e RTsp ESp (by decide) h1 (by omega) (x := m) hb hcs hB (by omega) fun A' c' w3 o3 k3 f3 => ?_
  have e : (ms ++ [m]).length = i + 1 := by simp [h2]
  rw [e]
  have up : ∀ {m : SpM} {s : Sec} {p : Option Sec}, SpR w (fun k => N k ∨ Ob A k) m s p → SpR w3 (fun k => N k ∨ Ob (some A') k) m s p := fun {m s p} hm => by
    have q1 : SpR w (fun k => (N k ∨ Ob A k) ∨ Ob (some A') k) m s p := hm.out fun k hk h => by
      rcases h with h | h
      · exact h
      · rcases f3 with f3 | f3
        · rw [f3]; exact .inr h
        · obtain ⟨a, ha, hk2⟩ := h
          injection ha with ha; subst ha; omega
    exact (q1.keeps k3 fun k hk => .inl (.inr hk)).weak fun k hk => hk.elim (fun h => .inl (.inl h)) .inr
  refine k A' c' w3 ⟨ms ++ [m], o3, e, fun j hj => ?_⟩ k3 f3
  by_cases hj2 : j < ms.length
  · rw [List.getElem_append_left hj2]
    exact up (h3 j hj2)
  · have : j = i := by omega
    subst this
    have em : (ms ++ [m])[j] = m := by rw [List.getElem_append_right (by omega)]; simp [h2]
    rw [em]
    exact up hm
/-! ### Load -/
theorem RLoad_l0 {W0 w0 : World} {b : Nat} {A0 : Option Addr} {c0 : Nat} {l : List Int} (hr : RB W0 A0 l) (hlen : l.length ≤ 140737488355328) (hW : W0.heap.size ≤ b) (hb0 : b < w0.heap.size) (hN : ∀ k, N k → k < w0.heap.size) (hNb : N b) {K0 : World → Prop}
    (k0 : ∀ w A c, HB w b (rdC A (nL l.length) c) TRd → Acc w w0 N A c (fun j => secOf (l.drop (j * 512))) (fun _ => none) (nL l.length) → Below W0.heap.size W0 w → Keeps (fun k => k = b ∨ w0.heap.size ≤ k) w0 w → K0 w) :
    ∀ (m i : Nat) (w : World) (A : Option Addr) (c : Nat), nL l.length - i = m → i ≤ nL l.length → HB w b (rdC A i c) TRd → Acc w w0 N A c (fun j => secOf (l.drop (j * 512))) (fun _ => none) i → Below W0.heap.size W0 w → Keeps (fun k => k = b ∨ w0.heap.size ≤ k) w0 w →
      f_ref07_Load.l0 (m + 1) A0 l.length c0 (⟨b, 0, none⟩ : Addr) (i : Int) w K0 := by
  have hnl : nL l.length ≤ 4096 := by unfold nL; omega
  intro m
  induction m with
  | zero =>
    intro i w A c hm hi h a g kk
    have hs := kk.size
    have : i = nL l.length := by omega
    subst this
    unfold f_ref07_Load.l0
    have h0 := k0 w A c h a g kk
    by_cases c1 : nL l.length < 4096
    · refine sel_t (by simp; omega) (sel_f ?_ h0)
      rw [w64_in (by omega)]
      unfold nL at c1 ⊢
      simp; omega
    · exact sel_f (by simp; omega) h0
  | succ m ih =>
    intro i w A c hm hi h a g kk
    have hs := kk.size
    have hlt : i < nL l.length := by omega
    have hil : i * 512 < l.length := by unfold nL at hlt; omega
    have ew : IntKind.i64.wrap ((i : Int) * 512) = ((i * 512 : Nat) : Int) := by rw [w64_in (by omega)]; omega
    have ew1 : IntKind.i64.wrap ((i : Int) + 1) = ((i + 1 : Nat) : Int) := by rw [w64_in (by omega)]; omega
    have ew2 : IntKind.i64.wrap (((i + 1 : Nat) : Int) * 512) = (((i + 1) * 512 : Nat) : Int) := by rw [w64_in (by omega)]; omega
    unfold f_ref07_Load.l0
    rw [ew, ew1, ew2]
    refine sel_t (by simp; omega) (sel_t (by simp; omega) (drW_intro ?_))
    have gd := (Below.refl w.heap.size w).drew
    have hd := h.below gd
    have g1 := g.trans (gd.mono g.size)
    have a1 := a.belw gd
    have s1 := gd.size
    refine ⟨fun w' => HB w' b (rdC A i c) TRd, hd, hdS_i0 (fun _ h => h) (A := A) (n := i) (c := c) rfl ((BPiece_ok (hr.belw g1) rfl hlen).mono ?_)⟩
    rintro _ w2 ⟨A2, c2, rfl, o2, g2⟩
    have G2 := g1.trans (g2.mono g1.size)
    have s2 := g2.size
    have h2 := hd.below g2
    refine ⟨_, _, _, rfl, h2, (full_ok (OwnE.rb o2) rfl (by unfold pieceL; rw [List.length_drop, List.length_take]; omega)).mono ?_⟩
    rintro _ w3 ⟨A3, c3, rfl, o3, g3⟩
    have s3 := g3.size
    have h3 := h2.below g3
    have G3 := G2.trans (g3.mono G2.size)
    have es : secOf (pieceL l (i * 512) ((i + 1) * 512)) = secOf (l.drop (i * 512)) := by
      rw [← secOf_take1 (l.drop (i * 512))]
      unfold pieceL
      rw [List.drop_take, show (i + 1) * 512 - i * 512 = 512 by omega]
    rw [es] at o3
    refine ⟨_, _, _, rfl, h3, al_new fun w4 b4 e4 s4 hb4 g4 => ⟨h3.below g4, ?_⟩⟩
    have h4 := h3.below g4
    have a4 := ((a1.belw g2).belw g3).belw g4
    have G4 := G3.trans (g4.mono G3.size)
    refine a4.app (m := ⟨A3, 512, c3, none, 0, 0, false⟩) rfl ⟨?_, rfl, fun x hx hn => ?_, rfl, fun t ht => by cases ht⟩ hb4 rfl (by omega) (by omega) fun A' c' w5 a5 k5 f5 => ⟨_, _, _, rfl, ?_⟩
    · exact (OwnE.rb o3).belw g4
    · have hb3 := (o3.block x hx).1
      rcases hn with hn | ⟨y, hy, ey⟩
      · have := hN _ hn; omega
      · obtain ⟨ms, o, _⟩ := a1
        have := (o.block y hy).2
        omega
    have hne : ¬ Ob A b := fun ⟨x, hx, e⟩ => by have := a.blk x hx; omega
    have G5 : Below W0.heap.size W0 w5 := G4.trans (k5.below G4.size fun k hk ⟨x, hx, e⟩ => by have := a.blk x hx; have := (Below.size g); omega)
    refine hb_st0 (h4.keeps k5 hne) (by simp [rdC]) fun w6 h6 k6 => ?_
    have s5 := k5.size
    have s6 := k6.size
    refine ih (i + 1) w6 (some A') c' (by omega) (by omega) h6 (a5.keeps k6 (fun k e => by rw [e]; exact hNb) fun k e => by omega) (G5.trans (k6.below G5.size fun k hk e => by omega)) (kk.trans ?_)
    have q : Keeps (fun k => k = b ∨ w0.heap.size ≤ k) w w4 := (((Keeps.of_below gd).trans (.of_below g2)).trans (.of_below g3)).trans (.of_below g4)
    exact (q.trans (k5.mono fun k _ ⟨x, hx, e⟩ => .inr (by have := a.blk x hx; omega))).trans (k6.mono fun k _ e => .inl e)
theorem RLoad_ok {A0 : Option Addr} {n c0 : Nat} {l : List Int} (hr : RB w A0 l) (hn : n = l.length) (hlen : l.length ≤ 140737488355328) (hN : ∀ k, N k → k < w.heap.size) :
    Calls Try.prog 32 #[.slice A0 n c0] w fun e w' => ∃ v', e = .returned (rvE v') ∧ RM w' N v' (loadD l) ∧ Below w.heap.size w w' := by
  subst hn
  apply f_ref07_Load.ok
  unfold f_ref07_Load.wp
  refine al_new fun w1 b1 e1 s1 hb1 g1 => al_new fun w2 b3 e3 s3 hb3 g2 => hb_st0 hb3 (by decide) fun w3 h3 k3 => hb_st h3 (by decide) fun w4 h4 k4 => hb_st h4 (by decide) fun w5 h5 k5 => hb_st h5 (by decide) fun w6 h6 k6 => ?_
  have kk := ((k3.trans k4).trans k5).trans k6
  have n13 : b1 ≠ b3 := by omega
  have hb16 := (hb1.below g2).keeps kk n13
  have hb36 : HB w6 b3 (rdC none 0 0) TRd := h6
  have G2 := g1.trans (g2.mono g1.size)
  have G6 : Below w.heap.size w w6 := G2.trans (kk.below G2.size fun k hk e => by omega)
  have s6 := kk.size
  have s2 := G2.size
  obtain ⟨N2, hN2⟩ : ∃ N2, N2 = NN N w.heap.size w6.heap.size := ⟨_, rfl⟩
  have dn : ∀ k, N k → N2 k := fun k hk => by rw [hN2]; exact .inl hk
  have lt2 : ∀ k, N2 k → k < w6.heap.size := by rw [hN2]; exact NN.lt hN (by omega)
  have i1 : N2 b1 := by rw [hN2]; exact .inr ⟨by omega, by omega⟩
  have i3 : N2 b3 := by rw [hN2]; exact .inr ⟨by omega, by omega⟩
  refine ⟨_, RLoad_l0 (W0 := w) (w0 := w6) (N := N2) hr hlen (by omega) (by omega) lt2 i3 (fun w7 A c h7 a7 g7 k7' => ?_) (nL l.length) 0 w6 none 0 rfl (by omega) hb36 Acc.none G6 (.refl _ _)⟩
  intro _
  have hb17 : HB w7 b1 #[.slice none 0 0, .slice none 0 0, .int .i64 (0 : Int), .bool false] TRd := hb16.keeps k7' fun h => by have := hb16.lt; omega
  have h7' : HB w7 b3 (rvC ⟨A, nL l.length, c, none, 0, 0, 0, false⟩) TRd := h7
  have hl : (loadD l).safe.length = nL l.length := by simp [loadD, loadL]
  have hms : RMs w7 N2 A (loadD l) := a7.rms lt2 hl.symm (fun j hj => by
    rw [hl] at hj
    simp [loadD, loadL, List.getD_eq_getElem?_getD, hj]) (fun j hj => rfl)
  refine rv_ret h7' hb17 rfl fun w8 k8 _ => ⟨⟨A, nL l.length, c, none, 0, 0, 0, false⟩, rfl, ?_, g7.trans (k8.below g7.size fun k hk e => by omega)⟩
  exact ⟨(hms.keeps k8 fun k e => by rw [e]; exact i1).out fun k _ => dn k, hl.symm, by rw [hl]; unfold nL; omega, RowE.nil _ _ _ _, rfl, fun h => absurd rfl h, by simp [loadD], rfl, rfl⟩
/-! ### Loose -/
theorem lk_isSome (p : List (Int × Sec)) (x : Int) : (lk p x).isSome = hasK p x := by
  cases h : lk p x with
  | none =>
    rw [lk_none_iff] at h
    cases h2 : hasK p x with
    | false => rfl
    | true =>
      rw [hasK_iff] at h2
      obtain ⟨y, hy⟩ := h2
      exact absurd rfl (h _ hy)
  | some y =>
    have := hasK_iff.2 ⟨y, lk_some h⟩
    rw [this]; rfl
theorem RTin : RecTy Try.prog 31 3 1 8 := ⟨by kernel_rfl, by kernel_rfl⟩
theorem EIn : Enc (fun z : Int => [Value.int .i64 z]) 1 := ⟨fun _ => rfl, fun x u hu => by simp only [List.mem_singleton] at hu; subst hu; rfl, by decide⟩
def loP (p : List (Int × Sec)) (n : Nat) : List Int := ((List.range n).map fun (i : Nat) => (i : Int)).filter fun x => hasK p x
theorem loP_succ (p : List (Int × Sec)) (n : Nat) : loP p (n + 1) = if hasK p (n : Int) then loP p n ++ [(n : Int)] else loP p n := by
  unfold loP
  rw [List.range_succ, List.map_append, List.filter_append]
  simp only [List.map_cons, List.map_nil, List.filter_cons, List.filter_nil]
  split
  · rfl
  · simp
theorem loP_len (p : List (Int × Sec)) (n : Nat) : (loP p n).length ≤ n := by
  unfold loP
  exact Nat.le_trans (List.length_filter_le _ _) (by simp)
theorem RLoose_l0 {w0 : World} {b1 : Nat} {t1 : TypeId} (h : RMs w0 N v.A d) (hn : v.n = d.safe.length) (hsl : d.safe.length ≤ 4096) (hb1 : HB w0 b1 (rvC v) t1)
    {K0 : Option Addr → Nat → Nat → World → Prop} (k0 : ∀ A c w, OwnE (fun z : Int => [Value.int .i64 z]) 1 w w0.heap.size 3 A c (looseD d) → Below w0.heap.size w0 w → K0 A (looseD d).length c w) :
    ∀ (m i : Nat) (A : Option Addr) (n c : Nat) (w : World), d.safe.length - i = m → i ≤ d.safe.length → n = (loP d.pend i).length → OwnE (fun z : Int => [Value.int .i64 z]) 1 w w0.heap.size 3 A c (loP d.pend i) → Below w0.heap.size w0 w →
      f_ref07_Loose.l0 (m + 1) (⟨b1, 0, none⟩ : Addr) A n c (i : Int) w K0 := by
  intro m
  induction m with
  | zero =>
    intro i A n c w hm hi en o hb
    have : i = d.safe.length := by omega
    subst this
    subst en
    unfold f_ref07_Loose.l0
    exact hb_ldS0 (hb1.below hb) (A := v.A) (n := v.n) (c := v.c) rfl (sel_f (by rw [hn]; simp) (k0 _ _ _ o hb))
  | succ m ih =>
    intro i A n c w hm hi en o hb
    have hlt : i < d.safe.length := by omega
    unfold f_ref07_Loose.l0
    refine hb_ldS0 (hb1.below hb) (A := v.A) (n := v.n) (c := v.c) rfl (sel_t (by rw [hn]; simpa using hlt) (hb_ldS0 (hb1.below hb) (A := v.A) (n := v.n) (c := v.c) rfl ((h.belw hb).ld hlt hn fun a0 m0 q0 q1 q2 hm0 => ?_)))
    rw [show ((i : Int).toNat) * 3 = i * 3 by omega, wrs hlt (by omega)]
    have elo : m0.lo = hasK d.pend (i : Int) := hm0.lo.trans (lk_isSome _ _)
    have es := loP_succ d.pend i
    refine ldB_intro q2 ?_
    cases hk : hasK d.pend (i : Int) with
    | true =>
      rw [hk, if_pos rfl] at es
      refine sel_t (elo.trans hk) (put_e RTin EIn (by decide) o en (i : Int) rfl hb.size (by have := loP_len d.pend i; omega) fun A' c' w1 o1 k1 _ => ?_)
      rw [← es] at o1 ⊢
      exact ih (i + 1) _ _ c' w1 (by omega) (by omega) rfl o1 (hb.trans (k1.below hb.size fun k hk ⟨a, ha, e⟩ => by have := (o.block a ha).1; omega))
    | false =>
      rw [hk] at es
      simp only [Bool.false_eq_true, if_false] at es
      rw [← es] at o en
      exact sel_f (elo.trans hk) (ih (i + 1) _ _ c w (by omega) (by omega) en o hb)
theorem RLoose_ok (h : RM w N v d) : Calls Try.prog 50 #[rvE v] w fun e w' => ∃ A c, e = .returned (.slice A (looseD d).length c) ∧ RI w' A (looseD d) ∧ Below w.heap.size w w' := by
  apply f_ref07_Loose.ok
  unfold f_ref07_Loose.wp
  refine al_new fun w1 b1 e1 s1 hb1 g1 => ?_
  have hb1 : HB w1 b1 (rvC v) TRd := hb1
  refine alW_intro ⟨_, RLoose_l0 (w0 := w1) (h.ms.belw g1) h.n h.sl hb1 (fun A c w2 o2 g2 => ?_) d.safe.length 0 _ 0 0 _ rfl (by omega) rfl (OwnE.empty (Nat.le_refl _)) ((Below.refl _ _).alloc (Nat.le_refl _) _)⟩
  intro _
  exact ⟨A, c, rfl, ri_of (o2.reads EIn), g1.trans (g2.mono g1.size)⟩
/-! ### All -/
theorem RAll_l1 {W : World} {B : Nat} {A5 : Option Addr} {c5 : Nat} {x acc : List Int} (hr : RB W A5 x) (hA : ∀ a, A5 = some a → a.block < B) (hx : x.length ≤ 512) (hacc : acc.length ≤ 4194304)
    {K2 : Option Addr → Nat → Nat → World → Prop} (k2 : ∀ A c w, OwnE eB 1 w B 5 A c (acc ++ x) → Keeps (fun k => B ≤ k) W w → K2 A (acc ++ x).length c w) :
    ∀ (m j : Nat) (A : Option Addr) (n c : Nat) (w : World), x.length - j = m → j ≤ x.length → n = (acc ++ x.take j).length → OwnE eB 1 w B 5 A c (acc ++ x.take j) → B ≤ w.heap.size → Keeps (fun k => B ≤ k) W w →
      f_ref07_All.l1 (m + 1) A n c A5 x.length c5 (j : Int) w K2 := by
  intro m
  induction m with
  | zero =>
    intro j A n c w hm hj en o hB k
    have : j = x.length := by omega
    subst this
    rw [List.take_length] at o en
    subst en
    unfold f_ref07_All.l1
    exact sel_f (by simp) (k2 _ _ _ o k)
  | succ m ih =>
    intro j A n c w hm hj en o hB k
    have hlt : j < x.length := by omega
    have hw := hr.keeps k fun a ha h => by have := hA a ha; omega
    unfold f_ref07_All.l1
    refine sel_t (by simpa using hlt) (rb_ld hw hlt (put_e RTb EB (by decide) o en x[j] rfl hB (by rw [List.length_append, List.length_take]; omega) fun A' c' w1 o1 k1 _ => ?_))
    rw [wrs hlt (by omega)]
    have e : acc ++ x.take j ++ [x[j]] = acc ++ x.take (j + 1) := by rw [List.take_succ_eq_append_getElem hlt, List.append_assoc]
    rw [e] at o1 ⊢
    exact ih (j + 1) _ _ c' w1 (by omega) (by omega) rfl o1 (Nat.le_trans hB k1.size) (k.trans (k1.mono fun k _ ⟨a, ha, e⟩ => by have := (o.block a ha).1; omega))
theorem take_bytes {l : List Sec} {i : Nat} (h : i < l.length) : bytesOf (l.take (i + 1)) = bytesOf (l.take i) ++ l[i].1 := by
  unfold bytesOf
  rw [List.take_succ_eq_append_getElem h, List.flatMap_append]
  simp
theorem RAll_l0 {w0 : World} {b1 : Nat} {t1 : TypeId} (h : RMs w0 N v.A d) (hn : v.n = d.safe.length) (hsl : d.safe.length ≤ 4096) (hb1 : HB w0 b1 (rvC v) t1)
    {K0 : Option Addr → Nat → Nat → World → Prop} (k0 : ∀ A c w, OwnE eB 1 w w0.heap.size 5 A c (bytesOf (allD d)) → Below w0.heap.size w0 w → K0 A (bytesOf (allD d)).length c w) :
    ∀ (m i : Nat) (A : Option Addr) (n c : Nat) (w : World), d.safe.length - i = m → i ≤ d.safe.length → n = (bytesOf ((allD d).take i)).length → OwnE eB 1 w w0.heap.size 5 A c (bytesOf ((allD d).take i)) → Below w0.heap.size w0 w →
      f_ref07_All.l0 (m + 1) (⟨b1, 0, none⟩ : Addr) A n c (i : Int) w K0 := by
  have hal := allD_len d
  intro m
  induction m with
  | zero =>
    intro i A n c w hm hi en o hb
    have : i = d.safe.length := by omega
    subst this
    rw [List.take_of_length_le (by omega)] at o en
    subst en
    unfold f_ref07_All.l0
    exact hb_ldS0 (hb1.below hb) (A := v.A) (n := v.n) (c := v.c) rfl (sel_f (by rw [hn]; simp) (k0 _ _ _ o hb))
  | succ m ih =>
    intro i A n c w hm hi en o hb
    have hlt : i < d.safe.length := by omega
    have hs : RMs w (fun k => N k ∨ w0.heap.size ≤ k) v.A d := (h.out fun k hk h => h.elim id fun h => by omega).belw hb
    unfold f_ref07_All.l0
    refine hb_ldS0 (hb1.below hb) (A := v.A) (n := v.n) (c := v.c) rfl (sel_t (by rw [hn]; simpa using hlt) (hb_ldS0 (hb1.below hb) (A := v.A) (n := v.n) (c := v.c) rfl (hs.ld hlt hn fun a0 m0 q0 q1 q2 hm0 => ?_)))
    rw [show ((i : Int).toNat) * 3 = i * 3 by omega, wrs hlt (by omega)]
    refine ldS_intro q0 (ldS_intro q1 (ldB_intro q2 ((Rhas_ok hm0).mono ?_)))
    rintro _ w1 ⟨A1, c1, rfl, r1, b1', g1⟩
    have e : ((lk d.pend (i : Int)).getD (d.safe.getD i z0)) = (allD d)[i]'(by omega) := by rw [allD_get]; unfold hasS; rw [Int.toNat_natCast]
    rw [e] at r1
    have hl1 := ((allD d)[i]'(by omega)).2
    have hb1w := hb.trans (g1.mono hb.size)
    have tb := take_bytes (l := allD d) (i := i) (by omega)
    refine ⟨_, _, _, rfl, ?_⟩
    have el : 512 = ((allD d)[i]'(by omega)).1.length := hl1.symm
    rw [el]
    refine ⟨_, RAll_l1 (W := w1) (B := w0.heap.size) (x := ((allD d)[i]'(by omega)).1) (acc := bytesOf ((allD d).take i)) r1 (fun a ha => Nat.lt_of_not_le fun hh => b1' a ha (.inr hh)) (by omega) (by rw [bytesOf_len, List.length_take]; omega) (fun A' c' w2 o2 k2 => ?_) _ 0 A n c w1 rfl (by omega) (by simpa using en) (by simpa using o.below g1) hb1w.size (.refl _ _)⟩
    intro _
    rw [← tb] at o2 ⊢
    exact ih (i + 1) _ _ c' w2 (by omega) (by omega) rfl o2 (hb1w.trans (k2.below hb1w.size fun k hk e => by omega))
theorem RAll_ok (h : RM w N v d) : Calls Try.prog 51 #[rvE v] w fun e w' => ∃ A c, e = .returned (.slice A (bytesOf (allD d)).length c) ∧ RB w' A (bytesOf (allD d)) ∧ Below w.heap.size w w' := by
  apply f_ref07_All.ok
  unfold f_ref07_All.wp
  refine al_new fun w1 b1 e1 s1 hb1 g1 => ?_
  have hb1 : HB w1 b1 (rvC v) TRd := hb1
  refine alW_intro ⟨_, RAll_l0 (w0 := w1) (h.ms.belw g1) h.n h.sl hb1 (fun A c w2 o2 g2 => ?_) d.safe.length 0 _ 0 0 _ rfl (by omega) rfl (OwnE.empty (Nat.le_refl _)) ((Below.refl _ _).alloc (Nat.le_refl _) _)⟩
  intro _
  exact ⟨A, c, rfl, OwnE.rb o2, g1.trans (g2.mono g1.size)⟩
/-! ### Safe -/
theorem RSafe_l1 {W : World} {B : Nat} {A5 : Option Addr} {c5 : Nat} {x acc : List Int} (hr : RB W A5 x) (hA : ∀ a, A5 = some a → a.block < B) (hx : x.length ≤ 512) (hacc : acc.length ≤ 4194304)
    {K2 : Option Addr → Nat → Nat → World → Prop} (k2 : ∀ A c w, OwnE eB 1 w B 5 A c (acc ++ x) → Keeps (fun k => B ≤ k) W w → K2 A (acc ++ x).length c w) :
    ∀ (m j : Nat) (A : Option Addr) (n c : Nat) (w : World), x.length - j = m → j ≤ x.length → n = (acc ++ x.take j).length → OwnE eB 1 w B 5 A c (acc ++ x.take j) → B ≤ w.heap.size → Keeps (fun k => B ≤ k) W w →
      f_ref07_Safe.l1 (m + 1) A n c A5 x.length c5 (j : Int) w K2 := by
  intro m
  induction m with
  | zero =>
    intro j A n c w hm hj en o hB k
    have : j = x.length := by omega
    subst this
    rw [List.take_length] at o en
    subst en
    unfold f_ref07_Safe.l1
    exact sel_f (by simp) (k2 _ _ _ o k)
  | succ m ih =>
    intro j A n c w hm hj en o hB k
    have hlt : j < x.length := by omega
    have hw := hr.keeps k fun a ha h => by have := hA a ha; omega
    unfold f_ref07_Safe.l1
    refine sel_t (by simpa using hlt) (rb_ld hw hlt (put_e RTb EB (by decide) o en x[j] rfl hB (by rw [List.length_append, List.length_take]; omega) fun A' c' w1 o1 k1 _ => ?_))
    rw [wrs hlt (by omega)]
    have e : acc ++ x.take j ++ [x[j]] = acc ++ x.take (j + 1) := by rw [List.take_succ_eq_append_getElem hlt, List.append_assoc]
    rw [e] at o1 ⊢
    exact ih (j + 1) _ _ c' w1 (by omega) (by omega) rfl o1 (Nat.le_trans hB k1.size) (k.trans (k1.mono fun k _ ⟨a, ha, e⟩ => by have := (o.block a ha).1; omega))
theorem RSafe_l0 {w0 : World} {b1 : Nat} {t1 : TypeId} (h : RMs w0 N v.A d) (hn : v.n = d.safe.length) (hsl : d.safe.length ≤ 4096) (hb1 : HB w0 b1 (rvC v) t1)
    {K0 : Option Addr → Nat → Nat → World → Prop} (k0 : ∀ A c w, OwnE eB 1 w w0.heap.size 5 A c (bytesOf d.safe) → Below w0.heap.size w0 w → K0 A (bytesOf d.safe).length c w) :
    ∀ (m i : Nat) (A : Option Addr) (n c : Nat) (w : World), d.safe.length - i = m → i ≤ d.safe.length → n = (bytesOf (d.safe.take i)).length → OwnE eB 1 w w0.heap.size 5 A c (bytesOf (d.safe.take i)) → Below w0.heap.size w0 w →
      f_ref07_Safe.l0 (m + 1) (⟨b1, 0, none⟩ : Addr) A n c (i : Int) w K0 := by
  intro m
  induction m with
  | zero =>
    intro i A n c w hm hi en o hb
    have : i = d.safe.length := by omega
    subst this
    rw [List.take_of_length_le (by omega)] at o en
    subst en
    unfold f_ref07_Safe.l0
    exact hb_ldS0 (hb1.below hb) (A := v.A) (n := v.n) (c := v.c) rfl (sel_f (by rw [hn]; simp) (k0 _ _ _ o hb))
  | succ m ih =>
    intro i A n c w hm hi en o hb
    have hlt : i < d.safe.length := by omega
    have hs : RMs w (fun k => N k ∨ w0.heap.size ≤ k) v.A d := (h.out fun k hk h => h.elim id fun h => by omega).belw hb
    unfold f_ref07_Safe.l0
    refine hb_ldS0 (hb1.below hb) (A := v.A) (n := v.n) (c := v.c) rfl (sel_t (by rw [hn]; simpa using hlt) (hb_ldS0 (hb1.below hb) (A := v.A) (n := v.n) (c := v.c) rfl (hs.ld hlt hn fun a0 m0 q0 q1 q2 hm0 => ?_)))
    rw [show ((i : Int).toNat) * 3 = i * 3 by omega, wrs hlt (by omega)]
    refine ldS_intro q0 ?_
    have r1 := hm0.r
    have b1' := hm0.a
    have e : d.safe.getD i z0 = d.safe[i] := by simp [List.getD_eq_getElem?_getD, hlt]
    rw [e] at r1
    have hl1 := d.safe[i].2
    have g1 := Below.refl w.heap.size w
    rw [hm0.n]
    have hb1w := hb.trans (g1.mono hb.size)
    have tb := take_bytes (l := d.safe) (i := i) (by omega)
    have el : 512 = d.safe[i].1.length := hl1.symm
    rw [el]
    refine ⟨_, RSafe_l1 (W := w) (B := w0.heap.size) (x := d.safe[i].1) (acc := bytesOf (d.safe.take i)) r1 (fun a ha => Nat.lt_of_not_le fun hh => b1' a ha (.inr hh)) (by omega) (by rw [bytesOf_len, List.length_take]; omega) (fun A' c' w2 o2 k2 => ?_) _ 0 A n c w rfl (by omega) (by simpa using en) (by simpa using o.below g1) hb1w.size (.refl _ _)⟩
    intro _
    rw [← tb] at o2 ⊢
    exact ih (i + 1) _ _ c' w2 (by omega) (by omega) rfl o2 (hb1w.trans (k2.below hb1w.size fun k hk e => by omega))
theorem RSafe_ok (h : RM w N v d) : Calls Try.prog 52 #[rvE v] w fun e w' => ∃ A c, e = .returned (.slice A (bytesOf d.safe).length c) ∧ RB w' A (bytesOf d.safe) ∧ Below w.heap.size w w' := by
  apply f_ref07_Safe.ok
  unfold f_ref07_Safe.wp
  refine al_new fun w1 b1 e1 s1 hb1 g1 => ?_
  have hb1 : HB w1 b1 (rvC v) TRd := hb1
  refine alW_intro ⟨_, RSafe_l0 (w0 := w1) (h.ms.belw g1) h.n h.sl hb1 (fun A c w2 o2 g2 => ?_) d.safe.length 0 _ 0 0 _ rfl (by omega) rfl (OwnE.empty (Nat.le_refl _)) ((Below.refl _ _).alloc (Nat.le_refl _) _)⟩
  intro _
  exact ⟨A, c, rfl, OwnE.rb o2, g1.trans (g2.mono g1.size)⟩
end
end Go.Proofs.Ythekjlglnmhlaaa.Rd
