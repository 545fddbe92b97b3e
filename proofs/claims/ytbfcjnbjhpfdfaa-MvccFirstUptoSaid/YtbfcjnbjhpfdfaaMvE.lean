/- Begin, Touch, Try, Commit, walked. Conditions: none. -/
import Derived.Test.YtbfcjnbjhpfdfaaMvD
namespace Go.Dn
open Go.RowKit
set_option linter.unusedVariables false
/-- a slice at A reads these references -/
def RR (w : World) (A : Option Addr) (l : List Rf) : Prop := ∀ i (h : i < l.length), ∃ a, A = some a ∧ w.cell? (a.add (i * 2)) = some (.bool l[i].1) ∧ w.cell? ((a.add (i * 2)).add 1) = some (.int .i64 l[i].2)
theorem RR.nil (w : World) (A : Option Addr) : RR w A [] := fun i h => absurd h (Nat.not_lt_zero _)
theorem RR.keeps {S : Nat → Prop} {w w' : World} {A : Option Addr} {l : List Rf} (h : RR w A l) (hk : Keeps S w w') (hA : ∀ a, A = some a → ¬ S a.block) : RR w' A l := fun i hi => by
  obtain ⟨a, ha, h1, h2⟩ := h i hi
  exact ⟨a, ha, hk.cell h1 (by rw [add_block]; exact hA a ha), hk.cell h2 (by rw [add_block, add_block]; exact hA a ha)⟩
theorem RR.keeps' {S : Nat → Prop} {w w' : World} {A : Option Addr} {l : List Rf} (h : RR w A l) (hk : Keeps S w w') (hA : l ≠ [] → ∀ a, A = some a → ¬ S a.block) : RR w' A l := by
  by_cases e : l = []
  · subst e; exact RR.nil _ _
  · exact h.keeps hk (hA e)
theorem RR.below {w w' : World} {A : Option Addr} {l : List Rf} (h : RR w A l) (hb : Below w.heap.size w w') : RR w' A l := h.keeps (S := fun _ => False) (.of_below hb) fun _ _ => id
theorem i64n {n : Nat} (h : (n : Int) < 9223372036854775807) : IntKind.i64.wrap ((n : Int) + 1) = ((n + 1 : Nat) : Int) := by
  rw [w64_in (by omega)]; omega
end Go.Dn
namespace Go.Proofs.Ytbfcjnbjhpfdfaa.Rd
open Go.Dn Go.RowKit
set_option linter.unusedVariables false
set_option maxRecDepth 100000
variable {w : World} {F : Nat → Prop} {a : Nat} {t : Tb} {bl bw : Nat} {L : List Lv} {W : List (Rf × Int)}
theorem Begin_ok (h : TBL w F a t) (hlen : (t.txs.length : Int) < 4611686018427387904) : Calls Try.prog 18 #[eP a] w fun e w' => e = .returned (.tuple #[.int .i64 t.begin.2.1, .int .i64 t.begin.2.2]) ∧
    ∃ F', TBL w' F' a t.begin.1 ∧ Keeps F w w' ∧ ∀ k, F' k → F k ∨ w.heap.size ≤ k := by
  have h0 := h
  obtain ⟨bl, bw, L, W, h, hF⟩ := h
  apply f_mvcc_Table_Begin.ok
  unfold f_mvcc_Table_Begin.wp
  refine hb_ldM (j := 2) h.tab rfl (h.lv.len KTl ⟨_, rfl, ?_⟩)
  have hl : (L.map fun v => (v.n, v.p)).length = t.lives.length := by rw [List.length_map]; exact h.len
  rw [hl]
  by_cases h8 : 8 ≤ t.lives.length
  · refine sel_t (by simp; omega) ?_
    unfold Tb.begin; rw [if_pos h8]
    exact ⟨rfl, F, h0, .refl _ _, fun k hk => .inl hk⟩
  · refine sel_f (by simp; omega) (hb_ldI (j := 1) h.tab rfl (hb_st (j := 1) h.tab (by simp) fun w1 h1 k1 => drW_intro ?_))
    rw [i64n (by omega)] at h1 
    have h1 : HB w1 a #[.int .i64 t.last, .int .i64 ((t.txs.length + 1 : Nat) : Int), .map (some bl), .map (some bw)] 60 := h1
    have k2 : Keeps (fun k => k = a) w w1.drew := k1.drew
    have h2 : HB w1.drew a #[.int .i64 t.last, .int .i64 ((t.txs.length + 1 : Nat) : Int), .map (some bl), .map (some bw)] 60 := h1
    generalize w1.drew = w2 at h2 k2
    refine ⟨fun w' => HB w' a #[.int .i64 t.last, .int .i64 ((t.txs.length + 1 : Nat) : Int), .map (some bl), .map (some bw)] 60, h2, ⟨some bl, fun w' hw => hw.cell 2, ⟨_, fun w' hw => hw.cell 1, ⟨_, fun w' hw => hw.cell 0, alW_intro ?_⟩⟩⟩⟩
    have o3 : GM (w2.alloc (.map #[] 0)) eR Value.bool okR w2.heap.size [] := GM.new w2
    generalize hw3 : w2.alloc (.map #[] 0) = w3 at *
    have g3 : Below w2.heap.size w2 w3 := by rw [← hw3]; exact (Below.refl _ _).alloc (Nat.le_refl _) _
    have s3 : w3.heap.size = w2.heap.size + 1 := by rw [← hw3]; simp
    have h3 := h2.below g3
    refine ⟨h3, al_new fun w4 b4 e4 s4 h4 g4 => ⟨h3.below g4, ?_⟩⟩
    have s2 := k2.size
    have hlt : ∀ k, Own a bl bw L k → k < w.heap.size := fun k hk => h.own_lt hk
    have k4 : Keeps (fun k => k = a) w w4 := (k2.trans' (Keeps.of_below (S := fun _ => False) g3) fun k _ h => h.elim).trans' (Keeps.of_below (S := fun _ => False) g4) fun k _ h => h.elim
    have lv4 := h.lv.keeps k4 (Ne.symm h.al)
    have hn : W64 ((t.txs.length + 1 : Nat) : Int) := by unfold W64; omega
    refine lv4.upd KTl (x := ((t.txs.length + 1 : Nat) : Int)) hn (v := b4) fun w5 lv5 k5 => ?_
    have tab5 : HB w5 a _ _ := ((h3.below g4).keeps k5 h.al)
    refine hb_ldI (j := 1) tab5 rfl ?_
    have hno : hasK (L.map fun v => (v.n, v.p)) ((t.txs.length + 1 : Nat) : Int) = false := by
      rw [Bool.eq_false_iff]
      intro hh
      obtain ⟨p, hp⟩ := hasK_iff.1 hh
      obtain ⟨v, hv, e⟩ := List.mem_map.1 hp
      obtain ⟨x, hx, _⟩ := h.mem v hv
      have := Tb.get_le hx
      injection e with e1 e2
      omega
    have hput : putK (L.map fun v => (v.n, v.p)) ((t.txs.length + 1 : Nat) : Int) b4 = (L ++ [(⟨((t.txs.length + 1 : Nat) : Int), b4, w2.heap.size, t.last, []⟩ : Lv)]).map fun v => (v.n, v.p) := by
      unfold putK
      rw [hno]; simp
    rw [hput] at lv5
    have kk : Keeps (fun k => k = a ∨ k = bl) w w5 := (k4.mono fun k _ h => .inl h).trans' k5 fun k _ h => .inr h
    unfold Tb.begin
    rw [if_neg h8]
    have s4' := g4.size
    refine ⟨by simp only; rw [show ((t.txs.length + 1 : Nat) : Int) = (t.txs.length : Int) + 1 by omega], Own a bl bw (L ++ [⟨((t.txs.length + 1 : Nat) : Int), b4, w2.heap.size, t.last, []⟩]), ⟨bl, bw, _, W, ⟨?_, lv5, ?_, ?_, ?_, h.ne, ?_, ?_, h.ok.begin h8, h.wok.begin h.ok⟩, fun _ => Iff.rfl⟩, kk.mono fun k _ hk => ?_, fun k hk => ?_⟩
    · simp only [List.length_append, List.length_cons, List.length_nil]
      exact tab5
    · exact h.wr.keeps kk fun e => e.elim (fun e => h.aw e.symm) (fun e => h.lbw e.symm)
    · intro v hv
      rcases List.mem_append.1 hv with hv | hv
      · exact ⟨(h.tx v hv).1.keeps kk fun e => e.elim (h.pa hv) (h.pl hv), (h.tx v hv).2.keeps kk fun e => e.elim (h.aq hv) (h.lq hv)⟩
      · obtain rfl : v = _ := by simpa using hv
        have hbl := hlt bl (.inr (.inl rfl))
        exact ⟨h4.keeps k5 (by omega), (o3.below g4).keeps k5 (by omega)⟩
    · have hq : ∀ k ∈ (bl :: bw :: L.map Lv.q), k < w2.heap.size := fun k hk => by
        have : k < w.heap.size := by
          rcases List.mem_cons.1 hk with rfl | hk
          · exact hlt _ (.inr (.inl rfl))
          · rcases List.mem_cons.1 hk with rfl | hk
            · exact hlt _ (.inr (.inr (.inl rfl)))
            · obtain ⟨v, hv, rfl⟩ := List.mem_map.1 hk
              exact hlt _ (.inr (.inr (.inr ⟨v, hv, .inr rfl⟩)))
        omega
      rw [List.map_append]
      have : (bl :: bw :: (L.map Lv.q ++ [w2.heap.size])) = (bl :: bw :: L.map Lv.q) ++ [w2.heap.size] := rfl
      show (bl :: bw :: (L.map Lv.q ++ [w2.heap.size])).Nodup
      rw [this]
      refine List.nodup_append.2 ⟨h.ap, by simp, fun x hx y hy e => ?_⟩
      have h1 := hq x hx
      have h2 : y = w2.heap.size := by simpa using hy
      omega
    · intro v hv
      rcases List.mem_append.1 hv with hv | hv
      · obtain ⟨x, hx, h5⟩ := h.mem v hv
        have := Tb.get_le hx
        exact ⟨x, by rw [get_append, if_neg (by omega)]; exact hx, h5⟩
      · obtain rfl : v = _ := by simpa using hv
        refine ⟨⟨t.last, [], true, -1⟩, by rw [get_append, if_pos (by show ((t.txs.length + 1 : Nat) : Int) = _; omega), if_pos rfl], rfl, fun r => ?_⟩
        simp
    · intro n x hx
      rw [get_append] at hx
      by_cases e : n = (t.txs.length : Int) + 1
      · exact ⟨⟨((t.txs.length + 1 : Nat) : Int), b4, w2.heap.size, t.last, []⟩, by simp, by simp only; omega⟩
      · rw [if_neg e] at hx
        obtain ⟨v, hv, e2⟩ := h.all n x hx
        exact ⟨v, by simp [hv], e2⟩
    · rcases hk with hk | hk
      · exact (hF k).2 (.inl hk)
      · exact (hF k).2 (.inr (.inl hk))
    · rcases hk with hk | hk | hk | ⟨v, hv, hk⟩
      · exact .inl ((hF k).2 (.inl hk))
      · exact .inl ((hF k).2 (.inr (.inl hk)))
      · exact .inl ((hF k).2 (.inr (.inr (.inl hk))))
      · rcases List.mem_append.1 hv with hv | hv
        · exact .inl ((hF k).2 (.inr (.inr (.inr ⟨v, hv, hk⟩))))
        · obtain rfl : v = _ := by simpa using hv
          simp only at hk
          exact .inr (by omega)
/-! ### Touch -/
theorem touch_loop {p q : Nat} {A : Option Addr} {c : Nat} {refs : List Rf} {s : Int} {K0 : World → Prop} (hr : ∀ r ∈ refs, W64 r.2) (hsm : (refs.length : Int) < 4611686018427387904) : ∀ (N i : Nat) (w : World) (tm : List (Rf × Bool)), refs.length - i ≤ N → i ≤ refs.length →
    GM w eR Value.bool okR q tm → HB w p #[.int .i64 s, .map (some q)] 81 → RR w A refs → (refs ≠ [] → ∀ a, A = some a → a.block ≠ q) → p ≠ q →
    (∀ w' tm', Keeps (fun k => k = q) w w' → GM w' eR Value.bool okR q tm' → (∀ r, (∃ b, (r, b) ∈ tm') ↔ (∃ b, (r, b) ∈ tm) ∨ r ∈ refs.drop i) → K0 w') →
    f_mvcc_Table_Touch.l0 (N + 1) (some ⟨p, 0, none⟩) A refs.length c (refs.length : Int) (i : Int) w K0
  | N, i, w, tm, hN, hi, hg, hp, hR, hA, hpq, hK => by
    unfold f_mvcc_Table_Touch.l0
    by_cases hlt : i < refs.length
    · have hne : refs ≠ [] := List.ne_nil_of_length_pos (by omega)
      obtain ⟨g, hAg, c1, c2⟩ := hR i hlt
      subst hAg
      refine sel_t (by simpa using hlt) (optB_some rfl (req_intro (by simp; omega) ?_))
      rw [Int.toNat_natCast]
      refine ⟨_, c1, ldI_intro c2 (box_rf refs[i] fun w1 B eB hB g1 s1 => drW_intro (optB_some rfl ?_))⟩
      have kF : Keeps (fun _ => False) w w1.drew := (Keeps.of_below g1).drew
      have hg1 : GM w1.drew eR Value.bool okR q tm := hg.keeps kF id
      have hp1 : HB w1.drew p _ _ := hp.keeps kF id
      have hB1 : HB w1.drew B _ _ := hB
      have k1 : Keeps (fun k => k = q) w w1.drew := (Keeps.of_below g1).drew
      have hR1 : RR w1.drew (some g) refs := hR.keeps k1 fun a ha => by injection ha with ha; subst ha; exact hA hne g rfl
      generalize w1.drew = w2 at hg1 hp1 hB1 k1 hR1
      refine hb_ldM (j := 1) hp1 rfl (hb_ldB0 hB1 rfl (hb_ldI (j := 1) hB1 rfl (hg1.upd KTt (x := refs[i]) (hr _ (List.getElem_mem hlt)) (v := true) fun w3 hg3 k3 => ?_)))
      cases N with
      | zero => omega
      | succ N =>
        rw [i64n (by omega)]
        refine touch_loop hr hsm N (i + 1) w3 _ (by omega) (by omega) hg3 (hp1.keeps k3 hpq) (hR1.keeps k3 fun a ha => by injection ha with ha; subst ha; exact hA hne g rfl) hA hpq fun w4 tm4 k4 hg4 h4 => hK w4 tm4 ((k1.trans k3).trans k4) hg4 fun r => ?_
        rw [h4, List.drop_eq_getElem_cons hlt, List.mem_cons]
        have : (∃ b, (r, b) ∈ putK tm refs[i] true) ↔ (∃ b, (r, b) ∈ tm) ∨ r = refs[i] := by
          have e1 : (∃ b, (r, b) ∈ putK tm refs[i] true) ↔ ∃ b, lk (putK tm refs[i] true) r = some b := exists_congr fun b => (lk_iff (hg.nd.put _ _)).symm
          have e2 : (∃ b, (r, b) ∈ tm) ↔ ∃ b, lk tm r = some b := exists_congr fun b => (lk_iff hg.nd).symm
          rw [e1, e2]
          rw [lk_putK]
          by_cases e : refs[i] = r
          · rw [if_pos e]; exact ⟨fun _ => .inr e.symm, fun _ => ⟨_, rfl⟩⟩
          · rw [if_neg e]; exact ⟨.inl, fun h => h.resolve_right fun h => e h.symm⟩
        rw [this]
        exact ⟨fun h => h.elim (fun h => h.elim .inl fun h => .inr (.inl h)) fun h => .inr (.inr h), fun h => h.elim (fun h => .inl (.inl h)) fun h => h.elim (fun h => .inl (.inr h)) .inr⟩
    · refine sel_f (by simpa using hlt) (hK w tm (.refl _ _) hg fun r => ?_)
      rw [List.drop_eq_nil_of_le (by omega)]; simp
theorem Touch_ok (h : TBL w F a t) {n : Int} (hn : W64 n) {A : Option Addr} {c : Nat} {refs : List Rf} (hr : ∀ r ∈ refs, W64 r.2) (hsm : (refs.length : Int) < 4611686018427387904) (hR : RR w A refs) (hA : refs ≠ [] → ∀ g, A = some g → ¬ F g.block) :
    Calls Try.prog 19 #[eP a, .int .i64 n, .slice A refs.length c] w fun e w' => e = .returned (.int .i64 (t.touch n refs).2) ∧ ∃ F', TBL w' F' a (t.touch n refs).1 ∧ Keeps F w w' ∧ ∀ k, F' k → F k := by
  have h0 := h
  obtain ⟨bl, bw, L, W, h, hF⟩ := h
  apply f_mvcc_Table_Touch.ok
  unfold f_mvcc_Table_Touch.wp
  refine hb_ldM (j := 2) h.tab rfl (h.lv.look KTl (x := n) hn (z78 w) ?_)
  rcases h.look n with ⟨h1, h2⟩ | ⟨v, x, hv, e, h1, h2, h3, h4⟩
  · rw [h1]
    refine ⟨none, rfl, sel_t rfl ?_⟩
    unfold Tb.touch; rw [h2]; exact ⟨rfl, F, h0, .refl _ _, fun _ => id⟩
  · rw [h1]
    refine ⟨some ⟨v.p, 0, none⟩, rfl, sel_f rfl ⟨_, touch_loop hr hsm refs.length 0 w v.tm (by omega) (by omega) (h.tx v hv).2 (h.tx v hv).1 hR (fun hne g hg e => hA hne g hg ((hF _).2 (.inr (.inr (.inr ⟨v, hv, .inr e⟩))))) (h.pq hv hv) fun w1 tm1 k1 g1 m1 _ => ?_⟩⟩
    unfold Tb.touch; rw [h2]
    have hlive := (Tb.get_some h2).2.2
    let L' : List Lv := L.map fun u => if u.n = n then ⟨u.n, u.p, u.q, u.s, tm1⟩ else u
    have hL' : ∀ u ∈ L', (u = ⟨v.n, v.p, v.q, v.s, tm1⟩) ∨ (u ∈ L ∧ u.n ≠ n) := by
      intro u hu
      obtain ⟨z, hz, rfl⟩ := List.mem_map.1 hu
      by_cases e2 : z.n = n
      · rw [if_pos e2]
        have : z = v := h.uniq hz hv (by rw [e2, e])
        subst this; exact .inl rfl
      · rw [if_neg e2]; exact .inr ⟨hz, e2⟩
    have hmap : ∀ {β : Type} (f : Lv → β), (∀ u, f ⟨u.n, u.p, u.q, u.s, tm1⟩ = f u) → L'.map f = L.map f := by
      intro β f hf
      rw [List.map_map]
      refine List.map_congr_left fun u _ => ?_
      show f (if u.n = n then ⟨u.n, u.p, u.q, u.s, tm1⟩ else u) = f u
      split
      · exact hf u
      · rfl
    refine ⟨rfl, Own a bl bw L', ⟨bl, bw, L', W, ⟨?_, ?_, h.wr.keeps k1 (h.wq hv).symm, fun u hu => ?_, ?_, h.ne, fun u hu => ?_, fun m y hy => ?_, h.ok.touch h2 hr, h.wok.touch h.ok h2⟩, fun _ => Iff.rfl⟩, k1.mono fun k _ hk => (hF k).2 (.inr (.inr (.inr ⟨v, hv, .inr hk⟩))), fun k hk => (hF k).2 ?_⟩
    · have := h.tab.keeps k1 (h.aq hv).symm
      have e3 : (t.put n { x with tk := x.tk ++ refs }).txs.length = t.txs.length := by simp [Tb.put]
      rw [e3]; exact this
    · rw [hmap (fun v => (v.n, v.p)) fun _ => rfl]
      exact h.lv.keeps k1 (h.lq hv).symm
    · rcases hL' u hu with rfl | ⟨hu, hne⟩
      · exact ⟨(h.tx v hv).1.keeps k1 (h.pq hv hv), g1⟩
      · exact ⟨(h.tx u hu).1.keeps k1 (h.pq hu hv), (h.tx u hu).2.keeps k1 fun e2 => hne (by rw [h.uq hu hv e2, e])⟩
    · rw [hmap Lv.q fun _ => rfl]; exact h.ap
    · rcases hL' u hu with rfl | ⟨hu, hne⟩
      · refine ⟨{ x with tk := x.tk ++ refs }, by rw [Tb.get_put h2, if_pos e, if_pos hlive], h3, fun r => ?_⟩
        simp only
        rw [m1, List.drop_zero, List.mem_append, h4]
      · obtain ⟨y, h5, h6⟩ := h.mem u hu
        exact ⟨y, by rw [Tb.get_put h2, if_neg hne]; exact h5, h6⟩
    · by_cases e2 : m = n
      · exact ⟨⟨v.n, v.p, v.q, v.s, tm1⟩, List.mem_map.2 ⟨v, hv, by rw [if_pos e]⟩, by simp only; rw [e2, e]⟩
      · rw [Tb.get_put h2, if_neg e2] at hy
        obtain ⟨u, hu, e3⟩ := h.all m y hy
        exact ⟨u, List.mem_map.2 ⟨u, hu, by rw [if_neg (by rw [e3]; exact e2)]⟩, e3⟩
    · rcases hk with hk | hk | hk | ⟨u, hu, hk⟩
      · exact .inl hk
      · exact .inr (.inl hk)
      · exact .inr (.inr (.inl hk))
      · rcases hL' u hu with rfl | ⟨hu, hne⟩
        · exact .inr (.inr (.inr ⟨v, hv, hk⟩))
        · exact .inr (.inr (.inr ⟨u, hu, hk⟩))
end Go.Proofs.Ytbfcjnbjhpfdfaa.Rd
