/- The calls of a rope, walked: Cut, Set, At, Seek, List, each on rows. Conditions: none. -/
import Derived.Test.YtkkobfajahmfaaaEuG
namespace Go.Proofs.Ytkkobfajahmfaaa.Rd
open Go.Dn Go.RowKit
set_option linter.unusedVariables false
set_option maxRecDepth 100000

theorem flatMap_congr' {α β : Type} {f g : α → List β} : ∀ {l : List α}, (∀ a ∈ l, f a = g a) → l.flatMap f = l.flatMap g
  | [], _ => rfl
  | a :: l, h => by
    rw [List.flatMap_cons, List.flatMap_cons, h a (by simp), flatMap_congr' (l := l) fun b hb => h b (by simp [hb])]
def cutE (n : Nat) (a : Int) : Int := if Bd n a then 150 else 0
def cutS (n : Nat) (rows : List (List Nat)) (a : Int) : List (List Nat) := if Bd n a then rows else cutR rows a.toNat
theorem Cut_ok {w : World} {r : RC} {rows : List (List Nat)} {V : Nat → Int × Int × Int} (h : Rope w r rows V) (a : Int) :
    Calls Try.prog 42 #[.pointer (some ⟨r.R, 0, none⟩), .int .i64 a] w fun e w' => e = .returned (.int .i64 (cutE r.n a)) ∧ Rope w' r (cutS r.n rows a) V ∧ Keeps (Sr r) w w' := by
  obtain ⟨N, ts, hp, hf⟩ := h
  apply f_euler_load_Cut.ok
  unfold f_euler_load_Cut.wp
  refine alW_intro ((bad1 hp a).mono ?_)
  rintro e w1 ⟨rfl, rfl⟩
  refine ⟨_, rfl, ?_⟩
  have hp1 := hp.alloc (.cells #[.int .i64 a] 3)
  have k1 : Keeps (Sr r) w (w.alloc (.cells #[.int .i64 a] 3)) := .of_below (bal _ _)
  generalize w.alloc (.cells #[.int .i64 a] 3) = w1 at *
  cases hb : Bd r.n a with
  | true => exact sel_t rfl ⟨by simp [cutE, hb], by simp only [cutS, hb, if_true]; exact ⟨N, ts, hp1, hf⟩, k1⟩
  | false =>
    refine sel_f rfl ?_
    obtain ⟨x, rfl, ex, hx⟩ := Bd_nat hb
    obtain ⟨s, hs, xs, es, os, us, ns⟩ := hf.tree hx
    refine (root_ok hp1 os us xs).mono ?_
    rintro e w2 ⟨rfl, rfl⟩
    refine ⟨_, rfl, (index_ok hp1 hf.le hf.z os ns us xs).mono ?_⟩
    rintro e w3 ⟨rfl, b3⟩
    have hp3 := hp1.below b3
    have hidx : s.ids.idxOf x < s.ids.length := idx_lt xs
    refine ⟨_, rfl, (split_ok (Nat.le_of_lt hidx) hp3 hf.le os ns hf.vals).mono ?_⟩
    rintro e w4 ⟨tx, ty, N4, rfl, ⟨h4, k4⟩, ox, oy, ex', ey', c4⟩
    refine ⟨_, _, rfl, (free_ok h4 (ox.root_lt hf.pos)).mono ?_⟩
    rintro e w5 ⟨rfl, h5, k5⟩
    refine ⟨rfl, (free_ok h5 (oy.root_lt hf.pos)).mono ?_⟩
    rintro e w6 ⟨rfl, h6, k6⟩
    have kk : Keeps (Sr r) w w6 := (k1.trans (.of_below b3)).trans ((k4.trans k5).trans k6)
    refine ⟨rfl, by simp [cutE, hb], ?_, kk⟩
    have e : cutS r.n rows (x : Int) = cutR rows x := by simp [cutS, hb]
    rw [e]
    -- the two pieces
    have nds := ns
    rw [← List.take_append_drop (s.ids.idxOf x) s.ids, ← ex', ← ey'] at nds
    rw [List.nodup_append] at nds
    obtain ⟨ndx, ndy, dxy⟩ := nds
    have sub : ∀ i, i ∈ tx.ids ∨ i ∈ ty.ids ↔ i ∈ s.ids := fun i => by
      rw [← List.mem_append, ex', ey', List.take_append_drop]
    have ry : ty.root ≠ 0 := fun h0 => by
      have := congrArg List.length ey'
      rw [oy.root_pos.1 h0, List.length_drop] at this
      simp [Tr.ids] at this; omega
    have rym := Tr.root_mem ry
    rw [if_neg ry] at h6
    have fin : ∀ i j, j ≠ 2 → Dn.st (if tx.root = 0 then N4 else Dn.st N4 tx.root 2 0) ty.root 2 0 i j = N4 i j := fun i j hj => by
      rw [st_j _ _ _ _ hj]; split
      · rfl
      · exact st_j _ _ _ _ hj
    have fin2 : ∀ i, i ≠ ty.root → (tx.root = 0 ∨ i ≠ tx.root) → ∀ j, Dn.st (if tx.root = 0 then N4 else Dn.st N4 tx.root 2 0) ty.root 2 0 i j = N4 i j := fun i h1 h2 j => by
      rw [st_i _ _ _ _ h1]; split
      · rfl
      · rename_i h; rcases h2 with h2 | h2
        · exact absurd h2 h
        · exact st_i _ _ _ _ h2
    generalize hN6 : Dn.st (if tx.root = 0 then N4 else Dn.st N4 tx.root 2 0) ty.root 2 0 = N6 at *
    have hc5 : ∀ i j, j = 5 ∨ j = 6 ∨ j = 7 → N6 i j = N i j := fun i j hj => by rw [fin i j (by omega)]; exact c4.own i j (by omega)
    refine ⟨N6, ts.flatMap (fun q => if x ∈ q.ids then (if s.ids.idxOf x = 0 then [ty] else [tx, ty]) else [q]), h6, ?_, hf.rok.cut x, ?_, ?_, (hf.v' hc5).1, hf.le, hf.pos, (hf.v' hc5).2⟩
    · rw [cutR, ← hf.ids, List.flatMap_map, List.map_flatMap]
      refine flatMap_congr' fun q hq => ?_
      by_cases hxq : x ∈ q.ids
      · have : q = s := one_of hf.pw hq hs hxq xs
        subst this
        simp only [pieces, if_pos hxq]
        split
        · rename_i h0; rw [h0, List.drop_zero] at ey'; simp [ey']
        · simp [ex', ey']
      · simp [pieces, hxq]
    · intro q hq
      obtain ⟨q0, hq0, hq⟩ := List.mem_flatMap.1 hq
      have okx : tx.root ≠ 0 → OkT N6 r.n tx ∧ N6 tx.root 2 = 0 := fun h0 => by
        have hx0 := Tr.root_mem h0
        have hne : tx.root ≠ ty.root := fun e => dxy _ hx0 _ rym e
        refine ⟨ox.congr (Nat.le_refl _) ndx fun i hi j _ hj => ?_, ?_⟩
        · rcases hj with hj | hj
          · exact fin i j hj
          · exact fin2 i (fun e => dxy i hi _ rym e) (.inr hj) j
        · rw [← hN6, st_i _ _ _ _ hne, if_neg h0, st_same]
      have oky : OkT N6 r.n ty ∧ N6 ty.root 2 = 0 := by
        refine ⟨oy.congr (Nat.le_refl _) ndy fun i hi j _ hj => ?_, by rw [← hN6, st_same]⟩
        rcases hj with hj | hj
        · exact fin i j hj
        · exact fin2 i hj (by
            by_cases h0 : tx.root = 0
            · exact .inl h0
            · exact .inr fun e => dxy _ (Tr.root_mem h0) i hi e.symm) j
      by_cases hxq : x ∈ q0.ids
      · rw [if_pos hxq] at hq
        split at hq
        · simp only [List.mem_singleton] at hq; subst hq; exact oky
        · rename_i hk
          have rx : tx.root ≠ 0 := fun h0 => by
            have := congrArg List.length ex'
            rw [ox.root_pos.1 h0, List.length_take] at this
            simp [Tr.ids] at this; omega
          simp only [List.mem_cons, List.not_mem_nil, or_false] at hq
          rcases hq with rfl | rfl
          · exact okx rx
          · exact oky
      · rw [if_neg hxq] at hq
        simp only [List.mem_singleton] at hq; subst hq
        obtain ⟨oq, uq⟩ := hf.ok q hq0
        have qout : ∀ i ∈ q.ids, i ∉ s.ids := fun i hi hh => hxq (by rw [one_of hf.pw hq0 hs hi hh]; exact xs)
        have hroot : q.root ≠ 0 := fun e => hf.rok.ne q.ids (by rw [← hf.ids]; exact List.mem_map_of_mem hq0) (by rw [oq.root_pos.1 e]; rfl)
        have qn : q.ids.Nodup := hf.rok.nd _ (by rw [← hf.ids]; exact List.mem_map_of_mem hq0)
        have same : ∀ i ∈ q.ids, ∀ j, N6 i j = N i j := fun i hi j => by
          rw [fin2 i (fun e => qout i hi ((sub i).1 (.inr (e ▸ rym)))) (by
            by_cases h0 : tx.root = 0
            · exact .inl h0
            · exact .inr fun e => qout i hi ((sub i).1 (.inl (e ▸ Tr.root_mem h0)))), c4.out i (qout i hi)]
        exact ⟨oq.congr (Nat.le_refl _) qn fun i hi j _ _ => same i hi j, by rw [same _ (Tr.root_mem hroot)]; exact uq⟩
    · have h0s : (0 : Nat) ∉ s.ids := fun hh => by have := (os.lt 0 hh).1; omega
      rw [fin 0 4 (by omega), c4.out 0 h0s]; exact hf.z

/-! ### Set -/
def dp : Tr → Nat → Nat
  | .nil, _ => 0
  | .node l x y, a => if a ∈ l.ids then dp l a + 1 else if a ∈ y.ids then dp y a + 1 else 1
theorem set_l0 {r : RC} (hn : r.n ≤ 65537) {K : World → Prop} : ∀ {t : Tr} {k0 : Nat} {a : Nat} {w : World} {N N0 : Nat → Nat → Int}, OkT N0 r.n t → t.ids.Nodup → a ∈ t.ids → (∀ i j, (i ≠ a ∨ (j ≠ 5 ∧ j ≠ 6 ∧ j ≠ 7)) → N i j = N0 i j) → Rp w r N → Vals N r.n →
    (∀ w' N', Aft r w w' N' → OkT N' r.n t → Chg t.ids N N' → N' t.root 2 = N t.root 2 → f_euler_load_Set.l0 k0 ⟨r.R, 0, none⟩ (N t.root 2) w' K) → f_euler_load_Set.l0 (k0 + dp t a) ⟨r.R, 0, none⟩ (a : Int) w K
  | .nil, k0, a, w, N, N0, _, _, hm, _, _, _, _ => absurd hm (by simp [Tr.ids])
  | .node l x y, k0, a, w, N, N0, ok, nd, hm, hN, hp, hv, hk => by
    have ok' := ok
    obtain ⟨h1, h2, h3, h4, h5, h6, h7, h7b, h8, h9, hl, hr⟩ := ok
    have nd' := nd
    simp only [Tr.ids, List.nodup_append, List.nodup_cons, List.mem_cons] at nd
    obtain ⟨ndl, ⟨hxr, ndr⟩, hd⟩ := nd
    have hxl : x ∉ l.ids := fun h => hd x h x (.inl rfl) rfl
    -- one step at x, the two trees below being right
    have step : ∀ {w1 : World} {M : Nat → Nat → Int}, Rp w1 r M → OkT M r.n l → OkT M r.n y → Vals M r.n → M x 0 = (l.root : Int) → M x 1 = (y.root : Int) → Aft r w w1 M → Chg (Tr.node l x y).ids N M → M x 2 = N x 2 → f_euler_load_Set.l0 (k0 + 1) ⟨r.R, 0, none⟩ (x : Int) w1 K := by
      intro w1 M q1 ol oy vm e0 e1 hA hC e2
      unfold f_euler_load_Set.l0
      refine sel_t (by simp; omega) ((pull_t q1 hn ⟨h1, h2⟩ ol oy nd' e0 e1 vm).mono ?_)
      rintro e w2 ⟨rfl, N', hA', ok2, c2, u2⟩
      refine ⟨rfl, nd_rd (j := 2) hA'.1 h2 rfl (by omega) ?_⟩
      have := hk w2 N' ⟨hA'.1, hA.2.trans hA'.2⟩ ok2 (hC.trans c2) (by show N' x 2 = N x 2; rw [u2, e2])
      rw [show N' x 2 = N x 2 by rw [u2, e2]]; exact this
    have low : ∀ j, j < 5 → ∀ i, N i j = N0 i j := fun j j5 i => hN i j (.inr ⟨by omega, by omega, by omega⟩)
    have hm' := hm
    simp only [Tr.ids, List.mem_append, List.mem_cons] at hm
    rcases hm with hm | rfl | hm
    · have hal : a ≠ x := fun e => hxl (e ▸ hm)
      have s0 : l.root ≠ 0 := root0 hl hm
      rw [show k0 + dp (.node l x y) a = (k0 + 1) + dp l a by simp [dp, hm]; omega]
      refine set_l0 hn hl ndl hm hN hp hv fun w' N' hA ok2 c2 u2 => ?_
      rw [low 2 (by omega), h8 s0]
      refine step hA.1 ok2 (hr.congr (Nat.le_refl _) ndr fun i hi j _ _ => ?_) (hv.chg c2) (by rw [c2.out x hxl, low 0 (by omega)]; exact h3) (by rw [c2.out x hxl, low 1 (by omega)]; exact h4) hA (c2.mono fun i hi => by simp [Tr.ids, hi]) (c2.out x hxl 2)
      rw [c2.out i (fun hh => hd i hh i (.inr hi) rfl)]
      exact hN i j (.inl fun e => hd a hm i (.inr hi) e.symm)
    · rw [show k0 + dp (.node l a y) a = k0 + 1 by simp [dp, hxl, hxr]]
      refine step hp (hl.congr (Nat.le_refl _) ndl fun i hi j _ _ => hN i j (.inl (ne_mem hi hxl))) (hr.congr (Nat.le_refl _) ndr fun i hi j _ _ => hN i j (.inl (ne_mem hi hxr))) hv (by rw [low 0 (by omega)]; exact h3) (by rw [low 1 (by omega)]; exact h4) ⟨hp, Keeps.refl _ _⟩ (Chg.refl _ _) rfl
    · have hal : a ≠ x := fun e => hxr (e ▸ hm)
      have s0 : y.root ≠ 0 := root0 hr hm
      have hal' : a ∉ l.ids := fun h => hd a h a (.inr hm) rfl
      rw [show k0 + dp (.node l x y) a = (k0 + 1) + dp y a by simp [dp, hm, hal']; omega]
      refine set_l0 hn hr ndr hm hN hp hv fun w' N' hA ok2 c2 u2 => ?_
      rw [low 2 (by omega), h9 s0]
      refine step hA.1 (hl.congr (Nat.le_refl _) ndl fun i hi j _ _ => ?_) ok2 (hv.chg c2) (by rw [c2.out x hxr, low 0 (by omega)]; exact h3) (by rw [c2.out x hxr, low 1 (by omega)]; exact h4) hA (c2.mono fun i hi => by simp [Tr.ids, hi]) (c2.out x hxr 2)
      rw [c2.out i (fun hh => hd i hi i (.inr hh) rfl)]
      exact hN i j (.inl fun e => hd i hi a (.inr hm) e)
def setV (n : Nat) (V : Nat → Int × Int × Int) (a : Int) (v : Int × Int × Int) : Nat → Int × Int × Int := if Bd n a then V else fun i => if i = a.toNat then v else V i
theorem Set_ok {w : World} {r : RC} {rows : List (List Nat)} {V : Nat → Int × Int × Int} (h : Rope w r rows V) (a v0 v1 v2 : Int) (hv : In64 v0 ∧ In64 v1 ∧ In64 v2) :
    Calls Try.prog 55 #[.pointer (some ⟨r.R, 0, none⟩), .int .i64 a, .agg #[.int .i64 v0, .int .i64 v1, .int .i64 v2]] w fun e w' => e = .returned (.int .i64 (cutE r.n a)) ∧ Rope w' r rows (setV r.n V a (v0, v1, v2)) ∧ Keeps (Sr r) w w' := by
  obtain ⟨N, ts, hp, hf⟩ := h
  apply f_euler_load_Set.ok
  unfold f_euler_load_Set.wp
  refine alW_intro (alW_intro ?_)
  have hb1 : Blk (w.alloc (.cells #[.int .i64 v0, .int .i64 v1, .int .i64 v2] 74)) w.heap.size 3 (fun j => if j = 0 then v0 else if j = 1 then v1 else v2) := Blk.new w _ _ 3 _ rfl (by intro j hj; match j, hj with | 0, _ => rfl | 1, _ => rfl | 2, _ => rfl)
  have hp1 := hp.alloc (.cells #[.int .i64 v0, .int .i64 v1, .int .i64 v2] 74)
  have k1 : Keeps (Sr r) w (w.alloc (.cells #[.int .i64 v0, .int .i64 v1, .int .i64 v2] 74)) := .of_below (bal _ _)
  generalize w.alloc (.cells #[.int .i64 v0, .int .i64 v1, .int .i64 v2] 74) = w1 at *
  refine (bad1 hp1 a).mono ?_
  rintro e w2 ⟨rfl, rfl⟩
  have hb2 := hb1.below (bal w1 (.cells #[.int .i64 a] 3))
  have hp2 := hp1.alloc (.cells #[.int .i64 a] 3)
  have k2 : Keeps (Sr r) w (w1.alloc (.cells #[.int .i64 a] 3)) := k1.trans (.of_below (bal _ _))
  generalize w1.alloc (.cells #[.int .i64 a] 3) = w2 at *
  refine ⟨_, rfl, ?_⟩
  cases hb : Bd r.n a with
  | true => exact sel_t rfl ⟨by simp [cutE, hb], by simp only [setV, hb, if_true]; exact ⟨N, ts, hp2, hf⟩, k2⟩
  | false =>
    obtain ⟨x, rfl, ex, hx⟩ := Bd_nat hb
    obtain ⟨s, hs, xs, es, os, us, ns⟩ := hf.tree hx
    have hb3 := hb2.below (Below.refl _ _).drew
    have hp3 := hp2.drew
    refine sel_f rfl (drW_intro (ldS_intro hp3.sl0 (bk_ld0 hb3 (by omega) (bk_ld (j := 1) hb3 (by omega) (bk_ld (j := 2) hb3 (by omega) (optB_some rfl (req_intro (by simp; omega) (nd_st (j := 5) hp3 hx.2 rfl (by omega) fun w4 h4 k4 => ?_))))))))
    rw [add_add _ 5 1]
    refine nd_st (j := 6) h4 hx.2 rfl (by omega) fun w5 h5 k5 => ?_
    rw [add_add _ 5 2]
    refine nd_st (j := 7) h5 hx.2 rfl (by omega) fun w6 h6 k6 => ?_
    simp only [if_true, Nat.one_ne_zero, if_false, show ¬ (2 : Nat) = 0 by decide, show ¬ (2 : Nat) = 1 by decide] at h6 h5 h4
    have hM : ∀ i j, (i ≠ x ∨ (j ≠ 5 ∧ j ≠ 6 ∧ j ≠ 7)) → Dn.st (Dn.st (Dn.st N x 5 v0) x 6 v1) x 7 v2 i j = N i j := fun i j hij => by
      rcases hij with hi | hj
      · rw [st_i _ _ _ _ hi, st_i _ _ _ _ hi, st_i _ _ _ _ hi]
      · rw [st_j _ _ _ _ hj.2.2, st_j _ _ _ _ hj.2.1, st_j _ _ _ _ hj.1]
    have hM5 : Dn.st (Dn.st (Dn.st N x 5 v0) x 6 v1) x 7 v2 x 5 = v0 := by rw [st_j _ _ _ _ (by omega), st_j _ _ _ _ (by omega), st_same]
    have hM6 : Dn.st (Dn.st (Dn.st N x 5 v0) x 6 v1) x 7 v2 x 6 = v1 := by rw [st_j _ _ _ _ (by omega), st_same]
    have hM7 : Dn.st (Dn.st (Dn.st N x 5 v0) x 6 v1) x 7 v2 x 7 = v2 := st_same _ _ _ _
    generalize Dn.st (Dn.st (Dn.st N x 5 v0) x 6 v1) x 7 v2 = M at *
    have vM : Vals M r.n := fun i hi => by
      by_cases e : i = x
      · subst e; rw [hM5, hM6, hM7]; exact hv
      · rw [hM i 5 (.inl e), hM i 6 (.inl e), hM i 7 (.inl e)]; exact hf.vals i hi
    refine ⟨1 + dp s x, set_l0 hf.le os ns xs hM h6 vM fun w' N' hA ok2 c2 u2 => ?_⟩
    rw [hM _ 2 (.inr ⟨by omega, by omega, by omega⟩), us]
    unfold f_euler_load_Set.l0
    refine sel_f (by simp) fun _ => ⟨by simp [cutE, hb], ?_, (k2.drew.trans k4).trans (k5.trans (k6.trans hA.2))⟩
    refine ⟨N', ts, hA.1, hf.ids, hf.rok, ?_, ?_, vM.chg c2, hf.le, hf.pos, ?_⟩
    · intro q hq
      by_cases hxq : x ∈ q.ids
      · have : q = s := one_of hf.pw hq hs hxq xs
        subst this
        exact ⟨ok2, by rw [u2, hM _ 2 (.inr ⟨by omega, by omega, by omega⟩)]; exact us⟩
      · obtain ⟨oq, uq⟩ := hf.ok q hq
        have qout : ∀ i ∈ q.ids, i ∉ s.ids := fun i hi hh => hxq (by rw [one_of hf.pw hq hs hi hh]; exact xs)
        have hroot : q.root ≠ 0 := fun e => hf.rok.ne q.ids (by rw [← hf.ids]; exact List.mem_map_of_mem hq) (by rw [oq.root_pos.1 e]; rfl)
        have qn : q.ids.Nodup := hf.rok.nd _ (by rw [← hf.ids]; exact List.mem_map_of_mem hq)
        have same : ∀ i ∈ q.ids, ∀ j, N' i j = N i j := fun i hi j => by rw [c2.out i (qout i hi), hM i j (.inl (ne_mem hi hxq))]
        exact ⟨oq.congr (Nat.le_refl _) qn fun i hi j _ _ => same i hi j, by rw [same _ (Tr.root_mem hroot)]; exact uq⟩
    · have h0s : (0 : Nat) ∉ s.ids := fun hh => by have := (os.lt 0 hh).1; omega
      rw [c2.out 0 h0s, hM 0 4 (.inr ⟨by omega, by omega, by omega⟩)]; exact hf.z
    · intro i h1 h2
      rw [c2.own i 5 (by omega), c2.own i 6 (by omega), c2.own i 7 (by omega)]
      simp only [setV, hb, Bool.false_eq_true, if_false, ex]
      by_cases e : i = x
      · subst e; rw [hM5, hM6, hM7]; simp
      · rw [hM i 5 (.inl e), hM i 6 (.inl e), hM i 7 (.inl e), if_neg e]; exact hf.v i h1 h2
end Go.Proofs.Ytkkobfajahmfaaa.Rd
