/- MvccStarts, its loop. Conditions: none. -/
import Derived.Test.YtbfcjnbjhpfdfaaMvS
namespace Go.Proofs.Ytbfcjnbjhpfdfaa.Rd
open Go.Dn Go.RowKit
set_option linter.unusedVariables false
set_option maxRecDepth 100000
/-- the table and two rows, whatever they tell -/
structure StG (w0 w : World) (F : Nat → Prop) (a : Nat) (t : Tb) (l6 : List Int) (l7 : List Bool) (A6 : Option Addr) (c6 : Nat) (A7 : Option Addr) (c7 : Nat) : Prop where
  lt : LT w0 w F a t
  s : OwnE inE 1 w w0.heap.size 2 A6 c6 l6
  o : OwnE boE 1 w w0.heap.size 4 A7 c7 l7
  n6 : ∀ g, A6 = some g → ¬ F g.block
  n7 : ∀ g, A7 = some g → ¬ F g.block
  n67 : ∀ g h, A6 = some g → A7 = some h → g.block ≠ h.block
variable {w0 w : World} {F : Nat → Prop} {a : Nat} {t : Tb} {A6 A7 : Option Addr} {c6 c7 : Nat} {l6 : List Int} {l7 : List Bool}
theorem StR.g (h : StR w0 w F a t A6 c6 A7 c7) : StG w0 w F a t (t.txs.map Tx.start) (t.txs.map fun x => !x.live) A6 c6 A7 c7 := ⟨h.lt, h.s, h.o, h.n6, h.n7, h.n67⟩
theorem StG.r (h : StG w0 w F a t l6 l7 A6 c6 A7 c7) (h6 : l6 = t.txs.map Tx.start) (h7 : l7 = t.txs.map fun x => !x.live) : StR w0 w F a t A6 c6 A7 c7 := by
  subst h6; subst h7
  exact ⟨h.lt, h.s, h.o, h.n6, h.n7, h.n67⟩
theorem StG.op (h : StG w0 w F a t l6 l7 A6 c6 A7 c7) {w' : World} {F' : Nat → Prop} {t' : Tb} (hT : LT w0 w' F' a t') (hk : Keeps F w w') (hf : ∀ k, F' k → F k ∨ w.heap.size ≤ k) : StG w0 w' F' a t' l6 l7 A6 c6 A7 c7 := by
  refine ⟨hT, h.s.keeps hk h.n6, h.o.keeps hk h.n7, fun g hg hF => ?_, fun g hg hF => ?_, h.n67⟩
  · rcases hf _ hF with h3 | h3
    · exact h.n6 g hg h3
    · have := (h.s.block g hg).2; omega
  · rcases hf _ hF with h3 | h3
    · exact h.n7 g hg h3
    · have := (h.o.block g hg).2; omega
theorem StG.below (h : StG w0 w F a t l6 l7 A6 c6 A7 c7) {w' : World} (hb : Below w.heap.size w w') : StG w0 w' F a t l6 l7 A6 c6 A7 c7 :=
  ⟨LTb.below h.lt hb, h.s.below hb, h.o.below hb, h.n6, h.n7, h.n67⟩
theorem ge_of {A : Option Addr} {α : Type} {enc : α → List Value} {k B e c : Nat} {l : List α} (h : OwnE enc k w B e A c l) : ∀ j, Ob A j → B ≤ j ∧ j < w.heap.size := fun j ⟨g, hg, e⟩ => by have := h.block g hg; omega
/-- a number behind the first row -/
theorem StG.push6 (h : StG w0 w F a t l6 l7 A6 c6 A7 c7) {w' : World} {x : Int} {A' : Addr} {c' : Nat} (o : OwnE inE 1 w' w0.heap.size 2 (some A') c' (l6 ++ [x])) (k : Keeps (Ob A6) w w') (f : A6 = some A' ∨ w.heap.size ≤ A'.block) : StG w0 w' F a t (l6 ++ [x]) l7 (some A') c' A7 c7 := by
  refine ⟨LTb.keeps h.lt k fun j hj => ⟨fun hF => ?_, (ge_of h.s j hj).1⟩, o, h.o.keeps k fun g hg ⟨g', hg', e⟩ => h.n67 g' g hg' hg e, fun g hg hF => ?_, h.n7, fun g q hg hq e => ?_⟩
  · obtain ⟨g, hg, e⟩ := hj
    exact h.n6 g hg (e ▸ hF)
  · injection hg with hg; subst hg
    rcases f with f | f
    · exact h.n6 _ f hF
    · have := LTb.lt h.lt hF; omega
  · injection hg with hg; subst hg
    rcases f with f | f
    · exact h.n67 _ _ f hq e
    · have := (h.o.block q hq).2; omega
theorem StG.push7 (h : StG w0 w F a t l6 l7 A6 c6 A7 c7) {w' : World} {x : Bool} {A' : Addr} {c' : Nat} (o : OwnE boE 1 w' w0.heap.size 4 (some A') c' (l7 ++ [x])) (k : Keeps (Ob A7) w w') (f : A7 = some A' ∨ w.heap.size ≤ A'.block) : StG w0 w' F a t l6 (l7 ++ [x]) A6 c6 (some A') c' := by
  refine ⟨LTb.keeps h.lt k fun j hj => ⟨fun hF => ?_, (ge_of h.o j hj).1⟩, h.s.keeps k fun g hg ⟨g', hg', e⟩ => h.n67 g g' hg hg' e.symm, o, h.n6, fun g hg hF => ?_, fun g q hg hq e => ?_⟩
  · obtain ⟨g, hg, e⟩ := hj
    exact h.n7 g hg (e ▸ hF)
  · injection hg with hg; subst hg
    rcases f with f | f
    · exact h.n7 _ f hF
    · have := LTb.lt h.lt hF; omega
  · injection hq with hq; subst hq
    rcases f with f | f
    · exact h.n67 _ _ hg f e
    · have := (h.s.block g hg).2; omega
theorem StG.set7 (h : StG w0 w F a t l6 l7 A6 c6 A7 c7) {i : Nat} (hi : i < l7.length) {K : World → Prop} (hk : ∀ w', StG w0 w' F a t l6 (l7.set i true) A6 c6 A7 c7 → Keeps (Ob A7) w w' → K w') : ∃ g, A7 = some ⟨g, 0, none⟩ ∧ stW w ((⟨g, 0, none⟩ : Addr).add (i * 1)) (.bool true) K := by
  refine h.o.set1 Ebo hi (x := true) rfl fun w' o' k' => hk w' ⟨LTb.keeps h.lt k' fun j hj => ⟨fun hF => ?_, (ge_of h.o j hj).1⟩, h.s.keeps k' fun g hg ⟨g', hg', e⟩ => h.n67 g g' hg hg' e.symm, o', h.n6, h.n7, h.n67⟩ k'
  obtain ⟨g, hg, e⟩ := hj
  exact h.n7 g hg (e ▸ hF)
theorem try_some {n : Int} {x : Tx} (h : t.get n = some x) : t.try_ n ≠ 141 := by
  unfold Tb.try_; rw [h]; simp only
  split
  · decide
  · split <;> decide
theorem sw_ok {N i : Nat} {A30 : Option Addr} {n30 c30 : Nat} {o : MOp} {B15 : Nat} {K0 : World → Prop} {Kr : Bool → World → Prop} (h : StR w0 w F a t A6 c6 A7 c7) (hb : HB w B15 #[.int .i64 o.kind, .int .i64 o.n, .slice o.A o.refs.length o.c] 32) (h15 : ¬ F B15) (h15w : w0.heap.size ≤ B15) (h156 : ∀ g, A6 = some g → g.block ≠ B15) (h157 : ∀ g, A7 = some g → g.block ≠ B15)
    (ho : OkOp w o) (hoF : o.refs ≠ [] → ∀ g, o.A = some g → ¬ F g.block) (hlim : t.txs.length < 17592186044416)
    (next : ∀ w' F' t' A6' c6' A7' c7', StR w0 w' F' a t' A6' c6' A7' c7' → t'.txs.length ≤ t.txs.length + 1 → f_law14_MvccStarts.l0 N (some ⟨a, 0, none⟩) A6' t'.txs.length c6' A7' t'.txs.length c7' A30 n30 c30 (n30 : Int) (IntKind.i64.wrap ((i : Int) + 1)) w' K0 Kr) :
    f_law14_MvccStarts.sw N (some ⟨a, 0, none⟩) A6 t.txs.length c6 A7 t.txs.length c7 A30 n30 c30 (n30 : Int) (i : Int) B15 t.last (t.get o.n).isSome w K0 Kr := by
  unfold f_law14_MvccStarts.sw
  have same : ∀ {w' : World}, StR w0 w' F a t A6 c6 A7 c7 → ∀ Kr', f_law14_MvccStarts.j1 (some ⟨a, 0, none⟩) A6 t.txs.length c6 A7 t.txs.length c7 w' (fun (w67 : World) => ∀ _ : Fr, f_law14_MvccStarts.l0 N (some ⟨a, 0, none⟩) A6 t.txs.length c6 A7 t.txs.length c7 A30 n30 c30 (n30 : Int) (IntKind.i64.wrap ((i : Int) + 1)) w67 K0 Kr) Kr' :=
    fun h' Kr' => st_j1 h' (by omega) fun w'' g _ => next w'' F t A6 c6 A7 c7 (h'.below g) (by omega)
  refine hb_ldI0 hb rfl ?_
  by_cases q1 : o.kind = 1
  · refine sel_t (by simp [q1]) ((LT.begin h.lt (by omega)).mono fun e w1 he => ?_)
    obtain ⟨rfl, F1, T1, k1, f1⟩ := he
    refine ⟨_, _, rfl, ?_⟩
    have g1 := h.g.op T1 k1 f1
    by_cases h8 : 8 ≤ t.lives.length
    · have hbg : t.begin = (t, 0, 142) := by unfold Tb.begin; rw [if_pos h8]
      rw [hbg] at g1 ⊢
      have g1 : StG w0 w1 F1 a t (t.txs.map Tx.start) (t.txs.map fun x => !x.live) A6 c6 A7 c7 := g1
      exact sel_f rfl (st_j1 (g1.r rfl rfl) (by omega) fun w'' g _ => next w'' F1 t A6 c6 A7 c7 ((g1.r rfl rfl).below g) (by omega))
    · have hbg : t.begin = (⟨t.txs ++ [⟨t.last, [], true, -1⟩], t.last⟩, (t.txs.length : Int) + 1, 0) := by unfold Tb.begin; rw [if_neg h8]
      rw [hbg] at g1 ⊢
      refine sel_t rfl (put_e RTi64 Ein (by decide) g1.s (by rw [List.length_map]) t.last rfl g1.lt.bl.size (by rw [List.length_map]; omega) fun A2 c2 w2 o2 k2 f2 => ?_)
      have g2 := g1.push6 o2 k2 f2
      refine put_e RTbo Ebo (by decide) g2.o (by rw [List.length_map]) false rfl g2.lt.bl.size (by rw [List.length_map]; omega) fun A3 c3 w3 o3 k3 f3 => ?_
      have g3 := g2.push7 o3 k3 f3
      have r3 := g3.r (by simp) (by simp)
      have e6 : (t.txs.map Tx.start ++ [t.last]).length = (t.txs ++ [(⟨t.last, [], true, -1⟩ : Tx)]).length := by simp
      have e7 : ((t.txs.map fun x => !x.live) ++ [false]).length = (t.txs ++ [(⟨t.last, [], true, -1⟩ : Tx)]).length := by simp
      rw [e6, e7]
      refine sel_f (by simp) ?_
      exact st_j1 r3 (by simp; omega) fun w'' g _ => next w'' F1 _ _ _ _ _ (r3.below g) (by simp)
  refine sel_f (by simpa using q1) ?_
  by_cases q2 : o.kind = 2
  · refine sel_t (by simp [q2]) (hb_ldI (j := 1) hb rfl (hb_ldS (j := 2) hb rfl ((LT.touch h.lt ho.n ho.r (by have := ho.len; omega) ho.rr hoF).mono fun e w1 he => ?_)))
    obtain ⟨rfl, F1, T1, k1, f1⟩ := he
    refine ⟨_, rfl, ?_⟩
    have g1 := h.g.op T1 k1 fun k hk => .inl (f1 k hk)
    have hmap : (t.touch o.n o.refs).1.txs.map Tx.start = t.txs.map Tx.start ∧ ((t.touch o.n o.refs).1.txs.map fun x => !x.live) = t.txs.map fun x => !x.live := by
      unfold Tb.touch
      split
      · exact ⟨rfl, rfl⟩
      · rename_i x hx
        exact ⟨put_same t o.n hx Tx.start rfl, put_same t o.n hx (fun x => !x.live) rfl⟩
    have r1 := g1.r hmap.1.symm hmap.2.symm
    have hlen : (t.touch o.n o.refs).1.txs.length = t.txs.length := by have := congrArg List.length hmap.1; simpa using this
    have hcode : (((t.touch o.n o.refs).2 == 0) == (t.get o.n).isSome) = true := by
      unfold Tb.touch
      cases t.get o.n <;> rfl
    refine sel_f (by rw [hcode]; rfl) ?_
    have := st_j1 r1 (by omega) (Kn := fun (w67 : World) => ∀ _ : Fr, f_law14_MvccStarts.l0 N (some ⟨a, 0, none⟩) A6 (t.touch o.n o.refs).1.txs.length c6 A7 (t.touch o.n o.refs).1.txs.length c7 A30 n30 c30 (n30 : Int) (IntKind.i64.wrap ((i : Int) + 1)) w67 K0 Kr) (Kr := fun (b79 : Bool) (w80 : World) => ∀ _ : Fr, Kr b79 w80) fun w'' g _ => next w'' F1 _ _ _ _ _ (r1.below g) (by omega)
    rw [hlen] at this
    exact this
  refine sel_f (by simpa using q2) ?_
  by_cases q3 : o.kind = 3
  · refine sel_t (by simp [q3]) (hb_ldI (j := 1) hb rfl ((LT.commit h.lt ho.n).mono fun e w1 he => ?_))
    obtain ⟨rfl, F1, T1, k1, f1⟩ := he
    refine ⟨_, _, rfl, ?_⟩
    have g1 := h.g.op T1 k1 fun k hk => .inl (f1 k hk)
    have hb1 := hb.keeps k1 h15
    rw [commit_code]
    cases hx : t.get o.n with
    | none =>
      have ht : t.try_ o.n = 141 := by unfold Tb.try_; rw [hx]
      have hc : (t.commit o.n).1 = t := by unfold Tb.commit; rw [hx]
      rw [hc] at g1 T1
      exact sel_f (by rw [ht]; rfl) (sel_f rfl (st_j1 (g1.r rfl rfl) (by omega) fun w'' g _ => next w'' F1 t A6 c6 A7 c7 ((g1.r rfl rfl).below g) (by omega)))
    | some x =>
      obtain ⟨p1, p2, p3⟩ := Tb.get_some hx
      have hlt := (List.getElem?_eq_some_iff.1 p2).1
      have ht := try_some hx
      have hmap : ∃ y : Tx, y.live = false ∧ y.start = x.start ∧ (t.commit o.n).1.txs = (t.put o.n y).txs := by
        unfold Tb.commit; rw [hx]; simp only
        split
        · exact ⟨{ x with live := false }, rfl, rfl, rfl⟩
        · split
          · exact ⟨{ x with live := false }, rfl, rfl, rfl⟩
          · exact ⟨{ x with live := false, at_ := t.last + 1 }, rfl, rfl, rfl⟩
      obtain ⟨y, y1, y2, y3⟩ := hmap
      refine sel_f (by simp [ht]) (sel_t rfl (hb_ldI (j := 1) hb1 rfl ?_))
      obtain ⟨g, hg, hst⟩ := g1.set7 (i := (o.n - 1).toNat) (by rw [List.length_map]; exact hlt) (K := fun w2 => f_law14_MvccStarts.j1 (some ⟨a, 0, none⟩) A6 t.txs.length c6 A7 t.txs.length c7 w2 (fun (w67 : World) => ∀ _ : Fr, f_law14_MvccStarts.l0 N (some ⟨a, 0, none⟩) A6 t.txs.length c6 A7 t.txs.length c7 A30 n30 c30 (n30 : Int) (IntKind.i64.wrap ((i : Int) + 1)) w67 K0 Kr) (fun (b79 : Bool) (w80 : World) => ∀ _ : Fr, Kr b79 w80)) fun w2 g2 k2 => by
        have r2 := g2.r (by rw [y3]; exact (put_same t o.n hx Tx.start y2).symm) (by rw [y3, put_map t o.n hx, y1]; rfl)
        have hlen : (t.commit o.n).1.txs.length = t.txs.length := by rw [y3]; simp [Tb.put]
        have := st_j1 r2 (by omega) (Kn := fun (w67 : World) => ∀ _ : Fr, f_law14_MvccStarts.l0 N (some ⟨a, 0, none⟩) A6 (t.commit o.n).1.txs.length c6 A7 (t.commit o.n).1.txs.length c7 A30 n30 c30 (n30 : Int) (IntKind.i64.wrap ((i : Int) + 1)) w67 K0 Kr) (Kr := fun (b79 : Bool) (w80 : World) => ∀ _ : Fr, Kr b79 w80) fun w'' g _ => next w'' F1 _ _ _ _ _ (r2.below g) (by omega)
        rw [hlen] at this
        exact this
      rw [hg] at hst ⊢
      refine optB_some rfl ?_
      rw [i64p p1 ho.n.2]
      exact req_intro (by simp; omega) hst
  refine sel_f (by simpa using q3) ?_
  by_cases q4 : o.kind = 4
  · refine sel_t (by simp [q4]) (hb_ldI (j := 1) hb rfl ((LT.abort h.lt ho.n).mono fun e w1 he => ?_))
    obtain ⟨rfl, F1, T1, k1, f1⟩ := he
    refine ⟨_, rfl, ?_⟩
    have g1 := h.g.op T1 k1 fun k hk => .inl (f1 k hk)
    have hb1 := hb.keeps k1 h15
    cases hx : t.get o.n with
    | none =>
      have hc : t.abort o.n = (t, 141) := by unfold Tb.abort; rw [hx]
      rw [hc] at g1 T1 ⊢
      have g1 : StG w0 w1 F1 a t (t.txs.map Tx.start) (t.txs.map fun x => !x.live) A6 c6 A7 c7 := g1
      exact sel_f rfl (sel_f rfl (st_j1 (g1.r rfl rfl) (by omega) fun w'' g _ => next w'' F1 t A6 c6 A7 c7 ((g1.r rfl rfl).below g) (by omega)))
    | some x =>
      obtain ⟨p1, p2, p3⟩ := Tb.get_some hx
      have hlt := (List.getElem?_eq_some_iff.1 p2).1
      have hc : t.abort o.n = (t.put o.n { x with live := false }, 0) := by unfold Tb.abort; rw [hx]
      rw [hc] at g1 T1 ⊢
      have g1 : StG w0 w1 F1 a (t.put o.n { x with live := false }) (t.txs.map Tx.start) (t.txs.map fun x => !x.live) A6 c6 A7 c7 := g1
      refine sel_f rfl (sel_t rfl (hb_ldI (j := 1) hb1 rfl ?_))
      obtain ⟨g, hg, hst⟩ := g1.set7 (i := (o.n - 1).toNat) (by rw [List.length_map]; exact hlt) (K := fun w2 => f_law14_MvccStarts.j1 (some ⟨a, 0, none⟩) A6 t.txs.length c6 A7 t.txs.length c7 w2 (fun (w67 : World) => ∀ _ : Fr, f_law14_MvccStarts.l0 N (some ⟨a, 0, none⟩) A6 t.txs.length c6 A7 t.txs.length c7 A30 n30 c30 (n30 : Int) (IntKind.i64.wrap ((i : Int) + 1)) w67 K0 Kr) (fun (b79 : Bool) (w80 : World) => ∀ _ : Fr, Kr b79 w80)) fun w2 g2 k2 => by
        have r2 := g2.r (put_same t o.n hx (y := { x with live := false }) Tx.start rfl).symm (by rw [put_map t o.n hx]; rfl)
        have hlen : (t.put o.n { x with live := false }).txs.length = t.txs.length := by simp [Tb.put]
        have := st_j1 r2 (by omega) (Kn := fun (w67 : World) => ∀ _ : Fr, f_law14_MvccStarts.l0 N (some ⟨a, 0, none⟩) A6 (t.put o.n { x with live := false }).txs.length c6 A7 (t.put o.n { x with live := false }).txs.length c7 A30 n30 c30 (n30 : Int) (IntKind.i64.wrap ((i : Int) + 1)) w67 K0 Kr) (Kr := fun (b79 : Bool) (w80 : World) => ∀ _ : Fr, Kr b79 w80) fun w'' g _ => next w'' F1 _ _ _ _ _ (r2.below g) (by omega)
        rw [hlen] at this
        exact this
      rw [hg] at hst ⊢
      refine optB_some rfl ?_
      rw [i64p p1 ho.n.2]
      exact req_intro (by simp; omega) hst
  exact sel_f (by simpa using q4) (same h _)
theorem st_l0 {w0 : World} {a : Nat} {A : Option Addr} {c : Nat} {ops : List MOp} {K0 : World → Prop} {Kr : Bool → World → Prop} (hops : ROps w0 A ops) (hl : ops.length ≤ 17592186044416) (hK : ∀ w, Below w0.heap.size w0 w → K0 w) :
    ∀ (N i : Nat) (w : World) (F : Nat → Prop) (t : Tb) (A6 : Option Addr) (c6 : Nat) (A7 : Option Addr) (c7 : Nat), ops.length - i = N → i ≤ ops.length → StR w0 w F a t A6 c6 A7 c7 → t.txs.length ≤ i → f_law14_MvccStarts.l0 (N + 1) (some ⟨a, 0, none⟩) A6 t.txs.length c6 A7 t.txs.length c7 A ops.length c (ops.length : Int) (i : Int) w K0 Kr
  | N, i, w, F, t, A6, c6, A7, c7, hN, hi, h, ht => by
    unfold f_law14_MvccStarts.l0
    by_cases hlt : i < ops.length
    · cases N with
      | zero => omega
      | succ N =>
        have hbl : Below w0.heap.size w0 w := h.lt.bl
        have kB : Keeps (fun k => w0.heap.size ≤ k) w0 w := ⟨hbl.os, hbl.tape, hbl.output, hbl.size, fun k hk _ => hbl.block k hk⟩
        have hR := hops.row.keeps Eop kB (fun a ha h => by have := hops.lt (List.ne_nil_of_length_pos (by omega)) a ha; omega)
        obtain ⟨g, rfl⟩ := hR.addr (by omega)
        have hmem := List.getElem_mem hlt
        have hok : OkOp w ops[i] := (hops.ok _ hmem).keeps kB fun hne a ha h => by have := (hops.ok _ hmem).lt hne a ha; omega
        refine sel_t (by simpa using hlt) (optB_some rfl (req_intro (by simp; omega) ?_))
        rw [Int.toNat_natCast]
        refine ldI_intro (op_c0 hR hlt) (ldI_intro (op_c1 hR hlt) (ldS_intro (op_c2 hR hlt) (box3 ops[i] fun w1 b1 e1 h1 g1 s1 => ?_)))
        have r1 := h.below g1
        have ok1 := hok.below g1
        have hws := hbl.size
        have next : ∀ w' F' t' A6' c6' A7' c7', StR w0 w' F' a t' A6' c6' A7' c7' → t'.txs.length ≤ t.txs.length + 1 → f_law14_MvccStarts.l0 (N + 1) (some ⟨a, 0, none⟩) A6' t'.txs.length c6' A7' t'.txs.length c7' (some g) ops.length c (ops.length : Int) (IntKind.i64.wrap ((i : Int) + 1)) w' K0 Kr := fun w' F' t' A6' c6' A7' c7' h' hle => by
          rw [i64n (by omega)]
          exact st_l0 hops hl hK N (i + 1) w' F' t' A6' c6' A7' c7' (by omega) (by omega) h' (by omega)
        have key := sw_ok (N := N + 1) (i := i) (A30 := some g) (n30 := ops.length) (c30 := c) (o := ops[i]) (B15 := b1) (K0 := K0) (Kr := Kr) r1 h1 (fun hF => by have := LTb.lt h.lt hF; omega) (by omega) (fun g hg => by have := (h.s.block g hg).2; omega) (fun g hg => by have := (h.o.block g hg).2; omega) ok1
          (fun hne g hg hF => by have := h.lt.ge _ hF; have := (hops.ok _ hmem).lt hne g hg; omega) (by omega) next
        refine (LT.last r1.lt).mono fun e w2 he => ?_
        obtain ⟨rfl, hw⟩ := he
        subst w2
        refine ⟨_, rfl, hb_ldI (j := 1) h1 rfl ?_⟩
        by_cases q1 : ops[i].n ≥ 1
        · refine sel_t (by simpa using q1) (hb_ldI (j := 1) h1 rfl ?_)
          by_cases q2 : ops[i].n ≤ (t.txs.length : Int)
          · have ro := r1.o.reads Ebo
            obtain ⟨g7, rfl⟩ := ro.addr (by rw [List.length_map]; omega)
            have hi2 : (ops[i].n - 1).toNat < t.txs.length := by omega
            have rc := ro.c0 Ebo (i := (ops[i].n - 1).toNat) (by rw [List.length_map]; exact hi2)
            rw [List.getElem_map] at rc
            refine sel_t (by simpa using q2) (hb_ldI (j := 1) h1 rfl (optB_some rfl ?_))
            rw [i64p q1 ok1.n.2]
            refine req_intro (by simp; omega) ⟨_, rc, ?_⟩
            have hin : (t.get ops[i].n).isSome = !!t.txs[(ops[i].n - 1).toNat].live := by
              unfold Tb.get
              rw [if_pos (by omega), List.getElem?_eq_getElem hi2]
              simp only
              cases hlv : t.txs[(ops[i].n - 1).toNat].live <;> simp
            rw [hin] at key
            exact key
          · have hin : (t.get ops[i].n).isSome = false := by
              unfold Tb.get
              rw [if_pos (by omega), List.getElem?_eq_none (by omega)]; rfl
            rw [hin] at key
            exact sel_f (by simpa using q2) key
        · have hin : (t.get ops[i].n).isSome = false := by
            unfold Tb.get
            rw [if_neg (by omega)]; rfl
          rw [hin] at key
          exact sel_f (by simpa using q1) key
    · exact sel_f (by simpa using hlt) (hK w h.lt.bl)
theorem MvccStarts_row {w : World} {x : Int} (hx : (Lit.int .i64 x).wf = true) {A : Option Addr} {c : Nat} {ops : List MOp} (h : ROps w A ops) (hl : ops.length ≤ 17592186044416) :
    Calls Try.prog 6 #[.int .i64 x, .slice A ops.length c] w fun e w' => e = .returned (.bool true) ∧ Below w.heap.size w w' := by
  apply f_law14_MvccStarts.ok
  unfold f_law14_MvccStarts.wp
  refine (LT.new w x).mono fun e w1 he => ?_
  obtain ⟨F, a, rfl, T1⟩ := he
  refine ⟨_, rfl, sel_f rfl ((alive_ok w1).mono fun e w3 he => ?_)⟩
  obtain ⟨rfl, g3⟩ := he
  have T3 : LT w w3 F a _ := T1.below g3
  refine ⟨_, rfl, sel_f rfl (alW_intro ?_)⟩
  have o4 := OwnE.empty (enc := inE) (k := 1) (w := w3) (B := w.heap.size) (e := 2) T3.bl.size
  have g4 : Below w3.heap.size w3 (w3.alloc (.cells #[] 2)) := (Below.refl _ _).alloc (Nat.le_refl _) _
  have s4 : (w3.alloc (.cells #[] 2)).heap.size = w3.heap.size + 1 := by simp
  generalize w3.alloc (.cells #[] 2) = w4 at o4 g4 s4
  have T4 : LT w w4 F a _ := T3.below g4
  refine alW_intro ?_
  have o5 := OwnE.empty (enc := boE) (k := 1) (w := w4) (B := w.heap.size) (e := 4) T4.bl.size
  have g5 : Below w4.heap.size w4 (w4.alloc (.cells #[] 4)) := (Below.refl _ _).alloc (Nat.le_refl _) _
  generalize w4.alloc (.cells #[] 4) = w5 at o5 g5
  have T5 : LT w w5 F a _ := T4.below g5
  refine ⟨_, st_l0 (t := Tb.new x) h hl (fun w6 b6 _ => ⟨rfl, b6⟩) ops.length 0 w5 F _ 0 _ 0 (by omega) (by omega) ⟨T5, o4.below g5, o5, fun g hg hF => ?_, fun g hg hF => ?_, fun g q hg hq => ?_⟩ (by simp [Tb.new])⟩
  · injection hg with hg; subst hg
    have := LTb.lt T3 hF; simp only at this; omega
  · injection hg with hg; subst hg
    have := LTb.lt T4 hF; simp only at this; omega
  · injection hg with hg; subst hg
    injection hq with hq; subst hq
    simp only; omega
end Go.Proofs.Ytbfcjnbjhpfdfaa.Rd
