/- MvccStarts, walked. Conditions: none. -/
import Derived.Test.YtbfcjnbjhpfdfaaMvQ
namespace Go.Dn
open Go.RowKit
set_option linter.unusedVariables false
def boE (b : Bool) : List Value := [.bool b]
theorem Ebo : Enc boE 1 := ⟨fun _ => rfl, fun x u hu => by simp [boE] at hu; subst hu; rfl, by decide⟩
theorem encs_set {α : Type} {enc : α → List Value} (E : Enc enc 1) {x : α} {v : Value} (hv : enc x = [v]) : ∀ (l : List α) (i : Nat), encs enc (l.set i x) = (encs enc l).set i v
  | [], i => by simp [encs]
  | y :: l, 0 => by
    have h1 := E.len y
    obtain ⟨u, hu⟩ : ∃ u, enc y = [u] := List.length_eq_one_iff.1 h1
    simp only [encs, List.set_cons_zero, List.flatMap_cons, hv, hu]
    rfl
  | y :: l, i + 1 => by
    obtain ⟨u, hu⟩ : ∃ u, enc y = [u] := List.length_eq_one_iff.1 (E.len y)
    have := encs_set E hv l i
    simp only [encs, List.set_cons_succ, List.flatMap_cons, hu] at this ⊢
    rw [this]; rfl
/-- one element of a row of one's own, written -/
theorem OwnE.set1 {α : Type} {enc : α → List Value} (E : Enc enc 1) {w : World} {B e : Nat} {A : Option Addr} {c : Nat} {l : List α} (h : OwnE enc 1 w B e A c l) {i : Nat} (hi : i < l.length) {x : α} {v : Value} (hv : enc x = [v]) {K : World → Prop} (hk : ∀ w', OwnE enc 1 w' B e A c (l.set i x) → Keeps (Ob A) w w' → K w') :
    ∃ g, A = some ⟨g, 0, Option.none⟩ ∧ stW w ((⟨g, 0, Option.none⟩ : Addr).add (i * 1)) v K := by
  obtain ⟨hl, h⟩ := h
  rcases h with ⟨_, h0⟩ | ⟨g, cap, cur, hv', hg, hh, hn, hm, hs, ht⟩
  · omega
  · injection hv' with hA hn' hc
    subst hA; subst hc
    refine ⟨g, rfl, ?_⟩
    rw [Nat.mul_one]
    have hb : HB w g cur e := hh
    refine hb_st (j := i) hb (by rw [hs]; omega) fun w' hb' k' => hk w' ⟨?_, .inr ⟨g, c, cur.setIfInBounds i v, ?_, hg, hb', ?_, hm, by simpa using hs, ?_⟩⟩ (k'.mono fun k _ e => ⟨_, rfl, e.symm⟩)
    · rw [encs_len E, List.length_set]
    · rw [List.length_set]
    · rw [List.length_set]; exact hn
    · rw [List.length_set, encs_set E hv, ← ht, Array.toList_setIfInBounds, List.take_set]
theorem put_map {β : Type} (t : Tb) (n : Int) {x y : Tx} (h : t.get n = some x) (f : Tx → β) : (t.put n y).txs.map f = (t.txs.map f).set (n - 1).toNat (f y) := by
  unfold Tb.put
  rw [List.map_set]
theorem put_same {β : Type} (t : Tb) (n : Int) {x y : Tx} (h : t.get n = some x) (f : Tx → β) (hf : f y = f x) : (t.put n y).txs.map f = t.txs.map f := by
  obtain ⟨h1, h2, h3⟩ := Tb.get_some h
  rw [put_map t n h, hf]
  have hlt := (List.getElem?_eq_some_iff.1 h2).1
  apply List.ext_getElem?
  intro i
  by_cases e : (n - 1).toNat = i
  · subst e
    rw [List.getElem?_set_self (by rw [List.length_map]; exact hlt), List.getElem?_map, h2]; rfl
  · rw [List.getElem?_set_ne e]
end Go.Dn
namespace Go.Proofs.Ytbfcjnbjhpfdfaa.Rd
open Go.Dn Go.RowKit
set_option linter.unusedVariables false
set_option maxRecDepth 100000
theorem RTi64 : RecTy Try.prog 55 2 1 8 := ⟨by kernel_rfl, by kernel_rfl⟩
theorem RTbo : RecTy Try.prog 56 4 1 1 := ⟨by kernel_rfl, by kernel_rfl⟩
namespace f_law14_MvccStarts
/-- the ways of a call, 'inb' telling whether it names one that is under way -/
def sw (k : Nat) (pt5 : Option Addr) (At6 : Option Addr) (nt6 : Nat) (ct6 : Nat) (At7 : Option Addr) (nt7 : Nat) (ct7 : Nat) (At30 : Option Addr) (nt30 : Nat) (ct30 : Nat) (xt31 : Int) (xt32 : Int) (B15 : Nat) (x22 : Int) (inb : Bool) (w21 : World) (K0 : World → Prop) (Kr : Bool → World → Prop) : Prop :=
  ldI w21 (⟨B15, 0, Option.none⟩ : Addr) .i64 fun x28 =>
  sel (x28 == (1 : Int)) (
  Calls Try.prog 18 #[.pointer pt5] w21 fun e29 w30 => ∃ (x31_0 : Int) (x31_1 : Int), e29 = .returned (.tuple #[.int .i64 x31_0, .int .i64 x31_1]) ∧ (
  sel (x31_1 == (0 : Int)) (
  alW w30 (.cells #[.int .i64 x22] 2) fun B32 w33 =>
  Runs Try.prog (Builtin.append_ #[55, 55] 55 #[.slice At6 nt6 ct6, .slice (some (⟨B32, 0, Option.none⟩ : Addr)) 1 1]) w33 fun v35 w34 => ∃ (A36 : Option Addr) (n36 : Nat) (c36 : Nat), v35 = (.slice A36 n36 c36) ∧ (
  alW w34 (.cells #[.bool false] 4) fun B37 w38 =>
  Runs Try.prog (Builtin.append_ #[56, 56] 56 #[.slice At7 nt7 ct7, .slice (some (⟨B37, 0, Option.none⟩ : Addr)) 1 1]) w38 fun v40 w39 => ∃ (A41 : Option Addr) (n41 : Nat) (c41 : Nat), v40 = (.slice A41 n41 c41) ∧ (
  sel (x31_0 != (n41 : Int)) (
  Kr false w39) (
  j1 pt5 A36 n36 c36 A41 n41 c41 w39 (fun (w67 : World) => ∀ _ : Fr,
  l0 k pt5 A36 n36 c36 A41 n41 c41 At30 nt30 ct30 xt31 (IntKind.i64.wrap (xt32 + (1 : Int))) w67 K0 Kr) (fun (b68 : Bool) (w69 : World) => ∀ _ : Fr,
  Kr b68 w69))))) (
  j1 pt5 At6 nt6 ct6 At7 nt7 ct7 w30 (fun (w70 : World) => ∀ _ : Fr,
  l0 k pt5 At6 nt6 ct6 At7 nt7 ct7 At30 nt30 ct30 xt31 (IntKind.i64.wrap (xt32 + (1 : Int))) w70 K0 Kr) (fun (b71 : Bool) (w72 : World) => ∀ _ : Fr,
  Kr b71 w72)))) (
  sel (x28 == (2 : Int)) (
  ldI w21 ((⟨B15, 0, Option.none⟩ : Addr).add 1) .i64 fun x73 =>
  ldS w21 ((⟨B15, 0, Option.none⟩ : Addr).add 2) fun A74 n74 c74 =>
  Calls Try.prog 19 #[.pointer pt5, .int .i64 x73, .slice A74 n74 c74] w21 fun e75 w76 => ∃ (x77 : Int), e75 = .returned (.int .i64 x77) ∧ (
  sel (!((x77 == (0 : Int)) == inb)) (
  Kr false w76) (
  j1 pt5 At6 nt6 ct6 At7 nt7 ct7 w76 (fun (w78 : World) => ∀ _ : Fr,
  l0 k pt5 At6 nt6 ct6 At7 nt7 ct7 At30 nt30 ct30 xt31 (IntKind.i64.wrap (xt32 + (1 : Int))) w78 K0 Kr) (fun (b79 : Bool) (w80 : World) => ∀ _ : Fr,
  Kr b79 w80)))) (
  sel (x28 == (3 : Int)) (
  ldI w21 ((⟨B15, 0, Option.none⟩ : Addr).add 1) .i64 fun x81 =>
  Calls Try.prog 21 #[.pointer pt5, .int .i64 x81] w21 fun e82 w83 => ∃ (x84_0 : Int) (x84_1 : Int), e82 = .returned (.tuple #[.int .i64 x84_0, .int .i64 x84_1]) ∧ (
  sel ((x84_1 == (141 : Int)) == inb) (
  Kr false w83) (
  sel inb (
  ldI w83 ((⟨B15, 0, Option.none⟩ : Addr).add 1) .i64 fun x85 =>
  optB At7 fun a86 =>
  req (decide (0 ≤ (IntKind.i64.wrap (x85 - (1 : Int))) ∧ (IntKind.i64.wrap (x85 - (1 : Int))) < (nt7 : Int))) <|
  stW w83 (a86.add ((IntKind.i64.wrap (x85 - (1 : Int))).toNat * 1)) (.bool true) fun w87 =>
  j1 pt5 At6 nt6 ct6 At7 nt7 ct7 w87 (fun (w88 : World) => ∀ _ : Fr,
  l0 k pt5 At6 nt6 ct6 At7 nt7 ct7 At30 nt30 ct30 xt31 (IntKind.i64.wrap (xt32 + (1 : Int))) w88 K0 Kr) (fun (b89 : Bool) (w90 : World) => ∀ _ : Fr,
  Kr b89 w90)) (
  j1 pt5 At6 nt6 ct6 At7 nt7 ct7 w83 (fun (w91 : World) => ∀ _ : Fr,
  l0 k pt5 At6 nt6 ct6 At7 nt7 ct7 At30 nt30 ct30 xt31 (IntKind.i64.wrap (xt32 + (1 : Int))) w91 K0 Kr) (fun (b92 : Bool) (w93 : World) => ∀ _ : Fr,
  Kr b92 w93))))) (
  sel (x28 == (4 : Int)) (
  ldI w21 ((⟨B15, 0, Option.none⟩ : Addr).add 1) .i64 fun x94 =>
  Calls Try.prog 22 #[.pointer pt5, .int .i64 x94] w21 fun e95 w96 => ∃ (x97 : Int), e95 = .returned (.int .i64 x97) ∧ (
  sel (!((x97 == (0 : Int)) == inb)) (
  Kr false w96) (
  sel inb (
  ldI w96 ((⟨B15, 0, Option.none⟩ : Addr).add 1) .i64 fun x98 =>
  optB At7 fun a99 =>
  req (decide (0 ≤ (IntKind.i64.wrap (x98 - (1 : Int))) ∧ (IntKind.i64.wrap (x98 - (1 : Int))) < (nt7 : Int))) <|
  stW w96 (a99.add ((IntKind.i64.wrap (x98 - (1 : Int))).toNat * 1)) (.bool true) fun w100 =>
  j1 pt5 At6 nt6 ct6 At7 nt7 ct7 w100 (fun (w101 : World) => ∀ _ : Fr,
  l0 k pt5 At6 nt6 ct6 At7 nt7 ct7 At30 nt30 ct30 xt31 (IntKind.i64.wrap (xt32 + (1 : Int))) w101 K0 Kr) (fun (b102 : Bool) (w103 : World) => ∀ _ : Fr,
  Kr b102 w103)) (
  j1 pt5 At6 nt6 ct6 At7 nt7 ct7 w96 (fun (w104 : World) => ∀ _ : Fr,
  l0 k pt5 At6 nt6 ct6 At7 nt7 ct7 At30 nt30 ct30 xt31 (IntKind.i64.wrap (xt32 + (1 : Int))) w104 K0 Kr) (fun (b105 : Bool) (w106 : World) => ∀ _ : Fr,
  Kr b105 w106))))) (
  j1 pt5 At6 nt6 ct6 At7 nt7 ct7 w21 (fun (w107 : World) => ∀ _ : Fr,
  l0 k pt5 At6 nt6 ct6 At7 nt7 ct7 At30 nt30 ct30 xt31 (IntKind.i64.wrap (xt32 + (1 : Int))) w107 K0 Kr) (fun (b108 : Bool) (w109 : World) => ∀ _ : Fr,
  Kr b108 w109)))))

end f_law14_MvccStarts
/-- the table and the two rows -/
structure StR (w0 w : World) (F : Nat → Prop) (a : Nat) (t : Tb) (A6 : Option Addr) (c6 : Nat) (A7 : Option Addr) (c7 : Nat) : Prop where
  lt : LT w0 w F a t
  s : OwnE inE 1 w w0.heap.size 2 A6 c6 (t.txs.map Tx.start)
  o : OwnE boE 1 w w0.heap.size 4 A7 c7 (t.txs.map fun x => !x.live)
  n6 : ∀ g, A6 = some g → ¬ F g.block
  n7 : ∀ g, A7 = some g → ¬ F g.block
  n67 : ∀ g h, A6 = some g → A7 = some h → g.block ≠ h.block
variable {w0 w : World} {F : Nat → Prop} {a : Nat} {t : Tb} {A6 A7 : Option Addr} {c6 c7 : Nat}
theorem StR.below (h : StR w0 w F a t A6 c6 A7 c7) {w' : World} (hb : Below w.heap.size w w') : StR w0 w' F a t A6 c6 A7 c7 :=
  ⟨LTb.below h.lt hb, h.s.below hb, h.o.below hb, h.n6, h.n7, h.n67⟩
/-- a call on the table that keeps what the rows tell -/
theorem StR.op (h : StR w0 w F a t A6 c6 A7 c7) {w' : World} {F' : Nat → Prop} {t' : Tb} (hT : LT w0 w' F' a t') (hk : Keeps F w w') (hf : ∀ k, F' k → F k ∨ w.heap.size ≤ k) (h1 : t'.txs.map Tx.start = t.txs.map Tx.start) (h2 : (t'.txs.map fun x => !x.live) = t.txs.map fun x => !x.live) : StR w0 w' F' a t' A6 c6 A7 c7 := by
  refine ⟨hT, by rw [h1]; exact h.s.keeps hk h.n6, by rw [h2]; exact h.o.keeps hk h.n7, fun g hg hF => ?_, fun g hg hF => ?_, h.n67⟩
  · rcases hf _ hF with h3 | h3
    · exact h.n6 g hg h3
    · have := (h.s.block g hg).2; omega
  · rcases hf _ hF with h3 | h3
    · exact h.n7 g hg h3
    · have := (h.o.block g hg).2; omega
/-- those under way, told again -/
theorem st_l2 {w0 : World} {F : Nat → Prop} {a : Nat} {t : Tb} {A6 A7 : Option Addr} {c6 c7 : Nat} {lim : Nat} (hlim : t.txs.length ≤ 17592186044416) {K3 : Option Addr → Nat → Nat → World → Prop} {Kr : Bool → World → Prop} {B0 : Nat} :
    ∀ (N i : Nat) (w : World) (A1 : Option Addr) (c1 : Nat) (out : List Int), t.txs.length - i = N → i ≤ t.txs.length → StR w0 w F a t A6 c6 A7 c7 → OwnE inE 1 w B0 3 A1 c1 out → B0 ≤ w.heap.size → out.length ≤ i → (∀ k, F k → k < B0) → (∀ g, A6 = some g → g.block < B0) → (∀ g, A7 = some g → g.block < B0) → w0.heap.size ≤ B0 →
      (∀ A' c' w', OwnE inE 1 w' B0 3 A' c' (out ++ liveF i (t.txs.drop i)) → Keeps (fun k => B0 ≤ k) w w' → K3 A' (out ++ liveF i (t.txs.drop i)).length c' w') →
      f_law14_MvccStarts.l2 (N + 1) (some ⟨a, 0, none⟩) A6 t.txs.length c6 A7 t.txs.length c7 A1 out.length c1 (t.txs.length : Int) (i : Int) w K3 Kr
  | N, i, w, A1, c1, out, hN, hi, hS, ho, hB, hol, hF, h6, h7, hw0, hK => by
    unfold f_law14_MvccStarts.l2
    by_cases hlt : i < t.txs.length
    · cases N with
      | zero => omega
      | succ N =>
        have hdrop : t.txs.drop i = t.txs[i] :: t.txs.drop (i + 1) := List.drop_eq_getElem_cons hlt
        have ro := hS.o.reads Ebo
        obtain ⟨g7, rfl⟩ := ro.addr (by rw [List.length_map]; omega)
        have rc := ro.c0 Ebo (i := i) (by rw [List.length_map]; exact hlt)
        rw [List.getElem_map] at rc
        refine sel_t (by simpa using hlt) (optB_some rfl (req_intro (by simp; omega) ?_))
        rw [Int.toNat_natCast]
        refine ⟨_, rc, ?_⟩
        rw [i64n (by omega)]
        by_cases hl : t.txs[i].live = true
        · refine sel_t (by simp [hl]) (put_e RTin Ein (by decide) ho rfl ((i + 1 : Nat) : Int) rfl hB (by omega) fun A2 c2 w2 o2 k2 f2 => ?_)
          have k2' : Keeps (fun k => B0 ≤ k) w w2 := k2.mono fun k _ ⟨g, hg, e⟩ => by have := (ho.block g hg).1; omega
          have b2 : Below B0 w w2 := k2'.below hB fun k hk h => by omega
          have hS2 : StR w0 w2 F a t A6 c6 (some g7) c7 := ⟨LTb.keeps hS.lt k2' fun k hk => ⟨fun h => by have := hF k h; omega, by omega⟩, hS.s.keeps k2' fun g hg h => by have := h6 g hg; omega, hS.o.keeps k2' fun g hg h => by have := h7 g hg; omega, hS.n6, hS.n7, hS.n67⟩
          have hget : t.get ((i + 1 : Nat) : Int) = some t.txs[i] := Tb.get_of (by omega) (by rw [show (((i + 1 : Nat) : Int) - 1).toNat = i by omega]; exact List.getElem?_eq_getElem hlt) hl
          refine (LT.start hS2.lt (n := ((i + 1 : Nat) : Int)) (by unfold W64; omega)).mono fun e w3 he => ?_
          obtain ⟨rfl, hw⟩ := he
          subst w3
          have hst : t.startOf ((i + 1 : Nat) : Int) = (t.txs[i].start, 0) := by unfold Tb.startOf; rw [hget]
          rw [hst]
          have rs := hS2.s.reads Ein
          obtain ⟨g6, rfl⟩ := rs.addr (by rw [List.length_map]; omega)
          have rc6 := rs.c0 Ein (i := i) (by rw [List.length_map]; exact hlt)
          rw [List.getElem_map] at rc6
          refine ⟨_, _, rfl, sel_f rfl (optB_some rfl (req_intro (by simp; omega) ?_))⟩
          refine ldI_intro rc6 (sel_f (by simp) ?_)
          refine st_l2 (lim := lim) hlim N (i + 1) w2 (some A2) c2 _ (by omega) (by omega) hS2 o2 (by have := b2.size; omega) (by simp; omega) hF h6 h7 hw0 fun A' c' w' o' k' => ?_
          have e : out ++ [((i + 1 : Nat) : Int)] ++ liveF (i + 1) (t.txs.drop (i + 1)) = out ++ liveF i (t.txs.drop i) := by
            rw [hdrop]
            conv => rhs; unfold liveF
            rw [if_pos hl, List.append_assoc]; simp
          rw [e] at o' ⊢
          exact hK A' c' w' o' (k2'.trans k')
        · refine sel_f (by simp [hl]) ?_
          refine st_l2 (lim := lim) hlim N (i + 1) w A1 c1 out (by omega) (by omega) hS ho hB (by omega) hF h6 h7 hw0 fun A' c' w' o' k' => ?_
          have e : liveF (i + 1) (t.txs.drop (i + 1)) = liveF i (t.txs.drop i) := by
            rw [hdrop]
            conv => rhs; unfold liveF
            rw [if_neg hl]
          rw [e] at o' ⊢
          exact hK A' c' w' o' k'
    · refine sel_f (by simpa using hlt) ?_
      have e : t.txs.drop i = [] := List.drop_eq_nil_of_le (by omega)
      have := hK A1 c1 w (by rw [e]; simpa [liveF] using ho) (.refl _ _)
      rw [e] at this
      simpa [liveF] using this
theorem st_j1 (hS : StR w0 w F a t A6 c6 A7 c7) (hlim : t.txs.length ≤ 17592186044416) {Kn : World → Prop} {Kr : Bool → World → Prop} (hK : ∀ w', Below w.heap.size w w' → Kn w') : f_law14_MvccStarts.j1 (some ⟨a, 0, none⟩) A6 t.txs.length c6 A7 t.txs.length c7 w Kn Kr := by
  unfold f_law14_MvccStarts.j1
  refine alW_intro ?_
  have o2 := OwnE.empty (enc := inE) (k := 1) (w := w) (B := w.heap.size) (e := 3) (Nat.le_refl _)
  have g2 : Below w.heap.size w (w.alloc (.cells #[] 3)) := (Below.refl _ _).alloc (Nat.le_refl _) _
  have s2 : (w.alloc (.cells #[] 3)).heap.size = w.heap.size + 1 := by simp
  generalize w.alloc (.cells #[] 3) = w2 at o2 g2 s2
  have hS2 := hS.below g2
  refine ⟨_, st_l2 (lim := 0) hlim t.txs.length 0 w2 _ 0 [] (by omega) (by omega) hS2 o2 (by omega) (by simp) (fun k hk => LTb.lt hS.lt hk) (fun g hg => (hS.s.block g hg).2) (fun g hg => (hS.o.block g hg).2) hS.lt.bl.size fun A3 c3 w3 o3 k3 _ => ?_⟩
  have e2 : [] ++ liveF 0 (t.txs.drop 0) = t.lives := rfl
  rw [e2] at o3 ⊢
  have b3 : Below w.heap.size w w3 := g2.trans (k3.below (by omega) fun k hk h => by omega)
  have h8 := hS.lt.tb.ok.le8
  refine sel_f (decide_eq_false (by omega)) ((LT.live (LTb.below hS.lt b3)).mono fun e w4 he => ?_)
  obtain ⟨A4, c4, rfl, o4, T4, g4⟩ := he
  have r3 : RI w4 A3 t.lives := o3.ints.reads.below g4 (Nat.le_refl _)
  refine ⟨_, _, _, rfl, (SameInts_ok o4.reads rfl r3 rfl (by omega)).mono fun e w5 he => ?_⟩
  obtain ⟨rfl, g5⟩ := he
  have s3 := b3.size
  have s4 := g4.size
  exact ⟨_, rfl, sel_f (by simp) (hK w5 ((b3.trans (g4.mono s3)).trans (g5.mono (by omega))))⟩
end Go.Proofs.Ytbfcjnbjhpfdfaa.Rd
