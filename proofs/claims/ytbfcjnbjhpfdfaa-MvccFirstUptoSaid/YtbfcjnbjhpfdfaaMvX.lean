/- What MvccFirst keeps: the touched elements row by row, the spans of those committed. Conditions: none. -/
import Derived.Test.YtbfcjnbjhpfdfaaMvW
namespace Go.Dn
open Go.RowKit
set_option linter.unusedVariables false
/-- a row of references of one's own, as an element -/
structure RowM where
  A : Option Addr
  c : Nat
  tk : List Rf
def rmE (m : RowM) : List Value := [.slice m.A m.tk.length m.c]
theorem Erm : Enc rmE 1 := ⟨fun _ => rfl, fun x u hu => by simp [rmE] at hu; subst hu; rfl, by decide⟩
structure SpM where
  start : Int
  at_ : Int
  A : Option Addr
  c : Nat
  refs : List Rf
def spE (d : SpM) : List Value := [.int .i64 d.start, .int .i64 d.at_, .slice d.A d.refs.length d.c]
theorem Esp : Enc spE 3 := ⟨fun _ => rfl, fun x u hu => by simp [spE] at hu; rcases hu with rfl | rfl | rfl <;> rfl, by decide⟩
/-- of two committed the later one has not begun ahead of the elder one's time, or has nothing in common with it -/
def SpOk (a b : SpM) : Prop := ¬ (b.start < a.at_ ∧ common a.refs b.refs = true)
structure FiP (t : Tb) (ms : List RowM) (D : List SpM) : Prop where
  tks : ms.map RowM.tk = t.txs.map Tx.tk
  lnk : ∀ d ∈ D, ∃ (j : Nat) (m : RowM) (x : Tx), ms[j]? = some m ∧ t.txs[j]? = some x ∧ x.live = false ∧ m.A = d.A ∧ m.tk = d.refs ∧ x.at_ = d.at_
  ok : D.Pairwise SpOk
theorem FiP.len {t : Tb} {ms : List RowM} {D : List SpM} (h : FiP t ms D) : ms.length = t.txs.length := by
  have := congrArg List.length h.tks
  simpa using this
theorem FiP.at_ {t : Tb} {ms : List RowM} {D : List SpM} (h : FiP t ms D) {j : Nat} {m : RowM} {x : Tx} (hm : ms[j]? = some m) (hx : t.txs[j]? = some x) : m.tk = x.tk := by
  have := congrArg (·[j]?) h.tks
  simp only [List.getElem?_map, hm, hx, Option.map_some, Option.some.injEq] at this
  exact this
/-- what is over stays -/
def Stays (t t' : Tb) : Prop := ∀ (j : Nat) (x : Tx), t.txs[j]? = some x → x.live = false → t'.txs[j]? = some x
theorem Stays.refl (t : Tb) : Stays t t := fun _ _ h _ => h
theorem stays_put {t : Tb} {n : Int} {x y : Tx} (hx : t.get n = some x) {l : Int} : Stays t ⟨(t.put n y).txs, l⟩ := fun j z hj hz => by
  obtain ⟨h1, h2, h3⟩ := Tb.get_some hx
  show (t.txs.set (n - 1).toNat y)[j]? = some z
  have : (n - 1).toNat ≠ j := fun e => by
    rw [e, hj] at h2
    injection h2 with h2; subst h2
    rw [h3] at hz; cases hz
  rw [List.getElem?_set_ne this]; exact hj
theorem FiP.step {t t' : Tb} {ms : List RowM} {D : List SpM} (h : FiP t ms D) (hs : Stays t t') (ht : t'.txs.map Tx.tk = t.txs.map Tx.tk) : FiP t' ms D :=
  ⟨by rw [ht]; exact h.tks, fun d hd => by
    obtain ⟨j, m, x, h1, h2, h3, h4⟩ := h.lnk d hd
    exact ⟨j, m, x, h1, hs j x h2 h3, h3, h4⟩, h.ok⟩
theorem FiP.begin {t : Tb} {ms : List RowM} {D : List SpM} (h : FiP t ms D) {x : Tx} (hx : x.tk = []) {l : Int} : FiP ⟨t.txs ++ [x], l⟩ (ms ++ [⟨none, 0, []⟩]) D :=
  ⟨by simp [h.tks, hx], fun d hd => by
    obtain ⟨j, m, y, h1, h2, h3⟩ := h.lnk d hd
    have hj1 := (List.getElem?_eq_some_iff.1 h1).1
    have hj2 := (List.getElem?_eq_some_iff.1 h2).1
    exact ⟨j, m, y, by rw [List.getElem?_append_left hj1]; exact h1, by show (t.txs ++ [x])[j]? = _; rw [List.getElem?_append_left hj2]; exact h2, h3⟩, h.ok⟩
theorem FiP.touch {t : Tb} {ms : List RowM} {D : List SpM} (h : FiP t ms D) {n : Int} {x : Tx} (hx : t.get n = some x) {l : List Rf} {A : Option Addr} {c : Nat} : FiP (t.put n { x with tk := x.tk ++ l }) (ms.set (n - 1).toNat ⟨A, c, x.tk ++ l⟩) D := by
  obtain ⟨h1, h2, h3⟩ := Tb.get_some hx
  refine ⟨?_, fun d hd => ?_, h.ok⟩
  · rw [List.map_set, h.tks, put_map t n hx]
  · obtain ⟨j, m, y, e1, e2, e3, e4⟩ := h.lnk d hd
    have hne : (n - 1).toNat ≠ j := fun e => by
      rw [e, e2] at h2
      injection h2 with h2; subst h2
      rw [h3] at e3; cases e3
    exact ⟨j, m, y, by rw [List.getElem?_set_ne hne]; exact e1, stays_put hx (l := t.last) j y e2 e3, e3, e4⟩
/-- one more is committed -/
theorem FiP.commit {t : Tb} {ms : List RowM} {D : List SpM} (h : FiP t ms D) {n : Int} {x : Tx} (hx : t.get n = some x) (hc : t.clash x = false) {m : RowM} (hm : ms[(n - 1).toNat]? = some m) {c : Nat} : FiP ⟨(t.put n { x with live := false, at_ := t.last + 1 }).txs, t.last + 1⟩ ms (D ++ [⟨x.start, t.last + 1, m.A, c, m.tk⟩]) := by
  obtain ⟨h1, h2, h3⟩ := Tb.get_some hx
  have hlt := (List.getElem?_eq_some_iff.1 h2).1
  have hst : Stays t ⟨(t.put n { x with live := false, at_ := t.last + 1 }).txs, t.last + 1⟩ := stays_put hx
  refine ⟨by show _ = (t.put n { x with live := false, at_ := t.last + 1 }).txs.map Tx.tk; rw [put_same t n hx (y := { x with live := false, at_ := t.last + 1 }) Tx.tk rfl]; exact h.tks, fun d hd => ?_, ?_⟩
  · rcases List.mem_append.1 hd with hd | hd
    · obtain ⟨j, m', y, e1, e2, e3, e4⟩ := h.lnk d hd
      exact ⟨j, m', y, e1, hst j y e2 e3, e3, e4⟩
    · have hd : d = ⟨x.start, t.last + 1, m.A, c, m.tk⟩ := by simpa using hd
      subst hd
      refine ⟨(n - 1).toNat, m, { x with live := false, at_ := t.last + 1 }, hm, ?_, rfl, rfl, rfl, rfl⟩
      show (t.txs.set (n - 1).toNat _)[(n - 1).toNat]? = _
      rw [List.getElem?_set_self hlt]
  · refine List.pairwise_append.2 ⟨h.ok, List.pairwise_singleton _ _, fun a ha b hb => ?_⟩
    have hb : b = ⟨x.start, t.last + 1, m.A, c, m.tk⟩ := by simpa using hb
    subst hb
    rintro ⟨g1, g2⟩
    obtain ⟨j, m', y, e1, e2, e3, e4, e5, e6⟩ := h.lnk a ha
    have : t.clash x = true := Tb.clash_iff.2 ⟨y, List.mem_of_getElem? e2, by rw [e6]; exact g1, by
      obtain ⟨r, hr, hr2⟩ := common_iff.1 g2
      exact ⟨r, by rw [← h.at_ e1 e2, e5]; exact hr, by rw [← h.at_ hm h2]; exact hr2⟩⟩
    rw [hc] at this; cases this
/-! ### the horizon never falls -/
theorem hor_op {t : Tb} (ok : TbOk t) (o : MOp) : t.hor ≤ (t.op o).hor := by
  unfold Tb.op
  split
  · unfold Tb.begin; split
    · exact Int.le_refl _
    · simp only; rw [hor_append rfl]; exact Int.le_refl _
  · split
    · unfold Tb.touch; split
      · exact Int.le_refl _
      · rename_i x hx
        simp only
        rw [hor_put_live hx (y := { x with tk := x.tk ++ o.refs }) (Tb.get_some hx).2.2 rfl]; exact Int.le_refl _
    · split
      · unfold Tb.commit; split
        · exact Int.le_refl _
        · rename_i x hx
          split
          · exact hor_over hx (a := x.at_) (Int.le_refl _)
          · split
            · exact hor_over hx (a := x.at_) (Int.le_refl _)
            · exact hor_over hx (a := t.last + 1) (l := t.last + 1) (by omega)
      · split
        · unfold Tb.abort; split
          · exact Int.le_refl _
          · rename_i x hx
            exact hor_over hx (a := x.at_) (Int.le_refl _)
        · exact Int.le_refl _
end Go.Dn
namespace Go.Proofs.Ytbfcjnbjhpfdfaa.Rd
open Go.Dn Go.RowKit
set_option linter.unusedVariables false
set_option maxRecDepth 100000
theorem RTrm : RecTy Try.prog 42 30 1 24 := ⟨by kernel_rfl, by kernel_rfl⟩
theorem RTsp : RecTy Try.prog 43 51 3 40 := ⟨by kernel_rfl, by kernel_rfl⟩
/-- the table, the rows of touched elements, the spans -/
structure FiM (w0 w : World) (F : Nat → Prop) (a : Nat) (t : Tb) (ms : List RowM) (A6 : Option Addr) (c6 : Nat) (D : List SpM) (A7 : Option Addr) (c7 : Nat) : Prop where
  lt : LT w0 w F a t
  s : OwnE rmE 1 w w0.heap.size 30 A6 c6 ms
  o : OwnE spE 3 w w0.heap.size 51 A7 c7 D
  r : ∀ m ∈ ms, OwnE rfE 2 w w0.heap.size 62 m.A m.c m.tk
  ap : ∀ (i j : Nat) (m m' : RowM), ms[i]? = some m → ms[j]? = some m' → i ≠ j → ∀ g g', m.A = some g → m'.A = some g' → g.block ≠ g'.block
  n6 : ∀ g, A6 = some g → ¬ F g.block
  n7 : ∀ g, A7 = some g → ¬ F g.block
  n67 : ∀ g h, A6 = some g → A7 = some h → g.block ≠ h.block
  nm : ∀ m ∈ ms, ∀ g, m.A = some g → ¬ F g.block ∧ (∀ h, A6 = some h → h.block ≠ g.block) ∧ ∀ h, A7 = some h → h.block ≠ g.block
variable {w0 w : World} {F : Nat → Prop} {a : Nat} {t : Tb} {ms : List RowM} {A6 A7 : Option Addr} {c6 c7 : Nat} {D : List SpM}
theorem FiM.keeps (h : FiM w0 w F a t ms A6 c6 D A7 c7) {S : Nat → Prop} {w' : World} (hk : Keeps S w w') (hS : ∀ k, S k → ¬ F k ∧ w0.heap.size ≤ k ∧ ¬ Ob A6 k ∧ ¬ Ob A7 k ∧ ∀ m ∈ ms, ¬ Ob m.A k) : FiM w0 w' F a t ms A6 c6 D A7 c7 :=
  { h with
    lt := LTb.keeps h.lt hk fun k hs => ⟨(hS k hs).1, (hS k hs).2.1⟩
    s := h.s.keeps hk fun g hg hs => (hS _ hs).2.2.1 ⟨g, hg, rfl⟩
    o := h.o.keeps hk fun g hg hs => (hS _ hs).2.2.2.1 ⟨g, hg, rfl⟩
    r := fun m hm => (h.r m hm).keeps hk fun g hg hs => (hS _ hs).2.2.2.2 m hm ⟨g, hg, rfl⟩ }
theorem FiM.below (h : FiM w0 w F a t ms A6 c6 D A7 c7) {w' : World} (hb : Below w.heap.size w w') : FiM w0 w' F a t ms A6 c6 D A7 c7 := h.keeps (S := fun _ => False) (.of_below hb) fun k hk => hk.elim
theorem FiM.op (h : FiM w0 w F a t ms A6 c6 D A7 c7) {w' : World} {F' : Nat → Prop} {t' : Tb} (hT : LT w0 w' F' a t') (hk : Keeps F w w') (hf : ∀ k, F' k → F k ∨ w.heap.size ≤ k) : FiM w0 w' F' a t' ms A6 c6 D A7 c7 := by
  refine ⟨hT, h.s.keeps hk h.n6, h.o.keeps hk h.n7, fun m hm => (h.r m hm).keeps hk fun g hg => (h.nm m hm g hg).1, h.ap, fun g hg hF => ?_, fun g hg hF => ?_, h.n67, fun m hm g hg => ⟨fun hF => ?_, (h.nm m hm g hg).2⟩⟩
  · rcases hf _ hF with h3 | h3
    · exact h.n6 g hg h3
    · have := (h.s.block g hg).2; omega
  · rcases hf _ hF with h3 | h3
    · exact h.n7 g hg h3
    · have := (h.o.block g hg).2; omega
  · rcases hf _ hF with h3 | h3
    · exact (h.nm m hm g hg).1 h3
    · have := ((h.r m hm).block g hg).2; omega
/-- an empty row behind the rows -/
theorem FiM.push6 (h : FiM w0 w F a t ms A6 c6 D A7 c7) {w' : World} {A' : Addr} {c' : Nat} (o : OwnE rmE 1 w' w0.heap.size 30 (some A') c' (ms ++ [⟨none, 0, []⟩])) (k : Keeps (Ob A6) w w') (f : A6 = some A' ∨ w.heap.size ≤ A'.block) : FiM w0 w' F a t (ms ++ [⟨none, 0, []⟩]) (some A') c' D A7 c7 := by
  have hS : ∀ j, Ob A6 j → ¬ F j ∧ w0.heap.size ≤ j := fun j ⟨g, hg, e⟩ => ⟨fun hF => h.n6 g hg (e ▸ hF), by have := (h.s.block g hg).1; omega⟩
  refine ⟨LTb.keeps h.lt k hS, o, h.o.keeps k fun g hg ⟨g', hg', e⟩ => h.n67 g' g hg' hg e, fun m hm => ?_, ?_, fun g hg hF => ?_, h.n7, fun g q hg hq e => ?_, fun m hm g hg => ?_⟩
  · rcases List.mem_append.1 hm with hm | hm
    · exact (h.r m hm).keeps k fun g hg ⟨g', hg', e⟩ => (h.nm m hm g hg).2.1 g' hg' e
    · have hm : m = ⟨none, 0, []⟩ := by simpa using hm
      subst hm; exact OwnE.none _ _ _ _ _
  · have key : ∀ (i : Nat) (m : RowM), (ms ++ [⟨none, 0, []⟩])[i]? = some m → ∀ g, m.A = some g → ms[i]? = some m := fun i m hm g hg => by
      by_cases hi : i < ms.length
      · rw [List.getElem?_append_left hi] at hm; exact hm
      · rw [List.getElem?_append_right (by omega)] at hm
        have hm : m = ⟨none, 0, []⟩ := by simpa using List.mem_of_getElem? hm
        subst hm; cases hg
    exact fun i j m m' hm hm' hne g g' hg hg' => h.ap i j m m' (key i m hm g hg) (key j m' hm' g' hg') hne g g' hg hg'
  · injection hg with hg; subst hg
    rcases f with f | f
    · exact h.n6 _ f hF
    · have := LTb.lt h.lt hF; omega
  · injection hg with hg; subst hg
    rcases f with f | f
    · exact h.n67 _ _ f hq e
    · have := (h.o.block q hq).2; omega
  · rcases List.mem_append.1 hm with hm | hm
    · refine ⟨(h.nm m hm g hg).1, fun q hq e => ?_, (h.nm m hm g hg).2.2⟩
      injection hq with hq; subst hq
      rcases f with f | f
      · exact (h.nm m hm g hg).2.1 _ f e
      · have := ((h.r m hm).block g hg).2; omega
    · have hm : m = ⟨none, 0, []⟩ := by simpa using hm
      subst hm; cases hg
/-- one more span -/
theorem FiM.push7 (h : FiM w0 w F a t ms A6 c6 D A7 c7) {w' : World} {d : SpM} {A' : Addr} {c' : Nat} (o : OwnE spE 3 w' w0.heap.size 51 (some A') c' (D ++ [d])) (k : Keeps (Ob A7) w w') (f : A7 = some A' ∨ w.heap.size ≤ A'.block) : FiM w0 w' F a t ms A6 c6 (D ++ [d]) (some A') c' := by
  have hS : ∀ j, Ob A7 j → ¬ F j ∧ w0.heap.size ≤ j := fun j ⟨g, hg, e⟩ => ⟨fun hF => h.n7 g hg (e ▸ hF), by have := (h.o.block g hg).1; omega⟩
  refine ⟨LTb.keeps h.lt k hS, h.s.keeps k fun g hg ⟨g', hg', e⟩ => h.n67 g g' hg hg' e.symm, o, fun m hm => (h.r m hm).keeps k fun g hg ⟨g', hg', e⟩ => (h.nm m hm g hg).2.2 g' hg' e, h.ap, h.n6, fun g hg hF => ?_, fun g q hg hq e => ?_, fun m hm g hg => ⟨(h.nm m hm g hg).1, (h.nm m hm g hg).2.1, fun q hq e => ?_⟩⟩
  · injection hg with hg; subst hg
    rcases f with f | f
    · exact h.n7 _ f hF
    · have := LTb.lt h.lt hF; omega
  · injection hq with hq; subst hq
    rcases f with f | f
    · exact h.n67 _ _ hg f e
    · have := (h.s.block g hg).2; omega
  · injection hq with hq; subst hq
    rcases f with f | f
    · exact (h.nm m hm g hg).2.2 _ f e
    · have := ((h.r m hm).block g hg).2; omega
end Go.Proofs.Ytbfcjnbjhpfdfaa.Rd
