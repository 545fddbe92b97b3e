/- A slice among the arguments, opened: its elements by a code of one's own · Contracts of the document's sums of layer 2: Seal, Open · wal's laws: the log kept while blocks of other types turn · A row of bytes among the arguments, opened · A script of a log's calls: in memory, and among the arguments · The power comes back; a log opened takes records · The document's calls of the log over nothing at all: that they end · The document's Reset of nothing at all; texts shown wider, and spoilt · The statement WalRuns: one call asked of the log, and of nothing at all · The statement WalRuns, walked -/
import Derived.Test.YtpokaafedpnbdaaDoorRecR
import Derived.ChangeArms
import Derived.DataReads
import Derived.SizedLaws
import Derived.Test.YtpokaafedpnbdaaDoorWxA
import Derived.Test.YtpokaafedpnbdaaDoorWxE
import Derived.WalkKit
import Derived.ProofKit
import Derived.OpenShut
import Derived.Test.YtpokaafedpnbdaaDoorRdR
import Derived.Test.YtpokaafedpnbdaaDoorRdL7
/-! A slice among the arguments, opened: its elements by a code of one's own. Conditions: none. -/
namespace Go.Dn
open Go.RowKit
set_option linter.unusedVariables false
theorem list_of {α : Type} {P : Nat → α → Prop} : ∀ {n : Nat}, (∀ i, i < n → ∃ x, P i x) → ∃ l : List α, l.length = n ∧ ∀ i (h : i < l.length), P i l[i]
  | 0, _ => ⟨[], rfl, fun i h => absurd h (Nat.not_lt_zero _)⟩
  | n + 1, key => by
    obtain ⟨l, hl, h⟩ := list_of (n := n) fun i hi => key i (by omega)
    obtain ⟨x, hx⟩ := key n (by omega)
    refine ⟨l ++ [x], by simp [hl], fun i hi => ?_⟩
    by_cases hn : i < l.length
    · rw [List.getElem_append_left hn]; exact h i hn
    · have : i = n := by rw [List.length_append] at hi; simp at hi; omega
      subst this
      rw [List.getElem_append_right (by omega)]
      simp only [hl, Nat.sub_self, List.getElem_cons_zero]
      exact hx
section
variable {H : Type} {enc : TypeId × Value → H} {P : Program} {w : World} {base : Nat} {spare : Nat → Bool} {held : Bool} {fuel : Nat} {t : TypeId}
theorem one_of' {n : Nat} {t : TypeId} {cs : List Value} {j : Nat} {x : DataW H × List MemPlace} (hj : j < cs.length) (h : DataW.trod enc P w base spare held n t ((cs.drop j).take 1) = some x) : DataW.trod enc P w base spare held n t [cs[j]] = some x := by
  rw [List.drop_eq_getElem_cons hj, List.take_succ_cons, List.take_zero] at h
  exact h
theorem wt_in {e : TypeId} {d : DataW H} {v : Nat} : ∀ {l : List (DataW H)}, d ∈ l → v ∈ d.weights P e → v ∈ DataW.weightsAll P e l
  | [], h, _ => by cases h
  | y :: l, h, hv => by
    unfold DataW.weightsAll
    rcases List.mem_cons.1 h with rfl | h
    · exact List.mem_append_left _ hv
    · exact List.mem_append_right _ (wt_in h hv)
theorem open_gen {α : Type} {enc' : α → List Value} {k by_ : Nat} (E : Enc enc' k) {r : TypeId} (ht : P.underlying t = some (.slice r)) (hc : P.cellsOf r = k) (hby : P.bytesOf r = by_) {Q : α → DataW H → Prop}
    (hq : ∀ n cs y, cs.length = k → DataW.trod enc P w base spare held n r cs = some y → ∃ x : α, cs = enc' x ∧ Q x y.1) {A : Option Addr} {len cap : Nat} {x : DataW H × List MemPlace} (h : DataW.trod enc P w base spare held fuel t [.slice A len cap] = some x) :
    ∃ l : List α, l.length = len ∧ RowE enc' k w A l ∧ (A = none → cap = 0 ∧ l.length = 0) ∧ (l ≠ [] → ∀ a, A = some a → a.block < w.heap.size) ∧ l.length ≤ cap ∧
      ((x.1 = .nil ∧ l = []) ∨ ∃ el rs, x.1 = .slice el rs ∧ el.length = l.length ∧ ∀ i (hi : i < l.length), ∃ d, el[i]? = some d ∧ Q l[i] d) ∧ ((∀ v ∈ x.1.weights P t, v ≤ reachBytes) → l.length * by_ ≤ 140737488351232) := by
  rcases DataW.trod_slice ht h with ⟨h0, hx⟩ | ⟨a, len', cap', elems, rest, n, _, h1, hx, hbs, hl, hm, hlen, hel, hsp, hns⟩
  · injection h0 with h0; injection h0 with h0 h1 h2; subst h0; subst h1; subst h2
    exact ⟨[], rfl, RowE.nil _ _ _ _, fun _ => ⟨rfl, rfl⟩, by simp, by simp, .inl ⟨by rw [hx], rfl⟩, by simp⟩
  · injection h1 with h1; injection h1 with h0 h1 h2; subst h0; subst h1; subst h2
    have key : ∀ i, i < len → ∃ z : α, (∀ j, j < k → w.cell? ((a.add (i * k)).add j) = (enc' z)[j]?) ∧ ∃ d, (elems.map (·.1))[i]? = some d ∧ Q z d := by
      intro i hi
      have h2 := hel i hi
      rw [List.getElem?_eq_getElem (by omega), Option.bind_eq_some_iff] at h2
      obtain ⟨cs, hcs, hy⟩ := h2
      obtain ⟨_, hl3, hcell⟩ := World.cells?_some hcs
      rw [hc] at hcell hl3
      obtain ⟨z, e, q⟩ := hq _ _ _ hl3 hy
      refine ⟨z, fun j hj => ?_, _, ?_, q⟩
      · have := hcell j hj
        rw [← e]
        exact this
      · rw [List.getElem?_map, List.getElem?_eq_getElem (by omega)]; rfl
    obtain ⟨l, el, hP⟩ := list_of key
    refine ⟨l, el, fun i hi => ⟨a, rfl, (hP i hi).1⟩, (fun e => by cases e), fun hne a' ha => ?_, by omega, .inr ⟨elems.map (·.1), rest.map (·.1), by rw [hx], by simp [hlen, el], fun i hi => (hP i hi).2⟩, fun hw => ?_⟩
    · injection ha with ha; subst ha
      have h0 : 0 < l.length := List.length_pos_iff.2 hne
      have h1 := (hP 0 h0).1 0 E.pos
      obtain ⟨u, h2⟩ : ∃ u, (enc' (l[0]'h0))[0]? = some u := ⟨_, List.getElem?_eq_getElem (by rw [E.len]; exact E.pos)⟩
      have := World.block_lt_of_cell? w _ (h1.trans h2)
      rw [add_block, add_block] at this; exact this
    · rw [hx] at hw
      have := hw ((elems.map (·.1)).length * by_ + (rest.map (·.1)).length * by_) (by
        simp only [DataW.weights, ht, hby]
        rw [← Nat.add_mul]; exact List.mem_cons_self)
      unfold reachBytes at this
      simp only [List.length_map] at this
      rw [el, ← hlen]
      omega
/-- rows of numbers of one kind -/
theorem open_num {κ : IntKind} {by_ : Nat} {r : TypeId} (ht : P.underlying t = some (.slice r)) (hr : P.underlying r = some (.int κ)) (hc : P.cellsOf r = 1) (hby : P.bytesOf r = by_) {A : Option Addr} {len cap : Nat} {x : DataW H × List MemPlace} (h : DataW.trod enc P w base spare held fuel t [.slice A len cap] = some x) :
    ∃ l : List Int, l.length = len ∧ RowE (fun z => [.int κ z]) 1 w A l ∧ (A = none → cap = 0 ∧ l.length = 0) ∧ (l ≠ [] → ∀ a, A = some a → a.block < w.heap.size) ∧ l.length ≤ cap ∧ ((∀ v ∈ x.1.weights P t, v ≤ reachBytes) → l.length * by_ ≤ 140737488351232) := by
  obtain ⟨l, h1, h2, h3, h4, h5, _, h7⟩ := open_gen (enc' := fun z : Int => [.int κ z]) (k := 1) ⟨fun _ => rfl, fun x u hu => by simp only [List.mem_singleton] at hu; subst hu; rfl, by decide⟩ ht hc hby (Q := fun _ _ => True) (fun n cs y hl hy => by
    obtain ⟨u, rfl⟩ : ∃ u, cs = [u] := by match cs, hl with | [u], _ => exact ⟨_, rfl⟩
    obtain ⟨z, e, _⟩ := DataW.trod_int hr hy
    injection e with e
    exact ⟨z, by rw [show u = _ from e], trivial⟩) h
  exact ⟨l, h1, h2, h3, h4, h5, h7⟩
end
end Go.Dn

/-! Contracts of the document's sums of layer 2: Seal, Open. Conditions: lengths at most 2^46. -/
namespace Go.Proofs.YtpokaafedpnbdaaDoor.Rd
open Go.Dn Go.RowKit
set_option linter.unusedVariables false
set_option linter.unusedSimpArgs false
theorem RSeal_l0 {n : Nat} (hn32 : n < 4294967296) {B : Nat} {w0 : World} {K : Option Addr → Nat → Nat → World → Prop} (hK : ∀ A' c' w', OwnB w' B 5 A' c' (le4 n) → Below B w0 w' → B ≤ w'.heap.size → K A' 4 c' w') :
    ∀ (m k i : Nat) (A3 : Option Addr) (c3 : Nat) (w : World), 4 - i = m → i ≤ 4 → m < k → OwnB w B 5 A3 c3 ((le4 n).take i) → Below B w0 w → B ≤ w.heap.size →
      f_ref02_Seal.l0 k A3 i c3 ((n / 256 ^ i : Nat) : Int) (i : Int) w K := by
  intro m
  induction m with
  | zero =>
    intro k i A3 c3 w hm hi hk ho hb hBw
    obtain ⟨k, rfl⟩ : ∃ j, k = j + 1 := ⟨k - 1, by omega⟩
    simp only [f_ref02_Seal.l0]
    refine sel_f (by simp; omega) ?_
    obtain rfl : i = 4 := by omega
    exact hK _ _ _ ho hb hBw
  | succ m ih =>
    intro k i A3 c3 w hm hi hk ho hb hBw
    obtain ⟨k, rfl⟩ : ∃ j, k = j + 1 := ⟨k - 1, by omega⟩
    have hlt : i < (le4 n).length := by rw [le4_length]; omega
    simp only [f_ref02_Seal.l0]
    refine sel_t (by simp; omega) ?_
    have hx : (le4 n)[i] = UInt8.ofNat (n / 256 ^ i) := by
      rw [le4_length] at hlt
      match i, hlt with
      | 0, _ => simp [le4]
      | 1, _ => rfl
      | 2, _ => rfl
      | 3, _ => rfl
    have ew : IntKind.u8.wrap (((n / 256 ^ i : Nat) : Int).tmod 256) = ((le4 n)[i].toNat : Int) := by
      rw [hx, Int.tmod_eq_emod_of_nonneg (Int.natCast_nonneg _), u8w, UInt8.toNat_ofNat']; omega
    rw [ew]
    refine alW_intro ?_
    have h1 : Go.Dn.RB (w.alloc (.cells #[.int .u8 ((le4 n)[i].toNat : Int)] 5)) (some ⟨w.heap.size, 0, none⟩) [(le4 n)[i]] :=
      (OwnB.lit (B := B) [(le4 n)[i]] rfl hBw (by simp)).reads
    have ho1 := ho.keep ((Below.refl w.heap.size w).alloc (Nat.le_refl _) (.cells #[.int .u8 ((le4 n)[i].toNat : Int)] 5))
    have htl : ((le4 n).take i).length = i := by rw [List.length_take, le4_length]; omega
    refine app_runs TBy ho1 htl.symm h1 rfl (fun h => by cases h) (by simp; omega) (by rw [htl]; simp; omega) ?_
    intro A' c' w' ho' hb' _ _
    refine ⟨_, _, _, rfl, ?_⟩
    rw [w64_in (by omega), show (i : Int) + 1 = ((i + 1 : Nat) : Int) by omega]
    have e : (le4 n).take i ++ [(le4 n)[i]] = (le4 n).take (i + 1) := by rw [List.take_succ_eq_append_getElem hlt]
    rw [e] at ho' ⊢
    have e2 : ((le4 n).take (i + 1)).length = i + 1 := by rw [List.length_take, le4_length]; omega
    have e3 : IntKind.u32.wrap (((n / 256 ^ i : Nat) : Int).tdiv 256) = ((n / 256 ^ (i + 1) : Nat) : Int) := by
      have h1 : n / 256 ^ i / 256 = n / 256 ^ (i + 1) := by rw [Nat.div_div_eq_div_mul, Nat.pow_succ]
      have h2 : n / 256 ^ i ≤ n := Nat.div_le_self _ _
      rw [← h1, Int.tdiv_eq_ediv_of_nonneg (Int.natCast_nonneg _), u32w]
      generalize n / 256 ^ i = q at *
      omega
    rw [e2, e3]
    refine ih k (i + 1) A' c' w' (by omega) (by omega) (by omega) ho' ?_ ?_
    · exact (hb.alloc hBw _).trans hb'
    · have := hb'.size; simp at this; omega
theorem RSeal_ok {w : World} {A : Option Addr} {n c : Nat} {l : List UInt8} (hr : Go.Dn.RB w A l) (hn : n = l.length) (hlen : l.length ≤ 140737488355000) :
    Calls Tryd.prog 69 #[.slice A n c] w fun e w' => ∃ A' c', e = .returned (.slice A' (sealL l).length c') ∧ OwnB w' w.heap.size 5 A' c' (sealL l) ∧ Below w.heap.size w w' := by
  subst hn
  apply f_ref02_Seal.ok
  unfold f_ref02_Seal.wp
  refine alW_intro ?_
  have hb0 := (Below.refl w.heap.size w).alloc (Nat.le_refl _) (.cells #[] 5)
  have h0 := OwnB.lit (w := w) (B := w.heap.size) (e := 5) [] (cs := #[]) rfl (Nat.le_refl _) (by simp)
  refine (RSum_ok (hr.below hb0 (Nat.le_refl _)) (by omega)).mono ?_
  rintro e w1 ⟨rfl, rfl⟩
  refine ⟨_, rfl, 5, ?_⟩
  have := RSeal_l0 (n := crcSum l) (crcSum_lt l) (B := w.heap.size) (w0 := w) (K := fun A11 n11 c11 w12 => ∀ _ : Fr, Calls Tryd.prog 72 #[.slice A11 n11 c11, .slice A l.length c] w12 fun e13 w14 => ∃ (A15 : Option Addr) (n15 : Nat) (c15 : Nat), e13 = .returned (.slice A15 n15 c15) ∧
    (∃ A' c', Ending.returned (.slice A15 n15 c15) = .returned (.slice A' (sealL l).length c') ∧ OwnB w14 w.heap.size 5 A' c' (sealL l) ∧ Below w.heap.size w w14)) ?_ 4 5 0 _ _ _ (by omega) (by omega) (by omega) h0 hb0 (by simp)
  · simpa using this
  intro A2 c2 w2 ho2 hb2 hB2 _
  refine (Cat_ok ho2.reads (hr.below hb2 (Nat.le_refl _)) rfl rfl (by rw [le4_length]; omega)).mono ?_
  rintro e w3 ⟨A3, c3, rfl, ho3, hb3⟩
  exact ⟨_, _, _, rfl, A3, c3, rfl, ho3.mono hb2.size, hb2.trans (hb3.mono hb2.size)⟩
theorem openL_sealed {l : List UInt8} (h : 4 ≤ l.length) : (sealL (l.drop 4) = l) = (l.take 4 = le4 (crcSum (l.drop 4))) := by
  obtain ⟨a, b, c, d, r, rfl⟩ := four h
  unfold sealL
  simp only [List.drop_succ_cons, List.drop_zero, List.take_succ_cons, List.take_zero]
  rw [show a :: b :: c :: d :: r = [a, b, c, d] ++ r from rfl]
  simp only [List.append_cancel_right_eq]
  exact propext ⟨Eq.symm, Eq.symm⟩
theorem ROpen_ok {w : World} {A : Option Addr} {n c : Nat} {l : List UInt8} (hr : Go.Dn.RB w A l) (hn : n = l.length) (hlen : l.length ≤ 140737488355000) :
    Calls Tryd.prog 45 #[.slice A n c] w fun e w' => ∃ A' c', e = .returned (.tuple #[.slice A' (openL l).1.length c', .bool (openL l).2]) ∧ OwnB w' w.heap.size 5 A' c' (openL l).1 ∧ Below w.heap.size w w' := by
  subst hn
  apply f_ref02_Open.ok
  unfold f_ref02_Open.wp
  by_cases h4 : 4 ≤ l.length
  · refine sel_f (by simp; omega) ?_
    refine (Piece_ok (p := 4) (q := l.length) hr rfl (by omega) (Nat.le_refl _) h4).mono ?_
    rintro e w1 ⟨A1, c1, rfl, ho1, hb1⟩
    rw [List.take_length] at ho1 ⊢
    refine ⟨_, _, _, rfl, ?_⟩
    refine (RSeal_ok ho1.reads rfl (by rw [List.length_drop]; omega)).mono ?_
    rintro e w2 ⟨A2, c2, rfl, ho2, hb2⟩
    refine ⟨_, _, _, rfl, ?_⟩
    have hb12 := hb1.trans (hb2.mono hb1.size)
    refine (Same_ok ho2.reads (hr.below hb12 (Nat.le_refl _)) rfl rfl (by unfold sealL; rw [List.length_append, le4_length, List.length_drop]; omega)).mono ?_
    rintro e w3 ⟨rfl, hb3⟩
    have hb13 := hb12.trans (hb3.mono hb12.size)
    refine ⟨_, rfl, ?_⟩
    unfold openL
    rw [if_pos h4]
    by_cases he : l.take 4 = le4 (crcSum (l.drop 4))
    · rw [if_pos he]
      have : sealL (l.drop 4) = l := by rw [openL_sealed h4]; exact he
      refine sel_f (by simp [this]) ⟨A1, c1, rfl, (ho1.keep (hb2.trans (hb3.mono hb2.size))), hb13⟩
    · rw [if_neg he]
      have : ¬ sealL (l.drop 4) = l := by rw [openL_sealed h4]; exact he
      exact sel_t (by simp [this]) ⟨none, 0, rfl, World.ownsRow_nil _ _ _ _, hb13⟩
  · refine sel_t (by simp; omega) ⟨none, 0, ?_, ?_, Below.refl _ _⟩
    · unfold openL; rw [if_neg h4]; rfl
    · unfold openL; rw [if_neg h4]; exact World.ownsRow_nil _ _ _ _

end Go.Proofs.YtpokaafedpnbdaaDoor.Rd

/-! wal's laws: the log kept while blocks of other types turn. Conditions: none. -/
namespace Go.Proofs.YtpokaafedpnbdaaDoor.Rd
open Go.Dn Go.RowKit Go.Shelf
set_option linter.unusedVariables false
set_option linter.unusedSimpArgs false
set_option maxRecDepth 100000
section
variable {w w' : World} {N S : Nat → Prop} {B B1 : Nat} {r : RD} {d : Dk} {ρ : RL} {l : Lg} {xs : List (Int × List UInt8)} {mb : Bool}
theorem RcM.keepsT {m : MR} {rc : Rc} (h : RcM w N m rc) (k : Keeps S w w') (hT : ∀ k, S k → ∀ cs, ¬ HB w k cs TU8) : RcM w' N m rc :=
  have hn : ∀ a, m.A = some a → ¬ S a.block := fun a ha hs => by
    obtain ⟨cs, hc⟩ := h.ty a ha
    exact hT _ hs cs hc
  ⟨h.l, h.k, h.n, h.c, h.b, RBk h.rb k hn, fun a ha => ⟨Nat.lt_of_lt_of_le (h.a a ha).1 k.size, (h.a a ha).2⟩, fun a ha => by
    obtain ⟨cs, hc⟩ := h.ty a ha
    exact ⟨cs, hc.keeps k (hn a ha)⟩⟩
theorem LM.keepsT (h : LM w B r ρ l) (k : Keeps S w w') (hS : ∀ k, LN ρ k → ¬ S k) (hT : ∀ k, S k → ∀ cs, ¬ HB w k cs TU8) : LM w' B r ρ l := by
  obtain ⟨ms, h1, h2⟩ := h.rc
  exact ⟨h.hb.keeps k (hS _ (.inl rfl)), h.lo, OwnB.keepsB h.st k fun a ha => hS _ (.inr (.inl ⟨a, ha, rfl⟩)), ms, h1.keeps k fun a ha => hS _ (.inr (.inr ⟨a, ha, rfl⟩)), ⟨h2.1, fun i h h' => (h2.2 i h h').keepsT k hT⟩⟩
theorem WS.keepsT (h : WS w B r ρ d l xs mb) (k : Keeps S w w') (hS : ∀ k, WN r ρ k → ¬ S k) (hT : ∀ k, S k → ∀ cs, ¬ HB w k cs TU8) : WS w' B r ρ d l xs mb :=
  ⟨h.dm.keeps k fun b hb => hS b (.inl hb), h.lm.keepsT k (fun b hb => hS b (.inr hb)) hT, h.cr⟩
theorem appendL_f (l : Lg) (kind : Int) (u : List UInt8) : (appendL l kind u).1.first = l.first ∧ (appendL l kind u).1.count = l.count ∧ (appendL l kind u).1.run = l.run ∧ (appendL l kind u).1.most = l.most ∧ (appendL l kind u).1.dead = l.dead ∧ (appendL l kind u).1.old = l.old ∧ (appendL l kind u).1.safe = l.safe := by
  unfold appendL
  split; · exact ⟨rfl, rfl, rfl, rfl, rfl, rfl, rfl⟩
  split; · exact ⟨rfl, rfl, rfl, rfl, rfl, rfl, rfl⟩
  split; · exact ⟨rfl, rfl, rfl, rfl, rfl, rfl, rfl⟩
  split; · exact ⟨rfl, rfl, rfl, rfl, rfl, rfl, rfl⟩
  split; · exact ⟨rfl, rfl, rfl, rfl, rfl, rfl, rfl⟩
  exact ⟨rfl, rfl, rfl, rfl, rfl, rfl, rfl⟩
end
end Go.Proofs.YtpokaafedpnbdaaDoor.Rd

/-! A row of bytes among the arguments, opened. Conditions: none. -/
namespace Go.Proofs.YtpokaafedpnbdaaDoor.Rd
open Go.Dn Go.RowKit Go.Shelf Go.ChangeShapes Go.WideShapes Go.ChangeAt
set_option linter.unusedVariables false
set_option linter.unusedSimpArgs false
set_option maxRecDepth 100000
section
variable {H : Type} {enc : TypeId × Value → H} {w : World} {base : Nat} {held : Bool} {fuel : Nat}
theorem open_u8 {A : Option Addr} {len cap : Nat} {x : DataW H × List MemPlace} (h : DataW.trod enc Tryd.prog w base (fun _ => true) held fuel 29 [.slice A len cap] = some x) :
    ∃ l : List UInt8, l.length = len ∧ Go.Dn.RB w A l ∧ (A = none → cap = 0) ∧ l.length ≤ cap ∧ ((∀ v ∈ x.1.weights Tryd.prog 29, v ≤ reachBytes) → l.length * 1 ≤ 140737488351232) := by
  obtain ⟨l0, h1, _, _, _, _, h6⟩ := open_num (κ := .u8) (by_ := 1) (r := 5) (by kernel_rfl) (by kernel_rfl) (by kernel_rfl) (by kernel_rfl) h
  have hI : ∃ zs, IsRow .u8 w A len cap zs := by
    rcases open_ints (P := Tryd.prog) (t := 29) (e := 5) (by kernel_rfl) (by kernel_rfl) (by kernel_rfl) h with ⟨hcs, _⟩ | ⟨x, l, c, zs, hcs, _, hl, hm, hz, _, hcell, hwz⟩
    · simp [Value.cells] at hcs
      obtain ⟨rfl, rfl, rfl⟩ := hcs
      exact ⟨[], .inl ⟨rfl, rfl, rfl, rfl⟩⟩
    · simp [Value.cells] at hcs
      obtain ⟨rfl, rfl, rfl⟩ := hcs
      exact ⟨zs, .inr ⟨_, rfl, hl, hm, by simpa using hz, hcell, hwz⟩⟩
  obtain ⟨zs, hI⟩ := hI
  obtain ⟨l, r1, r2, r3, r4⟩ := rb_of_row hI
  exact ⟨l, r2.symm, r1, r3, r4, fun hw => by have := h6 hw; omega⟩
end
end Go.Proofs.YtpokaafedpnbdaaDoor.Rd

/-! A script of a log's calls: in memory, and among the arguments. Conditions: none. -/
namespace Go.Proofs.YtpokaafedpnbdaaDoor.Rd
open Go.Dn Go.RowKit Go.Shelf
set_option linter.unusedVariables false
set_option linter.unusedSimpArgs false
set_option maxRecDepth 100000
abbrev TWo : TypeId := 33
structure WOp where
  kind : Int
  n : Int
  t : Int
  A1 : Option Addr
  c1 : Nat
  data : List UInt8
  A2 : Option Addr
  c2 : Nat
  keeps : List Int
  A3 : Option Addr
  c3 : Nat
  fates : List Ft
def wopE (o : WOp) : List Value := [.int .i64 o.kind, .int .i64 o.n, .int .i64 o.t, .slice o.A1 o.data.length o.c1, .slice o.A2 o.keeps.length o.c2, .slice o.A3 o.fates.length o.c3]
theorem Ewop : Enc wopE 6 := ⟨fun _ => rfl, fun x u hu => by simp only [wopE, List.mem_cons, List.not_mem_nil, or_false] at hu; rcases hu with rfl | rfl | rfl | rfl | rfl | rfl <;> rfl, by decide⟩
theorem RTo : RecTy Tryd.prog 22 TWo 6 96 := ⟨by kernel_rfl, by kernel_rfl⟩
structure OkW (w : World) (o : WOp) : Prop where
  r1 : Go.Dn.RB w o.A1 o.data
  r2 : RI w o.A2 o.keeps
  r3 : RowE eF 2 w o.A3 o.fates
  z1 : o.A1 = none → o.c1 = 0
  d1 : o.data.length ≤ o.c1
  z3 : o.A3 = none → o.c3 = 0 ∧ o.fates.length = 0
  b2 : o.keeps ≠ [] → ∀ a, o.A2 = some a → a.block < w.heap.size
  b3 : o.fates ≠ [] → ∀ a, o.A3 = some a → a.block < w.heap.size
  l1 : o.data.length ≤ 140737488355000
  l2 : o.keeps.length ≤ 140737488355328
  l3 : o.fates.length * 16 ≤ 140737488355328
theorem OkW.below {w w' : World} {o : WOp} (h : OkW w o) (k : Below w.heap.size w w') : OkW w' o := by
  refine ⟨h.r1.below k (Nat.le_refl _), ?_, h.r3.below EF k, h.z1, h.d1, h.z3, fun h0 a ha => Nat.lt_of_lt_of_le (h.b2 h0 a ha) k.size, fun h0 a ha => Nat.lt_of_lt_of_le (h.b3 h0 a ha) k.size, h.l1, h.l2, h.l3⟩
  intro i hi
  obtain ⟨a, ha, hc⟩ := h.r2 i hi
  exact ⟨a, ha, (k.cell (World.block_lt_of_cell? _ _ hc)).trans hc⟩
structure RWo (w : World) (A : Option Addr) (ops : List WOp) : Prop where
  row : RowE wopE 6 w A ops
  ok : ∀ o ∈ ops, OkW w o
  len : ops.length * 96 ≤ 140737488351232
  z : A = none → ops.length = 0
theorem wop_ld {w : World} {A : Option Addr} {ops : List WOp} {N : Nat} (hN : N = ops.length) (h : RowE wopE 6 w A ops) {i : Nat} (hi : i < ops.length) {K : Int → Int → Int → Option Addr → Nat → Nat → Option Addr → Nat → Nat → Option Addr → Nat → Nat → Prop}
    (hk : K ops[i].kind ops[i].n ops[i].t ops[i].A1 ops[i].data.length ops[i].c1 ops[i].A2 ops[i].keeps.length ops[i].c2 ops[i].A3 ops[i].fates.length ops[i].c3) :
    optB A fun a => req (decide (0 ≤ (i : Int) ∧ (i : Int) < (N : Int))) <| ldI w (a.add ((i : Int).toNat * 6)) .i64 fun x8 => ldI w ((a.add ((i : Int).toNat * 6)).add 1) .i64 fun x9 => ldI w ((a.add ((i : Int).toNat * 6)).add 2) .i64 fun xt =>
      ldS w ((a.add ((i : Int).toNat * 6)).add 3) fun A10 n10 c10 => ldS w ((a.add ((i : Int).toNat * 6)).add 4) fun A11 n11 c11 => ldS w ((a.add ((i : Int).toNat * 6)).add 5) fun A12 n12 c12 => K x8 x9 xt A10 n10 c10 A11 n11 c11 A12 n12 c12 := by
  subst hN
  obtain ⟨a, rfl, hc⟩ := h i hi
  rw [show ((i : Int).toNat) = i by omega]
  refine optB_some rfl (req_intro (by simp; omega) ?_)
  refine ldI_intro (x := ops[i].kind) (by have := h.c0 Ewop hi; rw [this]; rfl) (ldI_intro (x := ops[i].n) (by have := h.cj hi (j := 1) (by decide); rw [this]; rfl) (ldI_intro (x := ops[i].t) (by have := h.cj hi (j := 2) (by decide); rw [this]; rfl) ?_))
  refine ldS_intro (A := ops[i].A1) (n := ops[i].data.length) (c := ops[i].c1) (by have := h.cj hi (j := 3) (by decide); rw [this]; rfl) ?_
  refine ldS_intro (A := ops[i].A2) (n := ops[i].keeps.length) (c := ops[i].c2) (by have := h.cj hi (j := 4) (by decide); rw [this]; rfl) ?_
  exact ldS_intro (A := ops[i].A3) (n := ops[i].fates.length) (c := ops[i].c3) (by have := h.cj hi (j := 5) (by decide); rw [this]; rfl) hk
/-- a call laid into a box of its own -/
theorem wop_box {w : World} {o : WOp} {K : Nat → World → Prop} (hk : ∀ b w', b = w.heap.size → HB w' b (wopE o).toArray TWo → Below w.heap.size w w' → K b w') :
    alW w (.cells #[.int .i64 (0 : Int), .int .i64 (0 : Int), .int .i64 (0 : Int), .slice none 0 0, .slice none 0 0, .slice none 0 0] TWo) fun b w14 =>
    stW w14 (⟨b, 0, Option.none⟩ : Addr) (.int .i64 o.kind) fun w15 =>
    stW w15 ((⟨b, 0, Option.none⟩ : Addr).add 1) (.int .i64 o.n) fun w16 =>
    stW w16 ((⟨b, 0, Option.none⟩ : Addr).add 2) (.int .i64 o.t) fun w17 =>
    stW w17 ((⟨b, 0, Option.none⟩ : Addr).add 3) (.slice o.A1 o.data.length o.c1) fun w18 =>
    stW w18 ((⟨b, 0, Option.none⟩ : Addr).add 4) (.slice o.A2 o.keeps.length o.c2) fun w19 =>
    stW w19 ((⟨b, 0, Option.none⟩ : Addr).add 5) (.slice o.A3 o.fates.length o.c3) fun w20 => K b w20 := by
  refine al_new fun w1 b e s h g => hb_st0 h (by simp) fun w2 h2 k2 => hb_st h2 (by simp) fun w3 h3 k3 => hb_st h3 (by simp) fun w4 h4 k4 => hb_st h4 (by simp) fun w5 h5 k5 => hb_st h5 (by simp) fun w6 h6 k6 => hb_st h6 (by simp) fun w7 h7 k7 => ?_
  have kk := ((((k2.trans k3).trans k4).trans k5).trans k6).trans k7
  exact hk b w7 e h7 (g.trans (kk.below g.size fun i hi e' => by omega))
/-! ### opened -/
theorem und_ft : ∃ f0 f1, Tryd.prog.underlying TFt = some (.struct ⟨[f0, f1]⟩) ∧ f0.offset = 0 ∧ f1.offset = 1 ∧ f0.type = 3 ∧ f1.type = 3 := by
  have h : (match Tryd.prog.underlying TFt with | some (.struct ⟨[f0, f1]⟩) => Nat.beq f0.offset 0 && Nat.beq f1.offset 1 && Nat.beq f0.type 3 && Nat.beq f1.type 3 | _ => false) = true := by kernel_rfl
  split at h
  · rename_i f0 f1 hu
    simp only [Bool.and_eq_true] at h
    obtain ⟨⟨⟨a, b⟩, c⟩, e⟩ := h
    exact ⟨f0, f1, hu, Nat.eq_of_beq_eq_true a, Nat.eq_of_beq_eq_true b, Nat.eq_of_beq_eq_true c, Nat.eq_of_beq_eq_true e⟩
  · cases h
theorem und_wop : ∃ f0 f1 ft f2 f3 f4, Tryd.prog.underlying TWo = some (.struct ⟨[f0, f1, ft, f2, f3, f4]⟩) ∧ (f0.offset = 0 ∧ f1.offset = 1 ∧ ft.offset = 2 ∧ f2.offset = 3 ∧ f3.offset = 4 ∧ f4.offset = 5) ∧ f0.type = 3 ∧ f1.type = 3 ∧ ft.type = 2 ∧ f2.type = 29 ∧ f3.type = 30 ∧ f4.type = 31 := by
  have h : (match Tryd.prog.underlying TWo with | some (.struct ⟨[f0, f1, ft, f2, f3, f4]⟩) => (Nat.beq f0.offset 0 && Nat.beq f1.offset 1 && Nat.beq ft.offset 2 && Nat.beq f2.offset 3 && Nat.beq f3.offset 4 && Nat.beq f4.offset 5) && (Nat.beq f0.type 3 && Nat.beq f1.type 3 && Nat.beq ft.type 2 && Nat.beq f2.type 29 && Nat.beq f3.type 30 && Nat.beq f4.type 31) | _ => false) = true := by kernel_rfl
  split at h
  · rename_i f0 f1 ft f2 f3 f4 hu
    simp only [Bool.and_eq_true] at h
    obtain ⟨⟨⟨⟨⟨⟨a0, a1⟩, a2⟩, a3⟩, a4⟩, a5⟩, ⟨⟨⟨⟨⟨b0, b1⟩, b2⟩, b3⟩, b4⟩, b5⟩⟩ := h
    exact ⟨f0, f1, ft, f2, f3, f4, hu, ⟨Nat.eq_of_beq_eq_true a0, Nat.eq_of_beq_eq_true a1, Nat.eq_of_beq_eq_true a2, Nat.eq_of_beq_eq_true a3, Nat.eq_of_beq_eq_true a4, Nat.eq_of_beq_eq_true a5⟩, Nat.eq_of_beq_eq_true b0, Nat.eq_of_beq_eq_true b1, Nat.eq_of_beq_eq_true b2, Nat.eq_of_beq_eq_true b3, Nat.eq_of_beq_eq_true b4, Nat.eq_of_beq_eq_true b5⟩
  · cases h
section
variable {H : Type} {enc : TypeId × Value → H} {w : World} {base : Nat} {held : Bool} {fuel : Nat}
theorem ri_of {A : Option Addr} {l : List Int} (h : RowE (fun z : Int => [.int .i64 z]) 1 w A l) : RI w A l := fun i hi => by
  obtain ⟨a, ha, hc⟩ := h i hi
  refine ⟨a, ha, ?_⟩
  have := hc 0 (by decide)
  rw [Nat.mul_one, Go.Dn.add_zero] at this
  simpa using this
theorem open_is {A : Option Addr} {len cap : Nat} {x : DataW H × List MemPlace} (h : DataW.trod enc Tryd.prog w base (fun _ => true) held fuel 30 [.slice A len cap] = some x) :
    ∃ l : List Int, l.length = len ∧ RI w A l ∧ (l ≠ [] → ∀ a, A = some a → a.block < w.heap.size) ∧ ((∀ v ∈ x.1.weights Tryd.prog 30, v ≤ reachBytes) → l.length * 8 ≤ 140737488351232) := by
  obtain ⟨l, h1, h2, h3, h4, h5, h6⟩ := open_num (κ := .i64) (by_ := 8) (r := 3) (by kernel_rfl) (by kernel_rfl) (by kernel_rfl) (by kernel_rfl) h
  exact ⟨l, h1, ri_of h2, h4, h6⟩
theorem open_fts {A : Option Addr} {len cap : Nat} {x : DataW H × List MemPlace} (h : DataW.trod enc Tryd.prog w base (fun _ => true) held fuel 31 [.slice A len cap] = some x) :
    ∃ l : List Ft, l.length = len ∧ RowE eF 2 w A l ∧ (A = none → cap = 0 ∧ l.length = 0) ∧ (l ≠ [] → ∀ a, A = some a → a.block < w.heap.size) ∧ ((∀ v ∈ x.1.weights Tryd.prog 31, v ≤ reachBytes) → l.length * 16 ≤ 140737488351232) := by
  obtain ⟨f0, f1, hu, o0, o1, t0, t1⟩ := und_ft
  obtain ⟨l, h1, h2, h3, h4, h5, _, h7⟩ := open_gen (enc' := eF) (k := 2) (by_ := 16) (r := TFt) EF (by kernel_rfl) (by kernel_rfl) (by kernel_rfl) (Q := fun _ _ => True) (fun n cs y hl hy => by
    obtain ⟨xs, m, _, hya, hl2, hxl, hf⟩ := DataW.trod_struct hu hy
    obtain ⟨q0, q1, rfl⟩ : ∃ u v, cs = [u, v] := by match cs, hl with | [u, v], _ => exact ⟨_, _, rfl⟩
    have hx2 : xs.length = 2 := hxl
    have c1 : Tryd.prog.cellsOf 3 = 1 := by kernel_rfl
    have a0 := hf 0 f0 rfl
    have a1 := hf 1 f1 rfl
    rw [o0, t0, c1, List.getElem?_eq_getElem (by omega)] at a0
    rw [o1, t1, c1, List.getElem?_eq_getElem (by omega)] at a1
    obtain ⟨z0, e0, _, _⟩ := DataW.trod_int Kint (one_of' (by simp) a0)
    obtain ⟨z1, e1, _, _⟩ := DataW.trod_int Kint (one_of' (by simp) a1)
    injection e0 with e0
    injection e1 with e1
    have e0 : q0 = _ := e0
    have e1 : q1 = _ := e1
    subst e0; subst e1
    exact ⟨(z0, z1), rfl, trivial⟩) h
  exact ⟨l, h1, h2, h3, h4, h7⟩
theorem open_wops {A : Option Addr} {len cap : Nat} {x : DataW H × List MemPlace} (h : DataW.trod enc Tryd.prog w base (fun _ => true) held fuel 22 [.slice A len cap] = some x) (hcap : ∀ v ∈ x.1.weights Tryd.prog 22, v ≤ reachBytes) :
    ∃ ops : List WOp, ops.length = len ∧ RWo w A ops ∧ (A = none → cap = 0) ∧ ((x.1 = .nil ∧ ops = []) ∨ ∃ el rs, x.1 = .slice el rs ∧ el.length = ops.length) := by
  obtain ⟨f0, f1, ft, f2, f3, f4, hu, ⟨o0, o1, ot, o2, o3, o4⟩, t0, t1, tt, t2, t3, t4⟩ := und_wop
  have hT : Tryd.prog.underlying 22 = some (.slice TWo) := by kernel_rfl
  have K64 : Tryd.prog.underlying 2 = some (.int .i64) := by kernel_rfl
  obtain ⟨l, h1, h2, h3, h4, h5, h6, h7⟩ := open_gen (enc' := wopE) (k := 6) (by_ := 96) (r := TWo) Ewop hT (by kernel_rfl) (by kernel_rfl)
    (Q := fun o d => (∀ v ∈ d.weights Tryd.prog TWo, v ≤ reachBytes) → OkW w o) (fun n cs y hl hy => by
    obtain ⟨xs, m, _, hya, hl2, hxl, hf⟩ := DataW.trod_struct hu hy
    obtain ⟨q0, q1, qt, q2, q3, q4, rfl⟩ : ∃ u v z s t r, cs = [u, v, z, s, t, r] := by match cs, hl with | [u, v, z, s, t, r], _ => exact ⟨_, _, _, _, _, _, rfl⟩
    have hx5 : xs.length = 6 := hxl
    obtain ⟨y0, y1, yt, y2, y3, y4, rfl⟩ : ∃ u v z s t r, xs = [u, v, z, s, t, r] := by match xs, hx5 with | [u, v, z, s, t, r], _ => exact ⟨_, _, _, _, _, _, rfl⟩
    have c1 : Tryd.prog.cellsOf 3 = 1 := by kernel_rfl
    have ct : Tryd.prog.cellsOf 2 = 1 := by kernel_rfl
    have c2 : Tryd.prog.cellsOf 29 = 1 := by kernel_rfl
    have c3 : Tryd.prog.cellsOf 30 = 1 := by kernel_rfl
    have c4 : Tryd.prog.cellsOf 31 = 1 := by kernel_rfl
    have a0 := hf 0 f0 rfl
    have a1 := hf 1 f1 rfl
    have at' := hf 2 ft rfl
    have a2 := hf 3 f2 rfl
    have a3 := hf 4 f3 rfl
    have a4 := hf 5 f4 rfl
    rw [o0, t0, c1, List.getElem?_eq_getElem (by simp)] at a0
    rw [o1, t1, c1, List.getElem?_eq_getElem (by simp)] at a1
    rw [ot, tt, ct, List.getElem?_eq_getElem (by simp)] at at'
    rw [o2, t2, c2, List.getElem?_eq_getElem (by simp)] at a2
    rw [o3, t3, c3, List.getElem?_eq_getElem (by simp)] at a3
    rw [o4, t4, c4, List.getElem?_eq_getElem (by simp)] at a4
    obtain ⟨z0, e0, _, _⟩ := DataW.trod_int Kint (one_of' (by simp) a0)
    obtain ⟨z1, e1, _, _⟩ := DataW.trod_int Kint (one_of' (by simp) a1)
    obtain ⟨zt, et, _, _⟩ := DataW.trod_int K64 (one_of' (by simp) at')
    have a2 := one_of' (j := 3) (by simp) a2
    have a3 := one_of' (j := 4) (by simp) a3
    have a4 := one_of' (j := 5) (by simp) a4
    have sl : ∀ {t r : TypeId} {q : Value} {n : Nat} {y : DataW H × List MemPlace}, Tryd.prog.underlying t = some (.slice r) → DataW.trod enc Tryd.prog w base (fun _ => true) held n t [q] = some y → ∃ A l c, q = .slice A l c := fun ht h => by
      rcases DataW.trod_slice ht h with ⟨q, _⟩ | ⟨a', l', c', _, _, _, _, q, _⟩
      · injection q with q; exact ⟨_, _, _, q⟩
      · injection q with q; exact ⟨_, _, _, q⟩
    obtain ⟨A2, len2, cap2, e2⟩ := sl (r := 5) (by kernel_rfl) a2
    obtain ⟨A3, len3, cap3, e3⟩ := sl (r := 3) (by kernel_rfl) a3
    obtain ⟨A4, len4, cap4, e4⟩ := sl (r := TFt) (by kernel_rfl) a4
    injection e0 with e0
    injection e1 with e1
    injection et with et
    have e0 : q0 = _ := e0
    have e1 : q1 = _ := e1
    have et : qt = _ := et
    have e2 : q2 = _ := e2
    have e3 : q3 = _ := e3
    have e4 : q4 = _ := e4
    subst e0; subst e1; subst et; subst e2; subst e3; subst e4
    obtain ⟨l2, p1, p2, p3, p4, p5⟩ := open_u8 a2
    obtain ⟨l3, r1, r2, r3, r4⟩ := open_is a3
    obtain ⟨l4, s1, s2, s3, s4, s5⟩ := open_fts a4
    subst p1; subst r1; subst s1
    refine ⟨⟨z0, z1, zt, A2, cap2, l2, A3, cap3, l3, A4, cap4, l4⟩, rfl, fun hw => ?_⟩
    rw [hya] at hw
    simp only [DataW.weights, hu, List.map_cons, List.map_nil, DataW.weightsEach, t0, t1, tt, t2, t3, t4] at hw
    have w2 := p5 fun v hv => hw v (by simp only [List.mem_append]; exact .inr (.inr (.inr (.inl hv))))
    have w3 := r4 fun v hv => hw v (by simp only [List.mem_append]; exact .inr (.inr (.inr (.inr (.inl hv)))))
    have w4 := s5 fun v hv => hw v (by simp only [List.mem_append]; exact .inr (.inr (.inr (.inr (.inr (.inl hv))))))
    exact ⟨p2, r2, s2, p3, p4, s3, r3, s4, by show l2.length ≤ _; omega, by show l3.length ≤ _; omega, by show l4.length * 16 ≤ _; omega⟩) h
  refine ⟨l, h1, ⟨h2, fun o ho => ?_, h7 hcap, fun e => (h3 e).2⟩, fun e => (h3 e).1, h6.imp id fun ⟨el, rs, q1, q2, _⟩ => ⟨el, rs, q1, q2⟩⟩
  obtain ⟨i, hi, rfl⟩ := List.getElem_of_mem ho
  rcases h6 with ⟨_, h6⟩ | ⟨el, rs, hx, hel, h6⟩
  · subst h6; cases hi
  · obtain ⟨d, hd, hq⟩ := h6 i hi
    refine hq fun v hv => hcap v ?_
    rw [hx]
    simp only [DataW.weights, hT]
    exact List.mem_cons_of_mem _ (List.mem_append_left _ (wt_in (List.mem_of_getElem? hd) hv))
end
end Go.Proofs.YtpokaafedpnbdaaDoor.Rd

/-! The power comes back; a log opened takes records. Conditions: none. -/
namespace Go.Proofs.YtpokaafedpnbdaaDoor.Rd
open Go.Dn Go.RowKit Go.Shelf
set_option linter.unusedVariables false
set_option linter.unusedSimpArgs false
set_option maxRecDepth 100000
theorem hdI_i {S : World → Prop} {b j : Nat} {cs : Array Value} {t : TypeId} (h : ∀ w, S w → HB w b cs t) {x : Int} (hj : cs[j]? = some (.int .i64 x)) {K : Int → Prop} (hk : K x) : hdI S ((⟨b, 0, none⟩ : Addr).add j) .i64 K := ⟨_, fun w hs => ((h w hs).cell j).trans hj, hk⟩
theorem hdS_i {S : World → Prop} {b j : Nat} {cs : Array Value} {t : TypeId} (h : ∀ w, S w → HB w b cs t) {A : Option Addr} {n c : Nat} (hj : cs[j]? = some (.slice A n c)) {K : Option Addr → Nat → Nat → Prop} (hk : K A n c) : hdS S ((⟨b, 0, none⟩ : Addr).add j) K := ⟨_, _, _, fun w hs => ((h w hs).cell j).trans hj, hk⟩
section
variable {w w' : World} {B : Nat} {r : RD} {d : Dk}
/-- On, where nothing at all is kept and the slice lies wherever it likes -/
theorem On0_ok (h : DM w B r d) {A : Option Addr} {c : Nat} :
    Calls Tryd.prog 17 #[.pointer (some ⟨r.D, 0, none⟩), .slice A 0 c] w fun e w' => e = .returned (.tuple #[]) ∧ DM w' B r (onD d []) ∧ Keeps (FD r) w w' := by
  apply f_disk_Disk_On.ok
  unfold f_disk_Disk_On.wp
  refine ⟨1, ?_⟩
  unfold f_disk_Disk_On.l0
  refine sel_f (by simp) ?_
  intro _
  refine hb_ldM (j := 1) h.hb rfl (h.gm.clear KTs fun w2 gm2 k2 => ⟨rfl, ?_⟩)
  obtain ⟨d1, d2, d3, d4, d5, d6⟩ := h.dd
  have h2 : DM w2 B r { d with pend := [] } := ⟨h.hb.keeps k2 d1, h.sf.keeps k2 fun a ha e => d3 ⟨a, ha, e⟩, gm2, h.pl.keeps k2 fun a ha e => d5 ⟨a, ha, e⟩, h.lo, h.sl, (fun p hp => by cases hp), h.pn⟩
  refine hb_st (j := 4) h2.hb (by simp [dkC, dC]) fun w3 h3 k3 => ⟨rfl, ?_, ?_⟩
  · have e : onD d [] = { d with pend := [], off := false } := by unfold onD; rw [kept_nil]
    rw [e]
    exact h2.reD (d' := { d with pend := [], off := false }) k3 (fun b _ hn e => hn e) h3 rfl rfl rfl
  · exact (k2.mono fun k _ e => .inr (.inl e)).trans (k3.mono fun k _ e => .inl e)
theorem On1_ok (h : DM w B r d) {A : Option Addr} {c B0 : Nat} {ks : List Int} (hr : RI w A ks) (hb : ks ≠ [] → ∀ a, A = some a → a.block < B0) (hB : B0 ≤ B) (hle : ks.length ≤ 140737488355328) :
    Calls Tryd.prog 17 #[.pointer (some ⟨r.D, 0, none⟩), .slice A ks.length c] w fun e w' => e = .returned (.tuple #[]) ∧ DM w' B r (onD d ks) ∧ Keeps (FD r) w w' := by
  by_cases h0 : ks = []
  · subst h0; exact On0_ok h
  · exact On_ok h hr rfl (fun a ha hk => by have := hb h0 a ha; have := (h.lt a.block (.inr (.inr (.inl hk)))).2; omega) (by omega)
end
section
variable {w w' : World} {B : Nat}
theorem lt_runs' {a b s t K : Nat} (h : a ≤ b) (hs : s ≤ K) : a * K + s ≤ (b + 1) * K + t := by
  have h1 : a * K ≤ b * K := Nat.mul_le_mul_right K h
  have h2 : (b + 1) * K = b * K + K := by rw [Nat.add_mul, Nat.one_mul]
  rw [h2]
  exact Nat.le_trans (Nat.add_le_add h1 hs) (Nat.le_add_right _ _)
theorem lt_runs {a b s t : Nat} (h : a ≤ b) (hs : s ≤ 7968) : a * 16777216 + s ≤ (b + 1) * 16777216 + t := lt_runs' h (Nat.le_trans hs (by decide))
/-- a log opened takes records again -/
theorem reset6 {Q : Ending → World → Prop} {r2 : RD} {ρ2 : RL} {d2 : Dk} {l2 : Lg} {ys : List (Int × List UInt8)} (S : WS w B r2 ρ2 d2 l2 ys false) (np : NP d2) (hd : l2.dead = false) (hm : l2.most < 274877906944)
    (hK : ∀ w' ρ', ρ'.L = ρ2.L → WS w' B r2 ρ' (resetL d2 l2).1 (freshL l2) [] false → (∀ k, LN ρ' k → LN ρ2 k) → Keeps (WN r2 ρ2) w w' → Q (.returned (.int .i64 0)) w') :
    Calls Tryd.prog 13 #[.pointer (some ⟨ρ2.L, 0, none⟩)] w Q := by
  have hz := S.cr.sz
  have hc := S.cr.lg.c0
  obtain ⟨q1, q2⟩ := np.reset (l := l2) hd hm (by omega)
  obtain ⟨c0, _⟩ := S.cr.reset
  obtain ⟨e1, e2, e3, C1⟩ := c0 q1
  refine (Reset_ok S.dm S.lm S.cr.lg S.lo).mono ?_
  rintro _ w1 ⟨rfl, m1, ⟨ρ1, eL, l1, n1⟩, k1⟩
  rw [e3] at l1
  rw [q1]
  exact hK w1 ρ1 eL ⟨m1, l1, C1⟩ n1 k1
end
end Go.Proofs.YtpokaafedpnbdaaDoor.Rd

/-! The document's calls of the log over nothing at all: that they end. Conditions: none. -/
namespace Go.Proofs.YtpokaafedpnbdaaDoor.Rd
open Go.Dn Go.RowKit Go.Shelf
set_option linter.unusedVariables false
set_option linter.unusedSimpArgs false
set_option maxRecDepth 100000
/-- a log's nine cells, a disk's four -/
def g9 (x0 x1 x2 x3 : Int) (A : Option Addr) (n c : Nat) (x5 : Int) (A' : Option Addr) (n' c' : Nat) (b7 b8 : Bool) : Array Value := #[.int .i64 x0, .int .i64 x1, .int .i64 x2, .int .i64 x3, .slice A n c, .int .i64 x5, .slice A' n' c', .bool b7, .bool b8]
def g4 (A : Option Addr) (n c : Nat) (A' : Option Addr) (n' c' : Nat) (x2 : Int) (b3 : Bool) : Array Value := #[.slice A n c, .slice A' n' c', .int .i64 x2, .bool b3]
abbrev z9 : Array Value := g9 0 0 0 0 none 0 0 0 none 0 0 false false
abbrev z4 : Array Value := g4 none 0 0 none 0 0 0 false
section
variable {w : World} {b : Nat} {t : TypeId} {x0 x1 x2 x3 x5 : Int} {A A' : Option Addr} {n c n' c' : Nat} {b7 b8 b3 : Bool}
theorem hb_ldB' {cs : Array Value} (h : HB w b cs t) {j : Nat} {x : Bool} (hj : cs[j]? = some (.bool x)) {K : Bool → Prop} (hk : K x) : ldB w ((⟨b, 0, none⟩ : Addr).add j) K := ⟨_, (h.cell j).trans hj, hk⟩
theorem ld9 (h : HB w b (g9 x0 x1 x2 x3 A n c x5 A' n' c' b7 b8) t) {K : Int → Int → Int → Int → Option Addr → Nat → Nat → Int → Option Addr → Nat → Nat → Bool → Bool → Prop} (hk : K x0 x1 x2 x3 A n c x5 A' n' c' b7 b8) :
    ldI w (⟨b, 0, Option.none⟩ : Addr) .i64 fun y0 => ldI w ((⟨b, 0, Option.none⟩ : Addr).add 1) .i64 fun y1 => ldI w ((⟨b, 0, Option.none⟩ : Addr).add 2) .i64 fun y2 => ldI w ((⟨b, 0, Option.none⟩ : Addr).add 3) .i64 fun y3 =>
    ldS w ((⟨b, 0, Option.none⟩ : Addr).add 4) fun A4 n4 c4 => ldI w ((⟨b, 0, Option.none⟩ : Addr).add 5) .i64 fun y5 => ldS w ((⟨b, 0, Option.none⟩ : Addr).add 6) fun A6 n6 c6 => ldB w ((⟨b, 0, Option.none⟩ : Addr).add 7) fun y7 => ldB w ((⟨b, 0, Option.none⟩ : Addr).add 8) fun y8 => K y0 y1 y2 y3 A4 n4 c4 y5 A6 n6 c6 y7 y8 :=
  hb_ldI0 h rfl (hb_ldI h (j := 1) rfl (hb_ldI h (j := 2) rfl (hb_ldI h (j := 3) rfl (hb_ldS h (j := 4) rfl (hb_ldI h (j := 5) rfl (hb_ldS h (j := 6) rfl (hb_ldB' h (j := 7) rfl (hb_ldB' h (j := 8) rfl hk))))))))
theorem ld4 (h : HB w b (g4 A n c A' n' c' x2 b3) t) {K : Option Addr → Nat → Nat → Option Addr → Nat → Nat → Int → Bool → Prop} (hk : K A n c A' n' c' x2 b3) :
    ldS w (⟨b, 0, Option.none⟩ : Addr) fun A0 n0 c0 => ldS w ((⟨b, 0, Option.none⟩ : Addr).add 1) fun A1 n1 c1 => ldI w ((⟨b, 0, Option.none⟩ : Addr).add 2) .i64 fun y2 => ldB w ((⟨b, 0, Option.none⟩ : Addr).add 3) fun y3 => K A0 n0 c0 A1 n1 c1 y2 y3 :=
  ldS_intro ((h.cell 0).trans rfl) (hb_ldS h (j := 1) rfl (hb_ldI h (j := 2) rfl (hb_ldB' h (j := 3) rfl hk)))
theorem st9 (h : HB w b z9 t) {K : World → Prop} (hk : ∀ w', HB w' b (g9 x0 x1 x2 x3 A n c x5 A' n' c' b7 b8) t → Keeps (fun k => k = b) w w' → K w') :
    stW w (⟨b, 0, Option.none⟩ : Addr) (.int .i64 x0) fun w1 => stW w1 ((⟨b, 0, Option.none⟩ : Addr).add 1) (.int .i64 x1) fun w2 => stW w2 ((⟨b, 0, Option.none⟩ : Addr).add 2) (.int .i64 x2) fun w3 => stW w3 ((⟨b, 0, Option.none⟩ : Addr).add 3) (.int .i64 x3) fun w4 =>
    stW w4 ((⟨b, 0, Option.none⟩ : Addr).add 4) (.slice A n c) fun w5 => stW w5 ((⟨b, 0, Option.none⟩ : Addr).add 5) (.int .i64 x5) fun w6 => stW w6 ((⟨b, 0, Option.none⟩ : Addr).add 6) (.slice A' n' c') fun w7 => stW w7 ((⟨b, 0, Option.none⟩ : Addr).add 7) (.bool b7) fun w8 => stW w8 ((⟨b, 0, Option.none⟩ : Addr).add 8) (.bool b8) fun w9 => K w9 := by
  refine hb_st0 h (by simp [g9]) fun w1 h1 k1 => ?_
  have h1 : HB w1 b (g9 x0 0 0 0 none 0 0 0 none 0 0 false false) t := h1
  refine hb_st h1 (by simp [g9]) fun w2 h2 k2 => ?_
  have h2 : HB w2 b (g9 x0 x1 0 0 none 0 0 0 none 0 0 false false) t := h2
  refine hb_st h2 (by simp [g9]) fun w3 h3 k3 => ?_
  have h3 : HB w3 b (g9 x0 x1 x2 0 none 0 0 0 none 0 0 false false) t := h3
  refine hb_st h3 (by simp [g9]) fun w4 h4 k4 => ?_
  have h4 : HB w4 b (g9 x0 x1 x2 x3 none 0 0 0 none 0 0 false false) t := h4
  refine hb_st h4 (by simp [g9]) fun w5 h5 k5 => ?_
  have h5 : HB w5 b (g9 x0 x1 x2 x3 A n c 0 none 0 0 false false) t := h5
  refine hb_st h5 (by simp [g9]) fun w6 h6 k6 => ?_
  have h6 : HB w6 b (g9 x0 x1 x2 x3 A n c x5 none 0 0 false false) t := h6
  refine hb_st h6 (by simp [g9]) fun w7 h7 k7 => ?_
  have h7 : HB w7 b (g9 x0 x1 x2 x3 A n c x5 A' n' c' false false) t := h7
  refine hb_st h7 (by simp [g9]) fun w8 h8 k8 => ?_
  have h8 : HB w8 b (g9 x0 x1 x2 x3 A n c x5 A' n' c' b7 false) t := h8
  refine hb_st h8 (by simp [g9]) fun w9 h9 k9 => ?_
  exact hk w9 h9 ((((((((k1.trans k2).trans k3).trans k4).trans k5).trans k6).trans k7).trans k8).trans k9)
theorem st4 (h : HB w b z4 t) {K : World → Prop} (hk : ∀ w', HB w' b (g4 A n c A' n' c' x2 b3) t → Keeps (fun k => k = b) w w' → K w') :
    stW w (⟨b, 0, Option.none⟩ : Addr) (.slice A n c) fun w1 => stW w1 ((⟨b, 0, Option.none⟩ : Addr).add 1) (.slice A' n' c') fun w2 => stW w2 ((⟨b, 0, Option.none⟩ : Addr).add 2) (.int .i64 x2) fun w3 => stW w3 ((⟨b, 0, Option.none⟩ : Addr).add 3) (.bool b3) fun w4 => K w4 :=
  hb_st0 h (by simp [g4]) fun w1 h1 k1 => hb_st h1 (by simp [g4]) fun w2 h2 k2 => hb_st h2 (by simp [g4]) fun w3 h3 k3 => hb_st h3 (by simp [g4]) fun w4 h4 k4 => hk w4 h4 (((k1.trans k2).trans k3).trans k4)
theorem hd9 {S : World → Prop} (h : ∀ w, S w → HB w b (g9 x0 x1 x2 x3 A n c x5 A' n' c' b7 b8) t) {K : Int → Int → Int → Int → Option Addr → Nat → Nat → Int → Option Addr → Nat → Nat → Bool → Bool → Prop} (hk : K x0 x1 x2 x3 A n c x5 A' n' c' b7 b8) :
    hdI S (⟨b, 0, Option.none⟩ : Addr) .i64 fun y0 => hdI S ((⟨b, 0, Option.none⟩ : Addr).add 1) .i64 fun y1 => hdI S ((⟨b, 0, Option.none⟩ : Addr).add 2) .i64 fun y2 => hdI S ((⟨b, 0, Option.none⟩ : Addr).add 3) .i64 fun y3 =>
    hdS S ((⟨b, 0, Option.none⟩ : Addr).add 4) fun A4 n4 c4 => hdI S ((⟨b, 0, Option.none⟩ : Addr).add 5) .i64 fun y5 => hdS S ((⟨b, 0, Option.none⟩ : Addr).add 6) fun A6 n6 c6 => hdB S ((⟨b, 0, Option.none⟩ : Addr).add 7) fun y7 => hdB S ((⟨b, 0, Option.none⟩ : Addr).add 8) fun y8 => K y0 y1 y2 y3 A4 n4 c4 y5 A6 n6 c6 y7 y8 :=
  ⟨_, fun w hs => ((h w hs).cell 0).trans rfl, hdI_i h (j := 1) rfl (hdI_i h (j := 2) rfl (hdI_i h (j := 3) rfl (hdS_i h (j := 4) rfl (hdI_i h (j := 5) rfl (hdS_i h (j := 6) rfl ⟨_, fun w hs => ((h w hs).cell 7).trans rfl, ⟨_, fun w hs => ((h w hs).cell 8).trans rfl, hk⟩⟩)))))⟩
theorem hd4 {S : World → Prop} (h : ∀ w, S w → HB w b (g4 A n c A' n' c' x2 b3) t) {K : Option Addr → Nat → Nat → Option Addr → Nat → Nat → Int → Bool → Prop} (hk : K A n c A' n' c' x2 b3) :
    hdS S (⟨b, 0, Option.none⟩ : Addr) fun A0 n0 c0 => hdS S ((⟨b, 0, Option.none⟩ : Addr).add 1) fun A1 n1 c1 => hdI S ((⟨b, 0, Option.none⟩ : Addr).add 2) .i64 fun y2 => hdB S ((⟨b, 0, Option.none⟩ : Addr).add 3) fun y3 => K A0 n0 c0 A1 n1 c1 y2 y3 :=
  ⟨_, _, _, fun w hs => ((h w hs).cell 0).trans rfl, hdS_i h (j := 1) rfl (hdI_i h (j := 2) rfl ⟨_, fun w hs => ((h w hs).cell 3).trans rfl, hk⟩)⟩
end
section
variable {w w0 w' : World}
def eAp : Value := .agg #[.int .i64 0, .int .i64 0, .int .i64 0, .int .i64 0, .slice none 0 0, .int .i64 0, .slice none 0 0, .bool false, .bool false]
def eDk : Value := .agg #[.slice none 0 0, .slice none 0 0, .int .i64 0, .bool false]
theorem R0Room (w : World) : Calls Tryd.prog 74 #[eAp] w fun e w' => e = .returned (.int .i64 0) ∧ Below w.heap.size w w' := by
  refine f_ref09_Room.ok _ _ _ _ _ _ _ _ _ _ _ _ _ _ _ ?_
  unfold f_ref09_Room.wp
  exact al_new fun w2 b e2 s2 h2 g2 => hb_ldI h2 (j := 1) rfl (hb_ldS h2 (j := 4) rfl ⟨rfl, g2⟩)
theorem R0Append {A : Option Addr} {n c : Nat} {u : List UInt8} {k : Int} (hr : Go.Dn.RB w A u) (hn : n = u.length) (hu : u.length ≤ 140737488355000) :
    Calls Tryd.prog 55 #[eAp, .int .i64 k, .slice A n c] w fun e w' => ∃ f : Int, e = .returned (.tuple #[eAp, .int .i64 0, .int .i64 f]) ∧ Below w.heap.size w w' := by
  subst hn
  refine f_ref09_Append.ok _ _ _ _ _ _ _ _ _ _ _ _ _ _ _ _ _ _ _ ?_
  unfold f_ref09_Append.wp
  refine al_new fun w2 b1 e1 s1 h1 g1 => al_new fun w3 b3 e3 s3 h3 g3 => ?_
  have h1' : HB w3 b1 z9 _ := h1.below g3
  have h3' : HB w3 b3 z9 _ := h3
  have g03 : Below w.heap.size w w3 := g1.trans (g3.mono g1.size)
  refine hb_ldB' h1' (j := 8) rfl (sel_f rfl (hb_ldB' h1' (j := 7) rfl (sel_f rfl ?_)))
  have fin : ∀ {w4 w5 : World}, Below w.heap.size w w4 → w3.heap.size ≤ w4.heap.size → Keeps (fun k => k = b3) w4 w5 → Below w.heap.size w w5 := fun g hz k => g.trans (k.below g.size fun i hi e => by have := g1.size; omega)
  by_cases q1 : k < 1
  · refine sel_t (by simpa using q1) (ld9 h1' (st9 h3' fun w5 h5 k5 => ld9 h5 ⟨_, rfl, fin g03 (Nat.le_refl _) k5⟩))
  refine sel_f (by simpa using q1) ?_
  by_cases q2 : 255 < k
  · refine sel_t (by simpa using q2) (ld9 h1' (st9 h3' fun w5 h5 k5 => ld9 h5 ⟨_, rfl, fin g03 (Nat.le_refl _) k5⟩))
  refine sel_f (by simpa using q2) ?_
  by_cases q3 : 1200 < u.length
  · refine sel_t (by simp; omega) (ld9 h1' (st9 h3' fun w5 h5 k5 => ld9 h5 ⟨_, rfl, fin g03 (Nat.le_refl _) k5⟩))
  refine sel_f (by simp; omega) ?_
  refine alW_intro ?_
  have g4 : Below w3.heap.size w3 (w3.alloc (.cells #[.int .u8 (IntKind.u8.wrap k)] TU8)) := (Below.refl _ _).alloc (Nat.le_refl _) _
  have o4 : OwnB (w3.alloc (.cells #[.int .u8 (IntKind.u8.wrap k)] TU8)) w3.heap.size TU8 (some ⟨w3.heap.size, 0, none⟩) 1 [UInt8.ofNat (k % 256).toNat] := OwnB.lit [UInt8.ofNat (k % 256).toNat] (by
    simp only [List.map_cons, List.map_nil, byteV]
    rw [u8w, UInt8.toNat_ofNat']
    congr 2
    omega) (Nat.le_refl _) (by simp)
  obtain ⟨w4, hw4⟩ : ∃ w4, w3.alloc (.cells #[.int .u8 (IntKind.u8.wrap k)] TU8) = w4 := ⟨_, rfl⟩
  rw [hw4] at g4 o4 ⊢
  have g04 := g03.trans (g4.mono g03.size)
  refine (RPutText_ok (hr.below g04 (Nat.le_refl _)) rfl hu).mono ?_
  rintro _ w5 ⟨A5, c5, rfl, o5, g5⟩
  have g05 := g04.trans (g5.mono g04.size)
  refine ⟨_, _, _, rfl, ?_⟩
  have hput : (putT u).length ≤ 10 + u.length := by
    have := putL_len u.length
    unfold putT; rw [List.length_append]; omega
  refine (Cat_ok (o4.keep g5).reads o5.reads rfl rfl (by rw [List.length_singleton]; omega)).mono ?_
  rintro _ w6 ⟨A6, c6, rfl, o6, g6⟩
  have g06 := g05.trans (g6.mono g05.size)
  have g36 : Below w3.heap.size w3 w6 := (g4.trans (g5.mono g4.size)).trans (g6.mono (by have := g4.size; have := g5.size; omega))
  refine ⟨_, _, _, rfl, ld9 (h1'.below g36) ((R0Room w6).mono ?_)⟩
  rintro _ w7 ⟨rfl, g7⟩
  have g37 := g36.trans (g7.mono g36.size)
  have g07 := g06.trans (g7.mono g06.size)
  refine ⟨_, rfl, sel_t ?_ (ld9 (h1'.below g37) (st9 (h3'.below g37) fun w8 h8 k8 => ld9 h8 ⟨_, rfl, fin g07 g37.size k8⟩))⟩
  simp
theorem keeps_b {S : Nat → Prop} {w4 w5 : World} {b : Nat} (g : Below w.heap.size w w4) (k : Keeps (fun k => k = b) w4 w5) (hb : w.heap.size ≤ b) : Below w.heap.size w w5 := g.trans (k.below g.size fun i hi e => by omega)
theorem R0Flush (w : World) : Calls Tryd.prog 56 #[eDk, eAp] w fun e w' => e = .returned (.tuple #[eDk, eAp, .int .i64 0]) ∧ Below w.heap.size w w' := by
  refine f_ref09_Flush.ok _ _ _ _ _ _ _ _ _ _ _ _ _ _ _ _ _ _ _ _ _ _ _ ?_
  unfold f_ref09_Flush.wp
  refine al_new fun w1 b1 e1 s1 h1 g1 => al_new fun w2 b2 e2 s2 h2 g2 => al_new fun w3 b3 e3 s3 h3 g3 => al_new fun w4 b4 e4 s4 h4 g4 => ?_
  have g04 : Below w.heap.size w w4 := ((g1.trans (g2.mono g1.size)).trans (g3.mono (by omega))).trans (g4.mono (by omega))
  have i1 : HB w4 b1 z4 _ := ((h1.below g2).below g3).below g4
  have i2 : HB w4 b2 z9 _ := (h2.below g3).below g4
  have i3 : HB w4 b3 z4 _ := h3.below g4
  have i4 : HB w4 b4 z9 _ := h4
  refine hb_ldB' i2 (j := 8) rfl (sel_f rfl (hb_ldI i2 (j := 5) rfl (hb_ldS i2 (j := 4) rfl (sel_t rfl (drW_intro ?_)))))
  have gd : Below w4.heap.size w4 w4.drew := (Below.refl _ _).drew
  refine ⟨fun W => HB W b1 z4 68 ∧ HB W b2 z9 65, ⟨i1.below gd, i2.below gd⟩, hd4 (fun _ h => h.1) (hd9 (fun _ h => h.2) (st4 (i3.below gd) fun w5 h5 k5 => ⟨⟨(i1.below gd).keeps k5 (by omega), (i2.below gd).keeps k5 (by omega)⟩, st9 ((i4.below gd).keeps k5 (by omega)) fun w6 h6 k6 => ?_⟩))⟩
  exact ld4 (h5.keeps k6 (by omega)) (ld9 h6 ⟨rfl, keeps_b (S := fun _ => True) (keeps_b (S := fun _ => True) (g04.trans (gd.mono g04.size)) k5 (by omega)) k6 (by omega)⟩)
theorem R0Write {A : Option Addr} {n c : Nat} (w : World) : Calls Tryd.prog 75 #[eDk, .int .i64 0, .slice A n c] w fun e w' => e = .returned (.tuple #[eDk, .int .i64 1]) ∧ Below w.heap.size w w' := by
  refine f_ref07_Write.ok _ _ _ _ _ _ _ _ _ _ _ _ _ _ ?_
  unfold f_ref07_Write.wp
  refine al_new fun w1 b1 e1 s1 h1 g1 => al_new fun w2 b2 e2 s2 h2 g2 => ?_
  have g02 : Below w.heap.size w w2 := g1.trans (g2.mono g1.size)
  have i1 : HB w2 b1 z4 _ := h1.below g2
  have i2 : HB w2 b2 z4 _ := h2
  exact hb_ldB' i1 (j := 3) rfl (sel_f rfl (sel_f rfl (ldS_intro ((i1.cell 0).trans rfl) (sel_t rfl (ld4 i1 (st4 i2 fun w3 h3 k3 => ld4 h3 ⟨rfl, keeps_b (S := fun _ => True) g02 k3 (by omega)⟩))))))
/-! ### a sector built -/
theorem byte_of (y : Int) : ∃ b : UInt8, IntKind.u8.wrap y = (b.toNat : Int) := ⟨UInt8.ofNat (y % 256).toNat, by
  rw [u8w, UInt8.toNat_ofNat']
  omega⟩
theorem RBuild_l0 {B : Nat} {w0 : World} {K : Option Addr → Nat → Nat → World → Prop} (hK : ∀ A' c' w' l, OwnB w' B TU8 A' c' l → l.length = 8 → Below B w0 w' → B ≤ w'.heap.size → K A' l.length c' w') :
    ∀ (m i : Nat) (A5 : Option Addr) (c5 : Nat) (l5 : List UInt8) (x : Int) (w : World), m + i = 8 → l5.length = i → OwnB w B TU8 A5 c5 l5 → Below B w0 w → B ≤ w.heap.size → f_ref09_Build.l0 (m + 1) A5 l5.length c5 x (i : Int) w K := by
  intro m
  induction m with
  | zero =>
    intro i A5 c5 l5 x w hi hl ho hb hB
    unfold f_ref09_Build.l0
    exact sel_f (by simp; omega) (hK A5 c5 w l5 ho (by omega) hb hB)
  | succ m ih =>
    intro i A5 c5 l5 x w hi hl ho hb hB
    unfold f_ref09_Build.l0
    refine sel_t (by simp; omega) ?_
    obtain ⟨b, hbv⟩ := byte_of (x.tmod 256)
    rw [hbv, show IntKind.i64.wrap ((i : Int) + 1) = ((i + 1 : Nat) : Int) by rw [w64_in (by omega)]; omega]
    refine app_one ho rfl hB (by omega) fun A' c' w' o' g' z' => ⟨_, _, _, rfl, ?_⟩
    have := ih (i + 1) A' c' (l5 ++ [b]) (IntKind.u64.wrap (x.tdiv 256)) w' (by omega) (by rw [List.length_append, List.length_singleton]; omega) o' (hb.trans g') z'
    rw [List.length_append, List.length_singleton] at this
    exact this
theorem RBuild_l1 {B : Nat} {w0 : World} {K : Option Addr → Nat → Nat → World → Prop} (hK : ∀ A' c' w' l, OwnB w' B TU8 A' c' l → l.length ≤ 600 → Below B w0 w' → B ≤ w'.heap.size → K A' l.length c' w') :
    ∀ (m : Nat) (A5 : Option Addr) (c5 : Nat) (l5 : List UInt8) (w : World), l5.length ≤ 508 → m + l5.length = 508 → OwnB w B TU8 A5 c5 l5 → Below B w0 w → B ≤ w.heap.size → f_ref09_Build.l1 (m + 1) A5 l5.length c5 w K := by
  intro m
  induction m with
  | zero =>
    intro A5 c5 l5 w hi hl ho hb hB
    unfold f_ref09_Build.l1
    exact sel_f (by simp; omega) (hK A5 c5 w l5 ho (by omega) hb hB)
  | succ m ih =>
    intro A5 c5 l5 w hi hl ho hb hB
    unfold f_ref09_Build.l1
    refine sel_t (by simp; omega) ?_
    refine app_one (b := 0) ho rfl hB (by omega) fun A' c' w' o' g' z' => ⟨_, _, _, rfl, ?_⟩
    have := ih A' c' (l5 ++ [0]) w' (by rw [List.length_append, List.length_singleton]; omega) (by rw [List.length_append, List.length_singleton]; omega) o' (hb.trans g') z'
    rw [List.length_append, List.length_singleton] at this
    exact this
theorem R0Build (w : World) (x : Int) : Calls Tryd.prog 76 #[.int .i64 x, .slice none 0 0] w fun e w' => ∃ A n c, e = .returned (.slice A n c) ∧ Below w.heap.size w w' := by
  apply f_ref09_Build.ok
  unfold f_ref09_Build.wp
  refine alW_intro ?_
  have g1 : Below w.heap.size w (w.alloc (.cells #[] TU8)) := (Below.refl _ _).alloc (Nat.le_refl _) _
  have o1 : OwnB (w.alloc (.cells #[] TU8)) w.heap.size TU8 (some ⟨w.heap.size, 0, none⟩) 0 [] := OwnB.lit (w := w) (B := w.heap.size) (e := TU8) [] (cs := #[]) rfl (Nat.le_refl _) (by simp)
  refine ⟨8 + 1, RBuild_l0 (w0 := w) (B := w.heap.size) (fun A2 c2 w2 l2 o2 e2 g2 z2 _ => ?_) 8 0 _ 0 [] _ _ rfl rfl o1 g1 g1.size⟩
  obtain ⟨b3, hb3⟩ := byte_of (((0 : Nat) : Int).tmod 256)
  rw [hb3]
  refine app_one o2 rfl z2 (by omega) fun A3 c3 w3 o3 g3 z3 => ⟨_, _, _, rfl, ?_⟩
  obtain ⟨b4, hb4⟩ := byte_of (IntKind.i64.wrap (((0 : Nat) : Int).tdiv 256))
  rw [hb4]
  refine app_one o3 (by simp) z3 (by rw [List.length_append, List.length_singleton]; omega) fun A4 c4 w4 o4 g4 z4 => ⟨_, _, _, rfl, ?_⟩
  have l4 : ((l2 ++ [b3]) ++ [b4]).length = 10 := by simp; omega
  have g04 := (g2.trans g3).trans g4
  refine (Cat_ok (l1 := []) o4.reads (Go.Dn.RB.nil _ _) (by simp) rfl (by rw [l4]; decide)).mono ?_
  rintro _ w5 ⟨A5, c5, rfl, o5, g5⟩
  rw [List.append_nil] at o5 ⊢
  have g05 := g04.trans (g5.mono z4)
  refine ⟨_, _, _, rfl, _, RBuild_l1 (w0 := w) (B := w.heap.size) (fun A6 c6 w6 l6 o6 e6 g6 z6 _ => ?_) 498 A5 c5 _ w5 (by rw [l4]; decide) (by rw [l4]) (o5.mono z4) g05 g05.size⟩
  refine (RSeal_ok o6.reads rfl (by omega)).mono ?_
  rintro _ w7 ⟨A7, c7, rfl, o7, g7⟩
  exact ⟨_, _, _, rfl, _, _, _, rfl, g6.trans (g7.mono z6)⟩
end
end Go.Proofs.YtpokaafedpnbdaaDoor.Rd

/-! The document's Reset of nothing at all; texts shown wider, and spoilt. Conditions: none. -/
namespace Go.Proofs.YtpokaafedpnbdaaDoor.Rd
open Go.Dn Go.RowKit Go.Shelf
set_option linter.unusedVariables false
set_option linter.unusedSimpArgs false
set_option maxRecDepth 100000
section
variable {w w0 w' : World}
/-- what came since may turn, but a box of nothing stays one -/
def Gz (N : Nat) (a b : World) : Prop := Below N a b ∧ ∀ k, N ≤ k → HB a k z4 68 → HB b k z4 68
theorem Gz.of {N : Nat} {a b : World} (g : Below a.heap.size a b) (hN : N ≤ a.heap.size) : Gz N a b := ⟨g.mono hN, fun k hk h => h.below g⟩
def Ph (N i : Nat) (v : Value) (w : World) : Prop := match i with
  | 0 => v = eDk
  | 2 => v = .int .i64 0
  | 4 => v = .int .i64 0
  | 7 => v = .tuple #[eDk, .int .i64 1]
  | 11 => ∃ b, v = .pointer (some ⟨b, 0, none⟩) ∧ N ≤ b ∧ HB w b z4 68
  | _ => True
set_option maxHeartbeats 1000000 in
theorem R0Reset (w : World) : Calls Tryd.prog 57 #[eDk, eAp] w fun e w' => ∃ v, e = .returned (.tuple #[eDk, v, .int .i64 1]) ∧ v = .agg #[.int .i64 0, .int .i64 0, .int .i64 0, .int .i64 0, .slice none 0 0, .int .i64 0, .slice none 0 0, .bool false, .bool true] ∧ Below w.heap.size w w' := by
  refine f_ref09_Reset.ok _ _ _ _ _ _ _ _ _ _ _ _ _ _ _ _ _ _ _ _ _ _ _ ?_
  unfold f_ref09_Reset.wp
  refine al_new fun w1 b1 e1 s1 h1 g1 => al_new fun w2 b2 e2 s2 h2 g2 => al_new fun w3 b3 e3 s3 h3 g3 => al_new fun w4 b4 e4 s4 h4 g4 => ?_
  have g04 : Below w.heap.size w w4 := ((g1.trans (g2.mono g1.size)).trans (g3.mono (by omega))).trans (g4.mono (by omega))
  have i1 : HB w4 b1 z4 _ := ((h1.below g2).below g3).below g4
  have i2 : HB w4 b2 z9 _ := (h2.below g3).below g4
  have i3 : HB w4 b3 z4 _ := h3.below g4
  have i4 : HB w4 b4 z9 _ := h4
  refine hb_ldB' i2 (j := 8) rfl (sel_f rfl (hb_ldI i2 (j := 3) rfl (sel_f (by decide) (drW_intro ⟨f_ref09_Reset.h5_ok _ _, ?_⟩))))
  have gd : Below w4.heap.size w4 w4.drew := (Below.refl _ _).drew
  obtain ⟨w5, hw5⟩ : ∃ w5, w4.drew = w5 := ⟨_, rfl⟩
  rw [hw5] at gd ⊢
  have j1 := i1.below gd
  have j2 := i2.below gd
  have j3 := i3.below gd
  have j4 := i4.below gd
  have g05 : Below w.heap.size w w5 := g04.trans (gd.mono g04.size)
  have hsz := gd.size
  refine ⟨Gz w5.heap.size, Ph w5.heap.size, fun w => ⟨Below.refl _ _, fun _ _ h => h⟩, fun a b c h1 h2 => ⟨h1.1.trans h2.1, fun k hk h => h2.2 k hk (h1.2 k hk h)⟩, fun i v a b _ h hp => ?_, ?_, ?_⟩
  · unfold Ph at hp ⊢
    split at hp
    · exact hp
    · exact hp
    · exact hp
    · exact hp
    · obtain ⟨b', q1, q2, q3⟩ := hp
      exact ⟨b', q1, q2, h.2 b' q2 q3⟩
    · trivial
  · refine ⟨fun _ a ha => ?_, fun _ a ha => ?_, fun _ a ha => ?_, fun _ a ha x4 p4 => ?_, ?_, fun _ a ha => ?_, ?_, trivial⟩
    · exact ld4 (j1.below ha.1) ⟨⟨Below.refl _ _, fun _ _ h => h⟩, rfl⟩
    · exact hb_ldI0 (j2.below ha.1) rfl ⟨⟨Below.refl _ _, fun _ _ h => h⟩, rfl⟩
    · exact hb_ldI (j2.below ha.1) (j := 3) rfl ⟨⟨Below.refl _ _, fun _ _ h => h⟩, rfl⟩
    · refine (R0Build a _).mono ?_
      rintro _ a2 ⟨A, n, c, rfl, g⟩
      exact ⟨_, _, _, rfl, Gz.of g ha.1.size, trivial⟩
    · intro _ a ha A0 n0 c0 A1 n1 c1 x b p0 x2 p2 x4 p4 A6 n6 c6 p6
      have p0 : (_ : Value) = eDk := p0
      have p2 : (_ : Value) = .int .i64 0 := p2
      rw [p0, p2]
      refine (R0Write (A := A6) (n := n6) (c := c6) a).mono ?_
      rintro _ a2 ⟨rfl, g⟩
      exact ⟨_, _, _, _, _, _, _, _, _, rfl, Gz.of g ha.1.size, rfl⟩
    · refine al_new fun a2 b e s h g => ⟨Gz.of g ha.1.size, b, rfl, by have := ha.1.size; omega, h⟩
    · intro _ a ha A0 n0 c0 A1 n1 c1 x b p0 x2 p2 x4 p4 A6 n6 c6 p6 A7 n7 c7 A8 n8 c8 x7 b7 y7 p7 ae p11
      obtain ⟨bb, q1, q2, q3⟩ := p11
      injection q1 with q1
      injection q1 with q1
      subst q1
      have p7 : (_ : Value) = .tuple #[eDk, .int .i64 1] := p7
      unfold eDk at p7
      simp only [Value.tuple.injEq, Array.mk.injEq, List.cons.injEq, Value.agg.injEq, Value.slice.injEq, Value.int.injEq, Value.bool.injEq, true_and, and_true] at p7
      obtain ⟨⟨⟨rfl, rfl, rfl⟩, ⟨rfl, rfl, rfl⟩, rfl, rfl⟩, rfl⟩ := p7
      refine st4 q3 fun a2 h2 k2 => ⟨⟨(Below.refl _ _).trans (k2.below ha.1.size fun i hi e => by omega), fun k hk h => ?_⟩, trivial⟩
      by_cases e : k = bb
      · subst e; exact h2
      · exact h.keeps k2 e
  · intro a ha A0 n0 c0 A1 n1 c1 x b p0 x2 p2 x4 p4 A6 n6 c6 p6 A7 n7 c7 A8 n8 c8 x7 b7 y7 p7 ae p11 p12
    obtain ⟨bb, q1, q2, q3⟩ := p11
    injection q1 with q1
    injection q1 with q1
    subst q1
    have p7 : (_ : Value) = .tuple #[eDk, .int .i64 1] := p7
    unfold eDk at p7
    simp only [Value.tuple.injEq, Array.mk.injEq, List.cons.injEq, Value.agg.injEq, Value.slice.injEq, Value.int.injEq, Value.bool.injEq, true_and, and_true] at p7
    obtain ⟨⟨⟨rfl, rfl, rfl⟩, ⟨rfl, rfl, rfl⟩, rfl, rfl⟩, rfl⟩ := p7
    have i1 := j1.below ha.1
    have i2 := j2.below ha.1
    have i3 := j3.below ha.1
    have i4 := j4.below ha.1
    have g0a : Below w.heap.size w a := g05.trans (ha.1.mono g05.size)
    have hb2 := i2.lt
    have hszA := ha.1.size
    refine sel_t rfl (hb_st i2 (j := 8) (by simp [g9]) fun a6 h6 k6 => drW_intro ?_)
    have m2 : HB a6 b2 (g9 0 0 0 0 none 0 0 0 none 0 0 false true) _ := h6
    have m11 := q3.keeps k6 (by omega)
    have m3 := i3.keeps k6 (by omega)
    have m4 := i4.keeps k6 (by omega)
    have gd6 : Below a6.heap.size a6 a6.drew := (Below.refl _ _).drew
    have g06 : Below w.heap.size w a6 := keeps_b (S := fun _ => True) g0a k6 (by omega)
    refine ⟨fun W => HB W bb z4 68 ∧ HB W b2 (g9 0 0 0 0 none 0 0 0 none 0 0 false true) 65, ⟨m11.below gd6, m2.below gd6⟩, hd4 (fun _ h => h.1) (hd9 (fun _ h => h.2) (st4 (m3.below gd6) fun a7 h7 k7 => ⟨⟨(m11.below gd6).keeps k7 (by omega), (m2.below gd6).keeps k7 (by omega)⟩, st9 ((m4.below gd6).keeps k7 (by omega)) fun a8 h8 k8 => ⟨⟨((m11.below gd6).keeps k7 (by omega)).keeps k8 (by omega), ((m2.below gd6).keeps k7 (by omega)).keeps k8 (by omega)⟩, ?_⟩⟩))⟩
    exact ld4 (h7.keeps k8 (by omega)) (ld9 h8 ⟨_, rfl, rfl, keeps_b (S := fun _ => True) (keeps_b (S := fun _ => True) (g06.trans (gd6.mono g06.size)) k7 (by omega)) k8 (by omega)⟩)
end
end Go.Proofs.YtpokaafedpnbdaaDoor.Rd

/-! The statement WalRuns: one call asked of the log, and of nothing at all. Conditions: none. -/
namespace Go.Proofs.YtpokaafedpnbdaaDoor.Rd
open Go.Dn Go.RowKit Go.Shelf
set_option linter.unusedVariables false
set_option linter.unusedSimpArgs false
set_option maxRecDepth 100000
/-- what holds between two calls -/
structure RnX (w : World) (B count : Nat) (r : RD) (ρ : RL) (d : Dk) (l : Lg) (xs : List (Int × List UInt8)) (mx : Nat) : Prop where
  S : WS w B r ρ d l xs false
  f : l.first = 1
  c : l.count = count
  o : l.old = false
  dd : l.dead = false
  m : l.most ≤ mx
  np : NP d
section
variable {w w0 w' : World} {B count : Nat} {r : RD} {ρ : RL} {d : Dk} {l : Lg} {xs : List (Int × List UInt8)} {mx : Nat}
theorem RnX.below (h : RnX w B count r ρ d l xs mx) (k : Below w.heap.size w w') : RnX w' B count r ρ d l xs mx := ⟨h.S.below k, h.f, h.c, h.o, h.dd, h.m, h.np⟩
theorem flush_most : (flushL d l).2.1.dead = false ∨ (flushL d l).2.2 ≠ 0 ∨ True := .inr (.inr trivial)
/-- one call, of the log's own: it goes on -/
theorem RnX.flush (h : RnX w B count r ρ d l xs mx) : Calls Tryd.prog 12 #[.pointer (some ⟨ρ.L, 0, none⟩)] w fun e w' => ∃ x d' l', e = .returned (.int .i64 x) ∧ RnX w' B count r ρ d' l' xs mx ∧ Keeps (WN r ρ) w w' := by
  refine h.S.flush.mono ?_
  rintro _ w1 ⟨rfl, S1, k1⟩
  obtain ⟨C1, t1, t2, t3, t4, t5, t6, t7, t8, t9⟩ := h.S.cr.flush
  obtain ⟨fc, fn⟩ := h.np.flush (l := l) h.dd h.S.cr.fit h.S.cr.sz
  obtain ⟨t10, t11, t12⟩ := t8 fc
  exact ⟨_, _, _, rfl, ⟨S1, t6.trans h.f, t7.trans h.c, t5.trans h.o, t11, by rw [t4]; exact h.m, fn⟩, k1⟩
theorem RnX.reset (h : RnX w B count r ρ d l xs mx) (hm : mx < 274877906944) : Calls Tryd.prog 13 #[.pointer (some ⟨ρ.L, 0, none⟩)] w fun e w' => ∃ ρ' d', e = .returned (.int .i64 0) ∧ ρ'.L = ρ.L ∧ RnX w' B count r ρ' d' (freshL l) [] (mx + 1) ∧ (∀ k, LN ρ' k → LN ρ k) ∧ Keeps (WN r ρ) w w' := by
  have hz := h.S.cr.sz
  have hc := h.S.cr.lg.c0
  have hm' := h.m
  obtain ⟨q1, q2⟩ := h.np.reset (l := l) h.dd (by omega) (by omega)
  obtain ⟨c0, _⟩ := h.S.cr.reset
  obtain ⟨e1, e2, e3, C1⟩ := c0 q1
  refine (Reset_ok h.S.dm h.S.lm h.S.cr.lg h.S.lo).mono ?_
  rintro _ w1 ⟨rfl, m1, ⟨ρ1, eL, l1, n1⟩, k1⟩
  rw [e3] at l1
  rw [q1]
  exact ⟨ρ1, _, rfl, eL, ⟨⟨m1, l1, C1⟩, h.f, h.c, rfl, h.dd, by show l.most + 1 ≤ _; omega, q2⟩, n1, k1⟩
theorem tail94 {b7 b9 bx bd : Nat} {y : Bool} {S : World → Prop} (h7 : HB w b7 z9 65) (h9 : HB w b9 z4 68) (hx : HB w bx (g9 0 0 0 0 none 0 0 0 none 0 0 false y) 65) (hd : HB w bd z4 68) (n79 : b7 ≠ b9) (n7x : bx ≠ b7) (n7d : bd ≠ b7) (n9x : bx ≠ b9) (n9d : bd ≠ b9)
    (hS : ∀ W, HB W bx (g9 0 0 0 0 none 0 0 0 none 0 0 false y) 65 → HB W bd z4 68 → S W)
    {K : Int → Int → Int → Int → Option Addr → Nat → Nat → Int → Option Addr → Nat → Nat → Bool → Bool → Option Addr → Nat → Nat → Option Addr → Nat → Nat → Int → Bool → World → Prop}
    (hk : ∀ w', Keeps (fun k => k = b7 ∨ k = b9) w w' → K 0 0 0 0 none 0 0 0 none 0 0 false y none 0 0 none 0 0 0 false w') :
    stW w (⟨b7, 0, Option.none⟩ : Addr) (.int .i64 0) fun w1 => stW w1 ((⟨b7, 0, Option.none⟩ : Addr).add 1) (.int .i64 0) fun w2 => stW w2 ((⟨b7, 0, Option.none⟩ : Addr).add 2) (.int .i64 0) fun w3 => stW w3 ((⟨b7, 0, Option.none⟩ : Addr).add 3) (.int .i64 0) fun w4 =>
    stW w4 ((⟨b7, 0, Option.none⟩ : Addr).add 4) (.slice none 0 0) fun w5 => stW w5 ((⟨b7, 0, Option.none⟩ : Addr).add 5) (.int .i64 0) fun w6 => stW w6 ((⟨b7, 0, Option.none⟩ : Addr).add 6) (.slice none 0 0) fun w7 => stW w7 ((⟨b7, 0, Option.none⟩ : Addr).add 7) (.bool false) fun w8 => stW w8 ((⟨b7, 0, Option.none⟩ : Addr).add 8) (.bool y) fun w77 =>
    S w77 ∧ (
    stW w77 (⟨b9, 0, Option.none⟩ : Addr) (.slice none 0 0) fun w78 => stW w78 ((⟨b9, 0, Option.none⟩ : Addr).add 1) (.slice none 0 0) fun w79 => stW w79 ((⟨b9, 0, Option.none⟩ : Addr).add 2) (.int .i64 0) fun w80 => stW w80 ((⟨b9, 0, Option.none⟩ : Addr).add 3) (.bool false) fun w81 =>
    S w81 ∧ (
    ldI w81 (⟨b7, 0, Option.none⟩ : Addr) .i64 fun y0 => ldI w81 ((⟨b7, 0, Option.none⟩ : Addr).add 1) .i64 fun y1 => ldI w81 ((⟨b7, 0, Option.none⟩ : Addr).add 2) .i64 fun y2 => ldI w81 ((⟨b7, 0, Option.none⟩ : Addr).add 3) .i64 fun y3 =>
    ldS w81 ((⟨b7, 0, Option.none⟩ : Addr).add 4) fun A4 n4 c4 => ldI w81 ((⟨b7, 0, Option.none⟩ : Addr).add 5) .i64 fun y5 => ldS w81 ((⟨b7, 0, Option.none⟩ : Addr).add 6) fun A6 n6 c6 => ldB w81 ((⟨b7, 0, Option.none⟩ : Addr).add 7) fun y7 => ldB w81 ((⟨b7, 0, Option.none⟩ : Addr).add 8) fun y8 =>
    ldS w81 (⟨b9, 0, Option.none⟩ : Addr) fun A0 n0 c0 => ldS w81 ((⟨b9, 0, Option.none⟩ : Addr).add 1) fun A1 n1 c1 => ldI w81 ((⟨b9, 0, Option.none⟩ : Addr).add 2) .i64 fun z2 => ldB w81 ((⟨b9, 0, Option.none⟩ : Addr).add 3) fun z3 => K y0 y1 y2 y3 A4 n4 c4 y5 A6 n6 c6 y7 y8 A0 n0 c0 A1 n1 c1 z2 z3 w81)) :=
  st9 h7 fun w1 h1 k1 => ⟨hS _ (hx.keeps k1 n7x) (hd.keeps k1 n7d), st4 (h9.keeps k1 fun e => n79 e.symm) fun w2 h2 k2 => ⟨hS _ ((hx.keeps k1 n7x).keeps k2 n9x) ((hd.keeps k1 n7d).keeps k2 n9d), ld9 (h1.keeps k2 n79) (ld4 h2 (hk w2 ((k1.mono fun _ _ e => .inl e).trans (k2.mono fun _ _ e => .inr e))))⟩⟩
set_option maxHeartbeats 2000000 in
theorem asks_ok {o : WOp} (h : RnX w B count r ρ d l xs mx) (hm : mx < 274877906944) (ho0 : OkW w0 o) (gw : Below w0.heap.size w0 w) (hB : w0.heap.size ≤ B) (hk : 1 ≤ o.kind ∧ o.kind ≤ 3) :
    Calls Tryd.prog 29 #[.pointer (some ⟨ρ.L, 0, none⟩), eAp, eDk, .agg #[.int .i64 o.kind, .int .i64 o.n, .int .i64 o.t, .slice o.A1 o.data.length o.c1, .slice o.A2 o.keeps.length o.c2, .slice o.A3 o.fates.length o.c3]] w fun e w' =>
      ∃ (b8 b : Bool), e = .returned (.tuple #[.agg #[.int .i64 0, .int .i64 0, .int .i64 0, .int .i64 0, .slice none 0 0, .int .i64 0, .slice none 0 0, .bool false, .bool b8], eDk, .bool b]) ∧ ∃ ρ' d' l' xs', ρ'.L = ρ.L ∧ RnX w' B count r ρ' d' l' xs' (mx + 1) ∧ Below B w w' := by
  have ho := ho0.below gw
  refine f_law09_asks.ok _ _ _ _ _ _ _ _ _ _ _ _ _ _ _ _ _ _ _ _ _ _ _ _ _ _ _ _ _ _ _ _ _ _ _ _ ?_
  unfold f_law09_asks.wp
  refine al_new fun w1 b1 e1 s1 h1 g1 => al_new fun w2 b3 e2 s2 h2 g2 => al_new fun w3 b5 e3 s3 h3 g3 => al_new fun w4 b7 e4 s4 h4 g4 => al_new fun w5 b9 e5 s5 h5 g5 => ?_
  have g05 : Below w.heap.size w w5 := (((g1.trans (g2.mono g1.size)).trans (g3.mono (by omega))).trans (g4.mono (by omega))).trans (g5.mono (by omega))
  have i1 : HB w5 b1 z9 65 := (((h1.below g2).below g3).below g4).below g5
  have i3 : HB w5 b3 z4 68 := ((h2.below g3).below g4).below g5
  have i5 : HB w5 b5 (wopE o).toArray TWo := (h3.below g4).below g5
  have i7 : HB w5 b7 z9 65 := h4.below g5
  have i9 : HB w5 b9 z4 68 := h5
  have X5 := h.below g05
  have hlo := h.S.lo
  have ho5 := ho.below g05
  have hWN : ∀ k, WN r ρ k → k < w.heap.size := fun k hk => (h.S.wn k hk).1
  refine hb_ldI0 i5 (x := o.kind) rfl ?_
  by_cases q1 : o.kind = 1
  · refine sel_t (by rw [q1]; rfl) (hb_ldS i5 (j := 3) (A := o.A1) (n := o.data.length) (c := o.c1) rfl ((Wide_ok ho5.r1 ho.l1).mono ?_))
    rintro _ w6 ⟨A6, c6, rfl, o6, g6⟩
    have hml : marks.length = 64 := rfl
    have hl6 : (o.data ++ marks).length = o.data.length + 64 := by rw [List.length_append, hml]
    have hc6 : o.data.length + 64 ≤ c6 := by have := o6.le; omega
    have hd1 := ho.l1
    obtain ⟨a6, ea6, _⟩ := o6.reads 0 (by omega)
    have hb6 := o6.block a6 ea6
    have gd : Below w6.heap.size w6 w6.drew := (Below.refl _ _).drew
    have j5 := (i5.below g6).below gd
    refine ⟨_, _, _, rfl, drW_intro (hb_ldI j5 (j := 1) (x := o.n) rfl (hb_ldS j5 (j := 3) (A := o.A1) (n := o.data.length) (c := o.c1) rfl (req_intro (by simp; omega) ?_)))⟩
    have esl : slA A6 0 c6 1 = A6 := by
      unfold slA
      rw [if_neg (by omega), ea6]
      show some (a6.add (0 * 1)) = some a6
      rw [Nat.zero_mul, Go.Dn.add_zero]
    rw [esl, Int.toNat_natCast, Nat.sub_zero, Nat.sub_zero]
    have o7 := o6.keep gd
    have rb7 : Go.Dn.RB w6.drew A6 o.data := fun i hi => by
      obtain ⟨a, ea, hc⟩ := o7.reads i (by omega)
      exact ⟨a, ea, by rw [hc, List.getElem_append_left hi]⟩
    have X6 := (X5.below g6).below gd
    have sz6 := g6.size
    have szd := gd.size
    have sz05 := g05.size
    -- the wide text's block counts as one of the disk's for a while
    have l5 : LM w5 B { r with P := A6 } ρ l := X5.S.lm.reP rfl fun k hlt hk => by
      rcases hk with e | e | e | ⟨a, ea, e⟩
      · exact .inl e
      · exact .inr (.inl e)
      · exact .inr (.inr (.inl e))
      · rw [ea6] at ea; cases ea; omega
    have l6 := (l5.below g6).below gd
    have hF : ∀ k, FD { r with P := A6 } k → k < w6.drew.heap.size := fun k hk => by
      have hsd : w6.drew.heap.size = w6.heap.size := rfl
      rcases hk with e | e | e | ⟨a, ea, e⟩
      · have := hWN k (.inl (.inl e)); omega
      · have := hWN k (.inl (.inr (.inl e))); omega
      · have := hWN k (.inl (.inr (.inr (.inl e)))); omega
      · rw [ea6] at ea; cases ea; omega
    refine (Append_gen (u := o.data) (kind := o.n) hF l6 X6.S.cr.lg X6.S.lo rb7 rfl (fun e => by rw [ea6] at e; cases e) (fun a ea hN => by
      rw [ea6] at ea; cases ea
      have := hWN _ (.inr hN); omega) ho.l1).mono ?_
    rintro _ w8 ⟨rfl, ⟨ρ8, eL8, l8, n8⟩, k8⟩
    have d8 : DM w8 B r d := X6.S.lm.dm X6.S.dm k8
    have k8' : Keeps (WN r ρ) w6.drew w8 := k8.mono fun _ _ => .inr
    have nw : ∀ {b : Nat}, w.heap.size ≤ b → ¬ LN ρ b := fun {b} hb hk => by have := hWN b (.inr hk); omega
    have j8 := j5.keeps k8 (nw (by omega))
    have g8d : Below B w w6.drew := (((g05.trans (g6.mono sz05)).trans (gd.mono (by omega)))).mono hlo
    have b08 : Below B w w8 := g8d.trans (k8.below (by omega) fun k hk hn => by have := (h.S.wn k (.inr hn)).2; omega)
    have szk := k8.size
    -- the answers
    have m1 := ((i1.below g6).below gd).keeps k8 (nw (by omega))
    have m3 := ((i3.below g6).below gd).keeps k8 (nw (by omega))
    have m7 := ((i7.below g6).below gd).keeps k8 (nw (by omega))
    have m9 := ((i9.below g6).below gd).keeps k8 (nw (by omega))
    have o8 := OwnB.keepsB o7 k8 fun a ea hk => by rw [ea6] at ea; cases ea; exact nw (by omega) hk
    have gwB : ∀ {w' : World}, Below B w w' → Below w0.heap.size w0 w' := fun g => gw.trans (g.mono hB)
    have C8 : Cr d (appendL l o.n o.data).1 (appX l xs o.n o.data) false := by
      unfold appX
      rcases h.S.cr.append o.n o.data with ⟨e, c, _⟩ | ⟨e, _, e2⟩
      · rw [if_pos e]; exact c
      · rw [if_neg e, e2]; exact h.S.cr
    refine ⟨_, _, rfl, hb_ldS j8 (j := 3) (A := o.A1) (n := o.data.length) (c := o.c1) rfl ((Intact_ok o8.reads (ho0.below (gwB b08)).r1 ho.l1 rfl).mono ?_)⟩
    rintro _ w9 ⟨rfl, g9'⟩
    refine ⟨_, rfl, (Spoil_ok (o8.keep g9') rfl (by omega)).mono ?_⟩
    rintro _ w10 ⟨rfl, _, gr⟩
    have kS : Keeps (Ob A6) w9 w10 := ⟨gr.os, gr.tape, gr.output, gr.size, fun k hk hn => gr.block k hk fun h => hn (ob_own h)⟩
    have obA : ∀ {k}, Ob A6 k → k = a6.block := fun {k} ⟨a, ea, e⟩ => by rw [ea6] at ea; cases ea; exact e.symm
    have nA : ∀ {b : Nat}, b < w5.heap.size → ¬ Ob A6 b := fun {b} hb ho => by have := obA ho; omega
    have sz9 := g9'.size
    have szS := kS.size
    have d10 : DM w10 B r d := (d8.below g9').keeps kS fun b hb => nA (by have := hWN b (.inl hb); omega)
    have hsd : w6.drew.heap.size = w6.heap.size := rfl
    have l10 := ((l8.below g9').keeps kS (fun k hk ho => by
      have := obA ho
      rcases n8 k hk with q | q
      · have := hWN k (.inr q); omega
      · omega) fun k ho => .inr (.inr (.inr ho))).ofTy (r := r) rfl d10
    have b10 : Below B w w10 := (b08.trans (g9'.mono (by omega))).trans (kS.below (by omega) fun k hk ho => by have := obA ho; omega)
    obtain ⟨f1, f2, f3, f4, f5, f6, f7⟩ := appendL_f l o.n o.data
    have X10 : RnX w10 B count r ρ8 d (appendL l o.n o.data).1 (appX l xs o.n o.data) (mx + 1) := ⟨⟨d10, l10, C8⟩, f1.trans h.f, f2.trans h.c, f6.trans h.o, f5.trans h.dd, by rw [f4]; have := h.m; omega, h.np⟩
    have p1 := (m1.below g9').keeps kS (nA (by omega))
    have p3 := (m3.below g9').keeps kS (nA (by omega))
    have p5 := (j8.below g9').keeps kS (nA (by omega))
    have p7 := (m7.below g9').keeps kS (nA (by omega))
    have p9 := (m9.below g9').keeps kS (nA (by omega))
    refine ⟨rfl, ld9 p1 (hb_ldI p5 (j := 1) (x := o.n) rfl (hb_ldS p5 (j := 3) (A := o.A1) (n := o.data.length) (c := o.c1) rfl ((R0Append (k := o.n) (ho0.below (gwB b10)).r1 rfl ho.l1).mono ?_)))⟩
    rintro _ w11 ⟨f, rfl, g11⟩
    have sz11 := g11.size
    refine ⟨_, _, _, _, _, _, _, _, _, _, _, _, _, _, _, rfl, al_new fun w12 b12 e12 s12 h12 g12 => st9 (show HB w12 b12 z9 65 from h12) fun w13 h13 k13 => drW_intro ?_⟩
    have gd13 : Below w13.heap.size w13 w13.drew := (Below.refl _ _).drew
    have up : ∀ {b : Nat} {cs : Array Value} {t : TypeId}, HB w10 b cs t → HB w13.drew b cs t := fun {b cs t} hb => ((((hb.below g11).below g12).keeps k13 (by have := hb.lt; omega))).below gd13
    have X13 := (X10.below g11).below g12
    have b13 : Below w10.heap.size w10 w13.drew := ((g11.trans (g12.mono sz11)).trans (k13.below (by have := g12.size; omega) fun k hk e => by omega)).trans (gd13.mono (by have := g12.size; have := k13.size; omega))
    have X14 := X10.below b13
    have b14 : Below B w w13.drew := b10.trans (b13.mono (by omega))
    refine ⟨fun W => HB W b12 z9 65 ∧ HB W b3 z4 68, ⟨h13.below gd13, up p3⟩, hd9 (fun _ h => h.1) (hd4 (fun _ h => h.2) (sel_t rfl ?_))⟩
    have fin : ∀ {w' : World}, Keeps (fun k => k = b7 ∨ k = b9) w13.drew w' → ∃ ρ' d' l' xs', ρ'.L = ρ.L ∧ RnX w' B count r ρ' d' l' xs' (mx + 1) ∧ Below B w w' := fun {w'} k => by
      have hne : ∀ k, WN r ρ8 k → ¬ (k = b7 ∨ k = b9) := fun k hk e => by
        rcases hk with hk | hk
        · have := hWN k (.inl hk); omega
        · rcases n8 k hk with q | q
          · have := hWN k (.inr q); omega
          · omega
      refine ⟨ρ8, d, _, _, eL8, ⟨⟨X14.S.dm.keeps k fun b hb => hne b (.inl hb), X14.S.lm.keepsT k (fun b hb => hne b (.inr hb)) ?_, X14.S.cr⟩, X14.f, X14.c, X14.o, X14.dd, X14.m, X14.np⟩, b14.trans (k.below (by have := b13.size; omega) fun k hk e => by omega)⟩
      rintro k (rfl | rfl) cs hc
      · exact absurd (HB.ty hc (up p7)) (by decide)
      · exact absurd (HB.ty hc (up p9)) (by decide)
    by_cases q : (((appendL l o.n o.data).2.1 : Int) == 0) = true
    · refine sel_t q (tail94 (up p7) (up p9) (h13.below gd13) (up p3) (by omega) (by omega) (by omega) (by omega) (by omega) (fun W a b => ⟨a, b⟩) fun w' k => ⟨false, _, rfl, fin k⟩)
    · refine sel_f (by simpa using q) (tail94 (up p7) (up p9) (h13.below gd13) (up p3) (by omega) (by omega) (by omega) (by omega) (by omega) (fun W a b => ⟨a, b⟩) fun w' k => ⟨false, _, rfl, fin k⟩)
  refine sel_f (by simpa using q1) ?_
  by_cases q2 : o.kind = 2
  · refine sel_t (by rw [q2]; rfl) (X5.flush.mono ?_)
    rintro _ w6 ⟨x, d6, l6, rfl, X6, k6⟩
    have nw : ∀ {b : Nat}, w.heap.size ≤ b → ¬ WN r ρ b := fun {b} hb hk => by have := hWN b hk; omega
    have sz05 := g05.size
    have sz6 := k6.size
    have p1 := i1.keeps k6 (nw (by omega))
    have p3 := i3.keeps k6 (nw (by omega))
    have p7 := i7.keeps k6 (nw (by omega))
    have p9 := i9.keeps k6 (nw (by omega))
    have b06 : Below B w w6 := (g05.mono hlo).trans (X5.S.bel k6)
    have hW6 : ∀ k, WN r ρ k → k < w.heap.size := fun k hk => hWN k hk
    refine ⟨_, rfl, ld4 p3 (ld9 p1 ((R0Flush w6).mono ?_))⟩
    rintro _ w7 ⟨rfl, g7⟩
    have sz7 := g7.size
    refine ⟨_, _, _, _, _, _, _, _, _, _, _, _, _, _, _, _, _, _, _, _, _, _, rfl, al_new fun w8 b8 e8 s8 h8 g8 => al_new fun w9 b99 e9 s9 h9 gg9 => st4 (show HB w9 b8 z4 68 from h8.below gg9) fun w10 h10 k10 => st9 (show HB w10 b99 z9 65 from h9.keeps k10 (by omega)) fun w11 h11 k11 => drW_intro ?_⟩
    have sz8 := g8.size
    have sz9 := gg9.size
    have sz10 := k10.size
    have sz11 := k11.size
    have gd : Below w11.heap.size w11 w11.drew := (Below.refl _ _).drew
    have b6d : Below w6.heap.size w6 w11.drew := ((((g7.trans (g8.mono sz7)).trans (gg9.mono (by omega))).trans (k10.below (by omega) fun k hk e => by omega)).trans (k11.below (by omega) fun k hk e => by omega)).trans (gd.mono (by omega))
    have X11 := X6.below b6d
    have b0d : Below B w w11.drew := b06.trans (b6d.mono X6.S.lo)
    have up : ∀ {b : Nat} {cs : Array Value} {t : TypeId}, HB w6 b cs t → HB w11.drew b cs t := fun hb => hb.below b6d
    have h10' : HB w11.drew b8 z4 68 := (h10.keeps k11 (by omega)).below gd
    have h11' : HB w11.drew b99 (g9 0 0 0 0 none 0 0 0 none 0 0 false false) 65 := HB.below h11 gd
    refine ⟨fun W => HB W b99 (g9 0 0 0 0 none 0 0 0 none 0 0 false false) 65 ∧ HB W b8 z4 68, ⟨h11', h10'⟩, hd9 (fun _ h => h.1) (hd4 (fun _ h => h.2) (tail94 (up p7) (up p9) h11' h10' (by omega) (by omega) (by omega) (by omega) (by omega) (fun W a b => ⟨a, b⟩) fun w' k => ⟨false, _, rfl, ?_⟩))⟩
    have hne : ∀ k, WN r ρ k → ¬ (k = b7 ∨ k = b9) := fun k hk e => by have := hW6 k hk; omega
    refine ⟨ρ, _, _, _, rfl, ⟨⟨X11.S.dm.keeps k fun b hb => hne b (.inl hb), X11.S.lm.keepsT k (fun b hb => hne b (.inr hb)) ?_, X11.S.cr⟩, X11.f, X11.c, X11.o, X11.dd, Nat.le_succ_of_le X11.m, X11.np⟩, b0d.trans (k.below (by have := b6d.size; omega) fun k hk e => by omega)⟩
    rintro k (rfl | rfl) cs hc
    · exact absurd (HB.ty hc (up p7)) (by decide)
    · exact absurd (HB.ty hc (up p9)) (by decide)
  refine sel_f (by simpa using q2) ?_
  have q3 : o.kind = 3 := by omega
  · refine sel_t (by rw [q3]; rfl) ((X5.reset hm).mono ?_)
    rintro _ w6 ⟨ρ6, d6, rfl, eL6, X6, n6, k6⟩
    have nw : ∀ {b : Nat}, w.heap.size ≤ b → ¬ WN r ρ b := fun {b} hb hk => by have := hWN b hk; omega
    have sz05 := g05.size
    have sz6 := k6.size
    have p1 := i1.keeps k6 (nw (by omega))
    have p3 := i3.keeps k6 (nw (by omega))
    have p7 := i7.keeps k6 (nw (by omega))
    have p9 := i9.keeps k6 (nw (by omega))
    have b06 : Below B w w6 := (g05.mono hlo).trans (X5.S.bel k6)
    have hW6 : ∀ k, WN r ρ6 k → k < w.heap.size := fun k hk => (hk.elim (fun h => hWN k (.inl h)) fun h => hWN k (.inr (n6 k h)))
    refine ⟨_, rfl, ld4 p3 (ld9 p1 ((R0Reset w6).mono ?_))⟩
    rintro _ w7 ⟨_, rfl, rfl, g7⟩
    have sz7 := g7.size
    refine ⟨_, _, _, _, _, _, _, _, _, _, _, _, _, _, _, _, _, _, _, _, _, _, rfl, al_new fun w8 b8 e8 s8 h8 g8 => al_new fun w9 b99 e9 s9 h9 gg9 => st4 (show HB w9 b8 z4 68 from h8.below gg9) fun w10 h10 k10 => st9 (show HB w10 b99 z9 65 from h9.keeps k10 (by omega)) fun w11 h11 k11 => drW_intro ?_⟩
    have sz8 := g8.size
    have sz9 := gg9.size
    have sz10 := k10.size
    have sz11 := k11.size
    have gd : Below w11.heap.size w11 w11.drew := (Below.refl _ _).drew
    have b6d : Below w6.heap.size w6 w11.drew := ((((g7.trans (g8.mono sz7)).trans (gg9.mono (by omega))).trans (k10.below (by omega) fun k hk e => by omega)).trans (k11.below (by omega) fun k hk e => by omega)).trans (gd.mono (by omega))
    have X11 := X6.below b6d
    have b0d : Below B w w11.drew := b06.trans (b6d.mono X6.S.lo)
    have up : ∀ {b : Nat} {cs : Array Value} {t : TypeId}, HB w6 b cs t → HB w11.drew b cs t := fun hb => hb.below b6d
    have h10' : HB w11.drew b8 z4 68 := (h10.keeps k11 (by omega)).below gd
    have h11' : HB w11.drew b99 (g9 0 0 0 0 none 0 0 0 none 0 0 false true) 65 := HB.below h11 gd
    refine ⟨fun W => HB W b99 (g9 0 0 0 0 none 0 0 0 none 0 0 false true) 65 ∧ HB W b8 z4 68, ⟨h11', h10'⟩, hd9 (fun _ h => h.1) (hd4 (fun _ h => h.2) (tail94 (up p7) (up p9) h11' h10' (by omega) (by omega) (by omega) (by omega) (by omega) (fun W a b => ⟨a, b⟩) fun w' k => ⟨true, _, rfl, ?_⟩))⟩
    have hne : ∀ k, WN r ρ6 k → ¬ (k = b7 ∨ k = b9) := fun k hk e => by have := hW6 k hk; omega
    refine ⟨ρ6, _, _, _, eL6, ⟨⟨X11.S.dm.keeps k fun b hb => hne b (.inl hb), X11.S.lm.keepsT k (fun b hb => hne b (.inr hb)) ?_, X11.S.cr⟩, X11.f, X11.c, X11.o, X11.dd, X11.m, X11.np⟩, b0d.trans (k.below (by have := b6d.size; omega) fun k hk e => by omega)⟩
    rintro k (rfl | rfl) cs hc
    · exact absurd (HB.ty hc (up p7)) (by decide)
    · exact absurd (HB.ty hc (up p9)) (by decide)
end
end Go.Proofs.YtpokaafedpnbdaaDoor.Rd

/-! The statement WalRuns, walked. Conditions: a script of at most 2^21 calls. -/
namespace Go.Proofs.YtpokaafedpnbdaaDoor.Rd
open Go.Dn Go.RowKit Go.Shelf
set_option linter.unusedVariables false
set_option linter.unusedSimpArgs false
set_option maxRecDepth 100000
section
variable {w0 w w' : World} {B count : Nat} {ops : List WOp}
theorem runs_l0 {A : Option Addr} {c : Nat} {L : Nat} {r : RD} (hops : ops.length ≤ 2097152) (hr : RWo w0 A ops) (hB : w0.heap.size ≤ B) {K0 : World → Prop}
    (hK : ∀ w ρ d l xs, ρ.L = L → RnX w B count r ρ d l xs 4194304 → Below w0.heap.size w0 w → K0 w) :
    ∀ (m i : Nat) (w : World) (ρ : RL) (d : Dk) (l : Lg) (xs : List (Int × List UInt8)) (mx : Nat), m + i = ops.length → ρ.L = L → RnX w B count r ρ d l xs mx → mx ≤ 2 + i → Below w0.heap.size w0 w →
      f_law09_WalRuns.l0 (m + 1) (some ⟨L, 0, none⟩) A ops.length c (ops.length : Int) (i : Int) w K0 := by
  intro m
  induction m with
  | zero =>
    intro i w ρ d l xs mx hi eL h hmx gw
    unfold f_law09_WalRuns.l0
    exact sel_f (by simp; omega) (hK w ρ d l xs eL ⟨h.S, h.f, h.c, h.o, h.dd, by have := h.m; omega, h.np⟩ gw)
  | succ m ih =>
    intro i w ρ d l xs mx hi eL h hmx gw
    have hlt : i < ops.length := by omega
    have ew : IntKind.i64.wrap ((i : Int) + 1) = ((i + 1 : Nat) : Int) := by rw [w64_in (by omega)]; omega
    unfold f_law09_WalRuns.l0
    rw [ew]
    refine sel_t (by simpa using hlt) (wop_ld rfl (hr.row.below Ewop gw) hlt (wop_box (o := ops[i]) fun b w1 e1 hb g1 => ?_))
    have ho := hr.ok _ (List.getElem_mem hlt)
    obtain ⟨o, hoi⟩ : ∃ o, ops[i] = o := ⟨_, rfl⟩
    rw [hoi] at hb ho
    have h1 := h.below g1
    have gw1 := gw.trans (g1.mono gw.size)
    have skip := ih (i + 1) w1 ρ d l xs mx (by omega) eL h1 (by omega) gw1
    refine hb_ldI0 hb (x := o.kind) rfl ?_
    by_cases q1 : 1 ≤ o.kind
    · refine sel_t (by simpa using q1) (hb_ldI0 hb (x := o.kind) rfl ?_)
      by_cases q2 : o.kind ≤ 3
      · refine sel_t (by simpa using q2) (hb_ldI0 hb (x := o.kind) rfl (hb_ldI hb (j := 1) (x := o.n) rfl (hb_ldI hb (j := 2) (x := o.t) rfl (hb_ldS hb (j := 3) (A := o.A1) (n := o.data.length) (c := o.c1) rfl (hb_ldS hb (j := 4) (A := o.A2) (n := o.keeps.length) (c := o.c2) rfl (hb_ldS hb (j := 5) (A := o.A3) (n := o.fates.length) (c := o.c3) rfl ?_))))))
        have ask := asks_ok h1 (by omega) ho gw1 hB ⟨q1, q2⟩
        rw [eL] at ask
        refine ask.mono ?_
        rintro _ w2 ⟨b8, bb, rfl, ρ2, d2, l2, xs2, eL2, h2, g2⟩
        exact ⟨_, _, _, _, _, _, _, _, _, _, _, _, _, _, _, _, _, _, _, _, _, _, rfl, ih (i + 1) w2 ρ2 d2 l2 xs2 (mx + 1) (by omega) eL2 h2 (by omega) (gw1.trans (g2.mono hB))⟩
      · exact sel_f (by simpa using q2) skip
    · exact sel_f (by simpa using q1) skip
theorem runs_lt {a b : Nat} (h : a < b) (s : Nat) (hs : s ≤ 7968) : ((a * 16777216 + s : Nat) : Int) < ((b * 16777216 : Nat) : Int) := by
  have := lt_runs' (K := 16777216) (s := s) (t := 0) (Nat.le_refl a) (Nat.le_trans hs (by decide))
  have h2 : (a + 1) * 16777216 ≤ b * 16777216 := Nat.mul_le_mul_right _ h
  refine Int.ofNat_lt.2 ?_
  have h3 : a * 16777216 + s < (a + 1) * 16777216 := by rw [Nat.add_mul, Nat.one_mul]; exact Nat.add_lt_add_left (Nat.lt_of_le_of_lt hs (by decide)) _
  exact Nat.lt_of_lt_of_le h3 h2
set_option maxHeartbeats 1000000 in
theorem WalRuns_walk {A A2 : Option Addr} {c c2 : Nat} {ops : List WOp} {ks : List Int} {count : Int} (hr : RWo w A ops) (hl : ops.length ≤ 2097151) (hk : RI w A2 ks) (hkb : ks ≠ [] → ∀ a, A2 = some a → a.block < w.heap.size) (hks : ks.length ≤ 140737488355328) :
    Calls Tryd.prog 7 #[.int .i64 count, .slice A ops.length c, .slice A2 ks.length c2] w fun e w' => e = .returned (.bool true) ∧ Below w.heap.size w w' := by
  apply f_law09_WalRuns.ok
  unfold f_law09_WalRuns.wp
  refine (alive_ok w).mono ?_
  rintro _ w1 ⟨rfl, g1⟩
  refine ⟨_, rfl, sel_f rfl ?_⟩
  by_cases q1 : count < 1
  · exact sel_t (by simpa using q1) ⟨rfl, g1⟩
  refine sel_f (by simpa using q1) ?_
  by_cases q2 : 9 < count
  · exact sel_t (by simpa using q2) ⟨rfl, g1⟩
  refine sel_f (by simpa using q2) ?_
  obtain ⟨n, rfl⟩ : ∃ n : Nat, count = (n : Int) := ⟨count.toNat, by omega⟩
  refine (made_ok (count := n) (by omega) (by omega)).mono ?_
  rintro _ w2 ⟨r, ρ, d, rfl, S, np, hst, hsz, g2⟩
  have g02 : Below w.heap.size w w2 := g1.trans (g2.mono g1.size)
  have hB1 := g1.size
  refine ⟨_, _, rfl, sel_f rfl (sel_f rfl ⟨_, runs_l0 (w0 := w) (B := w1.heap.size) (L := ρ.L) (r := r) (count := n) (by omega) hr hB1 (fun w3 ρ3 d3 l3 xs3 eL3 h3 g3 _ => ?_) _ 0 w2 ρ d (mkL n) [] 2 rfl rfl ⟨S, rfl, rfl, rfl, rfl, Nat.le_refl _, np⟩ (Nat.le_refl _) g02⟩)⟩
  rw [← eL3]
  refine (End_ok h3.S.lm h3.S.cr.lg).mono ?_
  rintro _ w3 ⟨rfl, rfl⟩
  refine ⟨_, rfl, (h3.reset (by decide)).mono ?_⟩
  rintro _ w4 ⟨ρ4, d4, rfl, eL4, h4, n4, k4⟩
  rw [← eL4]
  have g4 : Below w.heap.size w w4 := g3.trans ((h3.S.bel k4).mono hB1)
  obtain ⟨l4, hl4⟩ : ∃ l4, freshL l3 = l4 := ⟨_, rfl⟩
  have y1 : l4.run = l3.most + 1 := by rw [← hl4]; rfl
  have y2 : l4.stream = [] := by rw [← hl4]; rfl
  have y3 : l4.safe = 0 := by rw [← hl4]; rfl
  have y4 : l4.recs = [] := by rw [← hl4]; rfl
  rw [hl4] at h4
  have hrm := h3.S.cr.rm
  have hss := h3.S.cr.lg.s
  have em4 := h4.m
  have rm4 := h4.S.cr.rm
  refine ⟨_, rfl, sel_f rfl ((End_ok h4.S.lm h4.S.cr.lg).mono ?_)⟩
  rintro _ w4 ⟨rfl, rfl⟩
  have hend : l4.run * 16777216 + l4.stream.length = l4.run * 16777216 := by rw [y2, List.length_nil, Nat.add_zero]
  have hsafe : l4.run * 16777216 + l4.safe = l4.run * 16777216 := by rw [y3, Nat.add_zero]
  rw [hend]
  have hlt : ((l3.run * 16777216 + l3.stream.length : Nat) : Int) < ((l4.run * 16777216 : Nat) : Int) := runs_lt (by omega) _ hss
  refine ⟨_, rfl, sel_f (by simpa using hlt) ((Safe_ok h4.S.lm h4.S.cr.lg).mono ?_)⟩
  rintro _ w4 ⟨rfl, rfl⟩
  rw [hsafe]
  refine ⟨_, rfl, (End_ok h4.S.lm h4.S.cr.lg).mono ?_⟩
  rintro _ w4 ⟨rfl, rfl⟩
  rw [hend]
  refine ⟨_, rfl, sel_f (by simp) ((Room_ok h4.S.lm h4.S.cr.lg).mono ?_)⟩
  rintro _ w5 ⟨rfl, g5⟩
  have h5 := h4.below g5
  have g05 := g4.trans (g5.mono g4.size)
  have ew : IntKind.i64.wrap ((n : Int) * 498) = (n : Int) * 498 := w64_in (by omega)
  refine ⟨_, rfl, sel_f (by rw [ew, h4.c, y2]; simp) ((Records_wal h5.S.dm h5.S.lm h5.S.cr.lg (T := 0)).mono ?_)⟩
  rintro _ w6 ⟨A6, c6, rfl, o6, g6⟩
  have h6 := h5.below g6
  have g06 := g05.trans (g6.mono g05.size)
  have e6 : (fromL 0 l4.recs).length = 0 := by rw [y4]; rfl
  refine ⟨_, _, _, rfl, sel_f (by rw [e6]; rfl) ((End_ok h6.S.lm h6.S.cr.lg).mono ?_)⟩
  rintro _ w6 ⟨rfl, rfl⟩
  rw [hend]
  have hkr : RI w6 A2 ks := fun i hi => by
    obtain ⟨a, ha, hc⟩ := hk i hi
    exact ⟨a, ha, (g06.cell (World.block_lt_of_cell? _ _ hc)).trans hc⟩
  refine ⟨_, rfl, (On1_ok h6.S.dm hkr hkb hB1 hks).mono ?_⟩
  rintro _ w7 ⟨rfl, d7, k7⟩
  have g07 : Below w.heap.size w w7 := g06.trans (k7.below g06.size fun k hk hF => by have := (h6.S.dm.lt k hF).2; omega)
  have op := h6.S.open h6.o d7 (Nat.le_trans h6.S.lo k7.size)
  rw [h6.f, h6.c] at op
  refine ⟨rfl, op.mono ?_⟩
  rintro _ w8 ⟨ρ8, A8, c8, Bx, run, ys, rfl, S8, o8, p8, q8, g8, v1, v2, v3, v4⟩
  have g08 := g07.trans (g8.mono g07.size)
  rcases v4 with ⟨v, _⟩ | ⟨v5, j, v6, v7, v8⟩
  · cases v
  have ey : ys = [] := by rw [v6, List.take_nil]
  subst ey
  obtain ⟨d8, hd8⟩ : ∃ d8, onD d4 ks = d8 := ⟨_, rfl⟩
  have np8 : NP d8 := by rw [← hd8]; exact NP.on h4.np.2 _
  rw [hd8] at S8 v1 v2
  obtain ⟨l8, hl8⟩ : ∃ l8, (⟨1, n, run, mostF (secF d8 1) n, recsB [], (recsB []).length, rcsOf run 0 [], true, false⟩ : Lg) = l8 := ⟨_, rfl⟩
  have z1 : l8.run = run := by rw [← hl8]
  have z2 : l8.stream = [] := by rw [← hl8]; rfl
  have z3 : l8.dead = false := by rw [← hl8]
  have z4 : l8.most = mostF (secF d8 1) n := by rw [← hl8]
  rw [hl8] at S8
  rw [← z4] at v1 v2
  simp only [Bool.false_eq_true, if_false] at v2
  have hend8 : l8.run * 16777216 + l8.stream.length = l4.run * 16777216 := by rw [z1, z2, v5, List.length_nil, Nat.add_zero]
  refine ⟨_, _, _, _, _, rfl, sel_t rfl (sel_t rfl (sel_t rfl ((End_ok S8.lm S8.cr.lg).mono ?_)))⟩
  rintro _ w8 ⟨rfl, rfl⟩
  rw [hend8]
  refine ⟨_, rfl, sel_t (beq_self_eq_true _) ?_⟩
  refine reset6 S8 np8 z3 (by omega) fun w9 ρ9 eL9 S9 n9 k9 => ⟨_, rfl, sel_t rfl ?_⟩
  have g9 : Below w.heap.size w w9 := g08.trans ((S8.bel k9).mono hB1)
  obtain ⟨l9, hl9⟩ : ∃ l9, freshL l8 = l9 := ⟨_, rfl⟩
  have x1 : l9.run = l8.most + 1 := by rw [← hl9]; rfl
  have x2 : l9.stream = [] := by rw [← hl9]; rfl
  rw [hl9] at S9
  rw [← eL9]
  refine (End_ok S9.lm S9.cr.lg).mono ?_
  rintro _ w9 ⟨rfl, rfl⟩
  have hlt9 : ((l4.run * 16777216 : Nat) : Int) < ((l9.run * 16777216 + l9.stream.length : Nat) : Int) := by
    have h1 : l9.run * 16777216 + l9.stream.length = l9.run * 16777216 := by rw [x2, List.length_nil, Nat.add_zero]
    have h2 := runs_lt (a := l4.run) (b := l9.run) (by omega) 0 (by decide)
    rw [Nat.add_zero] at h2
    rw [h1]; exact h2
  refine ⟨_, rfl, ?_, g9⟩
  rw [decide_eq_true (show _ > _ from hlt9)]
theorem WalRunsUpto_row {A A2 : Option Addr} {c c2 : Nat} {ops : List WOp} {ks : List Int} {count : Int} (_ : (Lit.int .i64 count).wf = true) (hr : RWo w A ops) (_ : A = none → c = 0) (hl : ops.length ≤ 1048576) (hk : RI w A2 ks) (hkb : ks ≠ [] → ∀ a, A2 = some a → a.block < w.heap.size) (hks : ks.length * 8 ≤ 140737488351232) :
    Calls Tryd.prog 7 #[.int .i64 count, .slice A ops.length c, .slice A2 ks.length c2] w fun e w' => e = .returned (.bool true) ∧ Below w.heap.size w w' := WalRuns_walk hr (by omega) hk hkb (by omega)
end
end Go.Proofs.YtpokaafedpnbdaaDoor.Rd
