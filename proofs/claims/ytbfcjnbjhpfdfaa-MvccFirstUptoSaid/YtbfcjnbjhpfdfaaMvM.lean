/- One call against the document (asks), walked. Conditions: none. -/
import Derived.Test.YtbfcjnbjhpfdfaaMvK
import Derived.Test.YtbfcjnbjhpfdfaaMvL
namespace Go.Dn
open Go.RowKit
set_option linter.unusedVariables false
/-- a row appended to a row of one's own -/
theorem app_row {α : Type} {P : Program} {t te : TypeId} {k by_ : Nat} (T : RecTy P t te k by_) {enc : α → List Value} (E : Enc enc k) (hby : 0 < by_) {w : World} {B : Nat} {A : Option Addr} {n c : Nat} {l l2 : List α} (ho : OwnE enc k w B te A c l) (hn : n = l.length) {A2 : Option Addr} {m c2 : Nat} (hr : RowE enc k w A2 l2) (hm : m = l2.length) (h0 : A2 = none → c2 = 0 ∧ m = 0)
    (hB : B ≤ w.heap.size) (hlen : (l.length + l2.length) * by_ ≤ 140737488355328) {ty : TypeId} {K : Value → World → Prop}
    (hK : ∀ A' c' w', OwnE enc k w' B te A' c' (l ++ l2) → Keeps (Ob A) w w' → K (.slice A' (l ++ l2).length c') w') :
    Runs P (Builtin.append_ #[t, t] ty #[.slice A n c, .slice A2 m c2]) w K := by
  subst hn; subst hm
  obtain ⟨i, z, hi, hz, hz1, hs, hbyt⟩ := T.info
  have hlen2 : l.length + l2.length ≤ 140737488355328 := Nat.le_trans (Nat.le_mul_of_pos_right _ hby) hlen
  cases A2 with
  | none =>
    obtain ⟨rfl, hl2⟩ := h0 rfl
    have hl2 := List.length_eq_zero_iff.1 hl2
    subst hl2
    refine runs_of (run_append_owned_none w B t ty te i k T.und hi _ _ _ ho) ?_
    have := hK A c w (by rw [List.append_nil]; exact ho) (.refl _ _)
    rw [List.append_nil] at this
    exact this
  | some a =>
    have hnews : ∀ j u, (encs enc l2)[j]? = some u → w.cell? (a.add j) = some u := fun j u hj => by
      have hjl := (List.getElem?_eq_some_iff.1 hj).1
      rw [encs_len E] at hjl
      have hi2 : j / k < l2.length := Nat.div_lt_of_lt_mul (by rw [Nat.mul_comm]; exact hjl)
      have hj2 : j % k < k := Nat.mod_lt _ E.pos
      have := hr.cj hi2 hj2
      rw [add_add, ← encs_get E hi2 hj2, Nat.mul_comm, Nat.div_add_mod] at this
      rw [this]; exact hj
    have hone : ∀ u ∈ encs enc l2, u.oneCell' = true := fun u hu => by
      unfold encs at hu
      obtain ⟨x, _, hx⟩ := List.mem_flatMap.1 hu
      exact E.one x u hx
    obtain ⟨v', w', hrun, ho', hg, _⟩ := run_append_own (P := P) w B t ty te i z k by_ T.und hi hz hs hbyt hz1 E.pos (.slice A l.length c) l.length (encs enc l) ho a l2.length c2 (encs enc l2) (encs_len E l2) hnews hone (by unfold maxLen; omega) hlen hB
    have hk : Keeps (Ob A) w w' := ⟨hg.os, hg.tape, hg.output, hg.size, fun k hk hn => hg.block k hk fun h => hn (ob_own h)⟩
    rw [← encs_app] at ho'
    obtain ⟨A', c', rfl⟩ : ∃ A' c', v' = .slice A' (l.length + l2.length) c' := by
      obtain ⟨_, h⟩ := ho'
      rcases h with ⟨h1, h2⟩ | ⟨g, cap, cur, hv, _⟩
      · exact ⟨none, 0, by rw [h1, h2]⟩
      · exact ⟨_, _, hv⟩
    have hlen3 : (l ++ l2).length = l.length + l2.length := by simp
    refine runs_of hrun ?_
    have := hK A' c' w' (by unfold OwnE; rw [hlen3]; exact ho') hk
    rw [hlen3] at this; exact this
/-- one's own row as a block -/
theorem OwnE.hb {α : Type} {enc : α → List Value} {k : Nat} (E : Enc enc k) {w : World} {B e : Nat} {A : Option Addr} {c : Nat} {l : List α} (h : OwnE enc k w B e A c l) : (A = .none ∧ c = 0 ∧ l = []) ∨ ∃ g cur, A = some ⟨g, 0, Option.none⟩ ∧ B ≤ g ∧ HB w g cur e ∧ cur.toList.take (l.length * k) = encs enc l ∧ l.length * k ≤ cur.size := by
  obtain ⟨_, h⟩ := h
  rcases h with ⟨h1, h2⟩ | ⟨g, cap, cur, hv, hg, hh, hn, hm, hs, ht⟩
  · injection h1 with h1 _ h3
    exact .inl ⟨h1, h3, List.length_eq_zero_iff.1 h2⟩
  · injection hv with hA _ hc
    exact .inr ⟨g, cur, hA, hg, hh, ht, by rw [hs]; exact Nat.mul_le_mul_right _ hn⟩
theorem OwnI.e {w : World} {B e : Nat} {A : Option Addr} {c : Nat} {l : List Int} (h : OwnI w B e A c l) : OwnE inE 1 w B e A c l := by
  unfold OwnE
  rw [encs_in]; exact h
/-! ### calls -/
structure MOp where
  kind : Int
  n : Int
  A : Option Addr
  c : Nat
  refs : List Rf
def opE (o : MOp) : List Value := [.int .i64 o.kind, .int .i64 o.n, .slice o.A o.refs.length o.c]
theorem Eop : Enc opE 3 := ⟨fun _ => rfl, fun x u hu => by simp [opE] at hu; rcases hu with rfl | rfl | rfl <;> rfl, by decide⟩
def Tb.op (t : Tb) (o : MOp) : Tb := if o.kind = 1 then t.begin.1 else if o.kind = 2 then (t.touch o.n o.refs).1 else if o.kind = 3 then (t.commit o.n).1 else if o.kind = 4 then (t.abort o.n).1 else t
/-- what holds of a call's parts in memory -/
structure OkOp (w : World) (o : MOp) : Prop where
  rr : RR w o.A o.refs
  lt : o.refs ≠ [] → ∀ a, o.A = some a → a.block < w.heap.size
  z : o.A = none → o.c = 0 ∧ o.refs.length = 0
  k : W64 o.kind
  n : W64 o.n
  r : ∀ r ∈ o.refs, W64 r.2
  len : o.refs.length * 16 ≤ 140737488355328
theorem OkOp.keeps {S : Nat → Prop} {w w' : World} {o : MOp} (h : OkOp w o) (hk : Keeps S w w') (hS : o.refs ≠ [] → ∀ a, o.A = some a → ¬ S a.block) : OkOp w' o :=
  ⟨h.rr.keeps' hk hS, fun hne a ha => Nat.lt_of_lt_of_le (h.lt hne a ha) hk.size, h.z, h.k, h.n, h.r, h.len⟩
theorem OkOp.below {w w' : World} {o : MOp} (h : OkOp w o) (hb : Below w.heap.size w w') : OkOp w' o := h.keeps (S := fun _ => False) (.of_below hb) fun _ _ _ => id
/-- what the document's side asks for -/
structure OkM (m : Tb) (o : MOp) : Prop where
  len : m.txs.length ≤ 1048575
  tk : ∀ y ∈ m.txs, (y.tk.length + o.refs.length) * 16 ≤ 140737488355328
  l0 : 0 ≤ m.last
theorem OkM.len' {m : Tb} {o : MOp} (h : OkM m o) : ∀ y ∈ m.txs, (y.tk.length : Int) ≤ 9223372036854775807 := fun y hy => by have := h.tk y hy; omega
/-- behind both sides -/
structure Both (w w' : World) (F G : Nat → Prop) (a : Nat) (tT tX : TypeId) (t' : Tb) (A' : Option Addr) (l : List Tx) : Prop where
  ex : ∃ F' G', TB w' F' a tT tX t' ∧ RTb w' G' A' l ∧ (∀ k, F' k → F k ∨ w.heap.size ≤ k) ∧ (∀ k, G' k → G k ∨ w.heap.size ≤ k) ∧ (∀ k, F' k → ¬ G' k)
  kp : Keeps F w w'
theorem both_of {w w6 w9 w14 w' : World} {F F' G S : Nat → Prop} {a : Nat} {tT tX : TypeId} {t' : Tb} {A' : Option Addr} {l : List Tx} (hb : Below w.heap.size w w6) (k69 : Keeps F w6 w9) (hT : TB w9 F' a tT tX t') (hf : ∀ k, F' k → F k ∨ w6.heap.size ≤ k) (r : RO w9 w14 G A' l)
    (k : Keeps S w14 w') (hS : ∀ k, S k → (w.heap.size ≤ k ∧ k < w6.heap.size) ∨ w14.heap.size ≤ k) (hFl : ∀ k, F k → k < w.heap.size) (hGl : ∀ k, G k → k < w.heap.size) (dis : ∀ k, F k → ¬ G k) : Both w w' F G a tT tX t' A' l := by
  obtain ⟨G', r1, r2, r3⟩ := r
  have s0 := hb.size
  have s1 := k69.size
  have s2 := r3.size
  have hG'l : ∀ k, G' k → k < w14.heap.size := by obtain ⟨ms, _, rr⟩ := r1; exact rr.lt
  refine ⟨⟨F', G', (hT.below r3).keeps k fun j hj hs => ?_, r1.keeps k fun j hj hs => ?_, fun j hj => (hf j hj).imp id fun h => by omega, fun j hj => (r2 j hj).imp id fun h => by omega, fun j hj hg => ?_⟩, ?_⟩
  · have h1 := hT.lt hj
    rcases hS j hs with h | h
    · rcases hf j hj with h2 | h2
      · have := hFl j h2; omega
      · omega
    · omega
  · rcases hS j hs with h | h
    · rcases r2 j hj with h2 | h2
      · have := hGl j h2; omega
      · omega
    · have := hG'l j hj; omega
  · have h1 := hT.lt hj
    rcases r2 j hg with h2 | h2
    · rcases hf j hj with h3 | h3
      · exact dis j h3 h2
      · have := hGl j h2; omega
    · omega
  · refine (((Keeps.of_below (S := F) hb).trans' k69 fun j _ h => h).trans' (Keeps.of_below (S := fun _ => False) r3) fun j _ h => h.elim).trans' k fun j hj hs => ?_
    rcases hS j hs with h | h <;> omega
end Go.Dn
namespace Go.Proofs.Ytbfcjnbjhpfdfaa.Rd
open Go.Dn Go.RowKit
set_option linter.unusedVariables false
set_option maxRecDepth 100000
abbrev BothT (w w' : World) (F G : Nat → Prop) (a : Nat) (t' : Tb) (A' : Option Addr) (l : List Tx) : Prop := Both w w' F G a 60 81 t' A' l
structure AskR (w : World) (F G : Nat → Prop) (a : Nat) (t m : Tb) (o : MOp) (e : Ending) (w' : World) : Prop where
  ex : ∃ A' c' b, e = .returned (.tuple #[tbV A' (m.op o).txs.length c' (m.op o).last, .bool b]) ∧ BothT w w' F G a (t.op o) A' (m.op o).txs ∧ (t = m → b = true)
/-- the given elements are still as they were -/
theorem ask_loop {b4 b5 b6 : Nat} {t5 : TypeId} {o : MOp} {g c : Nat} {K1 : World → Prop} {Kr : Bool → World → Prop} (hg5 : g ≠ b5) (hgo : o.refs ≠ [] → ∀ a, o.A = some a → a.block ≠ g) (hlen : o.refs.length * 16 ≤ 140737488355328) :
    ∀ (N i : Nat) (w : World) (cur : Array Value), o.refs.length - i = N → i ≤ o.refs.length → HB w b5 #[.int .i64 o.kind, .int .i64 o.n, .slice o.A o.refs.length o.c] t5 → RR w o.A o.refs → HB w g cur 62 → o.refs.length * 2 ≤ cur.size → (∀ j, i * 2 ≤ j → j < o.refs.length * 2 → cur[j]? = (encs rfE o.refs)[j]?) →
      (∀ w', Keeps (fun k => k = g) w w' → K1 w') → f_law14_asks.l0 (N + 1) ⟨b4, 0, none⟩ ⟨b5, 0, none⟩ ⟨b6, 0, none⟩ (some ⟨g, 0, none⟩) o.refs.length c (o.refs.length : Int) (i : Int) w K1 Kr
  | N, i, w, cur, hN, hi, h5, hR, hg, hsz, hcur, hK => by
    unfold f_law14_asks.l0
    by_cases hlt : i < o.refs.length
    · cases N with
      | zero => omega
      | succ N =>
        have kd : Keeps (fun _ => False) w w.drew := (Keeps.refl _ _).drew
        have h5d := h5.keeps kd id
        have hRd := hR.keeps kd fun _ _ => id
        have hgd := hg.keeps kd id
        have kk : Keeps (fun k => k = g) w w.drew := (Keeps.refl _ _).drew
        obtain ⟨a, ha, p1, p2⟩ := hRd i hlt
        have e0 : (encs rfE o.refs)[i * 2 + 0]? = (rfE o.refs[i])[0]? := encs_get Erf hlt (by decide)
        have e1 : (encs rfE o.refs)[i * 2 + 1]? = (rfE o.refs[i])[1]? := encs_get Erf hlt (by decide)
        refine sel_t (by simpa using hlt) (drW_intro (optB_some rfl (req_intro (by simp; omega) ?_)))
        rw [Int.toNat_natCast]
        generalize w.drew = w1 at *
        refine ⟨_, (hgd.cell (i * 2)).trans ((hcur (i * 2) (by omega) (by omega)).trans e0), ldI_intro ((by rw [add_add]; exact (hgd.cell (i * 2 + 1)).trans ((hcur (i * 2 + 1) (by omega) (by omega)).trans e1))) (hb_ldS (j := 2) h5d rfl ?_)⟩
        rw [ha]
        refine optB_some rfl (req_intro (by simp; omega) ⟨_, p1, ldI_intro p2 (sel_f (by simp) (optB_some rfl (req_intro (by simp; omega) ?_)))⟩)
        rw [add_add]
        refine hb_st (j := i * 2 + 1) hgd (by omega) fun w2 hg2 k2 => ?_
        rw [i64n (by omega)]
        refine ask_loop hg5 hgo hlen N (i + 1) w2 _ (by omega) (by omega) (h5d.keeps k2 (Ne.symm hg5)) (hRd.keeps' k2 fun hne a' ha' => hgo hne a' ha') hg2 (by simpa using hsz) (fun j hj1 hj2 => ?_) fun w' k' => hK w' ((kk.trans k2).trans k')
        rw [Array.getElem?_setIfInBounds_ne (by omega)]
        exact hcur j (by omega) hj2
    · exact sel_f (by simpa using hlt) (hK w (.refl _ _))
theorem ask_tail {w w6 w9 w14 w19 : World} {F F' G : Nat → Prop} {a b5 : Nat} {cs : Array Value} {tb : TypeId} {t m : Tb} {o : MOp} {A' : Option Addr} {c' : Nat} (hb : Below w.heap.size w w6) (k69 : Keeps F w6 w9) (hT : TBL w9 F' a (t.op o)) (hf : ∀ k, F' k → F k ∨ w6.heap.size ≤ k) (r : RO w9 w14 G A' (m.op o).txs)
    (hk : Keeps (fun k => w14.heap.size ≤ k) w14 w19) (h5 : HB w19 b5 cs tb) (hs : cs.size = 2) (hb5 : w.heap.size ≤ b5 ∧ b5 < w6.heap.size) (hFl : ∀ k, F k → k < w.heap.size) (hGl : ∀ k, G k → k < w.heap.size) (dis : ∀ k, F k → ¬ G k) {b : Bool} (hbt : t = m → b = true) :
    stW w19 (⟨b5, 0, none⟩ : Addr) (.slice A' (m.op o).txs.length c') fun w1 => stW w1 ((⟨b5, 0, none⟩ : Addr).add 1) (.int .i64 (m.op o).last) fun w2 => ldS w2 (⟨b5, 0, none⟩ : Addr) fun A' n' c' => ldI w2 ((⟨b5, 0, none⟩ : Addr).add 1) .i64 fun x' =>
        AskR w F G a t m o (.returned (.tuple #[.agg #[.slice A' n' c', .int .i64 x'], .bool b])) w2 := by
  refine out2 h5 hs fun w22 k22 _ => ⟨A', c', b, rfl, ?_, hbt⟩
  exact both_of hb k69 hT hf r ((hk.mono (S' := fun k => k = b5 ∨ w14.heap.size ≤ k) fun k _ h => .inr h).trans (k22.mono fun k _ h => .inl h)) (fun k hk => hk.elim (fun e => .inl (by omega)) .inr) hFl hGl dis
theorem asks_ok {w : World} {F G : Nat → Prop} {a : Nat} {t m : Tb} {A : Option Addr} {c : Nat} {o : MOp} (h : TBL w F a t) (hr : RTb w G A m.txs) (dis : ∀ k, F k → ¬ G k) (ho : OkOp w o) (hm : OkM m o) (hlen : (t.txs.length : Int) < 4611686018427387904) (hoF : o.refs ≠ [] → ∀ g, o.A = some g → ¬ F g.block) :
    Calls Try.prog 11 #[eP a, tbV A m.txs.length c m.last, .agg #[.int .i64 o.kind, .int .i64 o.n, .slice o.A o.refs.length o.c]] w (AskR w F G a t m o) := by
  have hFl : ∀ k, F k → k < w.heap.size := fun k hk => h.lt hk
  have hGl : ∀ k, G k → k < w.heap.size := by obtain ⟨ms, _, r⟩ := hr; exact r.lt
  apply f_law14_asks.ok
  unfold f_law14_asks.wp
  refine al_new fun w1 b1 e1 s1 h1 g1 => al_new fun w4 b3 e3 s3 h3 g4 => al_new fun w6 b5 e5 s5 h5 g6 => ?_
  have sz1 := g1.size
  have sz4 := g4.size
  have sz6 := g6.size
  have b06 : Below w.heap.size w w6 := (g1.trans (g4.mono (by omega))).trans (g6.mono (by omega))
  have H6 := h.below b06
  have R6 := hr.below b06
  have h1 := (h1.below g4).below g6
  have h3 := h3.below g6
  have ho6 := ho.below b06
  have nF : ∀ k, w.heap.size ≤ k → ¬ F k := fun k hk hf => by have := hFl k hf; omega
  have nG : ∀ k, w.heap.size ≤ k → ¬ G k := fun k hk hf => by have := hGl k hf; omega
  have hml : m.txs.length ≤ 1048576 := Nat.le_trans hm.len (by omega)
  refine hb_ldI0 h3 rfl ?_
  by_cases q1 : o.kind = 1
  · have ee : ∀ t : Tb, t.op o = t.begin.1 := fun t => by unfold Tb.op; rw [if_pos q1]
    refine sel_t (by simp [q1]) ((Begin_ok H6 hlen).mono fun e w9 he => ?_)
    obtain ⟨rfl, F', T9, k9, f9⟩ := he
    have h19 := h1.keeps k9 (nF b1 (by omega))
    have h59 := h5.keeps k9 (nF b5 (by omega))
    have R9 := R6.keeps k9 fun k hk hf => dis k hf hk
    refine ⟨_, _, rfl, hb_ldS0 h19 rfl (hb_ldI (j := 1) h19 rfl ((RBegin_ok (c := c) R9 hm.len).mono fun e w14 he => ?_))⟩
    obtain ⟨A', c', rfl, r14⟩ := he
    have b914 : Below w9.heap.size w9 w14 := by obtain ⟨_, _, _, h⟩ := r14; exact h
    have szs := b914.size
    have szk := k9.size
    refine ⟨A', _, c', _, _, _, rfl, al_new fun w17 b16 e16 s16 h16 g16 => out2 h16 rfl fun w19 k19 h19' => ?_⟩
    have h519 := ((h59.below b914).below g16).keeps k19 (by omega)
    have kk : Keeps (fun k => w14.heap.size ≤ k) w14 w19 := (Keeps.of_below g16).trans' k19 fun k _ (e : k = b16) => by omega
    rw [← ee] at T9 r14
    by_cases hx : t.begin.2.1 = m.begin.2.1
    · refine sel_t (by simpa using hx) ?_
      have := ask_tail (c' := c') (b := t.begin.2.2 == m.begin.2.2) b06 k9 T9 f9 r14 kk h519 rfl ⟨by omega, by omega⟩ hFl hGl dis (fun e => by rw [e]; simp)
      rw [ee] at this; exact this
    · refine sel_f (by simpa using hx) ?_
      have := ask_tail (c' := c') (b := false) b06 k9 T9 f9 r14 kk h519 rfl ⟨by omega, by omega⟩ hFl hGl dis (fun e => absurd (by rw [e]) hx)
      rw [ee] at this; exact this
  refine sel_f (by simpa using q1) ?_
  by_cases q2 : o.kind = 2
  · have ee : ∀ t : Tb, t.op o = (t.touch o.n o.refs).1 := fun t => by unfold Tb.op; rw [if_neg q1, if_pos q2]
    refine sel_t (by simp [q2]) (alW_intro ?_)
    have o7 := OwnE.empty (enc := rfE) (k := 2) (w := w6) (B := w6.heap.size) (e := 62) (Nat.le_refl _)
    have g7 : Below w6.heap.size w6 (w6.alloc (.cells #[] 62)) := (Below.refl _ _).alloc (Nat.le_refl _) _
    have s7 : (w6.alloc (.cells #[] 62)).heap.size = w6.heap.size + 1 := by simp
    generalize w6.alloc (.cells #[] 62) = w7 at o7 g7 s7
    have h37 := h3.below g7
    refine hb_ldS (j := 2) h37 rfl (app_row RTrf Erf (by decide) o7 rfl (ho6.below g7).rr.rowE rfl (fun hA => (ho.z hA)) (by omega) (by simpa using ho.len) fun A8 c8 w8 o8 k8 => ⟨A8, _, c8, rfl, ?_⟩)
    have k68 : Keeps (fun k => w6.heap.size ≤ k) w6 w8 := (Keeps.of_below g7).trans' k8 fun k hk ⟨a', ha, e⟩ => by injection ha with ha; subst ha; simp only at e; omega
    have b68 : Below w6.heap.size w6 w8 := k68.below (Nat.le_refl _) fun k hk h => by omega
    rw [List.nil_append] at o8 ⊢
    have hA8 : ∀ g, A8 = some g → w6.heap.size ≤ g.block := fun g hg => (o8.block g hg).1
    have T8 := H6.below b68
    have h38 := h3.below b68
    have sz8 := b68.size
    refine hb_ldI (j := 1) h38 rfl ((Touch_ok T8 ho.n ho.r (by have := ho.len; omega) (o8.reads Erf).rr fun _ g hg => nF _ (by have := hA8 g hg; omega)).mono fun e w9 he => ?_)
    obtain ⟨rfl, F', T9, k9, f9⟩ := he
    have sz9 := k9.size
    have h39 := h38.keeps k9 (nF b3 (by omega))
    have o9 := o8.keeps k9 fun g hg => nF _ (by have := hA8 g hg; omega)
    have ho9 := (ho6.below b68).keeps k9 hoF
    have h19 := (h1.below b68).keeps k9 (nF b1 (by omega))
    have h59 := (h5.below b68).keeps k9 (nF b5 (by omega))
    have R9 := (R6.below b68).keeps k9 fun k hk hf => dis k hf hk
    have k69 : Keeps F w6 w9 := (Keeps.of_below b68).trans' k9 fun k _ h => h
    -- behind the loop
    have rest : ∀ w10, Keeps (fun k => w6.heap.size ≤ k ∧ Ob A8 k) w9 w10 → (∀ _ : Fr, ldS w10 (⟨b1, 0, Option.none⟩ : Addr) fun A56 n56 c56 =>
        ldI w10 ((⟨b1, 0, Option.none⟩ : Addr).add 1) .i64 fun x57 =>
        ldI w10 ((⟨b3, 0, Option.none⟩ : Addr).add 1) .i64 fun x58 =>
        ldS w10 ((⟨b3, 0, Option.none⟩ : Addr).add 2) fun A59 n59 c59 =>
        Calls Try.prog 26 #[.agg #[.slice A56 n56 c56, .int .i64 x57], .int .i64 x58, .slice A59 n59 c59] w10 fun e60 w61 => ∃ (A62_0_0 : Option Addr) (n62_0_0 : Nat) (c62_0_0 : Nat) (x62_0_1 : Int) (x62_1 : Int), e60 = .returned (.tuple #[.agg #[.slice A62_0_0 n62_0_0 c62_0_0, .int .i64 x62_0_1], .int .i64 x62_1]) ∧ (
        alW w61 (.cells #[.slice none 0 0, .int .i64 (0 : Int)] 28) fun B63 w64 =>
        stW w64 (⟨B63, 0, Option.none⟩ : Addr) (.slice A62_0_0 n62_0_0 c62_0_0) fun w65 =>
        stW w65 ((⟨B63, 0, Option.none⟩ : Addr).add 1) (.int .i64 x62_0_1) fun w66 =>
        ldS w66 (⟨B63, 0, Option.none⟩ : Addr) fun A67 n67 c67 =>
        ldI w66 ((⟨B63, 0, Option.none⟩ : Addr).add 1) .i64 fun x68 =>
        stW w66 (⟨b5, 0, Option.none⟩ : Addr) (.slice A67 n67 c67) fun w69 =>
        stW w69 ((⟨b5, 0, Option.none⟩ : Addr).add 1) (.int .i64 x68) fun w70 =>
        ldS w70 (⟨b5, 0, Option.none⟩ : Addr) fun A71 n71 c71 =>
        ldI w70 ((⟨b5, 0, Option.none⟩ : Addr).add 1) .i64 fun x72 =>
        AskR w F G a t m o (.returned (.tuple #[.agg #[.slice A71 n71 c71, .int .i64 x72], .bool ((t.touch o.n o.refs).2 == x62_1)])) w70)) := by
      intro w10 k10 _
      have szx := k10.size
      have h110 := h19.keeps k10 fun hh => by omega
      have h310 := h39.keeps k10 fun hh => by omega
      have h510 := h59.keeps k10 fun hh => by omega
      have R10 := R9.keeps k10 fun k hk hh => by have := hGl k hk; omega
      have ho10 := ho9.keeps k10 fun hne g hg hh => by have := ho.lt hne g hg; omega
      have T10 : TBL w10 F' a (t.touch o.n o.refs).1 := T9.keeps k10 fun k hk hh => by have := hFl k (f9 k hk); omega
      have k610 : Keeps F w6 w10 := k69.trans' k10 fun k hk hh => by omega
      refine hb_ldS0 h110 rfl (hb_ldI (j := 1) h110 rfl (hb_ldI (j := 1) h310 rfl (hb_ldS (j := 2) h310 rfl ((RTouch_ok (c := c) R10 hml ho.n ho10.rr (fun x hx => hm.tk x (Tb.get_mem hx)) ho10.lt).mono fun e w14 he => ?_))))
      obtain ⟨A', c', rfl, r14⟩ := he
      have b914 : Below w10.heap.size w10 w14 := by obtain ⟨_, _, _, h⟩ := r14; exact h
      have szs := b914.size
      refine ⟨A', _, c', _, _, rfl, al_new fun w17 b16 e16 s16 h16 g16 => out2 h16 rfl fun w19 k19 h19' => ?_⟩
      have h519 := ((h510.below b914).below g16).keeps k19 (by omega)
      have kk : Keeps (fun k => w14.heap.size ≤ k) w14 w19 := (Keeps.of_below g16).trans' k19 fun k _ (e : k = b16) => by omega
      rw [← ee] at T10 r14
      have := ask_tail (c' := c') (b := (t.touch o.n o.refs).2 == (m.touch o.n o.refs).2) b06 k610 T10 (fun k hk => .inl (f9 k hk)) r14 kk h519 rfl ⟨by omega, by omega⟩ hFl hGl dis (fun e => by rw [e]; simp)
      rw [ee] at this; exact this
    rcases o9.hb Erf with ⟨hA0, hc0, hl0⟩ | ⟨g, cur, hAg, hBg, hg9, htk, hszg⟩
    · refine ⟨_, rfl, 1, ?_⟩
      unfold f_law14_asks.l0
      refine sel_f (by simp [hl0]) ?_
      exact rest w9 (Keeps.refl _ w9)
    · refine ⟨_, rfl, o.refs.length + 1, ?_⟩
      rw [hAg]
      refine ask_loop (o := o) (by omega) (fun hne a' ha' e => by have := ho.lt hne a' ha'; omega) ho.len o.refs.length 0 w9 cur (by omega) (by omega) h39 ho9.rr hg9 hszg (fun j _ hj => ?_) fun w10 k10 => rest w10 (k10.mono fun k _ (e : k = g) => ⟨by omega, ⟨_, hAg, e.symm⟩⟩)
      rw [← htk, List.getElem?_take, if_pos (by omega)]
      rw [Array.getElem?_toList]
  refine sel_f (by simpa using q2) ?_
  by_cases q3 : o.kind = 3
  · have ee : ∀ t : Tb, t.op o = (t.commit o.n).1 := fun t => by unfold Tb.op; rw [if_neg q1, if_neg q2, if_pos q3]
    refine sel_t (by simp [q3]) (hb_ldI (j := 1) h3 rfl ((Commit_ok H6 ho.n).mono fun e w9 he => ?_))
    obtain ⟨rfl, F', T9, k9, f9⟩ := he
    have h19 := h1.keeps k9 (nF b1 (by omega))
    have h39 := h3.keeps k9 (nF b3 (by omega))
    have h59 := h5.keeps k9 (nF b5 (by omega))
    have R9 := R6.keeps k9 fun k hk hf => dis k hf hk
    refine ⟨_, _, rfl, hb_ldS0 h19 rfl (hb_ldI (j := 1) h19 rfl (hb_ldI (j := 1) h39 rfl ((RCommit_ok (c := c) R9 hml ho.n hm.len' hm.l0).mono fun e w14 he => ?_)))⟩
    obtain ⟨A', c', rfl, r14⟩ := he
    have b914 : Below w9.heap.size w9 w14 := by obtain ⟨_, _, _, h⟩ := r14; exact h
    have szs := b914.size
    have szk := k9.size
    refine ⟨A', _, c', _, _, _, rfl, al_new fun w17 b16 e16 s16 h16 g16 => out2 h16 rfl fun w19 k19 h19' => ?_⟩
    have h519 := ((h59.below b914).below g16).keeps k19 (by omega)
    have kk : Keeps (fun k => w14.heap.size ≤ k) w14 w19 := (Keeps.of_below g16).trans' k19 fun k _ (e : k = b16) => by omega
    rw [← ee] at T9 r14
    by_cases hx : (t.commit o.n).2.1 = (m.commit o.n).2.1
    · refine sel_t (by simpa using hx) ?_
      have := ask_tail (c' := c') (b := (t.commit o.n).2.2 == (m.commit o.n).2.2) b06 k9 T9 (fun k hk => .inl (f9 k hk)) r14 kk h519 rfl ⟨by omega, by omega⟩ hFl hGl dis (fun e => by rw [e]; simp)
      rw [ee] at this; exact this
    · refine sel_f (by simpa using hx) ?_
      have := ask_tail (c' := c') (b := false) b06 k9 T9 (fun k hk => .inl (f9 k hk)) r14 kk h519 rfl ⟨by omega, by omega⟩ hFl hGl dis (fun e => absurd (by rw [e]) hx)
      rw [ee] at this; exact this
  refine sel_f (by simpa using q3) ?_
  by_cases q4 : o.kind = 4
  · have ee : ∀ t : Tb, t.op o = (t.abort o.n).1 := fun t => by unfold Tb.op; rw [if_neg q1, if_neg q2, if_neg q3, if_pos q4]
    refine sel_t (by simp [q4]) (hb_ldI (j := 1) h3 rfl ((Abort_ok H6 ho.n).mono fun e w9 he => ?_))
    obtain ⟨rfl, F', T9, k9, f9⟩ := he
    have h19 := h1.keeps k9 (nF b1 (by omega))
    have h39 := h3.keeps k9 (nF b3 (by omega))
    have h59 := h5.keeps k9 (nF b5 (by omega))
    have R9 := R6.keeps k9 fun k hk hf => dis k hf hk
    refine ⟨_, rfl, hb_ldS0 h19 rfl (hb_ldI (j := 1) h19 rfl (hb_ldI (j := 1) h39 rfl ((RAbort_ok (c := c) R9 hml ho.n).mono fun e w14 he => ?_)))⟩
    obtain ⟨A', c', rfl, r14⟩ := he
    have b914 : Below w9.heap.size w9 w14 := by obtain ⟨_, _, _, h⟩ := r14; exact h
    have szs := b914.size
    have szk := k9.size
    refine ⟨A', _, c', _, _, rfl, al_new fun w17 b16 e16 s16 h16 g16 => out2 h16 rfl fun w19 k19 h19' => ?_⟩
    have h519 := ((h59.below b914).below g16).keeps k19 (by omega)
    have kk : Keeps (fun k => w14.heap.size ≤ k) w14 w19 := (Keeps.of_below g16).trans' k19 fun k _ (e : k = b16) => by omega
    rw [← ee] at T9 r14
    have := ask_tail (c' := c') (b := (t.abort o.n).2 == (m.abort o.n).2) b06 k9 T9 (fun k hk => .inl (f9 k hk)) r14 kk h519 rfl ⟨by omega, by omega⟩ hFl hGl dis (fun e => by rw [e]; simp)
    rw [ee] at this; exact this
  refine sel_f (by simpa using q4) ?_
  have ee : ∀ t : Tb, t.op o = t := fun t => by unfold Tb.op; rw [if_neg q1, if_neg q2, if_neg q3, if_neg q4]
  have tail : ∀ {w14 w19 : World} (b : Bool), Below w6.heap.size w6 w14 → Keeps (fun k => w14.heap.size ≤ k) w14 w19 → HB w19 b5 #[.slice none 0 0, .int .i64 0] 28 → (t = m → b = true) →
      stW w19 (⟨b5, 0, none⟩ : Addr) (.slice A m.txs.length c) fun w1 => stW w1 ((⟨b5, 0, none⟩ : Addr).add 1) (.int .i64 m.last) fun w2 => ldS w2 (⟨b5, 0, none⟩ : Addr) fun A' n' c' => ldI w2 ((⟨b5, 0, none⟩ : Addr).add 1) .i64 fun x' =>
        AskR w F G a t m o (.returned (.tuple #[.agg #[.slice A' n' c', .int .i64 x'], .bool b])) w2 := by
    intro w14 w19 b hb hk hb5 hbt
    have r14 : RO w14 w14 G A (m.op o).txs := by rw [ee]; exact .of (R6.below hb) (Below.refl _ _)
    have := ask_tail (c' := c) (o := o) (b := b) (F := F) b06 (Keeps.of_below hb) (by rw [ee]; exact H6.below hb) (fun k hk => .inl hk) r14 hk hb5 rfl ⟨by omega, by omega⟩ hFl hGl dis hbt
    rw [ee] at this; exact this
  have fin : ∀ {w14 w' : World} (b : Bool), Below w6.heap.size w6 w14 → Keeps (fun k => k = b5) w14 w' → (t = m → b = true) → AskR w F G a t m o (.returned (.tuple #[.agg #[.slice A m.txs.length c, .int .i64 m.last], .bool b])) w' := by
    intro w14 w' b hb hk hbt
    refine ⟨A, c, b, by rw [ee]; rfl, ?_, hbt⟩
    rw [ee, ee]
    exact both_of b06 (Keeps.of_below hb) (H6.below hb) (fun k hk => .inl hk) (RO.of (R6.below hb) (Below.refl _ _)) hk (fun k e => .inl (by omega)) hFl hGl dis
  by_cases q5 : o.kind = 5
  · refine sel_t (by simp [q5]) (drW_intro ⟨fun w' => HB w' b1 #[.slice A m.txs.length c, .int .i64 m.last] 28 ∧ HB w' b3 #[.int .i64 o.kind, .int .i64 o.n, .slice o.A o.refs.length o.c] 32, ⟨h1, h3⟩, ?_⟩)
    refine ⟨_, _, _, fun w' h => h.1.cell 0, _, fun w' h => h.1.cell 1, _, fun w' h => h.2.cell 1, _, _, _, fun w' h => h.1.cell 0, _, fun w' h => h.1.cell 1, _, fun w' h => h.2.cell 1, ?_⟩
    have kd : Keeps (fun _ => False) w6 w6.drew := (Keeps.refl _ _).drew
    have H7 := H6.keeps kd fun _ _ => id
    have R7 := R6.keeps kd fun _ _ => id
    have h17 := h1.keeps kd id
    have h37 := h3.keeps kd id
    have h57 := h5.keeps kd id
    have bd : Below w6.heap.size w6 w6.drew := kd.below (Nat.le_refl _) fun _ _ => id
    have sd : w6.drew.heap.size = w6.heap.size := rfl
    generalize w6.drew = w7 at H7 R7 h17 h37 h57 bd sd ⊢
    refine (Try_ok H7 ho.n).mono fun e w8 he => ?_
    obtain ⟨rfl, g8⟩ := he
    have h18 := h17.below g8
    have h38 := h37.below g8
    refine ⟨_, rfl, ⟨h18, h38⟩, (RTry_ok (c := c) (R7.below g8) hml ho.n hm.len').mono fun e w14 he => ?_⟩
    obtain ⟨rfl, g14⟩ := he
    have sz8 := g8.size
    have sz14 := g14.size
    have b614 : Below w6.heap.size w6 w14 := (bd.trans (g8.mono (by omega))).trans (g14.mono (by omega))
    have h514 := h5.below b614
    have h1e := h18.below g14
    have h3e := h38.below g14
    refine ⟨_, rfl, ⟨h1e, h3e⟩, ?_⟩
    exact hb_st0 h514 (by simp) fun w15 h15 k15 => hb_st (j := 1) h15 (by simp) fun w16 h16 k16 => ⟨⟨(h1e.keeps k15 (by omega)).keeps k16 (by omega), (h3e.keeps k15 (by omega)).keeps k16 (by omega)⟩, hb_ldS0 h16 rfl (hb_ldI (j := 1) h16 rfl (fin _ b614 (k15.trans k16) (fun e => by rw [e]; simp)))⟩
  refine sel_f (by simpa using q5) ?_
  by_cases q6 : o.kind = 6
  · refine sel_t (by simp [q6]) (hb_ldI (j := 1) h3 rfl ((Start_ok H6 ho.n).mono fun e w7 he => ?_))
    obtain ⟨rfl, hw7⟩ := he
    subst w7
    refine ⟨_, _, rfl, hb_ldS0 h1 rfl (hb_ldI (j := 1) h1 rfl (hb_ldI (j := 1) h3 rfl ((RIs_ok (c := c) R6 ho.n).mono fun e w8 he => ?_)))⟩
    obtain ⟨rfl, g8⟩ := he
    have sz8 := g8.size
    have h18 := h1.below g8
    have h38 := h3.below g8
    have h58 := h5.below g8
    refine ⟨_, rfl, ?_⟩
    cases hx : m.get o.n with
    | none =>
      refine sel_t (by simp) (hb_ldS0 h18 rfl (hb_ldI (j := 1) h18 rfl ?_))
      have hst : t = m → t.startOf o.n = (0, 141) := fun e => by rw [e]; unfold Tb.startOf; rw [hx]
      by_cases hz : (t.startOf o.n).1 = 0
      · exact sel_t (by simpa using hz) (tail (w14 := w8) _ g8 (.refl _ _) h58 (fun e => by rw [hst e]; rfl))
      · exact sel_f (by simpa using hz) (tail (w14 := w8) _ g8 (.refl _ _) h58 (fun e => absurd (by rw [hst e]) hz))
    | some x =>
      obtain ⟨p5, p6, p7⟩ := Tb.get_some hx
      obtain ⟨aa, mm, rfl, hmx, hi, c0, c1, c2, c3, hR, hRG⟩ := get_row (R6.below g8) hx
      refine sel_f (by simp) (drW_intro ?_)
      have kd : Keeps (fun _ => False) w8 w8.drew := (Keeps.refl _ _).drew
      have h19 := h18.keeps kd id
      have h39 := h38.keeps kd id
      have h59 := h58.keeps kd id
      have cd0 : w8.drew.cell? (aa.add ((o.n - 1).toNat * 4)) = some (.int .i64 mm.start) := c0
      have b69 : Below w6.heap.size w6 w8.drew := g8.trans (kd.below sz8 fun _ _ => id)
      have haa : aa.block < w.heap.size := by
        obtain ⟨ms, hms, rr⟩ := hr
        exact hGl _ (rr.gA aa rfl)
      generalize w8.drew = w9 at h19 h39 h59 cd0 b69
      refine ⟨fun w' => HB w' b1 #[.slice (some aa) m.txs.length c, .int .i64 m.last] 28 ∧ HB w' b3 #[.int .i64 o.kind, .int .i64 o.n, .slice o.A o.refs.length o.c] 32 ∧ w'.cell? (aa.add ((o.n - 1).toNat * 4)) = some (.int .i64 mm.start), ⟨h19, h39, cd0⟩, ?_⟩
      refine ⟨_, _, _, fun w' h => h.1.cell 0, _, fun w' h => h.1.cell 1, _, _, _, fun w' h => h.1.cell 0, _, fun w' h => h.2.1.cell 1, optB_some rfl ?_⟩
      rw [i64p p5 ho.n.2]
      refine req_intro (by simp; omega) ⟨_, fun w' h => h.2.2, ?_⟩
      have hst : t = m → t.startOf o.n = (mm.start, 0) := fun e => by
        rw [e]; unfold Tb.startOf; rw [hx, ← hmx]; rfl
      have go : ∀ b : Bool, (t = m → b = true) → stW w9 (⟨b5, 0, none⟩ : Addr) (.slice (some aa) m.txs.length c) fun w1 => stW w1 ((⟨b5, 0, none⟩ : Addr).add 1) (.int .i64 m.last) fun w2 =>
          (HB w2 b1 #[.slice (some aa) m.txs.length c, .int .i64 m.last] 28 ∧ HB w2 b3 #[.int .i64 o.kind, .int .i64 o.n, .slice o.A o.refs.length o.c] 32 ∧ w2.cell? (aa.add ((o.n - 1).toNat * 4)) = some (.int .i64 mm.start)) ∧ (
          ldS w2 (⟨b5, 0, none⟩ : Addr) fun A' n' c' => ldI w2 ((⟨b5, 0, none⟩ : Addr).add 1) .i64 fun x' => AskR w F G a t m o (.returned (.tuple #[.agg #[.slice A' n' c', .int .i64 x'], .bool b])) w2) := fun b hbt =>
        hb_st0 h59 (by simp) fun w15 h15 k15 => hb_st (j := 1) h15 (by simp) fun w16 h16 k16 => ⟨⟨(h19.keeps k15 (by omega)).keeps k16 (by omega), (h39.keeps k15 (by omega)).keeps k16 (by omega), (k15.trans k16).cell cd0 (by rw [add_block]; omega)⟩, hb_ldS0 h16 rfl (hb_ldI (j := 1) h16 rfl (fin _ b69 (k15.trans k16) hbt))⟩
      by_cases hz : (t.startOf o.n).1 = mm.start
      · exact sel_t (by simpa using hz) (go _ fun e => by rw [hst e]; rfl)
      · exact sel_f (by simpa using hz) (go _ fun e => absurd (by rw [hst e]) hz)
  · exact sel_f (by simpa using q6) (hb_ldS0 h1 rfl (hb_ldI (j := 1) h1 rfl (tail (w14 := w6) true (Below.refl _ _) (.refl _ _) h5 fun _ => rfl)))
end Go.Proofs.Ytbfcjnbjhpfdfaa.Rd
