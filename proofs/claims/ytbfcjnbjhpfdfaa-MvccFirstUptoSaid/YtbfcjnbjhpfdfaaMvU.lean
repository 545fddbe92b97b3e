/- MvccPlays, walked. Conditions: none. -/
import Derived.Test.YtbfcjnbjhpfdfaaMvT
namespace Go.Dn
open Go.RowKit
set_option linter.unusedVariables false
theorem op_tk {t : Tb} {o : MOp} {B : Nat} (h : ∀ y ∈ t.txs, y.tk.length ≤ B) : ∀ y ∈ (t.op o).txs, y.tk.length ≤ B + o.refs.length := by
  have hw : ∀ y ∈ t.txs, y.tk.length ≤ B + o.refs.length := fun y hy => by have := h y hy; omega
  have hp : ∀ {n : Int} {x z : Tx}, t.get n = some x → z.tk.length ≤ B + o.refs.length → ∀ y ∈ (t.put n z).txs, y.tk.length ≤ B + o.refs.length := fun hx hz y hy => by
    rcases Tb.mem_put hx hy with rfl | hy
    · exact hz
    · exact hw y hy
  unfold Tb.op
  split
  · unfold Tb.begin
    split
    · exact hw
    · intro y hy
      rcases List.mem_append.1 hy with hy | hy
      · exact hw y hy
      · have : y = ⟨t.last, [], true, -1⟩ := by simpa using hy
        rw [this]; simp
  · split
    · unfold Tb.touch
      split
      · exact hw
      · rename_i x hx
        refine hp hx ?_
        simp only [List.length_append]
        have := h x (Tb.get_mem hx); omega
    · split
      · unfold Tb.commit
        split
        · exact hw
        · rename_i x hx
          have hx' := hw x (Tb.get_mem hx)
          split
          · exact hp hx hx'
          · split
            · exact hp hx hx'
            · exact hp hx hx'
      · split
        · unfold Tb.abort
          split
          · exact hw
          · rename_i x hx
            exact hp hx (hw x (Tb.get_mem hx))
        · exact hw
def sumR (ops : List MOp) : Nat := (ops.map fun o => o.refs.length).sum
theorem sumR_take {ops : List MOp} {i : Nat} (hi : i < ops.length) : sumR (ops.take (i + 1)) = sumR (ops.take i) + ops[i].refs.length := by
  unfold sumR
  rw [take_app hi, List.map_append, List.sum_append]
  simp
theorem sumR_le (ops : List MOp) (i : Nat) : sumR (ops.take i) ≤ sumR ops := by
  have : sumR ops = sumR (ops.take i) + sumR (ops.drop i) := by
    unfold sumR
    rw [← List.sum_append, ← List.map_append, List.take_append_drop]
  omega
end Go.Dn
namespace Go.Proofs.Ytbfcjnbjhpfdfaa.Rd
open Go.Dn Go.RowKit
set_option linter.unusedVariables false
set_option maxRecDepth 100000
theorem plays_l1 {A : Option Addr} {n c B : Nat} {K2 : World → Prop} (hn : n ≤ 8) : ∀ (N i : Nat) (w : World) (l : List Int), n - i = N → i ≤ n → l.length = n → OwnE inE 1 w B 3 A c l → (∀ w', Keeps (Ob A) w w' → K2 w') → f_law14_MvccPlays.l1 (N + 1) A n c (n : Int) (i : Int) w K2
  | N, i, w, l, hN, hi, hl, ho, hK => by
    unfold f_law14_MvccPlays.l1
    by_cases hlt : i < n
    · cases N with
      | zero => omega
      | succ N =>
        obtain ⟨g, hg, hst⟩ := ho.set1 Ein (i := i) (x := -1) (by omega) rfl (K := fun w' => f_law14_MvccPlays.l1 (N + 1) A n c (n : Int) (IntKind.i64.wrap ((i : Int) + 1)) w' K2) fun w' o' k' => by
          rw [i64n (by omega)]
          exact plays_l1 hn N (i + 1) w' _ (by omega) (by omega) (by rw [List.length_set]; exact hl) o' fun w2 k2 => hK w2 (k'.trans k2)
        subst hg
        refine sel_t (by simpa using hlt) (optB_some rfl (req_intro (by simp; omega) ?_))
        rw [Int.toNat_natCast]
        exact hst
    · exact sel_f (by simpa using hlt) (hK w (.refl _ _))
/-- both tables, the document's in a cell of its own -/
structure PlR (w0 w : World) (F G : Nat → Prop) (a b : Nat) (t : Tb) (A : Option Addr) (c : Nat) : Prop where
  lt : LT w0 w F a t
  r : RTb w G A t.txs
  bx : HB w b #[.slice A t.txs.length c, .int .i64 t.last] 28
  dis : ∀ k, F k → ¬ G k
  bF : ¬ F b
  bG : ¬ G b
  gG : ∀ k, G k → w0.heap.size ≤ k
  gb : w0.heap.size ≤ b
variable {w0 w : World} {F G : Nat → Prop} {a b : Nat} {t : Tb} {A : Option Addr} {c : Nat}
theorem PlR.below (h : PlR w0 w F G a b t A c) {w' : World} (hb : Below w.heap.size w w') : PlR w0 w' F G a b t A c :=
  { h with lt := LTb.below h.lt hb, r := h.r.below hb, bx := h.bx.below hb }
theorem PlR.gl (h : PlR w0 w F G a b t A c) : ∀ k, G k → k < w.heap.size := by
  obtain ⟨ms, _, r⟩ := h.r
  exact r.lt
theorem PlR.keeps (h : PlR w0 w F G a b t A c) {S : Nat → Prop} {w' : World} (hk : Keeps S w w') (hS : ∀ k, S k → ¬ F k ∧ ¬ G k ∧ k ≠ b ∧ w0.heap.size ≤ k) : PlR w0 w' F G a b t A c :=
  { h with lt := LTb.keeps h.lt hk fun k hs => ⟨(hS k hs).1, (hS k hs).2.2.2⟩, r := h.r.keeps hk fun k hg hs => (hS k hs).2.1 hg, bx := h.bx.keeps hk fun hs => (hS b hs).2.2.1 rfl }
/-- what is asked behind each call -/
theorem pl_ask (h : PlR w0 w F G a b t A c) (hlen : t.txs.length ≤ 1048576) {K0 : World → Prop} {Kr : Bool → World → Prop} (hK : ∀ w', PlR w0 w' F G a b t A c → Below w0.heap.size w0 w' → K0 w') :
    Calls Try.prog 12 #[.pointer (some ⟨a, 0, none⟩)] w fun e39 w40 => ∃ (A41 : Option Addr) (n41 : Nat) (c41 : Nat), e39 = .returned (.slice A41 n41 c41) ∧ (
    drW w40 fun w42 =>
    ∃ S43 : World → Prop, S43 w42 ∧ (
    sel (!true) (
    S43 w42 ∧ (
    S43 w42 ∧ (
    S43 w42 ∧ (
    S43 w42 ∧ (
    Kr false w42))))) (
    hdI S43 ((⟨b, 0, none⟩ : Addr).add 1) .i64 fun x44 =>
    Calls Try.prog 13 #[.pointer (some ⟨a, 0, none⟩)] w42 fun e45 w46 => ∃ (x47 : Int), e45 = .returned (.int .i64 x47) ∧ (
    S43 w46 ∧ (
    sel (x47 != x44) (
    S43 w46 ∧ (
    S43 w46 ∧ (
    S43 w46 ∧ (
    Kr false w46)))) (
    hdS S43 (⟨b, 0, none⟩ : Addr) fun A48 n48 c48 =>
    hdI S43 ((⟨b, 0, none⟩ : Addr).add 1) .i64 fun x49 =>
    Calls Try.prog 14 #[.pointer (some ⟨a, 0, none⟩)] w46 fun e50 w51 => ∃ (x52 : Int), e50 = .returned (.int .i64 x52) ∧ (
    S43 w51 ∧ (
    Calls Try.prog 15 #[.agg #[.slice A48 n48 c48, .int .i64 x49]] w51 fun e53 w54 => ∃ (x55 : Int), e53 = .returned (.int .i64 x55) ∧ (
    S43 w54 ∧ (
    sel (x52 != x55) (
    S43 w54 ∧ (
    Kr false w54)) (
    hdS S43 (⟨b, 0, none⟩ : Addr) fun A56 n56 c56 =>
    hdI S43 ((⟨b, 0, none⟩ : Addr).add 1) .i64 fun x57 =>
    Calls Try.prog 17 #[.agg #[.slice A56 n56 c56, .int .i64 x57]] w54 fun e58 w59 => ∃ (A60 : Option Addr) (n60 : Nat) (c60 : Nat), e58 = .returned (.slice A60 n60 c60) ∧ (
    S43 w59 ∧ (
    Calls Try.prog 16 #[.slice A41 n41 c41, .slice A60 n60 c60] w59 fun e61 w62 => ∃ (b63 : Bool), e61 = .returned (.bool b63) ∧ (
    sel (!b63) (
    Kr false w62) (
    ∃ k67 : Nat, f_law14_MvccPlays.l1 k67 A41 n41 c41 (n41 : Int) (0 : Int) w62 (fun (w66 : World) => ∀ _ : Fr, K0 w66)))))))))))))))) := by
  refine (LT.live h.lt).mono fun e w1 he => ?_
  obtain ⟨A1, c1, rfl, o1, T1, g1⟩ := he
  have h1 := h.below g1
  have kd : Keeps (fun _ => False) w1 w1.drew := (Keeps.refl _ _).drew
  have h2 := h1.keeps kd fun k hk => hk.elim
  have o2 := o1.keeps kd fun _ _ => id
  have s2 : w1.drew.heap.size = w1.heap.size := rfl
  refine ⟨A1, _, c1, rfl, drW_intro ⟨fun w' => HB w' b #[.slice A t.txs.length c, .int .i64 t.last] 28, h2.bx, sel_f rfl ⟨_, fun w' hw => hw.cell 1, ?_⟩⟩⟩
  have sz1 := g1.size
  generalize w1.drew = w2 at h2 o2 s2
  refine (LT.last h2.lt).mono fun e w3 he => ?_
  obtain ⟨rfl, hw⟩ := he
  subst w3
  refine ⟨_, rfl, h2.bx, sel_f (by simp) ⟨_, _, _, fun w' hw => hw.cell 0, _, fun w' hw => hw.cell 1, (LT.hor h2.lt).mono fun e w3 he => ?_⟩⟩
  obtain ⟨rfl, T3, g3⟩ := he
  have h3 := h2.below g3
  refine ⟨_, rfl, h3.bx, (RHor_ok (c := c) h3.r hlen).mono fun e w4 he => ?_⟩
  obtain ⟨rfl, g4⟩ := he
  have h4 := h3.below g4
  refine ⟨_, rfl, h4.bx, sel_f (by simp) ⟨_, _, _, fun w' hw => hw.cell 0, _, fun w' hw => hw.cell 1, (RLive_ok (c := c) h4.r hlen).mono fun e w5 he => ?_⟩⟩
  obtain ⟨A5, c5, rfl, o5, g5⟩ := he
  have h5 := h4.below g5
  have sz3 := g3.size
  have sz4 := g4.size
  have sz5 := g5.size
  have b25 : Below w2.heap.size w2 w5 := (g3.trans (g4.mono sz3)).trans (g5.mono (by omega))
  have o25 : OwnI w5 w.heap.size 3 A1 c1 t.lives := o2.keeps (S := fun _ => False) (.of_below b25) fun _ _ => id
  have h8 := h.lt.tb.ok.le8
  refine ⟨A5, _, c5, rfl, h5.bx, (SameInts_ok o25.reads rfl o5.reads rfl (by omega)).mono fun e w6 he => ?_⟩
  obtain ⟨rfl, g6⟩ := he
  have h6 := h5.below g6
  have o6 : OwnI w6 w.heap.size 3 A1 c1 t.lives := o25.keeps (S := fun _ => False) (.of_below g6) fun _ _ => id
  refine ⟨_, rfl, sel_f (by simp) ⟨_, plays_l1 h8 t.lives.length 0 w6 t.lives (by omega) (by omega) rfl o6.e fun w7 k7 _ => ?_⟩⟩
  have h7 := h6.keeps k7 fun k ⟨g, hg, e⟩ => by
    have := (o6.block g hg).1
    refine ⟨fun hF => by have := LTb.lt h.lt hF; omega, fun hG => by have := h.gl k hG; omega, fun hb => by have := h.bx.lt; omega, by have := h.lt.bl.size; omega⟩
  exact hK w7 h7 h7.lt.bl
end Go.Proofs.Ytbfcjnbjhpfdfaa.Rd
