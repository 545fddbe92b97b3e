/- MvccTry, walked. Conditions: none. -/
import Derived.Test.YtbfcjnbjhpfdfaaMvO
import Derived.Test.YtbfcjnbjhpfdfaaRdC
namespace Go.Dn
open Go.RowKit
set_option linter.unusedVariables false
theorem RTb.empty (w : World) : RTb w (fun _ => False) none [] := ⟨[], rfl, RowE.nil _ _ _ _, (fun a h => by cases h), (fun m hm => by cases hm), fun k h => h.elim⟩
def m0 : Tb := ⟨[], 0⟩
theorem OkM.empty (o : MOp) : OkM m0 o := ⟨Nat.zero_le _, (fun y hy => by cases hy), Int.le_refl _⟩
theorem op_len (t : Tb) (o : MOp) : (t.op o).txs.length ≤ t.txs.length + 1 := by
  have hp : ∀ n (x : Tx), (t.put n x).txs.length = t.txs.length := fun n x => by simp [Tb.put]
  unfold Tb.op
  split
  · unfold Tb.begin; split <;> simp
  · split
    · unfold Tb.touch; split
      · simp
      · simp only [hp]; omega
    · split
      · unfold Tb.commit; split
        · simp
        · split
          · simp only [hp]; omega
          · split
            · simp only [hp]; omega
            · simp only [hp]; omega
      · split
        · unfold Tb.abort; split
          · simp
          · simp only [hp]; omega
        · omega
theorem commit_code (t : Tb) (n : Int) : (t.commit n).2.2 = t.try_ n := by
  unfold Tb.commit
  split
  · rename_i h
    unfold Tb.try_; rw [h]
  · split
    · rfl
    · rename_i h
      have h : t.try_ n = 0 := by omega
      split <;> simp only [h]
end Go.Dn
namespace Go.Proofs.Ytbfcjnbjhpfdfaa.Rd
open Go.Dn Go.RowKit
set_option linter.unusedVariables false
set_option maxRecDepth 100000
variable {w0 w : World} {F1 F2 : Nat → Prop} {a1 a2 : Nat} {t : Tb}
/-- a call on the one of two tables, the document's one empty -/
theorem ask0 {F : Nat → Prop} {a : Nat} (h : LT w0 w F a t) {o : MOp} (ho : OkOp w o) (hlen : (t.txs.length : Int) < 4611686018427387904) (hoF : o.refs ≠ [] → ∀ g, o.A = some g → ¬ F g.block) :
    Calls Try.prog 11 #[eP a, .agg #[.slice none 0 0, .int .i64 (0 : Int)], .agg #[.int .i64 o.kind, .int .i64 o.n, .slice o.A o.refs.length o.c]] w fun e w' => ∃ A' n' c' l' b, e = .returned (.tuple #[tbV A' n' c' l', .bool b]) ∧ ∃ F', LT w0 w' F' a (t.op o) ∧ Keeps F w w' ∧ ∀ k, F' k → F k ∨ w.heap.size ≤ k := by
  refine (asks_ok (m := m0) (c := 0) h.tb (RTb.empty w) (fun _ _ => id) ho (OkM.empty o) hlen hoF).mono fun e w' he => ?_
  obtain ⟨⟨A', c', b, rfl, ⟨⟨F', G', h1, h2, h3, h4, h5⟩, kp⟩, _⟩⟩ := he
  exact ⟨A', _, c', _, b, rfl, F', h.op h1 kp h3, kp, h3⟩
theorem try_six {b : Nat} {K2 : World → Prop} : ∀ (N : Nat) (i : Nat) (w : World), 6 - i = N → i ≤ 6 → LT w0 w F2 a2 t → (∀ w', Below w.heap.size w w' → K2 w') → f_law14_MvccTry.l1 (N + 1) (some ⟨a2, 0, none⟩) (i : Int) w K2
  | N, i, w, hN, hi, h, hK => by
    unfold f_law14_MvccTry.l1
    by_cases hlt : i < 6
    · cases N with
      | zero => omega
      | succ N =>
        refine sel_t (by simp; omega) ((h.try_ (n := (i : Int)) (w64s (by omega) (by omega))).mono fun e w1 he => ?_)
        obtain ⟨rfl, h1, g1⟩ := he
        rw [i64n (by omega)]
        exact ⟨_, rfl, try_six (b := b) N (i + 1) w1 (by omega) (by omega) h1 fun w' g' => hK w' (g1.trans (g'.mono g1.size))⟩
    · exact sel_f (by simp; omega) (hK w (.refl _ _))
theorem try_j2 (T : LT w0 w F1 a1 t) (U : LT w0 w F2 a2 t) {Kn : World → Prop} {Kr : Bool → World → Prop} (hK : ∀ w', Below w.heap.size w w' → Kn w') : f_law14_MvccTry.j2 (some ⟨a1, 0, none⟩) (some ⟨a2, 0, none⟩) w Kn Kr := by
  unfold f_law14_MvccTry.j2
  refine T.last.mono fun e w1 he => ?_
  obtain ⟨rfl, hw⟩ := he
  subst w1
  refine ⟨_, rfl, U.last.mono fun e w1 he => ?_⟩
  obtain ⟨rfl, hw⟩ := he
  subst w1
  refine ⟨_, rfl, sel_f (by simp) (T.hor.mono fun e w1 he => ?_)⟩
  obtain ⟨rfl, T1, g1⟩ := he
  have U1 : LT w0 w1 F2 a2 t := U.below g1
  refine ⟨_, rfl, U1.hor.mono fun e w2 he => ?_⟩
  obtain ⟨rfl, U2, g2⟩ := he
  have T2 : LT w0 w2 F1 a1 t := T1.below g2
  refine ⟨_, rfl, sel_f (by simp) (T2.live.mono fun e w3 he => ?_)⟩
  obtain ⟨A3, c3, rfl, o3, T3, g3⟩ := he
  have U3 : LT w0 w3 F2 a2 t := U2.below g3
  refine ⟨_, _, _, rfl, U3.live.mono fun e w4 he => ?_⟩
  obtain ⟨A4, c4, rfl, o4, U4, g4⟩ := he
  have r3 : RI w4 A3 t.lives := o3.reads.below g4 (Nat.le_refl _)
  have hl8 := T.tb.ok.le8
  refine ⟨_, _, _, rfl, (SameInts_ok r3 rfl o4.reads rfl (by omega)).mono fun e w5 he => ?_⟩
  obtain ⟨rfl, g5⟩ := he
  have s1 := g1.size
  have s2 := g2.size
  have s3 := g3.size
  have s4 := g4.size
  exact ⟨_, rfl, sel_f (by simp) (hK w5 ((((g1.trans (g2.mono s1)).trans (g3.mono (by omega))).trans (g4.mono (by omega))).trans (g5.mono (by omega))))⟩
theorem try_loop0 {A : Option Addr} {c : Nat} {ops : List MOp} {K0 : World → Prop} {Kr : Bool → World → Prop} (hops : ROps w0 A ops) (hl : ops.length ≤ 17592186044416) (hK : ∀ w, Below w0.heap.size w0 w → K0 w) :
    ∀ (N i : Nat) (w : World) (F1 F2 : Nat → Prop) (t : Tb), ops.length - i = N → i ≤ ops.length → LT w0 w F1 a1 t → LT w0 w F2 a2 t → (∀ k, F1 k → ¬ F2 k) → t.txs.length ≤ i → f_law14_MvccTry.l0 (N + 1) (some ⟨a1, 0, none⟩) (some ⟨a2, 0, none⟩) A ops.length c (ops.length : Int) (i : Int) w K0 Kr
  | N, i, w, F1, F2, t, hN, hi, T, U, dis, ht => by
    unfold f_law14_MvccTry.l0
    by_cases hlt : i < ops.length
    · cases N with
      | zero => omega
      | succ N =>
        have hR := hops.row.keeps Eop (S := fun k => w0.heap.size ≤ k) ⟨T.bl.os, T.bl.tape, T.bl.output, T.bl.size, fun k hk _ => T.bl.block k hk⟩ (fun a ha h => by have := hops.lt (List.ne_nil_of_length_pos (by omega)) a ha; omega)
        obtain ⟨a, rfl⟩ := hR.addr (by omega)
        have hmem := List.getElem_mem hlt
        have kB : Keeps (fun k => w0.heap.size ≤ k) w0 w := ⟨T.bl.os, T.bl.tape, T.bl.output, T.bl.size, fun k hk _ => T.bl.block k hk⟩
        have hok : OkOp w ops[i] := (hops.ok _ hmem).keeps kB fun hne a ha h => by have := (hops.ok _ hmem).lt hne a ha; omega
        have hoF : ∀ {w : World} {F : Nat → Prop} {a : Nat} {t : Tb}, LT w0 w F a t → ops[i].refs ≠ [] → ∀ g, ops[i].A = some g → ¬ F g.block := fun h hne g hg hF => by have := h.ge _ hF; have := (hops.ok _ hmem).lt hne g hg; omega
        refine sel_t (by simpa using hlt) (optB_some rfl (req_intro (by simp; omega) ?_))
        rw [Int.toNat_natCast]
        refine ldI_intro (op_c0 hR hlt) (ldI_intro (op_c1 hR hlt) (ldS_intro (op_c2 hR hlt) (box3 ops[i] fun w1 b1 e1 h1 g1 s1 => ?_)))
        have T1 : LT w0 w1 F1 a1 t := T.below g1
        have U1 : LT w0 w1 F2 a2 t := U.below g1
        have ok1 := hok.below g1
        refine ⟨_, try_six (b := 0) 6 0 w1 rfl (by omega) U1 fun w2 g2 _ => ?_⟩
        have T2 : LT w0 w2 F1 a1 t := T1.below g2
        have U2 : LT w0 w2 F2 a2 t := U1.below g2
        have ok2 := ok1.below g2
        have h2 := h1.below g2
        have sz1 := T.bl.size
        have szg1 := g1.size
        have szg2 := g2.size
        rw [i64n (by omega)]
        refine hb_ldI0 h2 rfl ?_
        by_cases q3 : ops[i].kind = 3
        · have ee : t.op ops[i] = (t.commit ops[i].n).1 := by unfold Tb.op; rw [if_neg (by omega), if_neg (by omega), if_pos q3]
          refine sel_t (by simp [q3]) (hb_ldI (j := 1) h2 rfl ((U2.try_ ok2.n).mono fun e w3 he => ?_))
          obtain ⟨rfl, U3, g3⟩ := he
          have T3 : LT w0 w3 F1 a1 t := T2.below g3
          have h3 := h2.below g3
          refine ⟨_, rfl, hb_ldI (j := 1) h3 rfl ((U3.commit ok2.n).mono fun e w4 he => ?_)⟩
          obtain ⟨rfl, F4, U4, k4, f4⟩ := he
          have szg3 := g3.size
          have h4 := h3.keeps k4 fun hF => by have := U.lt hF; omega
          have T4 : LT w0 w4 F1 a1 t := T3.keeps k4 fun k hk => ⟨fun h => dis k h hk, U.ge k hk⟩
          refine ⟨_, _, rfl, hb_ldI (j := 1) h4 rfl ((T4.commit ok2.n).mono fun e w5 he => ?_)⟩
          obtain ⟨rfl, F5, T5, k5, f5⟩ := he
          have U5 : LT w0 w5 F4 a2 _ := U4.keeps k5 fun k hk => ⟨fun h => dis k hk (f4 k h), T.ge k hk⟩
          refine ⟨_, _, rfl, sel_f (by rw [commit_code]; simp) (sel_f (by simp) (sel_f (by simp) (try_j2 T5 U5 fun w6 g6 _ => ?_)))⟩
          have T6 : LT w0 w6 F5 a1 _ := T5.below g6
          have U6 : LT w0 w6 F4 a2 _ := U5.below g6
          have hle := op_len t ops[i]
          rw [ee] at hle
          exact try_loop0 hops hl hK N (i + 1) w6 F5 F4 _ (by omega) (by omega) T6 U6 (fun k hk h => dis k (f5 k hk) (f4 k h)) (by omega)
        · refine sel_f (by simpa using q3) (hb_ldI0 h2 rfl (hb_ldI (j := 1) h2 rfl (hb_ldS (j := 2) h2 rfl ((ask0 T2 ok2 (by omega) (hoF T2)).mono fun e w3 he => ?_))))
          obtain ⟨A3, n3, c3, l3, b3, rfl, F3, T3, k3, f3⟩ := he
          have h3 := h2.keeps k3 fun hF => by have := T.lt hF; omega
          have U3 : LT w0 w3 F2 a2 t := U2.keeps k3 fun k hk => ⟨fun h => dis k hk h, T.ge k hk⟩
          have ok3 := ok2.keeps k3 (hoF T2)
          have szk3 := k3.size
          refine ⟨A3, n3, c3, l3, b3, rfl, hb_ldI0 h3 rfl (hb_ldI (j := 1) h3 rfl (hb_ldS (j := 2) h3 rfl ((ask0 U3 ok3 (by omega) (hoF U3)).mono fun e w4 he => ?_)))⟩
          obtain ⟨A4, n4, c4, l4, b4, rfl, F4, U4, k4, f4⟩ := he
          have d3 : ∀ k, F3 k → ¬ F2 k := fun k hk h => by
            rcases f3 k hk with h5 | h5
            · exact dis k h5 h
            · have := U.lt h; omega
          have T4 : LT w0 w4 F3 a1 _ := T3.keeps k4 fun k hk => ⟨fun h => d3 k h hk, U.ge k hk⟩
          refine ⟨A4, n4, c4, l4, b4, rfl, try_j2 T4 U4 fun w6 g6 _ => ?_⟩
          have T6 : LT w0 w6 F3 a1 _ := T4.below g6
          have U6 : LT w0 w6 F4 a2 _ := U4.below g6
          have hle := op_len t ops[i]
          refine try_loop0 hops hl hK N (i + 1) w6 F3 F4 _ (by omega) (by omega) T6 U6 (fun k hk h => ?_) (by omega)
          rcases f4 k h with h5 | h5
          · exact d3 k hk h5
          · have := T3.lt hk; omega
    · exact sel_f (by simpa using hlt) (hK w T.bl)
theorem MvccTry_row {w : World} {x : Int} (hx : (Lit.int .i64 x).wf = true) {A : Option Addr} {c : Nat} {ops : List MOp} (h : ROps w A ops) (hl : ops.length ≤ 17592186044416) :
    Calls Try.prog 7 #[.int .i64 x, .slice A ops.length c] w fun e w' => e = .returned (.bool true) ∧ Below w.heap.size w w' := by
  apply f_law14_MvccTry.ok
  unfold f_law14_MvccTry.wp
  refine (LT.new w x).mono fun e w1 he => ?_
  obtain ⟨F1, a1, rfl, T1⟩ := he
  refine ⟨_, rfl, (LT.new w1 x).mono fun e w2 he => ?_⟩
  obtain ⟨F2, a2, rfl, U2⟩ := he
  have T2 : LT w w2 F1 a1 _ := T1.below U2.bl
  have hs := T1.bl.size
  have U2' : LT w w2 F2 a2 _ := ⟨U2.tb, T2.bl, fun k hk => by have := U2.ge k hk; omega⟩
  refine ⟨_, rfl, sel_f rfl (sel_f rfl ((alive_ok w2).mono fun e w3 he => ?_))⟩
  obtain ⟨rfl, g3⟩ := he
  have T3 : LT w w3 F1 a1 _ := T2.below g3
  have U3 : LT w w3 F2 a2 _ := U2'.below g3
  exact ⟨_, rfl, sel_f rfl ⟨_, try_loop0 h hl (fun w4 b4 _ => ⟨rfl, b4⟩) ops.length 0 w3 F1 F2 _ (by omega) (by omega) T3 U3 (fun k hk h2 => by have := T1.lt hk; have := U2.ge k h2; omega) (by simp [Tb.new])⟩⟩
end Go.Proofs.Ytbfcjnbjhpfdfaa.Rd
