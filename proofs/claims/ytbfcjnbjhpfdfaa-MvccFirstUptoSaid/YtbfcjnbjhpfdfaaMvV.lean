/- MvccPlays, its loop. Conditions: none. -/
import Derived.Test.YtbfcjnbjhpfdfaaMvU
namespace Go.Proofs.Ytbfcjnbjhpfdfaa.Rd
open Go.Dn Go.RowKit
set_option linter.unusedVariables false
set_option maxRecDepth 100000
theorem pl_l0 {w0 : World} {a b : Nat} {Ao : Option Addr} {co : Nat} {ops : List MOp} {K0 : World → Prop} {Kr : Bool → World → Prop} (hops : ROps w0 Ao ops) (hs : ops.length + sumR ops ≤ 1048575) (hK : ∀ w F G t A c, PlR w0 w F G a b t A c → t.txs.length ≤ 1048576 → K0 w) :
    ∀ (N i : Nat) (w : World) (F G : Nat → Prop) (t : Tb) (A : Option Addr) (c : Nat), ops.length - i = N → i ≤ ops.length → PlR w0 w F G a b t A c → t.txs.length ≤ i → (∀ y ∈ t.txs, y.tk.length ≤ sumR (ops.take i)) →
      f_law14_MvccPlays.l0 (N + 1) (some ⟨a, 0, none⟩) ⟨b, 0, none⟩ Ao ops.length co (ops.length : Int) (i : Int) w K0 Kr
  | N, i, w, F, G, t, A, c, hN, hi, h, ht, htk => by
    unfold f_law14_MvccPlays.l0
    by_cases hlt : i < ops.length
    · cases N with
      | zero => omega
      | succ N =>
        have hbl : Below w0.heap.size w0 w := h.lt.bl
        have kB : Keeps (fun k => w0.heap.size ≤ k) w0 w := ⟨hbl.os, hbl.tape, hbl.output, hbl.size, fun k hk _ => hbl.block k hk⟩
        have hR := hops.row.keeps Eop kB (fun a ha h => by have := hops.lt (List.ne_nil_of_length_pos (by omega)) a ha; omega)
        obtain ⟨g, rfl⟩ := hR.addr (by omega)
        have hmem := List.getElem_mem hlt
        have hok : OkOp w ops[i] := (hops.ok _ hmem).keeps kB fun hne a ha h => by have := (hops.ok _ hmem).lt hne a ha; omega
        have hst := sumR_take hlt
        have hsl := sumR_le ops (i + 1)
        refine sel_t (by simpa using hlt) (optB_some rfl (req_intro (by simp; omega) ?_))
        rw [Int.toNat_natCast]
        refine ldI_intro (op_c0 hR hlt) (ldI_intro (op_c1 hR hlt) (ldS_intro (op_c2 hR hlt) (box3 ops[i] fun w1 b1 e1 h1 g1 s1 => ?_)))
        have r1 := h.below g1
        have ok1 := hok.below g1
        have hws := hbl.size
        have okM : OkM t ops[i] := ⟨by omega, fun y hy => by have := htk y hy; omega, h.lt.tb.ok.l0⟩
        refine hb_ldS0 r1.bx rfl (hb_ldI (j := 1) r1.bx rfl (hb_ldI0 h1 rfl (hb_ldI (j := 1) h1 rfl (hb_ldS (j := 2) h1 rfl ?_))))
        refine (asks_ok (c := c) r1.lt.tb r1.r r1.dis ok1 okM (by omega) fun hne g hg hF => by have := h.lt.ge _ hF; have := (hops.ok _ hmem).lt hne g hg; omega).mono fun e w2 he => ?_
        obtain ⟨⟨A2, c2, bb, rfl, ⟨⟨F2, G2, T2, R2, f2, q2, d2⟩, k2⟩, hb2⟩⟩ := he
        have hb2 := hb2 rfl
        subst hb2
        have sz1 := g1.size
        have sz2 := k2.size
        have T2' : LT w0 w2 F2 a (t.op ops[i]) := LTb.op r1.lt T2 k2 f2
        have bx2 := r1.bx.keeps k2 h.bF
        have hbl1 := h.bx.lt
        refine ⟨A2, _, c2, _, true, rfl, al_new fun w3 b3 e3 s3 h3 g3 => out2 h3 rfl fun w4 k4 _ => ?_⟩
        have k24 : Keeps (fun _ => False) w2 w4 := (Keeps.of_below g3).trans' k4 fun k hk (e : k = b3) => by omega
        have bx4 := bx2.keeps k24 id
        refine hb_st0 bx4 (by simp) fun w5 h5 k5 => hb_st (j := 1) h5 (by simp) fun w6 h6 k6 => ?_
        have k26 : Keeps (fun k => k = b) w2 w6 := ((k24.mono fun k _ h => h.elim).trans k5).trans k6
        have nF2 : ¬ F2 b := fun hF => by
          rcases f2 b hF with h7 | h7
          · exact h.bF h7
          · omega
        have nG2 : ¬ G2 b := fun hG => by
          rcases q2 b hG with h7 | h7
          · exact h.bG h7
          · omega
        have P6 : PlR w0 w6 F2 G2 a b (t.op ops[i]) A2 c2 := ⟨LTb.keeps T2' k26 fun k hk => ⟨by rw [hk]; exact nF2, by rw [hk]; exact h.gb⟩, R2.keeps k26 fun k hk e => nG2 (e ▸ hk), h6, d2, nF2, nG2, fun k hk => (q2 k hk).elim (h.gG k) fun h7 => by omega, h.gb⟩
        have hle := op_len t ops[i]
        refine pl_ask P6 (by omega) (Kr := Kr) fun w7 P7 b7 => ?_
        rw [i64n (by omega)]
        refine pl_l0 hops hs hK N (i + 1) w7 F2 G2 _ A2 c2 (by omega) (by omega) P7 (by omega) fun y hy => ?_
        rw [hst]
        exact op_tk htk y hy
    · exact sel_f (by simpa using hlt) (hK w F G t A c h (by omega))
theorem MvccPlays_row {w : World} {x : Int} (hx : (Lit.int .i64 x).wf = true) {A : Option Addr} {c : Nat} {ops : List MOp} (h : ROps w A ops) (hs : ops.length + sumR ops ≤ 1048575) :
    Calls Try.prog 3 #[.int .i64 x, .slice A ops.length c] w fun e w' => e = .returned (.bool true) ∧ Below w.heap.size w w' := by
  apply f_law14_MvccPlays.ok
  unfold f_law14_MvccPlays.wp
  refine (LT.new w x).mono fun e w1 he => ?_
  obtain ⟨F, a, rfl, T1⟩ := he
  refine ⟨_, rfl, sel_f rfl ((alive_ok w1).mono fun e w2 he => ?_)⟩
  obtain ⟨rfl, g2⟩ := he
  have T2 : LT w w2 F a _ := T1.below g2
  refine ⟨_, rfl, sel_f rfl ((RNew_ok w2 x).mono fun e w3 he => ?_)⟩
  obtain ⟨rfl, g3⟩ := he
  have T3 : LT w w3 F a _ := T2.below g3
  refine ⟨none, 0, 0, _, rfl, al_new fun w4 b4 e4 s4 h4 g4 => hb_st0 h4 (by simp) fun w5 h5 k5 => hb_st (j := 1) h5 (by simp) fun w6 h6 k6 => ?_⟩
  have s3 := T3.bl.size
  have hFb : ∀ k, F k → k < b4 := fun k hk => by have := LTb.lt T3 hk; omega
  have T4 : LT w w4 F a _ := T3.below g4
  have T6 : LT w w6 F a (Tb.new x) := LTb.keeps T4 (k5.trans k6) fun k (e : k = b4) => ⟨fun hF => by have := hFb k hF; omega, by omega⟩
  have P6 : PlR w w6 F (fun _ => False) a b4 (Tb.new x) none 0 := ⟨T6, RTb.empty w6, h6, fun _ _ => id, fun hF => by have := hFb _ hF; omega, id, fun _ h => h.elim, by omega⟩
  refine ⟨_, pl_l0 (t := Tb.new x) h hs (fun w7 F G t A c P ht _ => ?_) ops.length 0 w6 F _ _ 0 (by omega) (by omega) P6 (by simp [Tb.new]) (by simp [Tb.new])⟩
  refine drW_intro ?_
  have kd : Keeps (fun _ => False) w7 w7.drew := (Keeps.refl _ _).drew
  have P8 := P.keeps kd fun k hk => hk.elim
  generalize w7.drew = w8 at P8 ⊢
  refine ⟨fun w' => HB w' b4 #[.slice A t.txs.length c, .int .i64 t.last] 28, P8.bx, _, _, _, fun w' h => h.cell 0, _, fun w' h => h.cell 1, (LT.live P8.lt).mono fun e w9 he => ?_⟩
  obtain ⟨A9, c9, rfl, o9, T9, g9⟩ := he
  have P9 := P8.below g9
  refine ⟨A9, _, c9, rfl, P9.bx, (RLive_ok (c := c) P9.r ht).mono fun e w10 he => ?_⟩
  obtain ⟨A10, c10, rfl, o10, g10⟩ := he
  have P10 := P9.below g10
  have r9 : RI w10 A9 t.lives := o9.reads.below g10 (Nat.le_refl _)
  have h8 := P.lt.tb.ok.le8
  refine ⟨A10, _, c10, rfl, (SameInts_ok r9 rfl o10.reads rfl (by omega)).mono fun e w11 he => ?_⟩
  obtain ⟨rfl, g11⟩ := he
  have P11 := P10.below g11
  exact ⟨_, rfl, by simp, P11.lt.bl⟩
end Go.Proofs.Ytbfcjnbjhpfdfaa.Rd
