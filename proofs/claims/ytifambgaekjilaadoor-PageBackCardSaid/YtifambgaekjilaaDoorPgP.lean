/- The law PageBack, walked: a page parsed goes on as the first one. Conditions: scripts as arguments. -/
import Derived.Test.YtifambgaekjilaaDoorPgO
import Derived.Test.YtifambgaekjilaaDoorPgQ
import Derived.Test.YtifambgaekjilaaDoorRdL6
namespace Go.Proofs.YtifambgaekjilaaDoor.Rd
open Go.Dn Go.RowKit Go.Shelf
set_option linter.unusedVariables false
set_option linter.unusedSimpArgs false
set_option maxRecDepth 100000
/-- two pages alike, side by side -/
structure Two (w0 w : World) (Bq : Nat) (ρ ρq : RPg) (p : Pg) : Prop where
  pp : PM w w0.heap.size XF ρ p
  qq : PM w Bq XF ρq p
  B : w0.heap.size ≤ Bq
  dj : ∀ k, PN ρq k → ¬ PN ρ k
  g : Below w0.heap.size w0 w
section
variable {w w' w0 : World} {Bq : Nat} {ρ ρq : RPg} {p : Pg} {more : List WOp}
theorem ask_two (T : Two w0 w Bq ρ ρq p) {o : WOp} (ho : OkW w0 o) {b : Nat} (hb : HB w b (wopE o).toArray TWo) (nb : ∀ k, PN ρ k ∨ PN ρq k → k ≠ b) {K : World → Prop}
    (hK : ∀ w' ρ' ρq', ρ'.P = ρ.P → ρq'.P = ρq.P → Two w0 w' Bq ρ' ρq' (doP p o) → K w') :
    ldI w (⟨b, 0, Option.none⟩ : Addr) .i64 fun x22 =>
    ldI w ((⟨b, 0, Option.none⟩ : Addr).add 1) .i64 fun x23 =>
    ldS w ((⟨b, 0, Option.none⟩ : Addr).add 2) fun A24 n24 c24 =>
    Calls Tryd.prog 25 #[.pointer (some ⟨ρ.P, 0, none⟩), .agg #[.int .i64 (0 : Int), .int .u8 (0 : Int), .int .u32 (0 : Int), .slice none 0 0], .agg #[.int .i64 x22, .int .i64 x23, .slice A24 n24 c24]] w fun e25 w26 => ∃ (x27_0_0 : Int) (x27_0_1 : Int) (x27_0_2 : Int) (A27_0_3 : Option Addr) (n27_0_3 : Nat) (c27_0_3 : Nat) (b27_1 : Bool), e25 = .returned (.tuple #[.agg #[.int .i64 x27_0_0, .int .u8 x27_0_1, .int .u32 x27_0_2, .slice A27_0_3 n27_0_3 c27_0_3], .bool b27_1]) ∧ (
    ldI w26 (⟨b, 0, Option.none⟩ : Addr) .i64 fun x28 =>
    ldI w26 ((⟨b, 0, Option.none⟩ : Addr).add 1) .i64 fun x29 =>
    ldS w26 ((⟨b, 0, Option.none⟩ : Addr).add 2) fun A30 n30 c30 =>
    Calls Tryd.prog 25 #[.pointer (some ⟨ρq.P, 0, none⟩), .agg #[.int .i64 (0 : Int), .int .u8 (0 : Int), .int .u32 (0 : Int), .slice none 0 0], .agg #[.int .i64 x28, .int .i64 x29, .slice A30 n30 c30]] w26 fun e31 w32 => ∃ (x33_0_0 : Int) (x33_0_1 : Int) (x33_0_2 : Int) (A33_0_3 : Option Addr) (n33_0_3 : Nat) (c33_0_3 : Nat) (b33_1 : Bool), e31 = .returned (.tuple #[.agg #[.int .i64 x33_0_0, .int .u8 x33_0_1, .int .u32 x33_0_2, .slice A33_0_3 n33_0_3 c33_0_3], .bool b33_1]) ∧ K w32) := by
  refine hb_ldI0 hb (x := o.kind) rfl (hb_ldI hb (j := 1) (x := o.n) rfl (hb_ldS hb (j := 2) (A := o.A1) (n := o.data.length) (c := o.c1) rfl ((Asks_ok T.pp (fun k hk => hk.elim) ho T.g (Nat.le_refl _)).mono ?_)))
  rintro _ w1 ⟨x0, x1, x2, A', n', c', b', rfl, ⟨ρ1, eP1, h1, n1⟩, k1⟩
  have hb1 := hb.keeps k1 fun e => nb _ (.inl e) rfl
  have q1 := T.qq.keepsT k1 T.dj T.pp.nT
  have g1 := T.g.trans (T.pp.bel k1)
  have dj1 : ∀ k, PN ρq k → ¬ PN ρ1 k := fun k hq hp => by
    rcases n1 k hp with e | e
    · exact T.dj k hq e
    · have := (T.qq.lt k hq).1; omega
  refine ⟨_, _, _, _, _, _, _, rfl, hb_ldI0 hb1 (x := o.kind) rfl (hb_ldI hb1 (j := 1) (x := o.n) rfl (hb_ldS hb1 (j := 2) (A := o.A1) (n := o.data.length) (c := o.c1) rfl ((Asks_ok q1 (fun k hk => hk.elim) ho g1 T.B).mono ?_)))⟩
  rintro _ w2 ⟨x0, x1, x2, A', n', c', b', rfl, ⟨ρ2, eP2, h2, n2⟩, k2⟩
  refine ⟨_, _, _, _, _, _, _, rfl, hK w2 ρ1 ρ2 eP1 eP2 ⟨h1.keepsT k2 (fun k hp hq => dj1 k hq hp) q1.nT, h2, T.B, fun k hq hp => ?_, g1.trans ((q1.bel k2).mono T.B)⟩⟩
  rcases n2 k hq with e | e
  · exact dj1 k e hp
  · have := (h1.lt k hp).1; omega
end
theorem PageBack_row {w : World} {A A1 : Option Addr} {c c1 : Nat} {ops more : List WOp} (h : RWo w A ops) (_ : A = none → c = 0) (hm : RWo w A1 more) (_ : A1 = none → c1 = 0) :
    Calls Tryd.prog 6 #[.slice A ops.length c, .slice A1 more.length c1] w fun e w' => e = .returned (.bool true) ∧ Below w.heap.size w w' := by
  apply f_law08_PageBack.ok
  unfold f_law08_PageBack.wp
  refine (Filled_ok h rfl).mono ?_
  rintro _ w1 ⟨ρ, rfl, h1, g1⟩
  refine ⟨_, rfl, sel_f rfl ((alive_ok w1).mono ?_)⟩
  rintro _ w2 ⟨rfl, g2⟩
  have h2 := h1.below g2
  have g02 := g1.trans (g2.mono g1.size)
  refine ⟨_, rfl, sel_f rfl ((Bytes_pg h2).mono ?_)⟩
  rintro _ w3 ⟨A3, c3, rfl, o3, l3, g3⟩
  have g03 := g02.trans (g3.mono g02.size)
  refine ⟨_, _, _, rfl, (Parse_ok (b := bytesL (doAll p39 ops)) o3.reads l3.symm o3.le (by rw [l3]; decide)).mono ?_⟩
  rintro _ w4 ⟨g4, hq⟩
  rw [parse_bytes h2.ok] at hq
  obtain ⟨ρq, rfl, hq⟩ := hq
  have hlen := hm.len
  have g04 := g03.trans (g4.mono g03.size)
  have h3 := h2.below g3
  have T4 : Two w w4 w3.heap.size ρ ρq (doAll p39 ops) := ⟨h3.below g4, hq.outX fun k _ e => (e : False).elim, g03.size, fun k hk hp => by have := (hq.lt k hk).2; have := (h3.lt k hp).1; omega, g04⟩
  refine ⟨_, _, rfl, sel_f rfl (sel_f rfl ⟨more.length + 1, ?_⟩)⟩
  have main : ∀ {K : World → Prop}, (∀ w' ρ' ρq' p', ρ'.P = ρ.P → ρq'.P = ρq.P → Two w w' w3.heap.size ρ' ρq' p' → K w') → ∀ (m i : Nat) (ρ' ρq' : RPg) (p' : Pg) (w5 : World), m + i = more.length → ρ'.P = ρ.P → ρq'.P = ρq.P → Two w w5 w3.heap.size ρ' ρq' p' →
      ∀ Kr, f_law08_PageBack.l0 (m + 1) (some ⟨ρ.P, 0, none⟩) (some ⟨ρq.P, 0, none⟩) A1 more.length c1 (more.length : Int) (i : Int) w5 K Kr := by
    intro K hK m
    induction m with
    | zero =>
      intro i ρ' ρq' p' w5 hi e1 e2 T Kr
      unfold f_law08_PageBack.l0
      exact sel_f (by simp; omega) (hK w5 ρ' ρq' p' e1 e2 T)
    | succ m ih =>
      intro i ρ' ρq' p' w5 hi e1 e2 T Kr
      have hlt : i < more.length := by omega
      unfold f_law08_PageBack.l0
      refine sel_t (by simp; omega) (wop_ld rfl (hm.below T.g).row hlt (wop_box fun b w6 eb hb g6 => ?_))
      have T6 : Two w w6 w3.heap.size ρ' ρq' p' := ⟨T.pp.below g6, T.qq.below g6, T.B, T.dj, T.g.trans (g6.mono T.g.size)⟩
      rw [← e1, ← e2]
      refine ask_two T6 (hm.ok _ (List.getElem_mem hlt)) hb (fun k hk e => ?_) fun w7 ρ7 ρq7 d1 d2 T7 => ?_
      · rcases hk with hk | hk
        · have := (T.pp.lt k hk).1; omega
        · have := (T.qq.lt k hk).1; omega
      rw [← d1, ← d2]
      refine (Len_pg T7.pp).mono ?_
      rintro _ w7 ⟨rfl, rfl⟩
      refine ⟨_, rfl, (Len_pg T7.qq).mono ?_⟩
      rintro _ w7 ⟨rfl, rfl⟩
      refine ⟨_, rfl, sel_f (by simp) ((Room_pg T7.pp).mono ?_)⟩
      rintro _ w7 ⟨rfl, rfl⟩
      refine ⟨_, rfl, (Room_pg T7.qq).mono ?_⟩
      rintro _ w7 ⟨rfl, rfl⟩
      refine ⟨_, rfl, sel_f (by simp) ?_⟩
      rw [show IntKind.i64.wrap ((i : Int) + 1) = ((i + 1 : Nat) : Int) by rw [w64_in (by omega)]; omega, d1, d2, e1, e2]
      exact ih (i + 1) ρ7 ρq7 _ _ (by omega) (d1.trans e1) (d2.trans e2) T7 Kr
  refine main (fun w5 ρ5 ρq5 p5 e1 e2 T5 _ => ?_) more.length 0 ρ ρq _ w4 (by omega) rfl rfl T4 _
  rw [← e1, ← e2]
  refine (Bytes_pg T5.pp).mono ?_
  rintro _ w6 ⟨A6, c6, rfl, o6, l6, g6⟩
  refine ⟨_, _, _, rfl, (Bytes_pg (T5.qq.below g6)).mono ?_⟩
  rintro _ w7 ⟨A7, c7, rfl, o7, l7, g7⟩
  refine ⟨_, _, _, rfl, (Same_ok (o6.keep g7).reads o7.reads l6.symm l7.symm (by rw [l6]; decide)).mono ?_⟩
  rintro _ w8 ⟨rfl, g8⟩
  have g58 : Below w5.heap.size w5 w8 := (g6.trans (g7.mono g6.size)).trans (g8.mono (by have := g6.size; have := g7.size; omega))
  refine ⟨_, rfl, sel_t (by simp) ((Items_pg (T5.pp.below g58)).mono ?_)⟩
  rintro _ w9 ⟨A9, c9, rfl, b9, g9⟩
  have g59 := g58.trans (g9.mono g58.size)
  refine ⟨_, _, _, rfl, (Items_pg (T5.qq.below g59)).mono ?_⟩
  rintro _ w10 ⟨A10, c10, rfl, b10, g10⟩
  have g510 := g59.trans (g10.mono g59.size)
  have hx := T5.pp.ok.x
  refine ⟨_, _, _, rfl, (RSame_ok (b9.below g10) b10 rfl rfl (fun x hx' => by have := hx x hx'; omega) (by have := T5.pp.ok.n; omega)).mono ?_⟩
  rintro _ w11 ⟨rfl, g11⟩
  have g511 := g510.trans (g11.mono g510.size)
  refine ⟨_, rfl, sel_t (by simp) ((LSN_pg (T5.pp.below g511)).mono ?_)⟩
  rintro _ w11 ⟨rfl, rfl⟩
  refine ⟨_, rfl, (LSN_pg (T5.qq.below g511)).mono ?_⟩
  rintro _ w11 ⟨rfl, rfl⟩
  refine ⟨_, rfl, sel_t (by simp) ((Extra_pg (T5.pp.below g511)).mono ?_)⟩
  rintro _ w11 ⟨rfl, rfl⟩
  refine ⟨_, rfl, (Extra_pg (T5.qq.below g511)).mono ?_⟩
  rintro _ w11 ⟨rfl, rfl⟩
  exact ⟨_, rfl, by simp, T5.g.trans (g511.mono T5.g.size)⟩
end Go.Proofs.YtifambgaekjilaaDoor.Rd
