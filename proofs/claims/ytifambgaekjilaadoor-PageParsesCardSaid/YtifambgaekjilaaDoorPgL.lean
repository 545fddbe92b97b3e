/- page: a script of a page's calls: in memory; what they do to a page. Conditions: none. -/
import Derived.Test.YtifambgaekjilaaDoorPgK
namespace Go.Proofs.YtifambgaekjilaaDoor.Rd
open Go.Dn Go.RowKit
set_option linter.unusedVariables false
set_option linter.unusedSimpArgs false
set_option maxRecDepth 100000
abbrev TWo : TypeId := 51
structure WOp where
  kind : Int
  n : Int
  A1 : Option Addr
  c1 : Nat
  data : List UInt8
def wopE (o : WOp) : List Value := [.int .i64 o.kind, .int .i64 o.n, .slice o.A1 o.data.length o.c1]
theorem Ewop : Enc wopE 3 := ⟨fun _ => rfl, fun x u hu => by simp only [wopE, List.mem_cons, List.not_mem_nil, or_false] at hu; rcases hu with rfl | rfl | rfl <;> rfl, by decide⟩
structure OkW (w : World) (o : WOp) : Prop where
  r1 : Go.Dn.RB w o.A1 o.data
  l1 : o.data.length ≤ 140737488355000
  n1 : -9223372036854775808 ≤ o.n ∧ o.n ≤ 9223372036854775807
theorem OkW.below {w w' : World} {o : WOp} (h : OkW w o) (k : Below w.heap.size w w') : OkW w' o := ⟨h.r1.below k (Nat.le_refl _), h.l1, h.n1⟩
structure RWo (w : World) (A : Option Addr) (ops : List WOp) : Prop where
  row : RowE wopE 3 w A ops
  ok : ∀ o ∈ ops, OkW w o
  len : ops.length * 40 ≤ 140737488351232
theorem RWo.below {w w' : World} {A : Option Addr} {ops : List WOp} (h : RWo w A ops) (k : Below w.heap.size w w') : RWo w' A ops := ⟨h.row.below Ewop k, fun o ho => (h.ok o ho).below k, h.len⟩
theorem wop_ld {w : World} {A : Option Addr} {ops : List WOp} {N : Nat} (hN : N = ops.length) (h : RowE wopE 3 w A ops) {i : Nat} (hi : i < ops.length) {K : Int → Int → Option Addr → Nat → Nat → Prop}
    (hk : K ops[i].kind ops[i].n ops[i].A1 ops[i].data.length ops[i].c1) :
    optB A fun a => req (decide (0 ≤ (i : Int) ∧ (i : Int) < (N : Int))) <| ldI w (a.add ((i : Int).toNat * 3)) .i64 fun x8 => ldI w ((a.add ((i : Int).toNat * 3)).add 1) .i64 fun x9 =>
      ldS w ((a.add ((i : Int).toNat * 3)).add 2) fun A10 n10 c10 => K x8 x9 A10 n10 c10 := by
  subst hN
  obtain ⟨a, rfl, hc⟩ := h i hi
  rw [show ((i : Int).toNat) = i by omega]
  refine optB_some rfl (req_intro (by simp; omega) ?_)
  refine ldI_intro (x := ops[i].kind) (by have := h.c0 Ewop hi; rw [this]; rfl) (ldI_intro (x := ops[i].n) (by have := h.cj hi (j := 1) (by decide); rw [this]; rfl) ?_)
  exact ldS_intro (A := ops[i].A1) (n := ops[i].data.length) (c := ops[i].c1) (by have := h.cj hi (j := 2) (by decide); rw [this]; rfl) hk
/-- a call laid into a box of its own -/
theorem wop_box {w : World} {o : WOp} {K : Nat → World → Prop} (hk : ∀ b w', b = w.heap.size → HB w' b (wopE o).toArray TWo → Below w.heap.size w w' → K b w') :
    alW w (.cells #[.int .i64 (0 : Int), .int .i64 (0 : Int), .slice none 0 0] TWo) fun b w14 =>
    stW w14 (⟨b, 0, Option.none⟩ : Addr) (.int .i64 o.kind) fun w15 =>
    stW w15 ((⟨b, 0, Option.none⟩ : Addr).add 1) (.int .i64 o.n) fun w16 =>
    stW w16 ((⟨b, 0, Option.none⟩ : Addr).add 2) (.slice o.A1 o.data.length o.c1) fun w18 => K b w18 := by
  refine al_new fun w1 b e s h g => hb_st0 h (by simp) fun w2 h2 k2 => hb_st h2 (by simp) fun w3 h3 k3 => hb_st h3 (by simp) fun w4 h4 k4 => ?_
  have kk := (k2.trans k3).trans k4
  exact hk b w4 e h4 (g.trans (kk.below g.size fun i hi e' => by omega))
/-! ### what a call does -/
def doP (p : Pg) (o : WOp) : Pg :=
  if o.kind = 1 then (insL p o.n o.data).1 else if o.kind = 2 then (repL p o.n o.data).1 else if o.kind = 3 then (remL p o.n).1 else if o.kind = 5 then { p with extra := (IntKind.u32.wrap o.n).toNat } else if o.kind = 6 then { p with lsn := o.n.toNat } else p
def doAll (p : Pg) (os : List WOp) : Pg := os.foldl doP p
structure AsR (w : World) (B : Nat) (X : Nat → Prop) (ρ : RPg) (p' : Pg) (w' : World) : Prop where
  ex : ∃ ρ', ρ'.P = ρ.P ∧ PM w' B X ρ' p' ∧ (∀ k, PN ρ' k → PN ρ k ∨ w.heap.size ≤ k)
  ks : Keeps (PN ρ) w w'
section
variable {w w' w0 : World} {B b1 b3 b5 b11 : Nat} {X : Nat → Prop} {ρ : RPg} {p p' : Pg} {o : WOp}
theorem OwnB.keepsB {S : Nat → Prop} {A : Option Addr} {c : Nat} {l : List UInt8} (h : OwnB w B TU8 A c l) (k : Keeps S w w') (hA : ∀ a, A = some a → ¬ S a.block) : OwnB w' B TU8 A c l := Keeps.own h k fun b hb => by
  obtain ⟨a, ha, e⟩ := ob_own (A := A) (n := l.length) (c := c) hb.symm
  rw [← e]; exact hA a ha
theorem j1_go {Bw c6 n y2n y2c : Nat} {A6 y2A : Option Addr} {xt9 xt10 y0 y1 y2 : Int} {Kr : Bool → World → Prop} (o8 : OwnB w Bw TU8 A6 c6 (o.data ++ marks)) (hn : n = (o.data ++ marks).length) (ho : OkW w o) (hd : ∀ a, o.A1 = some a → ∀ k, Ob A6 k → True)
    (i3 : HB w b3 (wopE o).toArray TWo) (i5 : HB w b5 z4 TRp) (i11 : HB w b11 (r4 y0 y1 y2 y2A y2n y2c) TRp) (n3 : ¬ Ob A6 b3) (n5 : ¬ Ob A6 b5) (n11 : ¬ Ob A6 b11)
    (hk : ∀ b w', (∃ x0 x1 x2 A n c, HB w' b5 (r4 x0 x1 x2 A n c) TRp) → Keeps (fun k => Ob A6 k ∨ k = b5) w w' → Kr b w') :
    f_law08_asks.j1 ⟨b3, 0, none⟩ ⟨b5, 0, none⟩ A6 n c6 xt9 xt10 ⟨b11, 0, none⟩ w Kr := by
  subst hn
  have hml : marks.length = 64 := rfl
  have hl1 := ho.l1
  unfold f_law08_asks.j1
  refine hb_ldS i3 (j := 2) (A := o.A1) (n := o.data.length) (c := o.c1) rfl ((Intact_ok o8.reads ho.r1 ho.l1 rfl).mono ?_)
  rintro _ w9 ⟨rfl, g9⟩
  refine ⟨_, rfl, (Spoil_ok (o8.keep g9) rfl (by rw [List.length_append]; omega)).mono ?_⟩
  rintro _ w10 ⟨rfl, _, gr⟩
  have kS : Keeps (Ob A6) w9 w10 := ⟨gr.os, gr.tape, gr.output, gr.size, fun k hk hn => gr.block k hk fun h => hn (ob_own h)⟩
  have k10 : Keeps (fun k => Ob A6 k ∨ k = b5) w w10 := (Keeps.of_below g9).trans (kS.mono fun _ _ => .inl)
  have p5 := (i5.below g9).keeps kS n5
  have p11 := (i11.below g9).keeps kS n11
  refine ⟨rfl, ldR p11 (sel_t rfl (stR p5 fun w13 h13 k13 => hk _ _ ⟨_, _, _, _, _, _, h13⟩ (k10.trans (k13.mono fun _ _ => .inr))))⟩
end
end Go.Proofs.YtifambgaekjilaaDoor.Rd
