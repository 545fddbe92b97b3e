/- The walk of TreapPlays: a rope answers as a list of rows would. Conditions: none. -/
import Derived.Test.YtnfgibbkfkaonaaTrX
import Derived.Test.YtnfgibbkfkaonaaRdL7
namespace Go.Proofs.Ytnfgibbkfkaonaa.Rd
open Go.Dn Go.RowKit
set_option linter.unusedVariables false
set_option maxRecDepth 100000

theorem op_st {w : World} {A : Option Addr} {len cap : Nat} {f : Nat → Nat → Int} {i : Nat} (h : IsRecs ks5 w A len cap f) (hi : i < len) {K : Nat → World → Prop}
    (hk : ∀ w' b, b = w.heap.size → HB w' b (opCs (opAt f i)) 30 → Below w.heap.size w w' → K b w') :
    optB A fun a7 => req (decide (0 ≤ (i : Int) ∧ (i : Int) < (len : Int))) <| ldI w (a7.add ((i : Int).toNat * 5)) .i64 fun x8 => ldI w ((a7.add ((i : Int).toNat * 5)).add 1) .i64 fun x9 => ldI w ((a7.add ((i : Int).toNat * 5)).add 2) .i64 fun x10 => ldI w ((a7.add ((i : Int).toNat * 5)).add 3) .i64 fun x11 => ldI w ((a7.add ((i : Int).toNat * 5)).add 4) .u8 fun x12 =>
    alW w (.cells #[.int .i64 (0 : Int), .int .i64 (0 : Int), .int .i64 (0 : Int), .int .i64 (0 : Int), .int .u8 (0 : Int)] 30) fun B13 w14 =>
    stW w14 (⟨B13, 0, Option.none⟩ : Addr) (.int .i64 x8) fun w15 => stW w15 ((⟨B13, 0, Option.none⟩ : Addr).add 1) (.int .i64 x9) fun w16 => stW w16 ((⟨B13, 0, Option.none⟩ : Addr).add 2) (.int .i64 x10) fun w17 => stW w17 ((⟨B13, 0, Option.none⟩ : Addr).add 3) (.int .i64 x11) fun w18 => stW w18 ((⟨B13, 0, Option.none⟩ : Addr).add 4) (.int .u8 x12) fun w19 => K B13 w19 := by
  rcases h with ⟨_, h0, _⟩ | ⟨a, rfl, _, _, h3⟩
  · omega
  have c := fun j hj => (h3 i hi j hj).1
  have c0 := c 0 (by decide); have c1 := c 1 (by decide); have c2 := c 2 (by decide); have c3 := c 3 (by decide); have c4 := c 4 (by decide)
  simp only [← add_add] at c1 c2 c3 c4
  refine optB_some rfl (req_intro (by simp; omega) (ldI_intro c0 (ldI_intro c1 (ldI_intro c2 (ldI_intro c3 (ldI_intro c4 (al_new fun w1 b e z h1 q1 => ?_)))))))
  refine hb_st0 h1 (by simp) fun w2 h2 k2 => hb_st (j := 1) h2 (by simp) fun w3 h3 k3 => hb_st (j := 2) h3 (by simp) fun w4 h4 k4 => hb_st (j := 3) h4 (by simp) fun w5 h5 k5 => hb_st (j := 4) h5 (by simp) fun w6 h6 k6 => ?_
  exact hk w6 b e h6 (q1.trans ((((k2.trans k3).trans (k4.trans k5)).trans k6).below (by omega) fun i hi e' => by omega))
theorem Plays_l0 {w0 : World} {A : Option Addr} {len cap : Nat} {f : Nat → Nat → Int} (hf : IsRecs ks5 w0 A len cap f) {R b7 : Nat} (hb7 : w0.heap.size ≤ b7) {K0 : World → Prop} {Kr : Bool → World → Prop} (hK : ∀ w' r' m' d', LS w0 w' r' m' → RefAt w' d' m' → HB w' b7 (d'.cs m') 34 → r'.R = R → K0 w') :
    ∀ (t i : Nat) (w : World) (r : RC) (m : MS) (d : Doc), len - i = t → i ≤ len → LS w0 w r m → RefAt w d m → HB w b7 (d.cs m) 34 → Out b7 r → r.R = R → f_law15_TreapPlays.l0 (t + 1) (some ⟨R, 0, none⟩) (⟨b7, 0, none⟩ : Addr) A len cap (len : Int) (i : Int) w K0 Kr := by
  intro t
  induction t with
  | zero =>
    intro i w r m d h1 h2 h3 hd hb o7 h4
    have : i = len := by omega
    subst this
    unfold f_law15_TreapPlays.l0
    exact sel_f (by simp) (hK w r m d h3 hd hb h4)
  | succ t ih =>
    intro i w r m d h1 h2 h3 hd hb o7 h4
    have hle := hf.le
    unfold f_law15_TreapPlays.l0
    refine sel_t (by simp; omega) (op_st (hf.below h3.bel) (by omega) fun w1 b e hb3 q1 => ?_)
    subst h4
    have hbl := hb.lt
    have ob := h3.out (b := b) (by omega)
    have hw0 := h3.bel.size
    have h3 := h3.below q1; have hd := hd.below q1; have hb := hb.below q1
    refine hb_ldS0 hb rfl (hb_ldS (j := 1) hb rfl (hb_ldS (j := 2) hb rfl (hb_ldI0 hb3 rfl (hb_ldI (j := 1) hb3 rfl (hb_ldI (j := 2) hb3 rfl (hb_ldI (j := 3) hb3 rfl (hb_ldI (j := 4) hb3 rfl ((changes_ok h3 hd (hf.opOk (i := i) (by omega))).mono ?_))))))))
    rintro e w2 ⟨d', rfl, r', hL, hd', hm, hk⟩
    have hbl1 := hb.lt
    have hb := hb.keeps hk o7.no; have hb3' := hb3.keeps hk ob.no
    have o7' := o7.mv hm hbl1
    refine ⟨_, _, _, _, _, _, _, _, _, _, rfl, al_new fun w3 b36 e z h36 q3 => ?_⟩
    have o36 := hL.out (b := b36) (by omega)
    have hw2 := hL.bel.size
    have hb2l := hb.lt; have hb32l := hb3'.lt
    have hL := hL.below q3; have hd' := hd'.below q3; have hb := hb.below q3; have hb3' := hb3'.below q3
    refine hb_st0 h36 (by simp) fun w4 h4 k4 => hb_st (j := 1) h4 (by simp) fun w5 h5 k5 => hb_st (j := 2) h5 (by simp) fun w6 h6 k6 => ?_
    have k46 := (k4.trans k5).trans k6
    have hL := hL.beside k46 o36 (by omega)
    have hd' := ((hd'.st k4 h36 (by decide) (by decide) (by decide)).st k5 h4 (by decide) (by decide) (by decide)).st k6 h5 (by decide) (by decide) (by decide)
    have hb := hb.keeps k46 (by omega); have hb3' := hb3'.keeps k46 (by omega)
    have hbS : HB w6 b7 #[.slice d.A0 m.rows.length d.c0, .slice d.A1 (m.n - 1) d.c1, .slice d.A2 (m.n - 1) d.c2] 34 := hb
    refine hb_ldS0 h6 rfl (hb_ldS (j := 1) h6 rfl (hb_ldS (j := 2) h6 rfl (hb_st0 hbS (by simp) fun w7 h7 k7 => hb_st (j := 1) h7 (by simp) fun w8 h8 k8 => hb_st (j := 2) h8 (by simp) fun w9 h9 k9 => ?_)))
    have k79 := (k7.trans k8).trans k9
    have hL := hL.beside k79 o7' (by omega)
    have hd' := ((hd'.st k7 hb (by decide) (by decide) (by decide)).st k8 h7 (by decide) (by decide) (by decide)).st k9 h8 (by decide) (by decide) (by decide)
    have hb3' := hb3'.keeps k79 (by omega)
    have hb9 : HB w9 b7 (d'.cs (stepM m (opAt f i))) 34 := h9
    refine sel_f rfl (hb_ldS0 hb9 rfl (hb_ldS (j := 1) hb9 rfl (hb_ldS (j := 2) hb9 rfl (hb_ldI0 hb3' rfl (hb_ldI (j := 1) hb3' rfl (hb_ldI (j := 2) hb3' rfl (hb_ldI (j := 3) hb3' rfl (hb_ldI (j := 4) hb3' rfl ?_))))))))
    rw [← hm.R]
    refine (tells_ok hL hd' (opAt f i)).mono ?_
    rintro e w10 ⟨rfl, hL10, q10⟩
    refine ⟨_, rfl, sel_f rfl ?_⟩
    rw [w64_in (by omega), show (i : Int) + 1 = ((i + 1 : Nat) : Int) by omega]
    rw [hm.R]
    exact ih (i + 1) w10 r' _ d' (by omega) (by omega) hL10 (hd'.below q10) (hb9.below q10) o7' hm.R
theorem Plays_l2 {w0 : World} {r : RC} {m : MS} {d : Doc} {b7 : Nat} {a : Int} {K4 : World → Prop} {Kr : Bool → World → Prop} (hK : ∀ w', LS w0 w' r m → RefAt w' d m → HB w' b7 (d.cs m) 34 → K4 w') :
    ∀ (t k : Nat) (w : World), 12 - k = t → k ≤ 12 → LS w0 w r m → RefAt w d m → HB w b7 (d.cs m) 34 → f_law15_TreapPlays.l2 (t + 1) (some ⟨r.R, 0, none⟩) (⟨b7, 0, none⟩ : Addr) a (k : Int) w K4 Kr := by
  intro t
  induction t with
  | zero =>
    intro k w h1 h2 h hd hb
    have : k = 12 := by omega
    subst this
    unfold f_law15_TreapPlays.l2
    exact sel_f (by simp) (hK w h hd hb)
  | succ t ih =>
    intro k w h1 h2 h hd hb
    unfold f_law15_TreapPlays.l2
    refine sel_t (by simp; omega) (hb_ldS0 hb rfl (hb_ldS (j := 1) hb rfl (hb_ldS (j := 2) hb rfl ((tells_ok h hd ⟨k, IntKind.i64.wrap (a + 1), IntKind.i64.wrap (a.tdiv 2), 0, 0⟩).mono ?_))))
    rintro e w1 ⟨rfl, h, q⟩
    refine ⟨_, rfl, sel_f rfl ?_⟩
    rw [w64_in (by omega), show (k : Int) + 1 = ((k + 1 : Nat) : Int) by omega]
    exact ih (k + 1) w1 (by omega) (by omega) h (hd.below q) (hb.below q)
theorem Plays_l1 {w0 : World} {r : RC} {m : MS} {d : Doc} {b7 : Nat} (hn : m.n ≤ 65537) {K2 : World → Prop} {Kr : Bool → World → Prop} (hK : ∀ w', Below w0.heap.size w0 w' → K2 w') :
    ∀ (t i : Nat) (w : World), (m.n - 1) - i = t → i ≤ m.n - 1 → LS w0 w r m → RefAt w d m → HB w b7 (d.cs m) 34 → f_law15_TreapPlays.l1 (t + 1) (some ⟨r.R, 0, none⟩) (⟨b7, 0, none⟩ : Addr) ((m.n - 1 : Nat) : Int) (i : Int) w K2 Kr := by
  intro t
  induction t with
  | zero =>
    intro i w h1 h2 h hd hb
    have : i = m.n - 1 := by omega
    subst this
    unfold f_law15_TreapPlays.l1
    exact sel_f (by simp) (hK w h.bel)
  | succ t ih =>
    intro i w h1 h2 h hd hb
    unfold f_law15_TreapPlays.l1
    refine sel_t (by simp; omega) ⟨_, Plays_l2 (d := d) (m := m) (r := r) (b7 := b7) (w0 := w0) (fun w' h hd hb _ => ?_) 7 5 w rfl (by omega) h hd hb⟩
    rw [w64_in (by omega), show (i : Int) + 1 = ((i + 1 : Nat) : Int) by omega]
    exact ih (i + 1) w' (by omega) (by omega) h hd hb
theorem TreapPlays_walk {w : World} {A0 A1 : Option Addr} {n0 n1 c0 c1 : Nat} {sl : List Int} {f : Nat → Nat → Int} (hr : RI w A0 sl) (hn : n0 = sl.length) (hc0 : A0 = none → sl.length = 0 ∧ c0 = 0) (hlen : sl.length ≤ 17592186044416) (hf : IsRecs ks5 w A1 n1 c1 f) :
    Calls Try.prog 7 #[.slice A0 n0 c0, .slice A1 n1 c1] w fun e w' => e = .returned (.bool true) ∧ Below w.heap.size w w' := by
  apply f_law15_TreapPlays.ok
  unfold f_law15_TreapPlays.wp
  refine (LS.new (w0 := w) (Below.refl _ _) hr hn hc0 hlen).mono ?_
  rintro e w1 ⟨r, rfl, hS, hB, hb⟩
  refine ⟨_, rfl, sel_f rfl ((alive_ok w1).mono ?_)⟩
  rintro e w2 ⟨rfl, q2⟩
  have hS := hS.below q2
  have hw2 := hS.bel.size
  refine ⟨_, rfl, sel_f rfl (al_new fun w3 b7 e z h7 q3 => hb_st0 h7 (by simp) fun w4 h4 k4 => hb_st (j := 1) h4 (by simp) fun w5 h5 k5 => hb_st (j := 2) h5 (by simp) fun w6 h6 k6 => ?_)⟩
  have o7 := hS.out (b := b7) (by omega)
  have hS6 := (hS.below q3).beside ((k4.trans k5).trans k6) o7 (by omega)
  have hd : RefAt w6 ⟨none, 0, none, 0, none, 0⟩ ⟨1, [], fun _ => (0, 0)⟩ := ⟨⟨[], OwnW.none _ _ _, RowsV.nil _⟩, OwnW.none _ _ _, OwnW.none _ _ _⟩
  refine ⟨_, Plays_l0 hf (R := r.R) (b7 := b7) (by omega) ?_ n1 0 w6 r _ ⟨none, 0, none, 0, none, 0⟩ rfl (by omega) hS6 hd h6 o7 rfl⟩
  intro w7 r7 m d hS7 hd7 hb7 hR _
  obtain ⟨rok, hle, hpos⟩ := hS7.rok
  rw [← hR]
  exact hb_ldS (j := 1) hb7 rfl ⟨_, Plays_l1 hle (fun w' hb _ => ⟨rfl, hb⟩) (m.n - 1) 0 w7 rfl (by omega) hS7 hd7 hb7⟩
theorem TreapPlays_row {w : World} {A0 A1 : Option Addr} {n0 n1 c0 c1 : Nat} {za : List Int} {f : Nat → Nat → Int} (h0 : IsRow .i64 w A0 n0 c0 za) (s0 : n0 * 8 ≤ 140737488351232) (h1 : IsRecs ks5 w A1 n1 c1 f) :
    Calls Try.prog 7 #[.slice A0 n0 c0, .slice A1 n1 c1] w fun e w' => e = .returned (.bool true) ∧ Below w.heap.size w w' := by
  obtain ⟨l, hr, e1, e2, e3⟩ := row_ints h0 s0
  exact TreapPlays_walk hr e1 e2 e3 h1
end Go.Proofs.Ytnfgibbkfkaonaa.Rd
