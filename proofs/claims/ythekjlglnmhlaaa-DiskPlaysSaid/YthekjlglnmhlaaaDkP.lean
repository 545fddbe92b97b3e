/- The reference's disk: New; the statement DiskSizes. Conditions: none. -/
import Derived.Test.YthekjlglnmhlaaaDkO
import Derived.Test.YthekjlglnmhlaaaRdC
import Derived.Test.YthekjlglnmhlaaaRdL3
namespace Go.Proofs.Ythekjlglnmhlaaa.Rd
open Go.Dn Go.RowKit Go.Shelf
set_option linter.unusedVariables false
set_option linter.unusedSimpArgs false
set_option maxRecDepth 100000
/-- a spot's cells: safe bytes, pending ones, are there any -/
structure SpM where
  A : Option Addr
  n : Nat
  c : Nat
  A2 : Option Addr
  n2 : Nat
  c2 : Nat
  lo : Bool
def eSp (m : SpM) : List Value := [.slice m.A m.n m.c, .slice m.A2 m.n2 m.c2, .bool m.lo]
theorem ESp : Enc eSp 3 := ⟨fun _ => rfl, fun f u hu => by simp only [eSp, List.mem_cons, List.not_mem_nil, or_false] at hu; rcases hu with rfl | rfl | rfl <;> rfl, by decide⟩
abbrev TSp : TypeId := 70
abbrev TRd : TypeId := 28
theorem RTsp : RecTy Try.prog 25 TSp 3 56 := ⟨by kernel_rfl, by kernel_rfl⟩
/-- a spot of a fresh disk -/
def SpZ (w : World) (B : Nat) (m : SpM) : Prop := RB w m.A z0.1 ∧ m.n = 512 ∧ m.lo = false ∧ ∀ a, m.A = some a → B ≤ a.block
theorem SpZ.belw {w w' : World} {B : Nat} {m : SpM} (h : SpZ w B m) (k : Below w.heap.size w w') : SpZ w' B m := ⟨h.1.belw k, h.2⟩
theorem SpZ.keeps {S : Nat → Prop} {w w' : World} {B : Nat} {m : SpM} (h : SpZ w B m) (k : Keeps S w w') (hS : ∀ a, m.A = some a → ¬ S a.block) : SpZ w' B m := ⟨h.1.keeps k hS, h.2⟩
theorem secOf_nil : secOf [] = z0 := by apply Subtype.ext; simp [secOf, z0]
def rdC (A : Option Addr) (n c : Nat) : Array Value := #[.slice A n c, .slice none 0 0, .int .i64 0, .bool false]
theorem RNew_l1 {w0 : World} {b : Nat} (hb0 : w0.heap.size ≤ b) {N : Nat} (hN : N ≤ 4096) {K0 : World → Prop}
    (k0 : ∀ w A c ms, HB w b (rdC A N c) TRd → OwnE eSp 3 w w0.heap.size TSp A c ms → ms.length = N → Below w0.heap.size w0 w → K0 w) :
    ∀ (m i : Nat) (w : World) (A : Option Addr) (c : Nat) (ms : List SpM), N - i = m → i ≤ N → HB w b (rdC A i c) TRd → OwnE eSp 3 w w0.heap.size TSp A c ms → ms.length = i → Below w0.heap.size w0 w →
      f_ref07_New.l1 (m + 1) (N : Int) (⟨b, 0, none⟩ : Addr) (i : Int) w K0 := by
  intro m
  induction m with
  | zero =>
    intro i w A c ms hm hi h o el hb
    have : i = N := by omega
    subst this
    unfold f_ref07_New.l1
    exact sel_f (by simp) (k0 _ _ _ _ h o el hb)
  | succ m ih =>
    intro i w A c ms hm hi h o el hb
    have hlt : i < N := by omega
    unfold f_ref07_New.l1
    refine sel_t (by simpa using hlt) (drW_intro ?_)
    have gd := (Below.refl w.heap.size w).drew
    have hd := h.below gd
    have od := o.below gd
    have hbd : Below w0.heap.size w0 w.drew := hb.trans (gd.mono hb.size)
    refine ⟨fun w' => HB w' b (rdC A i c) TRd, hd, hdS_i0 (fun _ h => h) (A := A) (n := i) (c := c) rfl ?_⟩
    refine (full_ok (l := []) (c := 0) (RB.nil _ none) rfl (by decide)).mono ?_
    rintro _ w1 ⟨A1, c1, rfl, o1, g1⟩
    have h1 := hd.below g1
    have hb1 := hbd.trans (g1.mono hbd.size)
    have od1 := od.below g1
    refine ⟨_, _, _, rfl, h1, al_new fun w2 b2 e2 s2 h2 g2 => ⟨h1.below g2, ?_⟩⟩
    have hb2 := hb1.trans (g2.mono hb1.size)
    have od2 := od1.below g2
    refine app_e RTsp ESp (by decide) od2 el.symm (x := ⟨A1, 512, c1, none, 0, 0, false⟩) h2 rfl hb2.size (by omega) fun A' c' w3 o3 k3 f3 => ⟨_, _, _, rfl, ?_⟩
    have hne : ¬ Ob A b := by
      rintro ⟨a, ha, e⟩
      obtain ⟨cs, hg⟩ := own_hb od2 ha
      rw [e] at hg
      have := HB.ty (h1.below g2) hg
      revert this; decide
    refine hb_st0 ((h1.below g2).keeps k3 hne) (by simp [rdC]) fun w4 h4 k4 => ?_
    rw [wrs hlt (by omega)]
    have elen : (ms ++ [(⟨A1, 512, c1, none, 0, 0, false⟩ : SpM)]).length = i + 1 := by simp [el]
    have hne4 : ∀ a, some A' = some a → a.block ≠ b := by
      intro a ha e
      injection ha with ha; subst ha
      rcases f3 with f3 | f3
      · exact hne ⟨_, f3, e⟩
      · have := (h1.below g2).lt; omega
    have hb3 := hb2.trans (k3.below hb2.size fun k hk ⟨a, ha, e⟩ => by have := (o.block a ha).1; omega)
    refine ih (i + 1) w4 (some A') c' _ (by omega) (by omega) (by rw [elen] at h4; exact h4) (o3.keeps k4 hne4) elen (hb3.trans (k4.below hb3.size fun k hk e => by omega))
theorem RNew_j0 {x : Int} (hx : x ≤ 4096) {w : World} {b : Nat} (hb : HB w b (rdC none 0 0) TRd) {Kr : World → Prop}
    (k0 : ∀ w' A c ms, HB w' b (rdC A x.toNat c) TRd → OwnE eSp 3 w' w.heap.size TSp A c ms → ms.length = x.toNat → Keeps (fun k => k = b) w w' → Kr w') :
    f_ref07_New.j0 x (⟨b, 0, none⟩ : Addr) w Kr := by
  unfold f_ref07_New.j0
  refine al_new fun w1 b1 e1 s1 h1 g1 => hb_st0 h1 (by decide) fun w2 h2 k2 => hb_st h2 (by decide) fun w3 h3 k3 => hb_st h3 (by decide) fun w4 h4 k4 => hb_st h4 (by decide) fun w5 h5 k5 => ?_
  have k := ((k2.trans k3).trans k4).trans k5
  have g5 : Below w.heap.size w w5 := g1.trans (k.below g1.size fun i hi e => by omega)
  have h5' : HB w5 b1 (rdC none 0 0) TRd := h5
  have fin : ∀ w' A c ms, HB w' b1 (rdC A x.toNat c) TRd → OwnE eSp 3 w' w.heap.size TSp A c ms → ms.length = x.toNat → Below w.heap.size w w' → (∀ _ : Fr,
      ldS w' (⟨b1, 0, Option.none⟩ : Addr) fun A22 n22 c22 =>
      ldS w' ((⟨b1, 0, Option.none⟩ : Addr).add 1) fun A23 n23 c23 =>
      ldI w' ((⟨b1, 0, Option.none⟩ : Addr).add 2) .i64 fun x24 =>
      ldB w' ((⟨b1, 0, Option.none⟩ : Addr).add 3) fun b25 =>
      stW w' (⟨b, 0, none⟩ : Addr) (.slice A22 n22 c22) fun w26 =>
      stW w26 ((⟨b, 0, none⟩ : Addr).add 1) (.slice A23 n23 c23) fun w27 =>
      stW w27 ((⟨b, 0, none⟩ : Addr).add 2) (.int .i64 x24) fun w28 =>
      stW w28 ((⟨b, 0, none⟩ : Addr).add 3) (.bool b25) fun w29 => Kr w29) := by
    intro w' A c ms h o el gb _
    refine hb_ldS0 h (A := A) (n := x.toNat) (c := c) rfl (hb_ldS (j := 1) h (A := none) (n := 0) (c := 0) rfl (hb_ldI (j := 2) h rfl (hb_ldB (j := 3) h rfl ?_)))
    refine hb_st0 (hb.below gb) (by simp [rdC]) fun w2 h2 k2 => hb_st h2 (by simp [rdC]) fun w3 h3 k3 => hb_st h3 (by simp [rdC]) fun w4 h4 k4 => hb_st h4 (by simp [rdC]) fun w5 h5 k5 => ?_
    have k := ((k2.trans k3).trans k4).trans k5
    have hne : ∀ a, A = some a → a.block ≠ b := by
      intro a ha e
      have := (o.block a ha).1
      have := hb.lt
      omega
    exact k0 w5 A c ms h5 (o.keeps k hne) el ((Keeps.of_below gb).trans k)
  by_cases hn : x < 0
  · refine ⟨1, ?_⟩
    unfold f_ref07_New.l1
    exact sel_f (by simp; omega) (fin w5 none 0 [] (by rw [show x.toNat = 0 by omega]; exact h5') (OwnE.none _ _ _ _ _) (by simp; omega) g5)
  · obtain ⟨N, rfl⟩ := Int.eq_ofNat_of_zero_le (show 0 ≤ x by omega)
    refine ⟨N + 1, RNew_l1 (w0 := w) (N := N) (by omega) (by omega) (fun w' A c ms h o el gb => fin w' A c ms h o el gb) N 0 w5 none 0 [] rfl (by omega) h5' (OwnE.none _ _ _ _ _) rfl g5⟩
theorem RNew_ok (w : World) (x : Int) : Calls Try.prog 11 #[.int .i64 x] w fun e w' => ∃ A c, e = .returned (.agg #[.slice A (nS x) c, .slice none 0 0, .int .i64 0, .bool false]) ∧ Below w.heap.size w w' := by
  apply f_ref07_New.ok
  unfold f_ref07_New.wp
  refine al_new fun w1 b1 e1 s1 h1 g1 => ?_
  have fin : ∀ {w' : World} {A : Option Addr} {N c : Nat}, HB w' b1 (rdC A N c) TRd → Keeps (fun k => k = b1) w1 w' → N = nS x → (∀ _ : Fr,
      ldS w' (⟨b1, 0, Option.none⟩ : Addr) fun A32 n32 c32 =>
      ldS w' ((⟨b1, 0, Option.none⟩ : Addr).add 1) fun A33 n33 c33 =>
      ldI w' ((⟨b1, 0, Option.none⟩ : Addr).add 2) .i64 fun x34 =>
      ldB w' ((⟨b1, 0, Option.none⟩ : Addr).add 3) fun b35 =>
      ∃ A' c', Ending.returned (.agg #[.slice A32 n32 c32, .slice A33 n33 c33, .int .i64 x34, .bool b35]) = .returned (.agg #[.slice A' (nS x) c', .slice none 0 0, .int .i64 0, .bool false]) ∧ Below w.heap.size w w') := by
    intro w' A N c h k eN _
    subst eN
    exact hb_ldS0 h (A := A) (n := nS x) (c := c) rfl (hb_ldS (j := 1) h (A := none) (n := 0) (c := 0) rfl (hb_ldI (j := 2) h rfl (hb_ldB (j := 3) h rfl ⟨_, _, rfl, g1.trans (k.below g1.size fun i hi e => by omega)⟩)))
  by_cases hx : x > 4096
  · exact sel_t (by simpa using hx) (RNew_j0 (by omega) h1 fun w' A c ms h o el k => fin h k (by unfold nS; rw [if_pos (by omega)]; rfl))
  · exact sel_f (by simpa using hx) (RNew_j0 (by omega) h1 fun w' A c ms h o el k => fin h k (by unfold nS; rw [if_neg (by omega)]))
/-! ### DiskSizes -/
theorem wrN {n : Nat} {i : Int} {l : List Int} (hl : ¬ 512 < l.length) (h0 : 0 ≤ i) (h1 : i < n) : wrD (newD n) i l = ⟨List.replicate n z0, [(i, secOf l)], [], 1, false⟩ ∧ wrC (newD n) i l = 0 := by
  have : ¬ wrBad (newD n) i l := by unfold wrBad newD; simp; omega
  constructor <;> simp [wrD, wrC, this, stepD, stepC, putD, fateOf, putK, hasK, newD, wr1]
  all_goals simp [newD] at this; simp [this]
theorem wrO {n : Nat} {i : Int} {l : List Int} (h : i < 0 ∨ (n : Int) ≤ i) : wrD (newD n) i l = newD n ∧ wrC (newD n) i l = 1 := by
  have : wrBad (newD n) i l := by unfold wrBad newD; simp; omega
  constructor
  · unfold wrD; rw [if_neg (by simp [newD]), if_pos this]
  · unfold wrC; rw [if_neg (by simp [newD]), if_pos this]
theorem loose0 (n : Nat) : looseD (newD n) = [] := by
  unfold looseD newD
  simp [hasK]
theorem Sizes_j0 {w0 w : World} {B : Nat} {r : RD} {d : Dk} {i x : Int} {bt : Bool} (h : DM w B r d) (g : Below w0.heap.size w0 w) (hoff : d.off = false)
    (hx : (bt = true ∧ x = 0 ∧ 0 ≤ i ∧ i < d.safe.length ∧ hasS d i = secOf [120]) ∨ (bt = false ∧ x = 1 ∧ (i < 0 ∨ (d.safe.length : Int) ≤ i))) {Kr : Bool → World → Prop}
    (kr : ∀ w', Below w0.heap.size w0 w' → Kr true w') : f_law07_DiskSizes.j0 i (some ⟨r.D, 0, none⟩) x bt w Kr := by
  unfold f_law07_DiskSizes.j0
  refine (Read_ok h i).mono ?_
  rintro _ w1 ⟨⟨A, n, c, x', rfl, hd⟩, g1⟩
  have G := g.trans (g1.mono g.size)
  refine ⟨_, _, _, _, rfl, ?_⟩
  rcases hx with ⟨rfl, rfl, h0, h1, hv⟩ | ⟨rfl, rfl, hi⟩
  · rcases hd with ⟨hd, _⟩ | ⟨_, hd, _⟩ | ⟨_, _, _, rfl, rfl, rfl, b, rfl, hb, H⟩
    · rw [hoff] at hd; cases hd
    · omega
    rw [hv] at H
    refine sel_t rfl (sel_f rfl (sel_t rfl (optB_some rfl (req_intro (by decide) (ldI_intro (x := 120) ?_ (sel_t rfl (optB_some rfl (req_intro (by decide) (ldI_intro (x := 0) ?_ ?_)))))))))
    · rw [H.cell]; rfl
    · rw [H.cell]; rfl
    · exact kr _ G
  · rcases hd with ⟨hd, _⟩ | ⟨_, hd, rfl, rfl, rfl⟩ | ⟨_, h0, h1, _⟩
    · rw [hoff] at hd; cases hd
    · exact sel_t rfl (sel_t rfl (kr _ G))
    · omega
theorem DiskSizes_walk (w : World) (x at_ : Int) : Calls Try.prog 3 #[.int .i64 x, .int .i64 at_] w fun e w' => e = .returned (.bool true) ∧ Below w.heap.size w w' := by
  apply f_law07_DiskSizes.ok
  unfold f_law07_DiskSizes.wp
  refine (alive_ok w).mono ?_
  rintro _ w1 ⟨rfl, g1⟩
  refine ⟨_, rfl, sel_f rfl ((New_ok w1 x).mono ?_)⟩
  rintro _ w2 ⟨r, rfl, h2, g2⟩
  have G2 := g1.trans (g2.mono g1.size)
  refine ⟨_, rfl, (RNew_ok w2 x).mono ?_⟩
  rintro _ w3 ⟨A, c, rfl, g3⟩
  have h3 := h2.below g3
  have G3 := G2.trans (g3.mono G2.size)
  refine ⟨_, _, _, _, _, _, _, _, rfl, ?_⟩
  refine al_new fun w4 b4 e4 s4 hb4 g4 => hb_st0 hb4 (by decide) fun w5 hb5 k5 => hb_st hb5 (by simp) fun w6 hb6 k6 => hb_st hb6 (by simp) fun w7 hb7 k7 => hb_st hb7 (by simp) fun w8 hb8 k8 => ?_
  have k := ((k5.trans k6).trans k7).trans k8
  have g8 : Below w3.heap.size w3 w8 := g4.trans (k.below g4.size fun i hi e => by omega)
  have gd := g8.trans (((Below.refl w8.heap.size w8).drew).mono g8.size)
  have h9 := h3.below gd
  have G9 := G3.trans (gd.mono G3.size)
  have hbd : HB w8.drew b4 (rdC A (nS x) c) TRd := HB.below (cs := rdC A (nS x) c) hb8 ((Below.refl w8.heap.size w8).drew)
  have hB : w1.heap.size ≤ w8.drew.heap.size := by have := G9.size; have := h9.hb.lt; have := h9.lo; omega
  have hsl : (newD (nS x)).safe.length = nS x := by simp [newD]
  refine drW_intro ⟨fun w' => HB w' b4 (rdC A (nS x) c) TRd, hbd, sel_f rfl (hdS_i0 (fun _ h => h) (A := A) (n := nS x) (c := c) rfl ?_)⟩
  refine (Size_ok h9).mono ?_
  rintro _ _ ⟨rfl, rfl⟩
  refine ⟨_, rfl, hbd, sel_f (by rw [hsl]; simp) ((Loose_ok h9).mono ?_)⟩
  rintro _ w10 ⟨A10, c10, rfl, -, g10⟩
  rw [loose0]
  have h10 := h9.below g10
  have G10 := G9.trans (g10.mono G9.size)
  refine ⟨_, _, _, rfl, sel_f rfl ((Steps_ok h10).mono ?_)⟩
  rintro _ _ ⟨rfl, rfl⟩
  refine ⟨_, rfl, sel_f rfl ((Power_ok h10).mono ?_)⟩
  rintro _ _ ⟨rfl, rfl⟩
  refine ⟨_, rfl, sel_f rfl (lit_b (l := [120]) rfl fun b11 w11 e11 r11 g11 z11 => ?_)⟩
  have h11 := h10.below g11
  have G11 := G10.trans (g11.mono G10.size)
  have hbx := (hbd.below g10).below g11
  refine ⟨_, _, _, rfl, (Write_ok (i := at_) (n := 1) (c := 1) h11 rfl r11 (fun a ha ho => by injection ha with ha; subst ha; have := (h10.lt _ ho).1; simp at this; omega)).mono ?_⟩
  rintro _ w12 ⟨rfl, h12, k12⟩
  have hnF : ¬ FD r b4 := fun ho => by have := (h3.lt _ ho).1; omega
  have hb12 := hbx.keeps k12 hnF
  have G12 : Below w.heap.size w w12 := G11.trans (k12.below G11.size fun i hi ho => by have := (h11.lt i ho).2; have := g1.size; omega)
  have done : ∀ {w' : World}, Below w12.heap.size w12 w' → Below w.heap.size w w' := fun g => G12.trans (g.mono G12.size)
  refine ⟨_, rfl, ?_⟩
  by_cases h0 : at_ < 0
  · rw [(wrO (.inl h0)).2]
    rw [(wrO (.inl h0)).1] at h12
    refine sel_f (by simpa using h0) (sel_f rfl (sel_f rfl ?_))
    exact Sizes_j0 h12 (Below.refl _ _) rfl (.inr ⟨rfl, rfl, .inl h0⟩) fun w' g _ => ⟨rfl, done g⟩
  · refine sel_t (by simpa using h0) (hb_ldS0 hb12 (A := A) (n := nS x) (c := c) rfl ?_)
    by_cases h1 : at_ < (nS x : Int)
    · rw [(wrN (l := [120]) (by decide) (by omega) h1).2]
      rw [(wrN (l := [120]) (by decide) (by omega) h1).1] at h12
      rw [show decide (at_ < (nS x : Int)) = true by simpa using h1]
      refine sel_f rfl (sel_f rfl ?_)
      exact Sizes_j0 h12 (Below.refl _ _) rfl (.inl ⟨rfl, rfl, by omega, by simp; omega, by simp [hasS, lk]⟩) fun w' g _ => ⟨rfl, done g⟩
    · rw [(wrO (.inr (by omega))).2]
      rw [(wrO (.inr (by omega))).1] at h12
      rw [show decide (at_ < (nS x : Int)) = false by simpa using h1]
      refine sel_f rfl (sel_t rfl (sel_f rfl ?_))
      exact Sizes_j0 h12 (Below.refl _ _) rfl (.inr ⟨rfl, rfl, .inr (by rw [hsl]; omega)⟩) fun w' g _ => ⟨rfl, done g⟩
theorem DiskSizes_row {w : World} {x at_ : Int} (_ : (Lit.int .i64 x).wf = true) (_ : (Lit.int .i64 at_).wf = true) :
    Calls Try.prog 3 #[.int .i64 x, .int .i64 at_] w fun e w' => e = .returned (.bool true) ∧ Below w.heap.size w w' := DiskSizes_walk w x at_
end Go.Proofs.Ythekjlglnmhlaaa.Rd
