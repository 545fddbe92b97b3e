/- Inner calls of a forest of linkcut, walked: greater, pull, side, hang, push. Conditions: none. -/
import Derived.Test.YtfknppccgojhdaaLcB
import Derived.Laws.Cover2
namespace Go.Dn
set_option linter.unusedVariables false
def acc (d e : Nd) : Nd := { d with mx := gtr d.mx e.mx, sr := d.sr + e.sr, si := d.si + e.si }
def accY (N : Nat → Nd) (d : Nd) (y : Nat) : Nd := if y = 0 then d else acc d (N y)
def pull0 (d : Nd) : Nd := { d with mx := d.o, sr := if 0 < d.o.id then d.o.w else 0, si := if 0 < d.o.id then 1 else 0 }
/-- all but the sums are the same -/
structure Same (d d' : Nd) : Prop where
  c0 : d'.c0 = d.c0
  c1 : d'.c1 = d.c1
  up : d'.up = d.up
  tn : d'.tn = d.tn
  o : d'.o = d.o
theorem Same.acc (d e : Nd) : Same d (acc d e) := ⟨rfl, rfl, rfl, rfl, rfl⟩
theorem Same.accY (N : Nat → Nd) (d : Nd) (y : Nat) : Same d (accY N d y) := by unfold Dn.accY; split; exact ⟨rfl, rfl, rfl, rfl, rfl⟩; exact Same.acc _ _
theorem Same.pull0 (d : Nd) : Same d (pull0 d) := ⟨rfl, rfl, rfl, rfl, rfl⟩
theorem Same.trans {a b c : Nd} (h : Same a b) (k : Same b c) : Same a c := ⟨k.c0.trans h.c0, k.c1.trans h.c1, k.up.trans h.up, k.tn.trans h.tn, k.o.trans h.o⟩
def sideN (N : Nat → Nd) (x : Nat) : Int := if 0 < (N x).up ∧ (N (N x).up).c0 = x then 0 else if 0 < (N x).up ∧ (N (N x).up).c1 = x then 1 else -1
def sI (s : Bool) : Int := if s then 1 else 0
def hangN (N : Nat → Nd) (x c : Nat) (s : Bool) : Nat → Nd := if c = 0 then stN N x (setc s (N x) c) else stN (stN N x (setc s (N x) c)) c { stN N x (setc s (N x) c) c with up := x }
def togN (N : Nat → Nd) (y : Nat) : Nat → Nd := if y = 0 then N else stN N y { N y with tn := !(N y).tn }
def pushN (N : Nat → Nd) (x : Nat) : Nat → Nd := if (N x).tn then togN (togN (stN N x { N x with tn := false, c0 := (N x).c1, c1 := (N x).c0 }) (N x).c1) (N x).c0 else N
def eC (e : E) : Array Value := #[.int .i64 e.id, .int .i64 e.u, .int .i64 e.v, .int .i64 e.w]
end Go.Dn
namespace Go.Proofs.Ytfknppccgojhdaa.Rd
open Go.Dn Go.RowKit
set_option linter.unusedVariables false
set_option maxRecDepth 100000

theorem copy4 {w : World} {b b5 : Nat} {e e0 : E} {t : TypeId} (h : HB w b (eC e) t) (h5 : HB w b5 (eC e0) t) (hne : b ≠ b5) {K : Int → Int → Int → Int → World → Prop} (hk : ∀ w', HB w' b5 (eC e) t → Keeps (fun k => k = b5) w w' → K e.id e.u e.v e.w w') :
    ldI w (⟨b, 0, none⟩ : Addr) .i64 fun x8 => ldI w ((⟨b, 0, none⟩ : Addr).add 1) .i64 fun x9 => ldI w ((⟨b, 0, none⟩ : Addr).add 2) .i64 fun x10 => ldI w ((⟨b, 0, none⟩ : Addr).add 3) .i64 fun x11 =>
    stW w (⟨b5, 0, none⟩ : Addr) (.int .i64 x8) fun w12 => stW w12 ((⟨b5, 0, none⟩ : Addr).add 1) (.int .i64 x9) fun w13 => stW w13 ((⟨b5, 0, none⟩ : Addr).add 2) (.int .i64 x10) fun w14 => stW w14 ((⟨b5, 0, none⟩ : Addr).add 3) (.int .i64 x11) fun w15 =>
    ldI w15 (⟨b5, 0, none⟩ : Addr) .i64 fun x16 => ldI w15 ((⟨b5, 0, none⟩ : Addr).add 1) .i64 fun x17 => ldI w15 ((⟨b5, 0, none⟩ : Addr).add 2) .i64 fun x18 => ldI w15 ((⟨b5, 0, none⟩ : Addr).add 3) .i64 fun x19 => K x16 x17 x18 x19 w15 := by
  refine hb_ldI0 h rfl (hb_ldI h (j := 1) rfl (hb_ldI h (j := 2) rfl (hb_ldI h (j := 3) rfl ?_)))
  refine hb_st0 h5 (by simp [eC]) fun w1 h1 k1 => hb_st h1 (j := 1) (by simp [eC]) fun w2 h2 k2 => hb_st h2 (j := 2) (by simp [eC]) fun w3 h3 k3 => hb_st h3 (j := 3) (by simp [eC]) fun w4 h4 k4 => ?_
  have h4 : HB w4 b5 (eC e) t := h4
  refine hb_ldI0 h4 rfl (hb_ldI h4 (j := 1) rfl (hb_ldI h4 (j := 2) rfl (hb_ldI h4 (j := 3) rfl (hk _ h4 ?_))))
  exact (k1.trans k2).trans (k3.trans k4)
theorem greater_ok (a b : E) (w : World) : Calls Try.prog 50 #[.agg (eC a), .agg (eC b)] w fun e w' => e = .returned (.agg (eC (gtr a b))) ∧ Below w.heap.size w w' := by
  apply f_linkcut_greater.ok
  unfold f_linkcut_greater.wp
  refine al_new fun w1 b1 e1 s1 h1 g1 => al_new fun w2 b2 e2 s2 h2 g2 => al_new fun w3 b3 e3 s3 h3 g3 => ?_
  have B1 : Below w.heap.size w w1 := g1
  have B2 : Below w.heap.size w w2 := B1.trans (g2.mono (by omega))
  have B3 : Below w.heap.size w w3 := B2.trans (g3.mono (by omega))
  have h1 : HB w3 b1 (eC a) 33 := (h1.below g2).below g3
  have h2 : HB w3 b2 (eC b) 33 := h2.below g3
  have h3 : HB w3 b3 (eC zE) 33 := h3
  have bb : ∀ {w'}, Keeps (fun k => k = b3) w3 w' → Below w.heap.size w w' := fun k => B3.trans (k.below B3.size fun k hk e => by omega)
  refine hb_ldI0 h1 rfl ?_
  by_cases a0 : a.id = 0
  · have hg : gtr a b = b := by unfold gtr; rw [if_pos (.inl a0)]
    refine sel_t (by simpa using a0) (copy4 h2 h3 (by omega) fun w' h' k' => ⟨?_, bb k'⟩)
    rw [hg]; rfl
  refine sel_f (by simpa using a0) (hb_ldI0 h2 rfl ?_)
  by_cases b0 : 0 < b.id
  · refine sel_t (by simpa using b0) (hb_ldI h1 (j := 3) rfl (hb_ldI h2 (j := 3) rfl ?_))
    by_cases c1 : a.w < b.w
    · have hg : gtr a b = b := by unfold gtr; rw [if_pos (.inr ⟨b0, .inl c1⟩)]
      refine sel_t (by simpa using c1) (copy4 h2 h3 (by omega) fun w' h' k' => ⟨?_, bb k'⟩)
      rw [hg]; rfl
    refine sel_f (by simpa using c1) (hb_ldI h1 (j := 3) rfl (hb_ldI h2 (j := 3) rfl ?_))
    by_cases c2 : a.w = b.w
    · refine sel_t (by simpa using c2) (hb_ldI0 h1 rfl (hb_ldI0 h2 rfl ?_))
      by_cases c3 : a.id < b.id
      · have hg : gtr a b = b := by unfold gtr; rw [if_pos (.inr ⟨b0, .inr ⟨c2, c3⟩⟩)]
        refine sel_t (by simpa using c3) (copy4 h2 h3 (by omega) fun w' h' k' => ⟨?_, bb k'⟩)
        rw [hg]; rfl
      · have hg : gtr a b = a := by unfold gtr; rw [if_neg (by omega)]
        refine sel_f (by simpa using c3) (copy4 h1 h3 (by omega) fun w' h' k' => ⟨?_, bb k'⟩)
        rw [hg]; rfl
    · have hg : gtr a b = a := by unfold gtr; rw [if_neg (by omega)]
      refine sel_f (by simpa using c2) (copy4 h1 h3 (by omega) fun w' h' k' => ⟨?_, bb k'⟩)
      rw [hg]; rfl
  · have hg : gtr a b = a := by unfold gtr; rw [if_neg (by omega)]
    refine sel_f (by simpa using b0) (copy4 h1 h3 (by omega) fun w' h' k' => ⟨?_, bb k'⟩)
    rw [hg]; rfl

/-- what a call on a forest leaves -/
def Aft (r : LC) (w w' : World) (N : Nat → Nd) : Prop := Lp w' r N ∧ Keeps (fun k => k = r.g) w w'
theorem csum_runs {a b c d : Int} {x y : Operand} {w : World} {K : Value → World → Prop} (h1 : In53 a) (h2 : In53 b) (h3 : In53 c) (h4 : In53 d) (h5 : In53 (a + c)) (h6 : In53 (b + d)) (hk : K (.complex .f64 (fb (a + c)) (fb (b + d))) w) :
    Runs Try.prog (do eqGuard .add 46 x y (.complex .f64 (fb a) (fb b)) (.complex .f64 (fb c) (fb d)); binOp .add 46 (.complex .f64 (fb a) (fb b)) (.complex .f64 (fb c) (fb d)) : Sem Value) w K := by
  refine runs_of ?_ hk
  have := run_complex_sum (P := Try.prog) (w := w) .add (.inl rfl) 46 .f64 _ _ _ _ _ _ (csum_ok h1 h2 h3 h4 h5 h6)
  simpa [eqGuard] using this
theorem wr01 : IntKind.i64.wrap ((0 : Int) + 1) = 1 := by decide
theorem wr12 : IntKind.i64.wrap ((1 : Int) + 1) = 2 := by decide
theorem lc_stmx2 {w : World} {r : LC} {N : Nat → Nd} (h : Lp w r N) {i : Nat} (hi : i < r.n) {x : Int} (hx : x = (i : Int)) (e : E) {K : World → Prop} (hk : ∀ w', Lp w' r (stN N i { N i with mx := e }) → Keeps (fun k => k = r.g) w w' → K w') :
    stW w (((⟨r.g, 0, none⟩ : Addr).add (x.toNat * 13)).add 8) (.int .i64 e.id) fun w1 => stW w1 (((⟨r.g, 0, none⟩ : Addr).add (x.toNat * 13)).add (8 + 1)) (.int .i64 e.u) fun w2 => stW w2 (((⟨r.g, 0, none⟩ : Addr).add (x.toNat * 13)).add (8 + 2)) (.int .i64 e.v) fun w3 => stW w3 (((⟨r.g, 0, none⟩ : Addr).add (x.toNat * 13)).add (8 + 3)) (.int .i64 e.w) K := by
  rw [← add_add _ 8 1, ← add_add _ 8 2, ← add_add _ 8 3]
  exact lc_stmx h hi hx e hk
/-- one child's sums -/
theorem pull_it {w : World} {r : LC} {M : Nat → Nd} (h : Lp w r M) {x y : Nat} (hx : x < r.n) (hy : y < r.n) (hne : y ≠ x) (h1 : In53 (M x).sr ∧ In53 (M x).si) (h2 : y ≠ 0 → In53 (M y).sr ∧ In53 (M y).si) (h3 : In53 (accY M (M x) y).sr ∧ In53 (accY M (M x) y).si) {x0 x1 : Int} {i i' : Int}
    (hi : i < 2) (h0i : 0 ≤ i) (hc : (#[.int .i64 x0, .int .i64 x1] : Array Value)[i.toNat]? = some (.int .i64 (y : Int))) (hi' : IntKind.i64.wrap (i + 1) = i') {k : Nat} {K0 : World → Prop}
    (hk : ∀ w', Aft r w w' (stN M x (accY M (M x) y)) → f_linkcut_Forest_pull.l1 k ⟨r.R, 0, none⟩ ((⟨r.g, 0, none⟩ : Addr).add ((x : Int).toNat * 13)) x0 x1 i' w' K0) :
    f_linkcut_Forest_pull.l1 (k + 1) ⟨r.R, 0, none⟩ ((⟨r.g, 0, none⟩ : Addr).add ((x : Int).toNat * 13)) x0 x1 i w K0 := by
  unfold f_linkcut_Forest_pull.l1
  refine sel_t (by simpa using hi) (req_intro (by simp; omega) (optB_some hc (req_intro (by simp) ?_)))
  rw [hi']
  by_cases y0 : y = 0
  · subst y0
    refine sel_f (by simp) (hk w ⟨?_, Keeps.refl _ _⟩)
    have : stN M x (accY M (M x) 0) = M := by funext k; unfold stN accY; split <;> simp_all
    rw [this]; exact h
  · refine sel_t (by simp; omega) (drW_intro ⟨fun w' => Lp w' r M, h.drew, ?_⟩)
    rw [add_add _ 8 1, add_add _ 8 2, add_add _ 8 3, add_add _ 8 4]
    refine ⟨_, fun w' h' => h'.cell hx rfl (j := 8) (by omega), _, fun w' h' => h'.cell hx rfl (j := 9) (by omega), _, fun w' h' => h'.cell hx rfl (j := 10) (by omega), _, fun w' h' => h'.cell hx rfl (j := 11) (by omega), ?_⟩
    refine ⟨_, _, _, fun w' h' => h'.sl0, optB_some rfl (req_intro (by simp; omega) ?_)⟩
    rw [add_add _ 8 1, add_add _ 8 2, add_add _ 8 3]
    refine ⟨_, fun w' h' => h'.cell hy rfl (j := 8) (by omega), _, fun w' h' => h'.cell hy rfl (j := 9) (by omega), _, fun w' h' => h'.cell hy rfl (j := 10) (by omega), _, fun w' h' => h'.cell hy rfl (j := 11) (by omega), ?_⟩
    refine (greater_ok (M x).mx (M y).mx _).mono ?_
    rintro e w3 ⟨rfl, b3⟩
    have l3 := h.drew.below b3
    refine ⟨_, _, _, _, rfl, l3, ?_⟩
    refine lc_stmx2 l3 hx rfl (gtr (M x).mx (M y).mx) fun w4 l4 k4 => drW_intro ?_
    have l5 := l4.drew
    refine ⟨_, _, l5.cell hx rfl (j := 12) (by omega), ?_⟩
    rw [stN_same]
    refine lc_at (K := fun a => ldC w4.drew (((a.add _).add 8).add 4) .f64 _) l5 hy rfl ?_
    rw [add_add _ 8 4]
    refine ⟨_, _, l5.cell hy rfl (j := 12) (by omega), ?_⟩
    rw [stN_ne _ _ hne]
    have h2 := h2 y0
    have ea : accY M (M x) y = acc (M x) (M y) := by unfold accY; rw [if_neg y0]
    rw [ea] at h3
    refine csum_runs h1.1 h1.2 h2.1 h2.2 h3.1 h3.2 ⟨_, _, rfl, ?_⟩
    refine lc_st l5 hx rfl 12 (by omega) (acc (M x) (M y)) ?_ fun w6 l6 k6 => hk w6 ⟨?_, ?_⟩
    · rw [stN_same]; exact fld_cases ⟨rfl, rfl, rfl, rfl, rfl, rfl, rfl, rfl, rfl, rfl, rfl, rfl, rfl⟩
    · rw [stN_stN] at l6
      rw [ea]; exact l6
    · exact (((Keeps.refl _ _).drew.trans (.of_below b3)).trans k4.drew).trans k6
/-- pull: what a node's children say is summed up -/
theorem pull_run {w : World} {r : LC} {N : Nat → Nd} (h : Lp w r N) {x a b : Nat} (hx : x < r.n) (ha : a < r.n) (hb : b < r.n) (h0 : (N x).c0 = a) (h1 : (N x).c1 = b) (hax : a ≠ x) (hbx : b ≠ x) (ho : (N x).o = zE ∨ 0 < (N x).o.id)
    (s0 : In53 (pull0 (N x)).sr ∧ In53 (pull0 (N x)).si) (s1 : a ≠ 0 → In53 (N a).sr ∧ In53 (N a).si) (s2 : b ≠ 0 → In53 (N b).sr ∧ In53 (N b).si)
    (s3 : In53 (accY N (pull0 (N x)) a).sr ∧ In53 (accY N (pull0 (N x)) a).si) (s4 : In53 (accY N (accY N (pull0 (N x)) a) b).sr ∧ In53 (accY N (accY N (pull0 (N x)) a) b).si) :
    Calls Try.prog 44 #[.pointer (some ⟨r.R, 0, none⟩), .int .i64 (x : Int)] w fun e w' => e = .returned (.tuple #[]) ∧ Aft r w w' (stN N x (accY N (accY N (pull0 (N x)) a) b)) := by
  apply f_linkcut_Forest_pull.ok
  unfold f_linkcut_Forest_pull.wp
  refine lc_at (K := fun a2 => ldI w ((a2.add _).add 4) .i64 _) h hx rfl ?_
  rw [add_add _ 4 1, add_add _ 4 2, add_add _ 4 3]
  refine lc_ld h hx rfl 4 (by omega) rfl (lc_ld h hx rfl 5 (by omega) rfl (lc_ld h hx rfl 6 (by omega) rfl (lc_ld h hx rfl 7 (by omega) rfl ?_)))
  refine lc_stmx h hx rfl (N x).o fun w1 l1 k1 => ?_
  rw [add_add _ 8 4]
  have fin : ∀ w3, Lp w3 r (stN N x (pull0 (N x))) → Keeps (fun k => k = r.g) w w3 → f_linkcut_Forest_pull.j0 ⟨r.R, 0, none⟩ ((⟨r.g, 0, none⟩ : Addr).add ((x : Int).toNat * 13)) w3 (fun (w52 : World) => ∀ _ : Fr, (fun (e : Ending) w' => e = .returned (.tuple #[]) ∧ Aft r w w' (stN N x (accY N (accY N (pull0 (N x)) a) b))) (.returned (.tuple #[])) w52) := by
    intro w3 l3 k3
    unfold f_linkcut_Forest_pull.j0
    refine lc_ld0 l3 hx rfl (lc_ld l3 hx rfl 1 (by omega) rfl ⟨3, ?_⟩)
    have e0 : (stN N x (pull0 (N x)) x).c0 = a := by rw [stN_same]; exact h0
    have e1 : (stN N x (pull0 (N x)) x).c1 = b := by rw [stN_same]; exact h1
    rw [e0, e1]
    have ac : ∀ (M' : Nat → Nd) (d : Nd) (y : Nat), y ≠ x → M' = stN N x d → ∀ d', accY M' d' y = accY N d' y := by
      intro M' d y hy hM d'
      unfold accY; rw [hM, stN_ne _ _ hy]
    refine pull_it (i := 0) (i' := 1) l3 hx ha hax (by rw [stN_same]; exact s0) (fun h0 => by rw [stN_ne _ _ hax]; exact s1 h0) (by rw [stN_same, ac _ _ _ hax rfl]; exact s3) (by omega) (by omega) rfl wr01 fun w4 l4 => ?_
    rw [stN_stN, stN_same, ac _ _ _ hax rfl] at l4
    refine pull_it (i := 1) (i' := 2) l4.1 hx hb hbx (by rw [stN_same]; exact s3) (fun h0 => by rw [stN_ne _ _ hbx]; exact s2 h0) (by rw [stN_same, ac _ _ _ hbx rfl]; exact s4) (by omega) (by omega) rfl wr12 fun w5 l5 => ?_
    rw [stN_stN, stN_same, ac _ _ _ hbx rfl] at l5
    unfold f_linkcut_Forest_pull.l1
    refine sel_f (by simp) ?_
    exact fun _ _ => And.intro rfl (And.intro l5.1 (k3.trans (l4.2.trans l5.2)))
  refine lc_st l1 hx rfl 12 (by omega) { N x with mx := (N x).o, sr := 0, si := 0 } ?_ fun w2 l2 k2 => ?_
  · rw [stN_same]; exact fld_cases ⟨rfl, rfl, rfl, rfl, rfl, rfl, rfl, rfl, rfl, rfl, rfl, rfl, by simp [fld, fb_zero]⟩
  rw [stN_stN] at l2
  refine lc_ld l2 hx rfl 4 (by omega) (y := (N x).o.id) (by rw [stN_same]; rfl) ?_
  by_cases i0 : 0 < (N x).o.id
  · refine sel_t (by simpa using i0) ?_
    refine lc_ld l2 hx rfl 7 (by omega) (y := (N x).o.w) (by rw [stN_same]; rfl) ?_
    refine runs_of (run_convert_int_float _ _ _ .i64 .f64 _ (by rfl) (by rfl)) ⟨_, rfl, ?_⟩
    have f1 : fb 1 = 4607182418800017408 := by decide
    refine lc_st l2 hx rfl 12 (by omega) (pull0 (N x)) ?_ fun w3 l3 k3 => fin w3 ?_ ((k1.trans k2).trans k3)
    · rw [stN_same, ← f1]
      refine fld_cases ⟨rfl, rfl, rfl, rfl, rfl, rfl, rfl, rfl, rfl, rfl, rfl, rfl, ?_⟩
      simp [fld, pull0, i0]; rfl
    · rw [stN_stN] at l3; exact l3
  · refine sel_f (by simpa using i0) (fin w2 ?_ (k1.trans k2))
    have : pull0 (N x) = { N x with mx := (N x).o, sr := 0, si := 0 } := by simp [pull0, i0]
    rw [this]; exact l2

/-- pull, told of sums -/
theorem pull_ok {own : Nat → E} {S : Nat → Prop} {w : World} {r : LC} {N : Nat → Nd} (h : Lp w r N) (hoo : OwnOk own) (hsm : Sm own S) (hno : ∀ x, (N x).o = own x) {x : Nat} {A B : List Nat} {a b : Nat} (hx : x < r.n) (ha : a < r.n) (hb : b < r.n) (h0 : (N x).c0 = a) (h1 : (N x).c1 = b)
    (hA : (a = 0 ∧ A = []) ∨ (a ≠ 0 ∧ a ∈ A ∧ Ag own A (N a))) (hB : (b = 0 ∧ B = []) ∨ (b ≠ 0 ∧ b ∈ B ∧ Ag own B (N b))) (h0x : x ≠ 0) (hnd : (A ++ x :: B).Nodup) (hS : ∀ y ∈ A ++ x :: B, S y) :
    Calls Try.prog 44 #[.pointer (some ⟨r.R, 0, none⟩), .int .i64 (x : Int)] w fun e w' => e = .returned (.tuple #[]) ∧ ∃ d, Same (N x) d ∧ Ag own (A ++ x :: B) d ∧ Aft r w w' (stN N x d) := by
  have nd := hnd
  simp only [List.nodup_append, List.nodup_cons, List.mem_cons] at nd
  obtain ⟨n1, ⟨n2, n3⟩, n4⟩ := nd
  have hax : a ≠ x := by
    rcases hA with ⟨rfl, _⟩ | ⟨_, hm, _⟩
    · exact fun e => h0x e.symm
    · exact n4 a hm x (.inl rfl)
  have hbx : b ≠ x := by
    rcases hB with ⟨rfl, _⟩ | ⟨_, hm, _⟩
    · exact fun e => h0x e.symm
    · exact fun e => n2 (e ▸ hm)
  have p0 : Ag own [x] (pull0 (N x)) := by
    have e : (N x).o = own x := hno x
    refine ⟨?_, ?_, ?_⟩
    · show IsMx own [x] (N x).o
      rw [e]; exact IsMx.one hoo x
    · show (if 0 < (N x).o.id then (N x).o.w else 0) = _
      rw [e]
      rcases hoo x with h | h
      · rw [h]; simp [zE, wOf, h]
      · rw [if_pos h]; simp [wOf]
    · show (if 0 < (N x).o.id then 1 else 0) = _
      rw [e]; simp [kOf, k1]
  have step : ∀ {l A : List Nat} {d : Nd} {a : Nat}, Ag own l d → ((a = 0 ∧ A = []) ∨ (a ≠ 0 ∧ a ∈ A ∧ Ag own A (N a))) → Ag own (l ++ A) (accY N d a) := by
    intro l A d a hd hA
    unfold accY
    rcases hA with ⟨rfl, rfl⟩ | ⟨h0, _, hA⟩
    · rw [if_pos rfl, List.append_nil]; exact hd
    · rw [if_neg h0]
      exact ⟨hd.mx.app hA.mx, by rw [wOf_append, ← hd.sr, ← hA.sr]; rfl, by rw [kOf_append, ← hd.si, ← hA.si]; rfl⟩
  have p1 := step p0 hA
  have p2 := step p1 hB
  have pp : ([x] ++ A ++ B).Perm (A ++ x :: B) := by
    simp only [List.cons_append, List.nil_append]
    exact List.perm_middle.symm
  have sm : ∀ {l : List Nat} {d : Nd}, Ag own l d → l.Nodup → (∀ y ∈ l, y ∈ A ++ x :: B) → In53 d.sr ∧ In53 d.si := by
    intro l d hd hn hm
    rw [hd.sr, hd.si]; exact hsm l hn fun y hy => hS y (hm y hy)
  have nd2 : ([x] ++ A ++ B).Nodup := pp.symm.nodup_iff.1 hnd
  refine (pull_run h hx ha hb h0 h1 hax hbx (by rw [hno]; exact hoo x) (sm p0 (by simp) (by simp)) (fun h0 => ?_) (fun h0 => ?_) (sm p1 (List.nodup_append.1 nd2).1 (fun y hy => pp.mem_iff.1 (List.mem_append_left _ hy))) (sm p2 nd2 fun y hy => pp.mem_iff.1 hy)).mono ?_
  · rcases hA with ⟨h, _⟩ | ⟨_, _, hA⟩
    · exact absurd h h0
    · exact sm hA n1 fun y hy => List.mem_append_left _ hy
  · rcases hB with ⟨h, _⟩ | ⟨_, _, hB⟩
    · exact absurd h h0
    · exact sm hB n3 fun y hy => by simp [hy]
  · rintro e w' ⟨rfl, hl⟩
    refine ⟨rfl, _, ?_, p2.perm pp, hl⟩
    exact ((Same.pull0 _).trans (Same.accY _ _ _)).trans (Same.accY _ _ _)

/-! ### side, hang -/
theorem side_ok {w : World} {r : LC} {N : Nat → Nd} (h : Lp w r N) {x : Nat} (hx : x < r.n) (hu : (N x).up < r.n) :
    Calls Try.prog 48 #[.pointer (some ⟨r.R, 0, none⟩), .int .i64 (x : Int)] w fun e w' => e = .returned (.int .i64 (sideN N x)) ∧ w' = w := by
  apply f_linkcut_Forest_side.ok
  unfold f_linkcut_Forest_side.wp
  refine lc_at (K := fun a2 => ldI w ((a2.add _).add 2) .i64 _) h hx rfl (lc_ld h hx rfl 2 (by omega) rfl ?_)
  unfold sideN
  by_cases h0 : 0 < (N x).up
  · refine sel_t (by simpa using h0) ?_
    refine lc_at (K := fun a5 => ldI w ((a5.add _).add ((0 : Int).toNat * 1)) .i64 _) h hu rfl ?_
    show ldI w ((⟨r.g, 0, none⟩ : Addr).add (((N x).up : Int).toNat * 13)) .i64 _
    refine lc_ld0 h hu rfl ?_
    by_cases h1 : (N (N x).up).c0 = x
    · refine sel_t (by simp [h1]) ⟨?_, rfl⟩
      rw [if_pos ⟨h0, h1⟩]
    · refine sel_f (by simp; omega) (sel_t (by simpa using h0) ?_)
      refine lc_at (K := fun a8 => ldI w ((a8.add _).add ((1 : Int).toNat * 1)) .i64 _) h hu rfl (lc_ld h hu rfl 1 (by omega) rfl ?_)
      by_cases h2 : (N (N x).up).c1 = x
      · refine sel_t (by simp [h2]) ⟨?_, rfl⟩
        rw [if_neg (fun h => h1 h.2), if_pos ⟨h0, h2⟩]
      · refine sel_f (by simp; omega) ⟨?_, rfl⟩
        rw [if_neg (fun h => h1 h.2), if_neg (fun h => h2 h.2)]
  · refine sel_f (by simpa using h0) (sel_f (by simpa using h0) ⟨?_, rfl⟩)
    rw [if_neg (fun h => h0 h.1), if_neg (fun h => h0 h.1)]
/-- a child's cell written -/
theorem lc_stc {w : World} {r : LC} {N : Nat → Nd} (h : Lp w r N) {i : Nat} (hi : i < r.n) {x : Int} (hx : x = (i : Int)) (s : Bool) {j : Nat} (hj : j = s.toNat) (v : Nat) {K : World → Prop} (hk : ∀ w', Lp w' r (stN N i (setc s (N i) v)) → Keeps (fun k => k = r.g) w w' → K w') : stW w (((⟨r.g, 0, none⟩ : Addr).add (x.toNat * 13)).add j) (.int .i64 (v : Int)) K := by
  subst hj
  cases s
  · exact lc_st h hi hx 0 (by omega) _ (set_c0 _ _) hk
  · exact lc_st h hi hx 1 (by omega) _ (set_c1 _ _) hk
theorem lc_ldc {w : World} {r : LC} {N : Nat → Nd} (h : Lp w r N) {i : Nat} (hi : i < r.n) {x : Int} (hx : x = (i : Int)) (s : Bool) {j : Nat} (hj : j = s.toNat) {K : Int → Prop} (hk : K (getc s (N i) : Int)) : ldI w (((⟨r.g, 0, none⟩ : Addr).add (x.toNat * 13)).add j) .i64 K := by
  subst hj
  cases s
  · exact lc_ld h hi hx 0 (by omega) rfl hk
  · exact lc_ld h hi hx 1 (by omega) rfl hk
theorem sI_toNat (s : Bool) : (sI s).toNat * 1 = s.toNat := by cases s <;> rfl
theorem sI_ok (s : Bool) : decide (0 ≤ sI s ∧ sI s < ((2 : Nat) : Int)) = true := by cases s <;> decide
theorem hang_ok {w : World} {r : LC} {N : Nat → Nd} (h : Lp w r N) {x c : Nat} (hx : x < r.n) (hc : c < r.n) (s : Bool) :
    Calls Try.prog 52 #[.pointer (some ⟨r.R, 0, none⟩), .int .i64 (x : Int), .int .i64 (c : Int), .int .i64 (sI s)] w fun e w' => e = .returned (.tuple #[]) ∧ Aft r w w' (hangN N x c s) := by
  apply f_linkcut_Forest_hang.ok
  unfold f_linkcut_Forest_hang.wp
  refine lc_at (K := fun a2 => req _ (stW w ((a2.add _).add _) _ _)) h hx rfl (req_intro (sI_ok s) ?_)
  refine lc_stc h hx rfl s (sI_toNat s) c fun w1 l1 k1 => ?_
  unfold hangN
  by_cases c0 : c = 0
  · rw [if_pos c0]
    exact sel_f (by simp [c0]) ⟨rfl, l1, k1⟩
  · rw [if_neg c0]
    refine sel_t (by simp; omega) ?_
    refine lc_at (K := fun a5 => stW w1 ((a5.add _).add 2) _ _) l1 hc rfl ?_
    exact lc_st l1 hc rfl 2 (by omega) _ (set_up _ _) fun w2 l2 k2 => ⟨rfl, l2, k1.trans k2⟩
/-! ### push -/
theorem push_it {w : World} {r : LC} {N : Nat → Nd} (h : Lp w r N) {y : Nat} (hy : y < r.n) {x0 x1 i i' : Int} (hi : i < 2) (h0i : 0 ≤ i) (hc : (#[.int .i64 x0, .int .i64 x1] : Array Value)[i.toNat]? = some (.int .i64 (y : Int))) (hi' : IntKind.i64.wrap (i + 1) = i') {k : Nat} {K0 : World → Prop}
    (hk : ∀ w', Aft r w w' (togN N y) → f_linkcut_Forest_push.l0 k ⟨r.R, 0, none⟩ x0 x1 i' w' K0) : f_linkcut_Forest_push.l0 (k + 1) ⟨r.R, 0, none⟩ x0 x1 i w K0 := by
  unfold f_linkcut_Forest_push.l0
  refine sel_t (by simpa using hi) (req_intro (by simp; omega) (optB_some hc (req_intro (by simp) ?_)))
  rw [hi']
  by_cases y0 : y = 0
  · exact sel_f (by simp [y0]) (hk w ⟨by simp [togN, y0]; exact h, Keeps.refl _ _⟩)
  · refine sel_t (by simp; omega) (drW_intro ?_)
    have hd := h.drew
    refine ldS_intro hd.sl0 ?_
    refine lc_at (K := fun a18 => ldB w.drew ((a18.add _).add 3) _) hd hy rfl ⟨_, hd.cell hy rfl (j := 3) (by omega), ?_⟩
    refine optB_some rfl (req_intro (by simp; omega) ?_)
    refine lc_st hd hy rfl 3 (by omega) _ (set_tn _ _) fun w2 l2 k2 => hk w2 ⟨?_, (Keeps.refl _ _).drew.trans k2⟩
    unfold togN; rw [if_neg y0]; exact l2
theorem push_ok {w : World} {r : LC} {N : Nat → Nd} (h : Lp w r N) {x : Nat} (hx : x < r.n) (h0 : (N x).c0 < r.n) (h1 : (N x).c1 < r.n) :
    Calls Try.prog 42 #[.pointer (some ⟨r.R, 0, none⟩), .int .i64 (x : Int)] w fun e w' => e = .returned (.tuple #[]) ∧ Aft r w w' (pushN N x) := by
  apply f_linkcut_Forest_push.ok
  unfold f_linkcut_Forest_push.wp
  refine lc_at (K := fun a2 => ldB w ((a2.add _).add 3) _) h hx rfl ⟨_, h.cell hx rfl (j := 3) (by omega), ?_⟩
  unfold pushN
  by_cases ht : (N x).tn
  · rw [if_pos ht]
    refine sel_f (by simp [ht]) ?_
    refine lc_st h hx rfl 3 (by omega) _ (set_tn _ _) fun w1 l1 k1 => drW_intro ?_
    have l1 := l1.drew
    generalize hd : ({ N x with tn := false } : Nd) = d at l1
    have d0 : d.c0 = (N x).c0 := by rw [← hd]
    have d1 : d.c1 = (N x).c1 := by rw [← hd]
    refine lc_ld l1 hx rfl 1 (by omega) (y := ((N x).c1 : Int)) (by rw [stN_same, ← d1]; rfl) ?_
    show ldI w1.drew ((⟨r.g, 0, none⟩ : Addr).add ((x : Int).toNat * 13)) .i64 _
    refine lc_ld0 l1 hx rfl ?_
    rw [stN_same, d0]
    show stW w1.drew (((⟨r.g, 0, none⟩ : Addr).add ((x : Int).toNat * 13)).add 0) _ _
    refine lc_stc l1 hx rfl false rfl (N x).c1 fun w2 l2 k2 => ?_
    refine lc_stc l2 hx rfl true rfl (N x).c0 fun w3 l3 k3 => ?_
    rw [stN_same, stN_stN, stN_stN, stN_same] at l3
    have ed : setc true (setc false d (N x).c1) (N x).c0 = { N x with tn := false, c0 := (N x).c1, c1 := (N x).c0 } := by rw [← hd]; rfl
    rw [ed] at l3
    refine lc_ld0 l3 hx rfl (lc_ld l3 hx rfl 1 (by omega) rfl ⟨3, ?_⟩)
    rw [stN_same]
    refine push_it (i := 0) (i' := 1) (y := (N x).c1) l3 h1 (by omega) (by omega) rfl wr01 fun w4 l4 => ?_
    refine push_it (i := 1) (i' := 2) (y := (N x).c0) l4.1 h0 (by omega) (by omega) rfl wr12 fun w5 l5 => ?_
    unfold f_linkcut_Forest_push.l0
    refine sel_f (by simp) ?_
    exact fun _ => And.intro rfl (And.intro l5.1 (((k1.drew.trans k2).trans k3).trans (l4.2.trans l5.2)))
  · rw [if_neg ht]
    exact sel_t (by simp [ht]) ⟨rfl, h, Keeps.refl _ _⟩
end Go.Proofs.Ytfknppccgojhdaa.Rd
